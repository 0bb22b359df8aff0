/- PageLines: a drawing's text as lines; the plain data turned to int16's; parts of a drawing of one's own in each other's place. -/
import Derived.Test.YtkpgjgmlhcipeaaDoorPpA
import Derived.IntWalk
namespace Go.Proofs.YtkpgjgmlhcipeaaDoor
open Go.RowKit
def aft (c : UInt8) : List (List UInt8) → List (List UInt8)
  | [] => []
  | [a] => [a]
  | a :: b :: t => (a ++ [c]) :: aft c (b :: t)
theorem aft_snoc (c : UInt8) (z : List UInt8) : ∀ L : List (List UInt8), aft c (L ++ [z]) = L.map (· ++ [c]) ++ [z]
  | [] => rfl
  | [a] => rfl
  | a :: b :: t => by
    have := aft_snoc c z (b :: t)
    simp only [List.cons_append, aft, List.map_cons] at this ⊢
    rw [this]
/-- strings.SplitAfter at one byte. -/
theorem splitA_cut (c : UInt8) : ∀ (n : Nat) (s : ByteArray), s.size ≤ n → (Lib.splitB ⟨#[c]⟩ 1 (Lib.countB s ⟨#[c]⟩) s).map (·.data.toList) = aft c (cut c s.data.toList)
  | n, s, hn => by
    have h1 : Lib.indexB s ⟨#[c]⟩ = Lib.indexByte s.data.toList c := Lib.index_one s.data.toList c
    rcases Lib.indexB_cases s ⟨#[c]⟩ with h | ⟨i, h, hi⟩
    · rw [Lib.splitB_miss _ _ _ _ h]
      rw [cut_none (Lib.indexByte_none (h1 ▸ h))]
      rfl
    · have hs1 : (⟨#[c]⟩ : ByteArray).size = 1 := rfl
      obtain ⟨h2, h3⟩ := Lib.indexByte_some (h1 ▸ h)
      have hsz : s.size = s.data.toList.length := Lib.size_eq s
      cases n with
      | zero => rw [hs1] at hi; omega
      | succ n =>
        rw [Lib.countB_hit s ⟨#[c]⟩ i (by rw [hs1]; omega) h, Nat.add_comm 1, Lib.splitB_hit _ _ _ _ i h, List.map_cons, hs1]
        have ih := splitA_cut c n (s.extract (i + 1) s.size) (by rw [ByteArray.size_extract]; omega)
        rw [ih, cut_at h2 h3, Lib.extract_from_zero, Lib.extract_to_end]
        obtain ⟨hl, he⟩ := List.getElem?_eq_some_iff.1 h2
        have e : s.data.toList.take (i + 1) = s.data.toList.take i ++ [c] := by rw [List.take_succ_eq_append_getElem hl, he]
        rw [e]
        cases hr : cut c (s.data.toList.drop (i + 1)) with
        | nil => exact absurd hr (cut_ne c _)
        | cons a t => rfl
theorem splitA_cutB (c : UInt8) (s : ByteArray) : Lib.splitB ⟨#[c]⟩ 1 (Lib.countB s ⟨#[c]⟩) s = (aft c (cut c s.data.toList)).map toB := by
  rw [← splitA_cut c s.size s (Nat.le_refl _), List.map_map]
  conv => lhs; rw [← List.map_id (Lib.splitB ⟨#[c]⟩ 1 (Lib.countB s ⟨#[c]⟩) s)]
  refine List.map_congr_left (fun x _ => ?_)
  exact (toB_data x).symm
theorem join_empty : ∀ L : List (List UInt8), Lib.join L [] = L.flatten
  | [] => rfl
  | x :: r => by
    rw [Lib.join_cons]
    unfold Lib.joinTail
    simp
def nlB (p : ByteArray) : ByteArray := toB (p.data.toList ++ [10])
def linesB (D : Dr) : List ByteArray := nlB bDrawing :: (D.1.map (fun b => nlB (lnB (bxLn b))) ++ (D.2.map (fun r => nlB (lnB (rtLn r))) ++ [bEnd]))
theorem linesB_len (D : Dr) : (linesB D).length = D.1.length + D.2.length + 2 := by
  unfold linesB; simp; omega
theorem linesB_eq (D : Dr) : linesB D = (bDrawing :: (lnsP D).map lnB).map nlB ++ [bEnd] := by
  unfold linesB lnsP
  simp
  rfl
theorem text_suf (D : Dr) : Lib.hasSuffix (textP D) [10] = true := by
  obtain ⟨X, e⟩ : ∃ X, textP D = X ++ [10] := ⟨bDrawing.data.toList ++ [10] ++ (lnsP D).flatMap lineB ++ bEnd.data.toList, by unfold textP; simp⟩
  rw [e]
  exact suf_of (by simp) (by simp)
theorem cut_text {D : Dr} (ho : (lnsP D).all okL = true) : cut 10 (textP D).dropLast = (txL D).map (·.data.toList) := by
  rw [text_put]
  unfold putL
  rw [show ((txL D).flatMap fun p => p.data.toList ++ [10]) = ((txL D).map (·.data.toList)).flatMap fun p => p ++ [10] by rw [List.flatMap_map]]
  refine cut_lines _ (by simp [txL]) (fun p hp => ?_)
  obtain ⟨q, hq, rfl⟩ := List.mem_map.1 hp
  unfold txL at hq
  rcases List.mem_cons.1 hq with rfl | hq
  · decide
  · rcases List.mem_append.1 hq with hq | hq
    · obtain ⟨x, hx, rfl⟩ := List.mem_map.1 hq
      exact ln_free (right_lns hx) (List.all_eq_true.1 ho x hx)
    · obtain rfl : q = bEnd := by simpa using hq
      decide
theorem lines_text {D : Dr} (ho : (lnsP D).all okL = true) : (aft 10 (cut 10 (textP D).dropLast)).map toB = linesB D := by
  rw [cut_text ho, linesB_eq]
  unfold txL
  have e : (bDrawing :: ((lnsP D).map lnB ++ [bEnd])).map (·.data.toList) = (bDrawing :: (lnsP D).map lnB).map (·.data.toList) ++ [bEnd.data.toList] := by simp
  rw [e, aft_snoc, List.map_append, List.map_map, List.map_map]
  congr 1
theorem join_lines (L : List ByteArray) : Lib.join ((L.map nlB).map (·.data.toList)) [] = putL L := by
  rw [join_empty]
  unfold putL nlB
  rw [List.map_map, List.flatMap_def]
  congr 1
theorem join_all (D : Dr) : Lib.join ((linesB D).map (·.data.toList)) [] ++ [10] = textP D := by
  rw [linesB_eq, List.map_append, text_put, join_empty, List.flatten_append, ← join_empty, join_lines]
  unfold txL putL
  simp
theorem join_part (D : Dr) : Lib.join (((linesB D).take (D.1.length + D.2.length + 1)).map (·.data.toList)) [] = putL (bDrawing :: (lnsP D).map lnB) := by
  have e : (linesB D).take (D.1.length + D.2.length + 1) = (bDrawing :: (lnsP D).map lnB).map nlB := by
    rw [linesB_eq]
    refine List.take_left' ?_
    unfold lnsP
    simp
  rw [e, join_lines]
/-- The text's lines and some more. -/
theorem parse_lines {D : Dr} (hm : manyD D = false) (ho : (lnsP D).all okL = true) (R : List ByteArray) (hR : ∀ p ∈ R, (10 : UInt8) ∉ p.data.toList) (hs : (putL (bDrawing :: ((lnsP D).map lnB ++ R))).length ≤ 1048576) :
    parseP (putL (bDrawing :: ((lnsP D).map lnB ++ R))) = goP D (D.1.length + D.2.length) R := by
  obtain ⟨m1, m2, m3⟩ := manyD_iff.1 hm
  obtain ⟨h1, h2⟩ := ln_of (L := bDrawing :: ((lnsP D).map lnB ++ R)) (by simp) (fun p hp => by
    rcases List.mem_cons.1 hp with rfl | hp
    · decide
    · rcases List.mem_append.1 hp with hp | hp
      · obtain ⟨x, hx, rfl⟩ := List.mem_map.1 hp
        exact ln_free (right_lns hx) (List.all_eq_true.1 ho x hx)
      · exact hR p hp) hs
  unfold parseP
  rw [if_pos h1, h2]
  simp only [if_true]
  have hsp : (lnsP D).all okL = true := ho
  unfold lnsP at hsp ⊢
  rw [List.all_append, Bool.and_eq_true] at hsp
  rw [List.map_append, List.map_map, List.map_map, List.append_assoc]
  have e1 := goP_bx D.1 [] 0 (D.2.map (lnB ∘ rtLn) ++ R) hsp.1 (by simpa using m1)
  have e2 := goP_rt D.2 D.1 [] (0 + D.1.length) R hsp.2 m1 (by simpa using m2) (by simpa [totP] using m3)
  refine e1.trans ?_
  rw [List.nil_append]
  refine e2.trans ?_
  rw [List.nil_append, Nat.zero_add]
def bP00 : ByteArray := ⟨#[112, 111, 105, 110, 116, 32, 48, 32, 48]⟩
theorem parse_short {D : Dr} (hm : manyD D = false) (ho : (lnsP D).all okL = true) (hs : (textP D).length ≤ 4000) :
    parseP (putL (bDrawing :: (lnsP D).map lnB)) = (([], []), ((D.1.length + D.2.length + 2 : Nat) : Int), 4) := by
  have h := parse_lines hm ho [] (by simp) (by
    rw [text_put] at hs
    unfold txL putL at hs
    unfold putL
    simp at hs ⊢
    omega)
  rw [List.append_nil] at h
  rw [h]
  unfold goP
  simp
theorem parse_more {D : Dr} (hm : manyD D = false) (ho : (lnsP D).all okL = true) (hs : (textP D).length ≤ 4000) :
    parseP (textP D ++ [112, 111, 105, 110, 116, 32, 48, 32, 48, 10]) = (([], []), ((D.1.length + D.2.length + 3 : Nat) : Int), 4) := by
  have e : textP D ++ [112, 111, 105, 110, 116, 32, 48, 32, 48, 10] = putL (bDrawing :: ((lnsP D).map lnB ++ [bEnd, bP00])) := by
    rw [text_put]
    unfold txL putL bP00
    simp
  have h := parse_lines hm ho [bEnd, bP00] (by
    intro p hp
    simp at hp
    rcases hp with rfl | rfl <;> decide) (by
    rw [← e]
    simp
    omega)
  rw [e, h]
  unfold goP
  simp
/-- All numbers of a drawing. -/
def AllD (P : Int → Prop) (D : Dr) : Prop := (∀ b ∈ D.1, P b.1.1 ∧ P b.1.2 ∧ P b.2.1 ∧ P b.2.2) ∧ ∀ r ∈ D.2, P r.1.1 ∧ P r.1.2 ∧ ∀ p ∈ r.2, P p.1 ∧ P p.2
theorem someP_all {P : Int → Prop} (z : P 0) {bs : List Q4t} {rs : List (List Int)} (hb : ∀ q ∈ bs, P q.1 ∧ P q.2.1 ∧ P q.2.2.1 ∧ P q.2.2.2) (hr : ∀ r ∈ rs, ∀ n ∈ r, P n) : AllD P (someP bs rs) := by
  have gd : ∀ (r : List Int) (i : Nat), (∀ n ∈ r, P n) → P (r[i]?.getD 0) := by
    intro r i h
    cases e : r[i]? with
    | none => exact z
    | some n => exact h n (List.mem_of_getElem? e)
  refine ⟨fun b h => ?_, fun r h => ?_⟩
  · obtain ⟨q, hq, rfl⟩ := List.mem_map.1 h
    exact hb q (List.mem_of_mem_take hq)
  · obtain ⟨q, hq, rfl⟩ := List.mem_map.1 h
    have h1 := hr q (List.mem_of_mem_take hq)
    refine ⟨gd q 0 h1, gd q 1 h1, fun p hp => ?_⟩
    obtain ⟨k1, k2⟩ := pairs_mem _ p hp
    exact ⟨h1 _ (List.mem_of_mem_take (List.mem_of_mem_drop k1)), h1 _ (List.mem_of_mem_take (List.mem_of_mem_drop k2))⟩
theorem AllD.lns {P : Int → Prop} {D : Dr} (h : AllD P D) : ∀ x ∈ lnsP D, ∀ n ∈ x.2, P n := by
  intro x hx n hn
  unfold lnsP at hx
  rcases List.mem_append.1 hx with hx | hx
  · obtain ⟨b, hb, rfl⟩ := List.mem_map.1 hx
    obtain ⟨n1, n2, n3, n4⟩ := h.1 b hb
    unfold bxLn at hn
    split at hn
    · simp [ptL] at hn
      rcases hn with rfl | rfl <;> assumption
    · simp [ptL] at hn
      rcases hn with rfl | rfl | rfl | rfl <;> assumption
  · obtain ⟨r, hr, rfl⟩ := List.mem_map.1 hx
    obtain ⟨n1, n2, n3⟩ := h.2 r hr
    unfold rtLn at hn
    rcases List.mem_append.1 hn with hn | hn
    · simp at hn
      rcases hn with rfl | rfl <;> assumption
    · obtain ⟨p, hp, hn⟩ := List.mem_flatMap.1 hn
      have h3 := n3 p hp
      simp [ptL] at hn
      rcases hn with rfl | rfl
      · exact h3.1
      · exact h3.2
def U8 (n : Int) : Prop := 0 ≤ n ∧ n ≤ 255
theorem AllD.okL {D : Dr} (h : AllD U8 D) : (lnsP D).all okL = true := by
  rw [List.all_eq_true]
  intro x hx
  unfold Go.Proofs.YtkpgjgmlhcipeaaDoor.okL
  rw [List.all_eq_true]
  intro n hn
  obtain ⟨h1, h2⟩ := h.lns x hx n hn
  unfold okN
  simp only [Bool.and_eq_true, decide_eq_true_eq]
  omega
theorem AllD.smal {D : Dr} (h : AllD U8 D) (h1 : D.1.length ≤ 8) (h2 : D.2.length ≤ 8) (h3 : ∀ r ∈ D.2, r.2.length ≤ 9) : Smal D := by
  have b : ∀ n, U8 n → Bd n := fun n h => ⟨by have := h.1; omega, by have := h.2; omega⟩
  refine ⟨h1, h2, h3, fun x hx => ?_, fun x hx => ?_⟩
  · obtain ⟨a1, a2, a3, a4⟩ := h.1 x hx
    exact ⟨b _ a1, b _ a2, b _ a3, b _ a4⟩
  · obtain ⟨a1, a2, a3⟩ := h.2 x hx
    exact ⟨b _ a1, b _ a2, fun p hp => ⟨b _ (a3 p hp).1, b _ (a3 p hp).2⟩⟩
/-- Two of a list in each other's place. -/
def sw {α : Type} (L : List α) (i k : Nat) (a b : α) : List α := (L.set i b).set k a
theorem sw_mem {α : Type} {L : List α} {i k : Nat} {a b : α} (ha : L[i]? = some a) (hb : L[k]? = some b) : ∀ x ∈ sw L i k a b, x ∈ L := by
  intro x hx
  rcases List.mem_or_eq_of_mem_set hx with hx | rfl
  · rcases List.mem_or_eq_of_mem_set hx with hx | rfl
    · exact hx
    · exact List.mem_of_getElem? hb
  · exact List.mem_of_getElem? ha
theorem sw_len {α : Type} {L : List α} {i k : Nat} {a b : α} : (sw L i k a b).length = L.length := by unfold sw; simp
theorem sw_map {α β : Type} (f : α → β) (L : List α) (i k : Nat) (a b : α) : sw (L.map f) i k (f a) (f b) = (sw L i k a b).map f := by
  unfold sw
  rw [List.map_set, List.map_set]
theorem sw_left {α : Type} (L R : List α) {i k : Nat} (a b : α) (hi : i < L.length) (hk : k < L.length) : sw (L ++ R) i k a b = sw L i k a b ++ R := by
  unfold sw
  rw [List.set_append_left _ _ hi, List.set_append_left _ _ (by simpa using hk)]
theorem sw_right {α : Type} (L R : List α) {i k : Nat} (a b : α) : sw (L ++ R) (L.length + i) (L.length + k) a b = L ++ sw R i k a b := by
  unfold sw
  rw [List.set_append_right _ _ (by omega), List.set_append_right _ _ (by omega), Nat.add_sub_cancel_left, Nat.add_sub_cancel_left]
theorem sw_cons {α : Type} (x : α) (L : List α) {i k : Nat} (a b : α) : sw (x :: L) (1 + i) (1 + k) a b = x :: sw L i k a b := by
  unfold sw
  rw [Nat.add_comm 1 i, Nat.add_comm 1 k, List.set_cons_succ, List.set_cons_succ]
theorem lines_bx {D : Dr} {i k : Nat} {a b : Bx} (ha : D.1[i]? = some a) (hb : D.1[k]? = some b) :
    (linesB D)[1 + i]? = some (nlB (lnB (bxLn a))) ∧ (linesB D)[1 + k]? = some (nlB (lnB (bxLn b))) ∧ sw (linesB D) (1 + i) (1 + k) (nlB (lnB (bxLn a))) (nlB (lnB (bxLn b))) = linesB (sw D.1 i k a b, D.2) := by
  have hi := (List.getElem?_eq_some_iff.1 ha).1
  have hk := (List.getElem?_eq_some_iff.1 hb).1
  refine ⟨?_, ?_, ?_⟩
  · unfold linesB
    rw [Nat.add_comm, List.getElem?_cons_succ, List.getElem?_append_left (by simpa using hi), List.getElem?_map, ha]
    rfl
  · unfold linesB
    rw [Nat.add_comm, List.getElem?_cons_succ, List.getElem?_append_left (by simpa using hk), List.getElem?_map, hb]
    rfl
  · unfold linesB
    rw [sw_cons, sw_left _ _ _ _ (by simpa using hi) (by simpa using hk), sw_map (fun b => nlB (lnB (bxLn b)))]
theorem lines_rt {D : Dr} {i k : Nat} {a b : Rt} (ha : D.2[i]? = some a) (hb : D.2[k]? = some b) :
    (linesB D)[1 + D.1.length + i]? = some (nlB (lnB (rtLn a))) ∧ (linesB D)[1 + D.1.length + k]? = some (nlB (lnB (rtLn b))) ∧ sw (linesB D) (1 + D.1.length + i) (1 + D.1.length + k) (nlB (lnB (rtLn a))) (nlB (lnB (rtLn b))) = linesB (D.1, sw D.2 i k a b) := by
  have hi := (List.getElem?_eq_some_iff.1 ha).1
  have hk := (List.getElem?_eq_some_iff.1 hb).1
  have e : ∀ j, 1 + D.1.length + j = (D.1.length + j) + 1 := fun j => by omega
  have e2 : ∀ j, 1 + D.1.length + j = 1 + ((D.1.map (fun b => nlB (lnB (bxLn b)))).length + j) := fun j => by rw [List.length_map]; omega
  refine ⟨?_, ?_, ?_⟩
  · unfold linesB
    rw [e, List.getElem?_cons_succ, List.getElem?_append_right (by simp), List.length_map, Nat.add_sub_cancel_left, List.getElem?_append_left (by simpa using hi), List.getElem?_map, ha]
    rfl
  · unfold linesB
    rw [e, List.getElem?_cons_succ, List.getElem?_append_right (by simp), List.length_map, Nat.add_sub_cancel_left, List.getElem?_append_left (by simpa using hk), List.getElem?_map, hb]
    rfl
  · unfold linesB
    rw [e2, e2, sw_cons, sw_right, sw_left _ _ _ _ (by simpa using hi) (by simpa using hk), sw_map (fun b => nlB (lnB (rtLn b)))]
def encQ8 (q : Q4t) : List Value := [.int .u8 q.1, .int .u8 q.2.1, .int .u8 q.2.2.1, .int .u8 q.2.2.2]
theorem encQ8_length (q : Q4t) : (encQ8 q).length = 4 := rfl
def encH8 (x : Int) : List Value := [.int .u8 x]
theorem encH8_length (x : Int) : (encH8 x).length = 1 := rfl
/-- Rows of uint8 in a slice. -/
def Rows8 (w : World) (V : Value) (rs : List (List Int)) : Prop := ∃ Vs : List Value, Vs.length = rs.length ∧ Sl 1 encV w V Vs ∧ ∀ (i : Nat) (U : Value) (r : List Int), Vs[i]? = some U → rs[i]? = some r → Sl 1 encH8 w U r ∧ r.length ≤ 1048576
/-- Rows of int16 of one's own. -/
def RowsO (w : World) (base : Nat) (V : Value) (rs : List (List Int)) : Prop := ∃ Vs : List Value, Vs.length = rs.length ∧ w.ownsRow base 69 1 V rs.length Vs ∧ ∀ (i : Nat) (U : Value) (r : List Int), Vs[i]? = some U → rs[i]? = some r → w.ownsRow base 66 1 U r.length (flat encH r)
theorem flat_encV (L : List Value) : flat encV L = L := by
  induction L with
  | nil => rfl
  | cons a t ih => show encV a ++ flat encV t = _; rw [ih]; rfl
theorem RowsO.rows {w : World} {base : Nat} {V : Value} {rs : List (List Int)} (h : RowsO w base V rs) : Rows16 w V rs := by
  obtain ⟨Vs, h1, h2, h3⟩ := h
  refine ⟨Vs, h1, Sl.of_own encV_length (by rw [flat_encV, h1]; exact h2), fun i U r hU hr => Sl.of_own encH_length (h3 i U r hU hr)⟩
theorem RowsO.later {w w' : World} {base : Nat} {V : Value} {rs : List (List Int)} (h : RowsO w base V rs) (B : Below w.heap.size w w') : RowsO w' base V rs := by
  obtain ⟨Vs, h1, h2, h3⟩ := h
  exact ⟨Vs, h1, own_later h2 B, fun i U r hU hr => own_later (h3 i U r hU hr) B⟩
theorem RowsO.nil (w : World) (base : Nat) : RowsO w base (.slice none 0 0) [] := ⟨[], rfl, World.ownsRow_nil _ _ _ _, fun i U r h => by simp at h⟩
theorem RowsO.snoc {w w' : World} {base : Nat} {V V' U : Value} {rs : List (List Int)} {Vs : List Value} {r : List Int} (h1 : Vs.length = rs.length) (h2 : w'.ownsRow base 69 1 V' (rs.length + 1) (Vs ++ [U])) (hV : w.ownsRow base 69 1 V rs.length Vs)
    (h3 : ∀ (i : Nat) (U : Value) (r : List Int), Vs[i]? = some U → rs[i]? = some r → w.ownsRow base 66 1 U r.length (flat encH r)) (h4 : w.ownsRow base 66 1 U r.length (flat encH r)) (hg : w.grownBy w' V.ownBlock) : RowsO w' base V' (rs ++ [r]) := by
  have keep : ∀ (X : Value) (k : Nat) (xs : List Value), w.ownsRow base 66 1 X k xs → w'.ownsRow base 66 1 X k xs := fun X k xs hX => row_other hX hg (fun b e => by
    obtain ⟨cur, hc⟩ := own_typ hV e
    exact ⟨cur, _, hc, by decide⟩)
  refine ⟨Vs ++ [U], by simp [h1], by simpa using h2, fun i X q hX hq => ?_⟩
  by_cases hi : i < Vs.length
  · rw [List.getElem?_append_left hi] at hX
    rw [List.getElem?_append_left (by rw [← h1]; exact hi)] at hq
    exact keep _ _ _ (h3 i X q hX hq)
  · have hl := (List.getElem?_eq_some_iff.1 hX).1
    simp at hl
    have e : i = Vs.length := by omega
    subst e
    rw [List.getElem?_append_right (Nat.le_refl _), Nat.sub_self] at hX
    rw [h1, List.getElem?_append_right (Nat.le_refl _), Nat.sub_self] at hq
    obtain rfl : U = X := by simpa using hX
    obtain rfl : r = q := by simpa using hq
    exact keep _ _ _ h4
theorem info_q16 : (Tryd.prog.info? 67).map (fun i => (i.zero, i.size, i.bytes)) = some (some (.agg #[.int .i16 0, .int .i16 0, .int .i16 0, .int .i16 0]), 4, 8) := by kernel_rfl
theorem info_h16 : (Tryd.prog.info? 66).map (fun i => (i.zero, i.size, i.bytes)) = some (some (.int .i16 0), 1, 2) := by kernel_rfl
theorem info_r16 : (Tryd.prog.info? 69).map (fun i => (i.zero, i.size, i.bytes)) = some (some (.slice none 0 0), 1, 24) := by kernel_rfl
theorem wrapU {n : Int} (h : U8 n) : IntKind.i16.wrap n = n := IntWalk.i16_in n (by obtain ⟨h1, h2⟩ := h; omega)
theorem splitAfter_any {w : World} {m : Int} (s : ByteArray) (hs : s.size < 4294967281) (hm : w.cell? ⟨0, 0, none⟩ = some (.int .i64 m)) {L : List ByteArray} (hL : (aft 10 (cut 10 s.data.toList)).map toB = L) :
    Calls Tryd.prog 34 #[.string s, .string bNl] w fun e w' => e = .returned (.slice (some ⟨w.heap.size, 0, none⟩) L.length L.length) ∧ w' = w.alloc (.cells (L.map Value.string).toArray 9) := by
  obtain ⟨k, hk⟩ : ∃ k, Lib.countB s bNl = k := ⟨_, rfl⟩
  have h1 : 1 ≤ bNl.size := by decide
  have hle := Lib.countB_le bNl h1 s.size s (Nat.le_refl _)
  rw [hk] at hle
  have hlen := Lib.splitB_all bNl h1 1 k s hk
  have hS : Lib.splitB bNl 1 k s = L := by
    rw [← hL, ← hk]
    exact splitA_cutB 10 s
  rw [hS] at hlen
  have HS := Lib.hid hS
  have HL := Lib.hid hlen
  have HM := Lib.hid hm
  have HK := Lib.hid hk
  clear hL hS hlen hm hk
  go_enter Tryd.func34, Tryd.ntmps34
  go_wp2_with fail
  refine (Tryd.strings_genSplit s bNl 1 (-1) (k + 1) m w hs HM.out h1 (by decide) (by omega) (by omega) (by rw [HK.out]; simp; omega)).mono ?_
  rw [Nat.add_sub_cancel, HS.out, ← HL.out, Lib.cellsOf_full]
  rintro e w' ⟨rfl, hw⟩
  have HW := Lib.hid hw
  clear hw
  go_wp2_with fail
  go_ret
  exact ⟨rfl, HW.out⟩
/-- A block is written that holds nothing of a drawing. -/
theorem DrR.other {w w' : World} {base : Nat} {B R : Value} {M : List Mt} {D : Dr} {row : Option Nat} (h : DrR w base B R M D) (hg : w.grownBy w' row) (hr : ∀ b, row = some b → ∃ cs t, w.heap[b]? = some (.cells cs t) ∧ t ≠ 75 ∧ t ≠ 78 ∧ t ≠ 73) : DrR w' base B R M D :=
  ⟨row_other h.bx hg (fun b e => by obtain ⟨cs, t, h1, h2, _, _⟩ := hr b e; exact ⟨cs, t, h1, h2⟩), row_other h.rt hg (fun b e => by obtain ⟨cs, t, h1, _, h2, _⟩ := hr b e; exact ⟨cs, t, h1, h2⟩), h.pc.other hg (fun b e => by obtain ⟨cs, t, h1, _, _, h2⟩ := hr b e; exact ⟨cs, t, h1, h2⟩)⟩
def putB4 (w : World) (g o : Nat) (b : Bx) : World := (((w.setCell ⟨g, o, none⟩ (.int .i64 b.1.1)).setCell ⟨g, o + 1, none⟩ (.int .i64 b.1.2)).setCell ⟨g, o + 2, none⟩ (.int .i64 b.2.1)).setCell ⟨g, o + 3, none⟩ (.int .i64 b.2.2)
theorem DrR.putBox {w : World} {base g k c : Nat} {R : Value} {M : List Mt} {D : Dr} (h : DrR w base (.slice (some ⟨g, 0, none⟩) k c) R M D) (hk : D.1.length = k) (i : Nat) {a : Bx} (ha : D.1[i]? = some a) (b : Bx) :
    DrR (putB4 w g (i * 4) b) base (.slice (some ⟨g, 0, none⟩) k c) R M (D.1.set i b, D.2) := by
  have hl := (List.getElem?_eq_some_iff.1 ha).1
  have st : ∀ (L : List Bx) (x : Bx), L.length = D.1.length → (L.set i x)[i]? = some x := fun L x e => List.getElem?_set_self (by omega)
  have h1 := h.putB (v := .int .i64 b.1.1) hk i ha (r := 0) (b := ((b.1.1, a.1.2), a.2)) (by omega) rfl
  have h2 := h1.putB (v := .int .i64 b.1.2) (by rw [List.length_set]; exact hk) i (st D.1 _ rfl) (r := 1) (b := ((b.1.1, b.1.2), a.2)) (by omega) rfl
  have h3 := h2.putB (v := .int .i64 b.2.1) (by rw [List.length_set, List.length_set]; exact hk) i (st (D.1.set i _) _ (by rw [List.length_set])) (r := 2) (b := ((b.1.1, b.1.2), (b.2.1, a.2.2))) (by omega) rfl
  have h4 := h3.putB (v := .int .i64 b.2.2) (by rw [List.length_set, List.length_set, List.length_set]; exact hk) i (st ((D.1.set i _).set i _) _ (by rw [List.length_set, List.length_set])) (r := 3) (b := b) (by omega) rfl
  rw [List.set_set, List.set_set, List.set_set] at h4
  exact h4
def putR3 (w : World) (g o : Nat) (m : Mt) : World := ((w.setCell ⟨g, o, none⟩ (.int .i64 m.1)).setCell ⟨g, o + 1, none⟩ (.int .i64 m.2.1)).setCell ⟨g, o + 2, none⟩ m.2.2
theorem row_putM {w : World} {base g k c : Nat} {M : List Mt} {r i : Nat} {m m' : Mt} {v : Value} (h : w.ownsRow base 78 3 (.slice (some ⟨g, 0, none⟩) k c) k (flat encM M)) (hm : M[i]? = some m) (hr : r < 3) (hb : encM m' = (encM m).set r v) :
    (w.setCell ⟨g, i * 3 + r, none⟩ v).ownsRow base 78 3 (.slice (some ⟨g, 0, none⟩) k c) k (flat encM (M.set i m')) := by
  have h2 := own_set (i := i * 3 + r) (v := v) h
  rwa [flat_put encM_length _ _ _ _ _ _ hm hr hb] at h2
theorem DrR.putRoute {w : World} {base g k c : Nat} {B : Value} {M : List Mt} {D : Dr} (h : DrR w base B (.slice (some ⟨g, 0, none⟩) k c) M D) (hk : D.2.length = k) (i : Nat) {m m' : Mt} {q q' : Rt} (hm : M[i]? = some m) (hq : D.2[i]? = some q)
    (h1 : m'.1 = q'.1.1) (h2 : m'.2.1 = q'.1.2) (h3 : w.ownsRow base 73 2 m'.2.2 q'.2.length (flat encP q'.2)) :
    DrR (putR3 w g (i * 3) m') base B (.slice (some ⟨g, 0, none⟩) k c) (M.set i m') (D.1, D.2.set i q') := by
  subst hk
  obtain ⟨cur, hcur⟩ := own_typ h.rt (g := g) rfl
  have hgr : w.grownBy (putR3 w g (i * 3) m') (some g) := grownBy_trans (grownBy_trans (grown_set w g (i * 3) _) (grown_set _ g (i * 3 + 1) _)) (grown_set _ g (i * 3 + 2) _)
  have ty : ∀ t : TypeId, 78 ≠ t → ∀ b, some g = some b → ∃ cs t', w.heap[b]? = some (.cells cs t') ∧ t' ≠ t := fun t ht b e => by cases e; exact ⟨_, _, hcur, ht⟩
  have hpc := h.pc.other hgr (fun b e => by cases e; exact ⟨_, _, hcur, by decide⟩)
  have hl := (List.getElem?_eq_some_iff.1 hm).1
  have st : ∀ (L : List Mt) (x : Mt), L.length = M.length → (L.set i x)[i]? = some x := fun L x e => List.getElem?_set_self (by omega)
  refine ⟨row_other h.bx hgr (ty _ (by decide)), ?_, ?_⟩
  · have k1 := row_putM (v := .int .i64 m'.1) h.rt hm (r := 0) (m' := (m'.1, m.2.1, m.2.2)) (by omega) rfl
    have k2 := row_putM (v := .int .i64 m'.2.1) k1 (st M _ rfl) (r := 1) (m' := (m'.1, m'.2.1, m.2.2)) (by omega) rfl
    have k3 := row_putM (v := m'.2.2) k2 (st (M.set i _) _ (by rw [List.length_set])) (r := 2) (m' := m') (by omega) rfl
    rw [List.set_set, List.set_set] at k3
    show World.ownsRow _ _ _ _ _ (D.2.set i q').length _
    rw [List.length_set]
    exact k3
  · refine ⟨by rw [List.length_set, List.length_set]; exact h.pc.1, fun j x y hx hy => ?_⟩
    by_cases e : i = j
    · subst e
      rw [List.getElem?_set_self hl] at hx
      rw [List.getElem?_set_self (List.getElem?_eq_some_iff.1 hq).1] at hy
      obtain rfl : m' = x := by simpa using hx
      obtain rfl : q' = y := by simpa using hy
      exact ⟨h1, h2, row_other h3 hgr (ty _ (by decide))⟩
    · rw [List.getElem?_set_ne e] at hx hy
      exact hpc.2 j x y hx hy
end Go.Proofs.YtkpgjgmlhcipeaaDoor
