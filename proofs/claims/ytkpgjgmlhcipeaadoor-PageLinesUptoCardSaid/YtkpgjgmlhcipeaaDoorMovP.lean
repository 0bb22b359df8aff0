/- A row of one's own, one of its cells written; a drawing with all its numbers moved; how long a small drawing's text is; lists that are changed up to a place. -/
import Derived.Test.YtkpgjgmlhcipeaaDoorPgQ
import Derived.Test.YtkpgjgmlhcipeaaDoorSomA
namespace Go.Proofs.YtkpgjgmlhcipeaaDoor
open Go.RowKit
theorem own_set {w : World} {base E sz k g c i : Nat} {xs : List Value} {v : Value} (h : w.ownsRow base E sz (.slice (some ⟨g, 0, none⟩) k c) k xs) : (w.setCell ⟨g, i, none⟩ v).ownsRow base E sz (.slice (some ⟨g, 0, none⟩) k c) k (xs.set i v) := by
  obtain ⟨hl, h⟩ := h
  rcases h with h | ⟨b, cap, cs, e, hb, hh, h1, h2, h3, h4⟩
  · have := h.1
    cases this
  · injection e with e1 e2 e3
    injection e1 with e1
    injection e1 with e1 e4 e5
    subst e1
    obtain ⟨hlt, hk⟩ := Array.getElem?_eq_some_iff.1 hh
    refine ⟨by rw [List.length_set]; exact hl, .inr ⟨g, cap, cs.setIfInBounds i v, by rw [e3], hb, ?_, h1, h2, by rw [Array.size_setIfInBounds]; exact h3, ?_⟩⟩
    · show (w.heap.modify g _)[g]? = _
      rw [Array.getElem?_eq_getElem (by rw [Array.size_modify]; exact hlt), Array.getElem_modify_self, hk]
      rfl
    · rw [Array.toList_setIfInBounds, List.take_set, h4]
def movPt (c : Int) (p : Pt) : Pt := (p.1 + c, p.2 + c)
def movBx (c : Int) (b : Bx) : Bx := (movPt c b.1, movPt c b.2)
def movRt (c : Int) (r : Rt) : Rt := ((r.1.1 + c, r.1.2 + c), r.2.map (movPt c))
/-- A drawing with all its numbers by c. -/
def movD (c : Int) (D : Dr) : Dr := (D.1.map (movBx c), D.2.map (movRt c))
theorem nums_len : ∀ ns : List Int, ns.all okN = true → (ns.flatMap numB).length ≤ 8 * ns.length
  | [], _ => by simp
  | n :: r, h => by
    rw [List.all_cons, Bool.and_eq_true] at h
    have h1 := numB_len (ok_num h.1).2
    have h2 := nums_len r h.2
    rw [List.flatMap_cons, List.length_append, List.length_cons]
    omega
theorem lines_len : ∀ xs : List Ln, (∀ x ∈ xs, okL x = true ∧ rightW x.1 x.2.length = true ∧ x.2.length ≤ 22) → (xs.flatMap lineB).length ≤ 200 * xs.length
  | [], _ => by simp
  | x :: r, h => by
    obtain ⟨h1, h2, h3⟩ := h x (by simp)
    have h4 := nums_len x.2 h1
    have h5 := right_len h2
    have h6 := lines_len r (fun y hy => h y (List.mem_cons_of_mem _ hy))
    have h7 : (lineB x).length = x.1.size + (x.2.flatMap numB).length + 1 := by
      unfold lineB
      rw [List.length_append, List.length_append, ← Lib.size_eq]
      rfl
    rw [List.flatMap_cons, List.length_append, List.length_cons, h7]
    omega
theorem text_len {D : Dr} (ho : (lnsP D).all okL = true) (hx : ∀ x ∈ lnsP D, x.2.length ≤ 22) (hn : (lnsP D).length ≤ 16) : (textP D).length ≤ 4000 := by
  have h := lines_len (lnsP D) (fun x hm => ⟨List.all_eq_true.1 ho x hm, right_lns hm, hx x hm⟩)
  unfold textP
  simp only [List.length_append]
  have h1 : bDrawing.data.toList.length = 7 := rfl
  have h2 : bEnd.data.toList.length = 3 := rfl
  rw [h1, h2]
  simp only [List.length_cons, List.length_nil]
  omega
theorem pairs_half : ∀ L : List Int, 2 * (pairs L).length ≤ L.length
  | [] => by simp [pairs]
  | [a] => by simp [pairs]
  | a :: b :: r => by
    have := pairs_half r
    simp [pairs]
    omega
theorem pts_len (r : List Int) : (pairs ((r.take 20).drop 2)).length ≤ 9 := by
  have h := pairs_half ((r.take 20).drop 2)
  rw [List.length_drop, List.length_take] at h
  omega
theorem flat_put {α : Type} {enc : α → List Value} {sz : Nat} (he : ∀ a, (enc a).length = sz) : ∀ (l : List α) (i : Nat) (a b : α) (r : Nat) (v : Value), l[i]? = some a → r < sz → enc b = (enc a).set r v → (flat enc l).set (i * sz + r) v = flat enc (l.set i b)
  | [], i, a, b, r, v, h, _, _ => by simp at h
  | c :: l, 0, a, b, r, v, h, hr, hb => by
    obtain rfl : c = a := by simpa using h
    show (enc c ++ flat enc l).set _ v = enc b ++ flat enc l
    rw [Nat.zero_mul, Nat.zero_add, List.set_append_left _ _ (by rw [he]; exact hr), hb]
  | c :: l, i + 1, a, b, r, v, h, hr, hb => by
    have h2 := flat_put he l i a b r v (by simpa using h) hr hb
    show (enc c ++ flat enc l).set _ v = enc c ++ flat enc (l.set i b)
    have e : (i + 1) * sz + r = sz + (i * sz + r) := by rw [Nat.add_mul]; omega
    rw [e, List.set_append_right _ _ (by rw [he]; omega), he, ← h2, Nat.add_sub_cancel_left]
theorem set_self {α : Type} {L : List α} {i : Nat} {a : α} (h : L[i]? = some a) : L.set i a = L := by
  apply List.ext_getElem?
  intro j
  by_cases e : i = j
  · subst e
    rw [List.getElem?_set_self (List.getElem?_eq_some_iff.1 h).1, h]
  · rw [List.getElem?_set_ne e]
/-- The first i of a list changed. -/
def mixL {α : Type} (f : α → α) (i : Nat) (L : List α) : List α := (L.take i).map f ++ L.drop i
section
variable {α : Type} {f : α → α} {i : Nat} {L : List α}
theorem mix_zero : mixL f 0 L = L := by simp [mixL]
theorem mix_full (h : L.length ≤ i) : mixL f i L = L.map f := by
  unfold mixL
  rw [List.take_of_length_le h, List.drop_of_length_le h, List.append_nil]
theorem mix_len : (mixL f i L).length = L.length := by
  unfold mixL
  simp
  omega
theorem mix_get {a : α} (h : L[i]? = some a) : (mixL f i L)[i]? = some a := by
  have hl := (List.getElem?_eq_some_iff.1 h).1
  unfold mixL
  rw [List.getElem?_append_right (by simp; omega)]
  simp [Nat.min_eq_left (show i ≤ L.length by omega), h]
theorem mix_set {a : α} (h : L[i]? = some a) : (mixL f i L).set i (f a) = mixL f (i + 1) L := by
  obtain ⟨hl, e⟩ := List.getElem?_eq_some_iff.1 h
  subst e
  unfold mixL
  rw [List.set_append_right _ _ (by simp; omega), List.take_succ_eq_append_getElem hl, List.map_append, List.append_assoc]
  congr 1
  rw [List.length_map, List.length_take, Nat.min_eq_left (by omega), Nat.sub_self, List.drop_eq_getElem_cons hl]
  rfl
end
section
variable {w : World} {base g k c : Nat} {B R : Value} {M : List Mt} {D : Dr}
theorem DrR.putB (h : DrR w base (.slice (some ⟨g, 0, none⟩) k c) R M D) (hk : D.1.length = k) (i : Nat) {a b : Bx} {r : Nat} {v : Value} (ha : D.1[i]? = some a) (hr : r < 4) (hb : encB b = (encB a).set r v) :
    DrR (w.setCell ⟨g, i * 4 + r, none⟩ v) base (.slice (some ⟨g, 0, none⟩) k c) R M (D.1.set i b, D.2) := by
  subst hk
  obtain ⟨cur, hcur⟩ := own_typ h.bx (g := g) rfl
  have hgr := grown_set w g (i * 4 + r) v
  refine ⟨?_, row_other h.rt hgr (fun b e => by cases e; exact ⟨_, _, hcur, by decide⟩), h.pc.other hgr (fun b e => by cases e; exact ⟨_, _, hcur, by decide⟩)⟩
  have h2 := own_set (i := i * 4 + r) (v := v) h.bx
  rw [flat_put encB_length _ _ _ _ _ _ ha hr hb] at h2
  show World.ownsRow _ _ _ _ _ (D.1.set i b).length _
  rw [List.length_set]
  exact h2
theorem DrR.putR (h : DrR w base B (.slice (some ⟨g, 0, none⟩) k c) M D) (hk : D.2.length = k) (i : Nat) {m m' : Mt} {q q' : Rt} {r : Nat} {v : Value} (hm : M[i]? = some m) (hq : D.2[i]? = some q) (hr : r < 3) (hb : encM m' = (encM m).set r v)
    (h1 : m'.1 = q'.1.1) (h2 : m'.2.1 = q'.1.2) (h3 : m'.2.2 = m.2.2) (h4 : q'.2 = q.2) :
    DrR (w.setCell ⟨g, i * 3 + r, none⟩ v) base B (.slice (some ⟨g, 0, none⟩) k c) (M.set i m') (D.1, D.2.set i q') := by
  subst hk
  obtain ⟨cur, hcur⟩ := own_typ h.rt (g := g) rfl
  have hgr := grown_set w g (i * 3 + r) v
  have hpc := h.pc.other hgr (fun b e => by cases e; exact ⟨_, _, hcur, by decide⟩)
  refine ⟨row_other h.bx hgr (fun b e => by cases e; exact ⟨_, _, hcur, by decide⟩), ?_, ?_⟩
  · have h2 := own_set (i := i * 3 + r) (v := v) h.rt
    rw [flat_put encM_length _ _ _ _ _ _ hm hr hb] at h2
    show World.ownsRow _ _ _ _ _ (D.2.set i q').length _
    rw [List.length_set]
    exact h2
  · refine ⟨by rw [List.length_set, List.length_set]; exact h.pc.1, fun j x y hx hy => ?_⟩
    by_cases e : i = j
    · subst e
      rw [List.getElem?_set_self (List.getElem?_eq_some_iff.1 hm).1] at hx
      rw [List.getElem?_set_self (List.getElem?_eq_some_iff.1 hq).1] at hy
      obtain rfl : m' = x := by simpa using hx
      obtain rfl : q' = y := by simpa using hy
      refine ⟨h1, h2, ?_⟩
      rw [h3, h4]
      exact (hpc.2 i m q hm hq).2.2
    · rw [List.getElem?_set_ne e] at hx hy
      exact hpc.2 j x y hx hy
theorem Apart.set (h : Apart M) {i : Nat} {m m' : Mt} (hm : M[i]? = some m) (e : m'.2.2 = m.2.2) : Apart (M.set i m') := by
  have key : ∀ (j : Nat) (x : Mt), (M.set i m')[j]? = some x → ∃ y, M[j]? = some y ∧ x.2.2 = y.2.2 := fun j x hx => by
    by_cases e2 : i = j
    · subst e2
      rw [List.getElem?_set_self (List.getElem?_eq_some_iff.1 hm).1] at hx
      obtain rfl : m' = x := by simpa using hx
      exact ⟨m, hm, e⟩
    · rw [List.getElem?_set_ne e2] at hx
      exact ⟨x, hx, rfl⟩
  intro a b x y hx hy hab g hg
  obtain ⟨x', hx', ex⟩ := key a x hx
  obtain ⟨y', hy', ey⟩ := key b y hy
  rw [ey]
  rw [ex] at hg
  exact h a b x' y' hx' hy' hab g hg
theorem DrR.putP (h : DrR w base B R M D) (hap : Apart M) {i : Nat} {m : Mt} {q : Rt} {l : Nat} (hm : M[i]? = some m) (hq : D.2[i]? = some q) (hs : m.2.2 = .slice (some ⟨g, 0, none⟩) l c) (hl : q.2.length = l) (j : Nat) {p p' : Pt} {r : Nat} {v : Value} (hp : q.2[j]? = some p) (hr : r < 2) (hb : encP p' = (encP p).set r v) :
    DrR (w.setCell ⟨g, j * 2 + r, none⟩ v) base B R M (D.1, D.2.set i (q.1, q.2.set j p')) := by
  have h0 := (h.pc.2 i m q hm hq).2.2
  rw [hs] at h0
  obtain ⟨cur, hcur⟩ := own_typ h0 (g := g) rfl
  have hgr := grown_set w g (j * 2 + r) v
  refine ⟨row_other h.bx hgr (fun b e => by cases e; exact ⟨_, _, hcur, by decide⟩), ?_, ?_⟩
  · show World.ownsRow _ _ _ _ _ (D.2.set i _).length _
    rw [List.length_set]
    exact row_other h.rt hgr (fun b e => by cases e; exact ⟨_, _, hcur, by decide⟩)
  · refine ⟨by rw [List.length_set]; exact h.pc.1, fun a x y hx hy => ?_⟩
    by_cases e : i = a
    · subst e
      rw [hm] at hx
      obtain rfl : m = x := by simpa using hx
      rw [List.getElem?_set_self (List.getElem?_eq_some_iff.1 hq).1] at hy
      obtain rfl : (q.1, q.2.set j p') = y := by simpa using hy
      obtain ⟨k1, k2, k3⟩ := h.pc.2 i m q hm hq
      refine ⟨k1, k2, ?_⟩
      subst hl
      rw [hs]
      have h2 := own_set (i := j * 2 + r) (v := v) h0
      rw [flat_put encP_length _ _ _ _ _ _ hp hr hb] at h2
      show World.ownsRow _ _ _ _ _ (q.2.set j p').length _
      rw [List.length_set]
      exact h2
    · rw [List.getElem?_set_ne e] at hy
      obtain ⟨k1, k2, k3⟩ := h.pc.2 a x y hx hy
      refine ⟨k1, k2, row_typ k3 (fun b cur hb hx2 => hgr.block b (Array.getElem?_eq_some_iff.1 hb).1 (fun e2 => ?_))⟩
      injection e2 with e2
      have hg2 : m.2.2.ownBlock = some g := by rw [hs]; rfl
      rcases Nat.lt_or_gt_of_ne e with lt | gt
      · exact hap i a m x hm hx lt g hg2 (by rw [hx2, e2])
      · exact hap a i x m hx hm gt g (by rw [hx2, e2]) hg2
end
theorem own_cl {w : World} {base E sz g k c : Nat} {xs : List Value} (h : w.ownsRow base E sz (.slice (some ⟨g, 0, none⟩) k c) k xs) {j : Nat} {v : Value} (hv : xs[j]? = some v) : Cl w ⟨g, j, none⟩ v := by
  have hl := (List.getElem?_eq_some_iff.1 hv).1
  have h1 := h.1
  exact ⟨(h.cellAt j (by omega)).trans hv, h.frozenAt _⟩
section
variable {w : World} {base g k c : Nat} {B R : Value} {M : List Mt} {D : Dr}
theorem DrR.clB (h : DrR w base (.slice (some ⟨g, 0, none⟩) k c) R M D) (hk : D.1.length = k) {i : Nat} {a : Bx} (ha : D.1[i]? = some a) (r : Nat) {v : Value} (hr : r < 4) (hv : (encB a)[r]? = some v) : Cl w ⟨g, i * 4 + r, none⟩ v := by
  subst hk
  exact own_cl h.bx ((flat_get encB_length _ i r hr a ha).trans hv)
theorem DrR.clR (h : DrR w base B (.slice (some ⟨g, 0, none⟩) k c) M D) (hk : D.2.length = k) {i : Nat} {m : Mt} (hm : M[i]? = some m) (r : Nat) {v : Value} (hr : r < 3) (hv : (encM m)[r]? = some v) : Cl w ⟨g, i * 3 + r, none⟩ v := by
  subst hk
  exact own_cl h.rt ((flat_get encM_length _ i r hr m hm).trans hv)
theorem DrR.clP (h : DrR w base B R M D) {i l : Nat} {m : Mt} {q : Rt} (hm : M[i]? = some m) (hq : D.2[i]? = some q) (hs : m.2.2 = .slice (some ⟨g, 0, none⟩) l c) (hl : q.2.length = l) {j : Nat} {p : Pt} (hp : q.2[j]? = some p) (r : Nat) {v : Value} (hr : r < 2) (hv : (encP p)[r]? = some v) : Cl w ⟨g, j * 2 + r, none⟩ v := by
  subst hl
  have h0 := (h.pc.2 i m q hm hq).2.2
  rw [hs] at h0
  exact own_cl h0 ((flat_get encP_length _ j r hr p hp).trans hv)
/-- A route's points' row: where it lies. -/
theorem DrR.ptF (h : DrR w base B R M D) {i : Nat} {m : Mt} {q : Rt} (hm : M[i]? = some m) (hq : D.2[i]? = some q) : ∃ A c, m.2.2 = .slice A q.2.length c ∧ (0 < q.2.length → ∃ g, A = some ⟨g, 0, none⟩ ∧ base ≤ g ∧ ∃ cur, w.heap[g]? = some (.cells cur 73)) := by
  have h0 := (h.pc.2 i m q hm hq).2.2
  obtain ⟨A, c, e, _⟩ := own_shape h0
  refine ⟨A, c, e, fun hl => ?_⟩
  obtain ⟨g, c2, e2, hg, _⟩ := h0.form hl
  rw [e] at e2
  injection e2 with e2 _ _
  subst e2
  obtain ⟨cur, hc⟩ := own_typ h0 (g := g) (by rw [e]; rfl)
  exact ⟨g, rfl, hg, cur, hc⟩
theorem DrR.bxF {A : Option Addr} (h : DrR w base (.slice A k c) R M D) (hk : D.1.length = k) (hl : 0 < k) : ∃ g, A = some ⟨g, 0, none⟩ ∧ base ≤ g ∧ ∃ cur, w.heap[g]? = some (.cells cur 75) := by
  subst hk
  obtain ⟨g, c2, e2, hg, _⟩ := h.bx.form hl
  injection e2 with e2 _ _
  subst e2
  obtain ⟨cur, hc⟩ := own_typ h.bx (g := g) rfl
  exact ⟨g, rfl, hg, cur, hc⟩
theorem DrR.rtF {A : Option Addr} (h : DrR w base B (.slice A k c) M D) (hk : D.2.length = k) (hl : 0 < k) : ∃ g, A = some ⟨g, 0, none⟩ ∧ base ≤ g ∧ ∃ cur, w.heap[g]? = some (.cells cur 78) := by
  subst hk
  obtain ⟨g, c2, e2, hg, _⟩ := h.rt.form hl
  injection e2 with e2 _ _
  subst e2
  obtain ⟨cur, hc⟩ := own_typ h.rt (g := g) rfl
  exact ⟨g, rfl, hg, cur, hc⟩
end
def halfB (c : Int) (j : Nat) (b : Bx) : Bx := if j = 0 then b else if j = 1 then (movPt c b.1, b.2) else movBx c b
theorem set_other {w : World} {b g o : Nat} {v : Value} {x : Obj} (h : w.heap[b]? = some x) (hne : b ≠ g) : (w.setCell ⟨g, o, none⟩ v).heap[b]? = some x :=
  ((grown_set w g o v).block b (Array.getElem?_eq_some_iff.1 h).1 (fun e => by injection e with e; exact hne (by omega))).trans h
/-- All numbers of a drawing are int16's. -/
def S16D (D : Dr) : Prop := (∀ b ∈ D.1, S16 b.1.1 ∧ S16 b.1.2 ∧ S16 b.2.1 ∧ S16 b.2.2) ∧ ∀ r ∈ D.2, S16 r.1.1 ∧ S16 r.1.2 ∧ ∀ p ∈ r.2, S16 p.1 ∧ S16 p.2
end Go.Proofs.YtkpgjgmlhcipeaaDoor
