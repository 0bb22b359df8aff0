/- muntinref25.Some: a drawing out of plain data. -/
import Derived.Test.YtkpgjgmlhcipeaaDoorPgF
import Derived.Laws.ResultCell
import Derived.Test.YtkpgjgmlhcipeaaDoorHeldT
namespace Go.Proofs.YtkpgjgmlhcipeaaDoor
open Go.RowKit
abbrev Q4t := Int × Int × Int × Int
def encQ (q : Q4t) : List Value := [.int .i16 q.1, .int .i16 q.2.1, .int .i16 q.2.2.1, .int .i16 q.2.2.2]
theorem encQ_length (q : Q4t) : (encQ q).length = 4 := rfl
def encH (x : Int) : List Value := [.int .i16 x]
theorem encH_length (x : Int) : (encH x).length = 1 := rfl
def encV (v : Value) : List Value := [v]
theorem encV_length (v : Value) : (encV v).length = 1 := rfl
def S16 (n : Int) : Prop := -32768 ≤ n ∧ n ≤ 32767
def bxS (q : Q4t) : Bx := ((q.1, q.2.1), (q.2.2.1, q.2.2.2))
def rtS (r : List Int) : Rt := ((r[0]?.getD 0, r[1]?.getD 0), pairs ((r.take 20).drop 2))
def someP (bs : List Q4t) (rs : List (List Int)) : Dr := ((bs.take 8).map bxS, (rs.take 8).map rtS)
/-- Rows of int16 in a slice. -/
def Rows16 (w : World) (V : Value) (rs : List (List Int)) : Prop := ∃ Vs : List Value, Vs.length = rs.length ∧ Sl 1 encV w V Vs ∧ ∀ (i : Nat) (U : Value) (r : List Int), Vs[i]? = some U → rs[i]? = some r → Sl 1 encH w U r
theorem Sl.at1 {α : Type} {enc : α → List Value} {w : World} {V : Value} {L : List α} (f : α → Value) (he : ∀ a, enc a = [f a]) (h : Sl 1 enc w V L) : ∃ A cap, V = .slice A L.length cap ∧ L.length ≤ cap ∧
    (0 < L.length → ∃ b off, A = some ⟨b, off, none⟩ ∧ ∀ i a, L[i]? = some a → w.cell? ⟨b, off + i, none⟩ = some (f a)) := by
  obtain ⟨A, cap, e, h1, -, h⟩ := h
  refine ⟨A, cap, e, h1, fun hl => ?_⟩
  obtain ⟨b, off, e2, hc⟩ := h hl
  refine ⟨b, off, e2, fun i a hi => ?_⟩
  have := hc i a hi 0 (f a) (by rw [he]; rfl)
  rwa [Nat.mul_one, Nat.add_zero] at this
theorem wrap16 {n : Int} (h : S16 n) : IntKind.i64.wrap n = n := by
  obtain ⟨h1, h2⟩ := h
  rw [IntKind.wrap_i64]; omega
theorem pairs_even : ∀ (k : Nat) (l : List Int) (a b : Int), l.length = 2 * k → pairs (l ++ [a, b]) = pairs l ++ [(a, b)]
  | 0, l, a, b, h => by
    have : l = [] := List.eq_nil_of_length_eq_zero (by omega)
    subst this; rfl
  | k + 1, [], a, b, h => by simp at h
  | k + 1, [x], a, b, h => by simp at h; omega
  | k + 1, x :: y :: r, a, b, h => by
    have := pairs_even k r a b (by simp at h; omega)
    simp [pairs, this]
theorem pairs_odd : ∀ (k : Nat) (l : List Int) (a : Int), l.length = 2 * k → pairs (l ++ [a]) = pairs l
  | 0, l, a, h => by
    have : l = [] := List.eq_nil_of_length_eq_zero (by omega)
    subst this; rfl
  | k + 1, [], a, h => by simp at h
  | k + 1, [x], a, h => by simp at h; omega
  | k + 1, x :: y :: r, a, h => by
    have := pairs_odd k r a (by simp at h; omega)
    simp [pairs, this]
theorem results_one_cell {fn : Func} {p : Tmp} {ty : TypeId} (h : fn.results = #[.cell p ty]) (tmps : Array Value) (P : Program) (w : World) :
    (results fn tmps).run P w = ((asAddr (tmps.getD p undef)).run P w).andThen fun a w₁ => (loadVar ty a).run P w₁ := by
  simp only [results, h]
  simp [Sem.run_bind, Result.andThen]
theorem enc_step {L : List Int} {z : Int} {j : Nat} (hl : L.length = j) : ((((L ++ [z])[0]?.getD 0), ((L ++ [z])[1]?.getD 0)) : Int × Int) = (if j = 0 then z else L[0]?.getD 0, if j = 1 then z else L[1]?.getD 0) := by
  subst hl
  match L with
  | [] => simp
  | [a] => simp
  | a :: b :: r => simp
theorem pts_same {L : List Int} {z : Int} {j : Nat} (hl : L.length = j) (h : ¬(2 < j ∧ j % 2 = 1)) : pairs ((L ++ [z]).drop 2) = pairs (L.drop 2) := by
  subst hl
  match L with
  | [] => rfl
  | [a] => rfl
  | a :: b :: r =>
    simp only [List.cons_append, List.drop_succ_cons, List.drop_zero]
    exact pairs_odd (r.length / 2) r z (by simp at h; omega)
theorem pts_more {L : List Int} {y z : Int} {j : Nat} (hl : L.length = j) (h : 2 ≤ j) (h2 : j % 2 = 0) : pairs ((L ++ [y] ++ [z]).drop 2) = pairs ((L ++ [y]).drop 2) ++ [(y, z)] := by
  subst hl
  match L, h with
  | a :: b :: r, _ =>
    simp only [List.cons_append, List.drop_succ_cons, List.drop_zero, List.append_assoc, List.nil_append]
    simp at h2
    rw [pairs_odd (r.length / 2) r y (by omega)]
    exact pairs_even (r.length / 2) r y z (by omega)
theorem set3_zero {w : World} {b : Nat} {x y z v : Value} {t : TypeId} (h : w.heap[b]? = some (.cells #[x, y, z] t)) : (w.setCell ⟨b, 0, none⟩ v).heap[b]? = some (.cells #[v, y, z] t) := by
  obtain ⟨hlt, hk⟩ := Array.getElem?_eq_some_iff.1 h
  show (w.heap.modify b _)[b]? = _
  rw [Array.getElem?_eq_getElem (by rw [Array.size_modify]; exact hlt), Array.getElem_modify_self, hk]
  rfl
theorem set3_one {w : World} {b : Nat} {x y z v : Value} {t : TypeId} (h : w.heap[b]? = some (.cells #[x, y, z] t)) : (w.setCell ⟨b, 1, none⟩ v).heap[b]? = some (.cells #[x, v, z] t) := by
  obtain ⟨hlt, hk⟩ := Array.getElem?_eq_some_iff.1 h
  show (w.heap.modify b _)[b]? = _
  rw [Array.getElem?_eq_getElem (by rw [Array.size_modify]; exact hlt), Array.getElem_modify_self, hk]
  rfl
theorem pairs_le : ∀ L : List Int, (pairs L).length ≤ L.length
  | [] => by simp [pairs]
  | [a] => by simp [pairs]
  | a :: b :: r => by
    have := pairs_le r
    simp [pairs]
    omega
/-- The routes' own rows are apart. -/
def Apart (M : List Mt) : Prop := ∀ (i j : Nat) (a b : Mt), M[i]? = some a → M[j]? = some b → i < j → ∀ g, a.2.2.ownBlock = some g → b.2.2.ownBlock ≠ some g
theorem Apart.snoc {w : World} {base n : Nat} {M : List Mt} {qs : List Rt} {m : Mt} (h : Apart M) (hp : PcsO w base M qs) (hn : w.heap.size ≤ n) (hm : ∀ g, m.2.2.ownBlock = some g → n ≤ g) : Apart (M ++ [m]) := by
  intro i j a b hi hj hij g hg e
  have hjl := (List.getElem?_eq_some_iff.1 hj).1
  simp at hjl
  have hil : i < M.length := by omega
  rw [List.getElem?_append_left hil] at hi
  by_cases hj2 : j < M.length
  · rw [List.getElem?_append_left hj2] at hj
    exact h i j a b hi hj hij g hg e
  · have hj3 : j = M.length := by omega
    subst hj3
    rw [List.getElem?_append_right (Nat.le_refl _)] at hj
    obtain rfl : m = b := by simpa using hj
    have hq : i < qs.length := by rw [← hp.1]; exact hil
    have h1 := own_lt (hp.2 i a _ hi (List.getElem?_eq_getElem hq)).2.2 hg
    have h2 := hm g e
    omega
def ptsS (r : List Int) (j : Nat) : List Pt := pairs ((r.take j).drop 2)
def encE (r : List Int) (j : Nat) : Int × Int := ((r.take j)[0]?.getD 0, (r.take j)[1]?.getD 0)
def K3 (g bU oU b3 o3 j jj : Nat) (V U : Value) (y z : Int) (w : World) : Prop := w.cell? ⟨g, 2, none⟩ = some V ∧ w.cell? ⟨bU, oU, none⟩ = some U ∧ w.cell? ⟨b3, o3 + j, none⟩ = some (.int .i16 y) ∧ w.cell? ⟨b3, o3 + jj, none⟩ = some (.int .i16 z)
theorem K3.later {g bU oU b3 o3 j jj : Nat} {V U : Value} {y z : Int} {w w' : World} (h : K3 g bU oU b3 o3 j jj V U y z w) (k : Below w.heap.size w w') : K3 g bU oU b3 o3 j jj V U y z w' := ⟨cell_later k h.1, cell_later k h.2.1, cell_later k h.2.2.1, cell_later k h.2.2.2⟩
set_option maxRecDepth 100000 in
set_option maxHeartbeats 4000000 in
theorem some_any {w : World} {V1 V2 : Value} {bs : List Q4t} {rs : List (List Int)} (h1 : Sl 4 encQ w V1 bs) (h2 : Rows16 w V2 rs) (hb : ∀ q ∈ bs, S16 q.1 ∧ S16 q.2.1 ∧ S16 q.2.2.1 ∧ S16 q.2.2.2) (hr : ∀ r ∈ rs, ∀ n ∈ r, S16 n) (hbl : bs.length ≤ 20000000000000) (hrl : rs.length ≤ 20000000000000) :
    Calls Tryd.prog 30 #[V1, V2] w fun e w' => ∃ A1 l1 c1 A2 l2 c2 M, e = .returned (.agg #[.slice A1 l1 c1, .slice A2 l2 c2]) ∧ DrR w' (w.heap.size + 1) (.slice A1 l1 c1) (.slice A2 l2 c2) M (someP bs rs) ∧ Apart M ∧ Below w.heap.size w w' := by
  obtain ⟨iB, hiB, hzB0, hzB1, hzB2⟩ := info_parts info_box
  obtain ⟨iR, hiR, hzR0, hzR1, hzR2⟩ := info_parts info_route
  obtain ⟨iP, hiP, hzP0, hzP1, hzP2⟩ := info_parts (show (Tryd.prog.info? 73).map (fun i => (i.zero, i.size, i.bytes)) = some (some (.agg #[.int .i64 0, .int .i64 0]), 2, 16) by kernel_rfl)
  obtain ⟨AB, cB, hV1, hcB, -, hB1⟩ := h1
  obtain ⟨Vs, hVl, hVs, hVr⟩ := h2
  obtain ⟨AR, cR, hV2, hcR, hR1⟩ := Sl.at1 (fun v => v) (fun _ => rfl) hVs
  rw [hVl] at hV2 hR1
  subst hV1 hV2
  have HB1 := Lib.hid hB1
  have HR1 := Lib.hid hR1
  have HVR := Lib.hid hVr
  have HVL := Lib.hid hVl
  have HIB := Lib.hid hb
  have HIR := Lib.hid hr
  clear hB1 hR1 hVr hVs hVl hb hr
  obtain ⟨nb, hnb⟩ : ∃ n, bs.length = n := ⟨_, rfl⟩
  obtain ⟨nr, hnr⟩ : ∃ n, rs.length = n := ⟨_, rfl⟩
  rw [hnb] at HB1 hbl hcB ⊢
  rw [hnr] at HR1 hrl HVL ⊢
  have HNB := Lib.hid hnb
  have HNR := Lib.hid hnr
  clear hnb hnr
  go_enter Tryd.func30, Tryd.ntmps30
  go_wp2_with fail
  obtain ⟨w1, hw1⟩ : ∃ q, q = ((w.alloc (.cells #[.slice none 0 0, .slice none 0 0] 45)).alloc (.cells #[.slice none 0 0, .slice none 0 0] 45)) := ⟨_, rfl⟩
  rw [← hw1]
  have HB0 : Hid (Below w.heap.size w w1) := Lib.hid (by rw [hw1]; exact ((Below.refl _ _).alloc (Nat.le_refl _) _).alloc (by simp) _)
  have HG0 : Hid (w1.heap[w.heap.size]? = some (.cells #[.slice none 0 0, .slice none 0 0] 45)) := Lib.hid (by rw [hw1]; exact (((Below.refl _ _).alloc (Nat.le_refl _) _).block _ (by simp)).trans (heap_at rfl))
  have HG1 : Hid (w1.heap[w.heap.size + 1]? = some (.cells #[.slice none 0 0, .slice none 0 0] 45)) := Lib.hid (by rw [hw1]; exact heap_at (by simp))
  have hs1 : w.heap.size + 2 ≤ w1.heap.size := by rw [hw1]; simp
  clear hw1
  go_loopw [6] (fun qi wr => ∃ (i : Nat) (A : Option Addr) (c : Nat), i ≤ nb ∧ i ≤ 8 ∧ qi = .int .i64 i ∧ wr.heap[w.heap.size]? = some (.cells #[.slice none 0 0, .slice none 0 0] 45) ∧ wr.heap[w.heap.size + 1]? = some (.cells #[.slice A i c, .slice none 0 0] 45) ∧ wr.ownsRow (w.heap.size + 1) 75 4 (.slice A i c) i (flat encB ((bs.take i).map bxS)) ∧ w.heap.size + 2 ≤ wr.heap.size ∧ Below w.heap.size w wr) (fun q _ => 8 - (intOf q).toNat)
  case atStart => exact ⟨0, none, 0, by omega, by omega, rfl, HG0.out, HG1.out, World.ownsRow_nil _ _ _ _, hs1, HB0.out⟩
  case round =>
    obtain ⟨i, AV, cV, hi, hi8, rfl, hg0, hg1, hrow, hsz, Br⟩ := hrel
    obtain ⟨wo, rfl⟩ : ∃ q : World, q = wr := ⟨_, rfl⟩
    have HR0 := Lib.hid hg0
    have HD0 := Lib.hid hg1
    have HRW := Lib.hid hrow
    have HBr := Lib.hid Br
    clear hg0 hg1 hrow Br
    by_cases hin : i < nb ∧ i < 8
    · obtain ⟨hin, hi7⟩ := hin
      have hd1 : decide ((i : Int) < (nb : Int)) = true := by simp only [decide_eq_true_eq]; omega
      have hd2 : decide ((i : Int) < 8) = true := by simp only [decide_eq_true_eq]; omega
      obtain ⟨p1, o1, rfl, hc⟩ := HB1.out (by omega)
      have hlt : i < bs.length := by rw [HNB.out]; exact hin
      have HX := Lib.hid (List.getElem?_eq_getElem hlt)
      have HIX := Lib.hid (HIB.out _ (List.getElem_mem hlt))
      have hq := hc i _ HX.out
      have HT : Hid ((bs.take (i + 1)).map bxS = (bs.take i).map bxS ++ [bxS (bs[i]'hlt)]) := Lib.hid (by rw [List.take_succ_eq_append_getElem hlt, List.map_append]; rfl)
      generalize bs[i]'hlt = q at *
      clear hlt
      obtain ⟨x, y, u, v⟩ := q
      have q0 := cell_later HBr.out (hq 0 _ rfl)
      have q1 := cell_later HBr.out (hq 1 _ rfl)
      have q2 := cell_later HBr.out (hq 2 _ rfl)
      have q3 := cell_later HBr.out (hq 3 _ rfl)
      rw [Nat.add_zero] at q0
      have x1 := wrap16 HIX.out.1
      have x2 := wrap16 HIX.out.2.1
      have x3 := wrap16 HIX.out.2.2.1
      have x4 := wrap16 HIX.out.2.2.2
      simp only at x1 x2 x3 x4
      have hi0 : (0 : Int) ≤ (i : Int) := by omega
      have hi1 : (i : Int) < (nb : Int) := by omega
      clear hq hc
      go_upto_region 6 with fail
      obtain ⟨wa, hwa⟩ : ∃ q, q = wo.alloc (.cells #[.int .i16 x, .int .i16 y, .int .i16 u, .int .i16 v] 67) := ⟨_, rfl⟩
      try rw [← hwa]
      have Ba : Below wo.heap.size wo wa := by rw [hwa]; exact (Below.refl _ _).alloc (Nat.le_refl _) _
      have hGa : wa.heap[wo.heap.size]? = some (.cells #[.int .i16 x, .int .i16 y, .int .i16 u, .int .i16 v] 67) := by rw [hwa]; exact heap_at rfl
      have s0 := (Cl.of_block hGa (j := 0) rfl).cell
      have s1 := (Cl.of_block hGa (j := 1) rfl).cell
      have s2 := (Cl.of_block hGa (j := 2) rfl).cell
      have s3 := (Cl.of_block hGa (j := 3) rfl).cell
      have hga0 := block_later Ba HR0.out
      have hga1 := block_later Ba HD0.out
      have t0 := (Cl.of_block hga1 (j := 0) rfl).cell
      have hba : Below wa.heap.size wa (wa.alloc (.cells #[.int .i64 x, .int .i64 y, .int .i64 u, .int .i64 v] 75)) := (Below.refl _ _).alloc (Nat.le_refl _) _
      have HRz := Lib.hid (own_later (own_later HRW.out Ba) hba)
      have HGz0 := Lib.hid (block_later hba hga0)
      have HGz1 := Lib.hid (block_later hba hga1)
      have HBz := Lib.hid (below_then (below_then HBr.out HBr.out.size Ba) (by have := HBr.out.size; have := Ba.size; omega) hba)
      have hsa := Ba.size
      clear hwa Ba hGa hga0 hga1 hba q0 q1 q2 q3
      go_upto_region 4 with (at_builtin; refine wpList_append_lies _ rfl (.tmp 27) (.tmp 43) 42 rfl (w.heap.size + 1) 75 iB (.agg #[.int .i64 0, .int .i64 0, .int .i64 0, .int .i64 0]) 4 32 Tryd.underlying42 hiB hzB0 hzB1 hzB2 rfl (by decide) (.slice AV i cV) i (flat encB ((bs.take i).map bxS)) rfl HRz.out ⟨wa.heap.size, 0, none⟩ 1 1 [.int .i64 x, .int .i64 y, .int .i64 u, .int .i64 v] rfl rfl (World.news_of_block (heap_at rfl)) (by intro y hy; simp at hy; rcases hy with rfl | rfl | rfl | rfl <;> rfl) (by omega) (by simp only [maxLen]; omega) (by omega) (by simp; omega) _ rfl ?_; intro gq cq w8 hown hgrow hat hlt; have hb8 := (hgrow.block (w.heap.size + 1) (Array.getElem?_eq_some_iff.1 HGz1.out).1 (by intro e; obtain ⟨cur, hcur⟩ := own_typ HRz.out e.symm; exact ne_of_typ HGz1.out hcur (by decide) rfl)).trans HGz1.out; have q8 := (Cl.of_block hb8 (j := 0) rfl).cell; have r8 := (Cl.of_block hb8 (j := 0) rfl).free)
      have hb0 := (hgrow.block w.heap.size (Array.getElem?_eq_some_iff.1 HGz0.out).1 (by intro e; obtain ⟨cur, hcur⟩ := own_typ HRz.out e.symm; exact ne_of_typ HGz0.out hcur (by decide) rfl)).trans HGz0.out
      have HX0 : Hid ((w8.setCell ⟨w.heap.size + 1, 0, none⟩ (.slice (some ⟨gq, 0, none⟩) (i + 1) cq)).heap[w.heap.size]? = some (.cells #[.slice none 0 0, .slice none 0 0] 45)) := Lib.hid (((grown_set w8 (w.heap.size + 1) 0 (.slice (some ⟨gq, 0, none⟩) (i + 1) cq)).block w.heap.size (Array.getElem?_eq_some_iff.1 hb0).1 (fun e => by injection e with e; omega)).trans hb0)
      have HX1 := Lib.hid (set_zero (v := .slice (some ⟨gq, 0, none⟩) (i + 1) cq) hb8)
      have HXR : Hid ((w8.setCell ⟨w.heap.size + 1, 0, none⟩ (.slice (some ⟨gq, 0, none⟩) (i + 1) cq)).ownsRow (w.heap.size + 1) 75 4 (.slice (some ⟨gq, 0, none⟩) (i + 1) cq) (i + 1) (flat encB ((bs.take (i + 1)).map bxS))) := Lib.hid (by
        have h := row_other hown (grown_set w8 (w.heap.size + 1) 0 (.slice (some ⟨gq, 0, none⟩) (i + 1) cq)) (fun b' e => by cases e; exact ⟨_, _, hb8, by decide⟩)
        rw [HT.out, flat_append]
        simpa [flat, encB, bxS] using h)
      have HXB : Hid (Below w.heap.size w (w8.setCell ⟨w.heap.size + 1, 0, none⟩ (.slice (some ⟨gq, 0, none⟩) (i + 1) cq))) := Lib.hid ((HBz.out.grown hgrow HBz.out.size (fun q hq => by have := own_ge HRz.out hq; omega)).setCell (p := ⟨w.heap.size + 1, 0, none⟩) (by simp) _)
      have hsx : w.heap.size + 2 ≤ (w8.setCell ⟨w.heap.size + 1, 0, none⟩ (.slice (some ⟨gq, 0, none⟩) (i + 1) cq)).heap.size := (Array.getElem?_eq_some_iff.1 HX1.out).1
      clear hown hgrow hat hlt hb8 hb0 q8 r8 t0 s0 s1 s2 s3
      go_wp2_with fail
      go_roundw
      case rel => exact ⟨i + 1, _, _, by omega, by omega, by go_num, HX0.out, HX1.out, HXR.out, hsx, HXB.out⟩
      case measure => simp [intOf]; omega
    · have HN8 : Hid ((bs.take i).map bxS = (bs.take 8).map bxS) := Lib.hid (by
        by_cases h8 : i = 8
        · rw [h8]
        · rw [List.take_of_length_le (by rw [HNB.out]; omega), List.take_of_length_le (by rw [HNB.out]; omega)])
      go_upto_region 3 with fail
      go_cut [19] (fun p wx => p = .bool false ∧ wx = wo)
      case first =>
        by_cases hn : i < nb
        · have hd1 : decide ((i : Int) < (nb : Int)) = true := by simp only [decide_eq_true_eq]; omega
          have hd2 : decide ((i : Int) < 8) = false := by simp only [decide_eq_false_iff_not]; omega
          go_wp2_with fail
          go_meet
          exact ⟨rfl, rfl⟩
        · have hd1 : decide ((i : Int) < (nb : Int)) = false := by simp only [decide_eq_false_iff_not]; omega
          go_wp2_with fail
          go_meet
          exact ⟨rfl, rfl⟩
      obtain ⟨rfl, hwc⟩ := hcut
      subst hwc
      obtain ⟨wo, rfl⟩ : ∃ q : World, q = wc := ⟨_, rfl⟩
      rw [HN8.out] at HRW
      have hl8 : ((bs.take 8).map bxS).length = i := by rw [← HN8.out, List.length_map, List.length_take, HNB.out]; omega
      have HL8 := Lib.hid hl8
      clear HN8 hl8 hin
      go_wp2_with fail
      go_loopw [8] (fun qi wr => ∃ (k : Nat) (A : Option Addr) (c : Nat) (M : List Mt), k ≤ nr ∧ k ≤ 8 ∧ qi = .int .i64 k ∧ wr.heap[w.heap.size]? = some (.cells #[.slice none 0 0, .slice none 0 0] 45) ∧ wr.heap[w.heap.size + 1]? = some (.cells #[.slice AV i cV, .slice A k c] 45) ∧ wr.ownsRow (w.heap.size + 1) 75 4 (.slice AV i cV) i (flat encB ((bs.take 8).map bxS)) ∧ wr.ownsRow (w.heap.size + 1) 78 3 (.slice A k c) k (flat encM M) ∧ PcsO wr (w.heap.size + 1) M ((rs.take k).map rtS) ∧ Apart M ∧ w.heap.size + 2 ≤ wr.heap.size ∧ Below w.heap.size w wr) (fun q _ => 8 - (intOf q).toNat)
      case atStart => exact ⟨0, none, 0, [], by omega, by omega, rfl, HR0.out, HD0.out, HRW.out, World.ownsRow_nil _ _ _ _, ⟨rfl, fun i m r h => by simp at h⟩, (fun i j a b h => by simp at h), hsz, HBr.out⟩
      case round =>
        clear HR0 HD0 HRW HBr hsz
        obtain ⟨k, AW, cW, M, hk, hk8, rfl, hg0, hg1, hrow, hrt, hpc, hap, hsz, Br⟩ := hrel
        obtain ⟨wo, rfl⟩ : ∃ q : World, q = wr := ⟨_, rfl⟩
        have HR0 := Lib.hid hg0
        have HD0 := Lib.hid hg1
        have HRW := Lib.hid hrow
        have HRT := Lib.hid hrt
        have HPC := Lib.hid hpc
        have HAP := Lib.hid hap
        clear hap
        have HBr := Lib.hid Br
        clear hg0 hg1 hrow hrt hpc Br
        by_cases hkn : k < nr ∧ k < 8
        · obtain ⟨hkn, hk7⟩ := hkn
          have hd1 : decide ((k : Int) < (nr : Int)) = true := by simp only [decide_eq_true_eq]; omega
          have hd2 : decide ((k : Int) < 8) = true := by simp only [decide_eq_true_eq]; omega
          obtain ⟨bU, oU, rfl, hc⟩ := HR1.out (by omega)
          have hlt : k < rs.length := by rw [HNR.out]; exact hkn
          have hlv : k < Vs.length := by rw [HVL.out]; exact hkn
          have HX := Lib.hid (List.getElem?_eq_getElem hlt)
          have HIX := Lib.hid (HIR.out _ (List.getElem_mem hlt))
          have hU := HVR.out k _ _ (List.getElem?_eq_getElem hlv) HX.out
          have cU := hc k _ (List.getElem?_eq_getElem hlv)
          have HT : Hid ((rs.take (k + 1)).map rtS = (rs.take k).map rtS ++ [rtS (rs[k]'hlt)]) := Lib.hid (by rw [List.take_succ_eq_append_getElem hlt, List.map_append]; rfl)
          generalize rs[k]'hlt = r at *
          generalize Vs[k]'hlv = U at *
          clear hlt hlv
          obtain ⟨AU, cU', hUe, hcU, hU1⟩ := Sl.at1 (fun x => .int .i16 x) (fun _ => rfl) hU
          obtain ⟨m, hm⟩ : ∃ m, r.length = m := ⟨_, rfl⟩
          rw [hm] at hUe hcU hU1
          subst hUe
          have HM := Lib.hid hm
          have HU1 := Lib.hid hU1
          have HCU := Lib.hid cU
          have hi0 : (0 : Int) ≤ (k : Int) := by omega
          have hi1 : (k : Int) < (nr : Int) := by omega
          clear hc hU hU1 hm
          go_upto_region 11 with fail
          have HGa : Hid ((wo.alloc (.cells #[.int .i64 0, .int .i64 0, .slice none 0 0] 78)).heap[wo.heap.size]? = some (.cells #[.int .i64 0, .int .i64 0, .slice none 0 0] 78)) := Lib.hid (heap_at rfl)
          go_wp2_with fail
          go_loopw [10] (fun qi wr => ∃ (j : Nat) (A : Option Addr) (l c : Nat), j ≤ m ∧ j ≤ 20 ∧ qi = .int .i64 j ∧ wr.heap[wo.heap.size]? = some (.cells #[.int .i64 (encE r j).1, .int .i64 (encE r j).2, .slice A l c] 78) ∧ wr.ownsRow wo.heap.size 73 2 (.slice A l c) l (flat encP (ptsS r j)) ∧ (ptsS r j).length ≤ l ∧ l ≤ (ptsS r j).length ∧ Below wo.heap.size wo wr) (fun q _ => 20 - (intOf q).toNat)
          case atStart => exact ⟨0, none, 0, 0, by omega, by omega, rfl, HGa.out, World.ownsRow_nil _ _ _ _, by simp [ptsS, pairs], by simp [ptsS, pairs], (Below.refl _ _).alloc (Nat.le_refl _) _⟩
          case round =>
            clear HGa
            obtain ⟨j, AX, l, cX, hj, hj20, rfl, hgr, hpr, hl1, hl2, Bj⟩ := hrel
            obtain ⟨wv, rfl⟩ : ∃ q : World, q = wr := ⟨_, rfl⟩
            have HGR := Lib.hid hgr
            have HPR := Lib.hid hpr
            have HBj := Lib.hid Bj
            have hsj : wo.heap.size + 1 ≤ wv.heap.size := (Array.getElem?_eq_some_iff.1 hgr).1
            have HWj := Lib.hid (below_then HBr.out HBr.out.size Bj)
            have cu := cell_later HWj.out HCU.out
            clear hgr hpr Bj
            by_cases hjm : j < m ∧ j < 20
            · obtain ⟨hjm, hj20'⟩ := hjm
              have hd3 : decide ((j : Int) < (m : Int)) = true := by simp only [decide_eq_true_eq]; omega
              have hd4 : decide ((j : Int) < 20) = true := by simp only [decide_eq_true_eq]; omega
              obtain ⟨b3, o3, rfl, hc3⟩ := HU1.out (by omega)
              have hlr : j < r.length := by rw [HM.out]; exact hjm
              have HZ := Lib.hid (List.getElem?_eq_getElem hlr)
              have cz := cell_later HWj.out (hc3 j _ HZ.out)
              have hz16 := wrap16 (HIX.out _ (List.getElem_mem hlr))
              have HTK : Hid (r.take (j + 1) = r.take j ++ [r[j]'hlr]) := Lib.hid (List.take_succ_eq_append_getElem hlr)
              have htl : (r.take j).length = j := by rw [List.length_take]; omega
              generalize r[j]'hlr = z at *
              have HTL := Lib.hid htl
              have hj0 : (0 : Int) ≤ (j : Int) := by omega
              have hj1 : (j : Int) < (m : Int) := by omega
              have u0 := (Cl.of_block HGR.out (j := 0) rfl).cell
              have u1 := (Cl.of_block HGR.out (j := 1) rfl).cell
              have f0 := (Cl.of_block HGR.out (j := 0) rfl).free
              have f1 := (Cl.of_block HGR.out (j := 1) rfl).free
              clear htl hlr
              have HES : Hid (encE r (j + 1) = (if j = 0 then z else (encE r j).1, if j = 1 then z else (encE r j).2)) := Lib.hid (by unfold encE; rw [HTK.out]; exact enc_step HTL.out)
              by_cases j0 : j = 0
              · have k0 : ((j : Int) == 0) = true := by simp; omega
                have k1 : ((j : Int) == 1) = false := by simp; omega
                have k2 : decide (2 < (j : Int)) = false := by simp only [decide_eq_false_iff_not]; omega
                have hE : Hid (encE r (j + 1) = (z, (encE r j).2)) := Lib.hid (by rw [HES.out, if_pos j0, if_neg (by omega)])
                have hP : Hid (ptsS r (j + 1) = ptsS r j) := Lib.hid (by unfold ptsS; rw [HTK.out]; exact pts_same HTL.out (by omega))
                have cz0 : wv.cell? ⟨b3, o3, none⟩ = some (.int .i16 z) := by rw [j0, Nat.add_zero] at cz; exact cz
                have m0 : (0 : Int) < (m : Int) := by omega
                have HX : Hid ((wv.setCell ⟨wo.heap.size, 0, none⟩ (.int .i64 z)).heap[wo.heap.size]? = some (.cells #[.int .i64 (encE r (j + 1)).1, .int .i64 (encE r (j + 1)).2, .slice AX l cX] 78)) := Lib.hid (by rw [hE.out]; exact set3_zero HGR.out)
                have HY : Hid ((wv.setCell ⟨wo.heap.size, 0, none⟩ (.int .i64 z)).ownsRow wo.heap.size 73 2 (.slice AX l cX) l (flat encP (ptsS r (j + 1)))) := Lib.hid (by rw [hP.out]; exact row_other HPR.out (grown_set wv wo.heap.size 0 (.int .i64 z)) (fun b' e => by cases e; exact ⟨_, _, HGR.out, by decide⟩))
                have hl3 : (ptsS r (j + 1)).length ≤ l := by rw [hP.out]; exact hl1
                have hl4 : l ≤ (ptsS r (j + 1)).length := by rw [hP.out]; exact hl2
                have HB := Lib.hid (HBj.out.setCell (p := ⟨wo.heap.size, 0, none⟩) (Nat.le_refl _) (.int .i64 z))
                clear j0 cz
                go_wp2_with fail
                go_roundw
                case rel => exact ⟨j + 1, _, _, _, by omega, by omega, by go_num, HX.out, HY.out, hl3, hl4, HB.out⟩
                case measure => simp [intOf]; omega
              · have k0 : ((j : Int) == 0) = false := by simp; omega
                by_cases j1 : j = 1
                · have k1 : ((j : Int) == 1) = true := by simp; omega
                  have k2 : decide (2 < (j : Int)) = false := by simp only [decide_eq_false_iff_not]; omega
                  have hE : Hid (encE r (j + 1) = ((encE r j).1, z)) := Lib.hid (by rw [HES.out, if_neg j0, if_pos j1])
                  have hP : Hid (ptsS r (j + 1) = ptsS r j) := Lib.hid (by unfold ptsS; rw [HTK.out]; exact pts_same HTL.out (by omega))
                  have cz0 : wv.cell? ⟨b3, o3 + 1, none⟩ = some (.int .i16 z) := by rw [j1] at cz; exact cz
                  have m0 : (1 : Int) < (m : Int) := by omega
                  have HX : Hid ((wv.setCell ⟨wo.heap.size, 1, none⟩ (.int .i64 z)).heap[wo.heap.size]? = some (.cells #[.int .i64 (encE r (j + 1)).1, .int .i64 (encE r (j + 1)).2, .slice AX l cX] 78)) := Lib.hid (by rw [hE.out]; exact set3_one HGR.out)
                  have HY : Hid ((wv.setCell ⟨wo.heap.size, 1, none⟩ (.int .i64 z)).ownsRow wo.heap.size 73 2 (.slice AX l cX) l (flat encP (ptsS r (j + 1)))) := Lib.hid (by rw [hP.out]; exact row_other HPR.out (grown_set wv wo.heap.size 1 (.int .i64 z)) (fun b' e => by cases e; exact ⟨_, _, HGR.out, by decide⟩))
                  have hl3 : (ptsS r (j + 1)).length ≤ l := by rw [hP.out]; exact hl1
                  have hl4 : l ≤ (ptsS r (j + 1)).length := by rw [hP.out]; exact hl2
                  have HB := Lib.hid (HBj.out.setCell (p := ⟨wo.heap.size, 1, none⟩) (Nat.le_refl _) (.int .i64 z))
                  clear j0 j1 cz
                  go_wp2_with fail
                  go_roundw
                  case rel => exact ⟨j + 1, _, _, _, by omega, by omega, by go_num, HX.out, HY.out, hl3, hl4, HB.out⟩
                  case measure => simp [intOf]; omega
                · have k1 : ((j : Int) == 1) = false := by simp; omega
                  have hE : Hid (encE r (j + 1) = encE r j) := Lib.hid (by rw [HES.out, if_neg j0, if_neg j1])
                  by_cases jo : 2 < j ∧ j % 2 = 1
                  · obtain ⟨q, hq⟩ : ∃ q, j = q + 1 := ⟨j - 1, by omega⟩
                    have hq1 : q + 1 ≤ j := by omega
                    have hq2 : j ≤ q + 1 := by omega
                    have hlq : q < r.length := by rw [HM.out]; omega
                    have HQ := Lib.hid (List.getElem?_eq_getElem hlq)
                    have cy := cell_later HWj.out (hc3 q _ HQ.out)
                    have hy16 := wrap16 (HIX.out _ (List.getElem_mem hlq))
                    have HTQ : Hid (r.take j = r.take q ++ [r[q]'hlq]) := Lib.hid (by rw [hq]; exact List.take_succ_eq_append_getElem hlq)
                    generalize r[q]'hlq = y at *
                    have hP : Hid (ptsS r (j + 1) = ptsS r j ++ [(y, z)]) := Lib.hid (by
                      unfold ptsS
                      rw [HTK.out, HTQ.out]
                      exact pts_more (j := q) (by rw [List.length_take, HM.out]; omega) (by omega) (by omega))
                    have HF0 : Hid (K3 wo.heap.size bU (oU + k) b3 o3 q j (.slice AX l cX) (.slice (some ⟨b3, o3, none⟩) m cU') y z wv.drew) := Lib.hid ⟨(Cl.of_block HGR.out (j := 2) rfl).cell, cu, cy, cz⟩
                    have hl3 : (ptsS r (j + 1)).length ≤ l + 1 := by rw [hP.out, List.length_append]; simp; omega
                    have hl4 : l + 1 ≤ (ptsS r (j + 1)).length := by rw [hP.out, List.length_append]; simp; omega
                    have hlb : l ≤ 1000 := by
                      have h : (ptsS r j).length ≤ 20 := by
                        have h2 := pairs_le ((r.take j).drop 2)
                        rw [List.length_drop, List.length_take] at h2
                        unfold ptsS
                        omega
                      omega
                    have kq : IntKind.i64.wrap ((j : Int) - 1) = (q : Int) := by rw [IntKind.wrap_i64]; omega
                    have kq0 : (0 : Int) ≤ (q : Int) := by omega
                    have kq1 : (q : Int) < (m : Int) := by omega
                    have k2 : decide (2 < (j : Int)) = true := by simp only [decide_eq_true_eq]; omega
                    have k3 : (((j : Int) % 2) == 1) = true := by simp; omega
                    have kz : IntKind.i64.wrap (j : Int) = (j : Int) := by rw [IntKind.wrap_i64]; omega
                    clear j0 j1 jo hq hlq
                    go_wp2_with fail
                    clear cu cz cy u0 u1 f0 f1
                    refine wp_region_headsV [(0, false), (1, true), (2, false), (3, false), (4, false), (5, true), (6, false), (7, false), (8, false), (9, true), (10, false), (11, false), (12, false), (13, false), (14, true), (15, false), (16, false), (17, true), (18, false), (19, false)] [21, 23] (fun _ => True) (K3 wo.heap.size bU (oU + k) b3 o3 q j (.slice AX l cX) (.slice (some ⟨b3, o3, none⟩) m cU') y z) (by kernel_rfl) (by kernel_rfl) trivial HF0.out ?_
                    iterate 20 (first | (refine wpHv_skip rfl (by rfl) ?_) | (refine wpHv_cons (v := ?_) rfl (by rfl) (fun wS hwS => ?_) ?_; rotate_left 1; (focus ((first | (have hwA := And.right hwS rfl) | (have hwA := And.left hwS)); clear hwS; (try dsimp only [K3] at hwA); go_simp; (try with_reducible rfl); (try (trace_state; fail))))); (try simp only [List.getElem_toArray, List.getElem_cons_zero, List.getElem_cons_succ]); (try simp only [Act.put, List.setIfInBounds_toArray, List.set_cons_zero, List.set_cons_succ]))
                    refine wpHv_nil ?_
                    change wpV _ _ _ _ _ _ _ (3 + 1) _ _ _
                    refine wpV_one (k := 20) (by kernel_rfl) rfl (fun K hK => ?_)
                    have HKK := Lib.hid hK
                    clear hK
                    go_simp
                    obtain ⟨wz, hwz⟩ : ∃ q, q = (wv.alloc (.cells #[.int .i64 y, .int .i64 z] 73)).drew := ⟨_, rfl⟩
                    rw [← hwz]
                    have Bz : Below wv.heap.size wv wz := by rw [hwz]; exact ((Below.refl _ _).alloc (Nat.le_refl _) _).drew
                    have HGz : Hid (wz.heap[wv.heap.size]? = some (.cells #[.int .i64 y, .int .i64 z] 73)) := Lib.hid (by rw [hwz]; exact heap_at rfl)
                    have HF6 : Hid (K3 wo.heap.size bU (oU + k) b3 o3 q j (.slice AX l cX) (.slice (some ⟨b3, o3, none⟩) m cU') y z wz) := Lib.hid (K3.later (w := wv) HF0.out Bz)
                    have HRz := Lib.hid (own_later HPR.out Bz)
                    have HQz := Lib.hid (block_later Bz HGR.out)
                    have HBz := Lib.hid (HBj.out.trans (Bz.mono (by omega)))
                    have hsz2 := Bz.size
                    clear hwz Bz
                    refine HKK.out _ _ ⟨trivial, fun _ _ => HF6.out⟩ ?_
                    clear HKK K
                    change wpV _ _ _ _ _ _ _ (2 + 1) _ _ _
                    refine wpV_one (k := 21) (by kernel_rfl) rfl (fun K hK => ?_)
                    have HKK := Lib.hid hK
                    clear hK
                    rw [if_pos (by rfl)]
                    refine wp_append_own _ (.tmp 98) (.tmp 117) 76 rfl wo.heap.size 73 iP (.agg #[.int .i64 0, .int .i64 0]) 2 16 Tryd.underlying76 hiP hzP0 hzP1 hzP2 rfl (by decide) (.slice AX l cX) l (flat encP (ptsS r j)) rfl HRz.out ⟨wv.heap.size, 0, none⟩ 1 1 [.int .i64 y, .int .i64 z] rfl rfl (World.news_of_block HGz.out) (by intro u hu; simp at hu; rcases hu with rfl | rfl <;> rfl) (by simp only [maxLen]; omega) (by omega) (by omega) ?_
                    intro V5 w5 hown hgrow _
                    obtain ⟨g5, c5, rfl⟩ := ownsRow_succ hown
                    have HO5 := Lib.hid hown
                    have HGG := Lib.hid hgrow
                    have hb5 := (hgrow.block wo.heap.size (Array.getElem?_eq_some_iff.1 HQz.out).1 (by intro e; obtain ⟨cur, hcur⟩ := own_typ HRz.out e.symm; exact ne_of_typ HQz.out hcur (by decide) rfl)).trans HQz.out
                    have q5 := (Cl.of_block hb5 (j := 2) rfl).cell
                    have r5 := (Cl.of_block hb5 (j := 2) rfl).free
                    have HB5 := Lib.hid hb5
                    clear hown hgrow hb5
                    refine HKK.out _ _ ⟨trivial, fun hn => absurd (by decide) hn⟩ ?_
                    clear HKK K
                    change wpV _ _ _ _ _ _ _ (1 + 1) _ _ _
                    refine wpV_one (k := 22) (by kernel_rfl) rfl (fun K hK => ?_)
                    have HKK := Lib.hid hK
                    clear hK
                    go_simp
                    refine HKK.out _ _ ⟨trivial, fun _ h => h⟩ ?_
                    clear HKK K
                    change wpV _ _ _ _ _ _ _ (0 + 1) _ _ _
                    refine wpV_one (k := 23) (by kernel_rfl) rfl (fun K hK => ?_)
                    have HKK := Lib.hid hK
                    clear hK
                    go_simp
                    go_simp
                    refine HKK.out _ _ ⟨trivial, fun hn => absurd (by decide) hn⟩ ?_
                    clear HKK K
                    refine wpV_done (by kernel_rfl) (NoPanic.normal ?_)
                    have HW : Hid (Below wo.heap.size wo (w5.setCell ⟨wo.heap.size, 2, none⟩ (.slice (some ⟨g5, 0, none⟩) (l + 1) c5))) := Lib.hid ((HBz.out.grown HGG.out (by omega) (fun q e => own_ge HRz.out e)).setCell (p := ⟨wo.heap.size, 2, none⟩) (Nat.le_refl _) _)
                    have HX5 : Hid ((w5.setCell ⟨wo.heap.size, 2, none⟩ (.slice (some ⟨g5, 0, none⟩) (l + 1) c5)).heap[wo.heap.size]? = some (.cells #[.int .i64 (encE r (j + 1)).1, .int .i64 (encE r (j + 1)).2, .slice (some ⟨g5, 0, none⟩) (l + 1) c5] 78)) := Lib.hid (by rw [hE.out]; exact set_two HB5.out)
                    have HY5 : Hid ((w5.setCell ⟨wo.heap.size, 2, none⟩ (.slice (some ⟨g5, 0, none⟩) (l + 1) c5)).ownsRow wo.heap.size 73 2 (.slice (some ⟨g5, 0, none⟩) (l + 1) c5) (l + 1) (flat encP (ptsS r (j + 1)))) := Lib.hid (by
                      have h := row_other HO5.out (grown_set w5 wo.heap.size 2 (.slice (some ⟨g5, 0, none⟩) (l + 1) c5)) (fun b' e => by cases e; exact ⟨_, _, HB5.out, by decide⟩)
                      rw [hP.out, flat_append]
                      simpa [flat, encP] using h)
                    clear q5 r5
                    go_wp2_with fail
                    clear kq kz
                    go_roundw
                    case rel => exact ⟨j + 1, _, _, _, by omega, by omega, by go_num, HX5.out, HY5.out, hl3, hl4, HW.out⟩
                    case measure => simp [intOf]; omega
                  · have hP : Hid (ptsS r (j + 1) = ptsS r j) := Lib.hid (by unfold ptsS; rw [HTK.out]; exact pts_same HTL.out jo)
                    have hl3 : (ptsS r (j + 1)).length ≤ l := by rw [hP.out]; exact hl1
                    have hl4 : l ≤ (ptsS r (j + 1)).length := by rw [hP.out]; exact hl2
                    have HX : Hid (wv.heap[wo.heap.size]? = some (.cells #[.int .i64 (encE r (j + 1)).1, .int .i64 (encE r (j + 1)).2, .slice AX l cX] 78)) := Lib.hid (by rw [hE.out]; exact HGR.out)
                    have HY : Hid (wv.ownsRow wo.heap.size 73 2 (.slice AX l cX) l (flat encP (ptsS r (j + 1)))) := Lib.hid (by rw [hP.out]; exact HPR.out)
                    obtain ⟨jm, hjm2⟩ : ∃ jm, (j : Int) % 2 = jm := ⟨_, rfl⟩
                    by_cases jl : 2 < j
                    · have k2 : decide (2 < (j : Int)) = true := by simp only [decide_eq_true_eq]; omega
                      have k3 : (jm == 1) = false := by simp; omega
                      clear j0 j1 jo jl cz
                      go_wp2_with fail
                      clear hjm2
                      go_roundw
                      case rel => exact ⟨j + 1, _, _, _, by omega, by omega, by go_num, HX.out, HY.out, hl3, hl4, HBj.out⟩
                      case measure => simp [intOf]; omega
                    · have k2 : decide (2 < (j : Int)) = false := by simp only [decide_eq_false_iff_not]; omega
                      clear j0 j1 jo jl cz hjm2
                      go_wp2_with fail
                      go_roundw
                      case rel => exact ⟨j + 1, _, _, _, by omega, by omega, by go_num, HX.out, HY.out, hl3, hl4, HBj.out⟩
                      case measure => simp [intOf]; omega
            · have HTJ : Hid (r.take j = r.take 20) := Lib.hid (by
                by_cases h8 : j = 20
                · rw [h8]
                · rw [List.take_of_length_le (by rw [HM.out]; omega), List.take_of_length_le (by rw [HM.out]; omega)])
              go_upto_region 12 with fail
              go_cut [67] (fun p wx => p = .bool false ∧ wx = wv)
              case first =>
                by_cases hn : j < m
                · have hd3 : decide ((j : Int) < (m : Int)) = true := by simp only [decide_eq_true_eq]; omega
                  have hd4 : decide ((j : Int) < 20) = false := by simp only [decide_eq_false_iff_not]; omega
                  go_wp2_with fail
                  go_meet
                  exact ⟨rfl, rfl⟩
                · have hd3 : decide ((j : Int) < (m : Int)) = false := by simp only [decide_eq_false_iff_not]; omega
                  go_wp2_with fail
                  go_meet
                  exact ⟨rfl, rfl⟩
              obtain ⟨rfl, hwc⟩ := hcut
              subst hwc
              obtain ⟨wv, rfl⟩ : ∃ q : World, q = wc := ⟨_, rfl⟩
              clear cu hjm
              have HDW := Lib.hid (block_later HBj.out HD0.out)
              have HR0W := Lib.hid (block_later HBj.out HR0.out)
              have hd1 := (Cl.of_block HDW.out (j := 1) rfl).cell
              have u0 := (Cl.of_block HGR.out (j := 0) rfl).cell
              have u1 := (Cl.of_block HGR.out (j := 1) rfl).cell
              have u2 := (Cl.of_block HGR.out (j := 2) rfl).cell
              have hl1e : ((bs.take 8).map bxS).length = i := HL8.out
              have hl2e : ((rs.take k).map rtS).length = k := by rw [List.length_map, List.length_take, HNR.out]; omega
              have HPL := Lib.hid (show (ptsS r j).length = l by omega)
              have hba : Below wv.heap.size wv (wv.alloc (.cells #[.int .i64 (encE r j).1, .int .i64 (encE r j).2, .slice AX l cX] 78)) := (Below.refl _ _).alloc (Nat.le_refl _) _
              have hbb : Below wo.heap.size wo (wv.alloc (.cells #[.int .i64 (encE r j).1, .int .i64 (encE r j).2, .slice AX l cX] 78)) := HBj.out.trans (hba.mono (by omega))
              have HDz : Hid (DrO (wv.alloc (.cells #[.int .i64 (encE r j).1, .int .i64 (encE r j).2, .slice AX l cX] 78)) (w.heap.size + 1) (w.heap.size + 1) (.slice AV i cV) (.slice AW k cW) M ((bs.take 8).map bxS, (rs.take k).map rtS)) := Lib.hid ⟨block_later hba HDW.out, Nat.le_refl _, by rw [hl1e]; exact own_later HRW.out hbb, by rw [hl2e]; exact own_later HRT.out hbb, HPC.out.later hbb⟩
              have HRz : Hid ((wv.alloc (.cells #[.int .i64 (encE r j).1, .int .i64 (encE r j).2, .slice AX l cX] 78)).ownsRow (w.heap.size + 1) 78 3 (.slice AW k cW) k (flat encM M)) := Lib.hid (own_later HRT.out hbb)
              have HPz : Hid ((wv.alloc (.cells #[.int .i64 (encE r j).1, .int .i64 (encE r j).2, .slice AX l cX] 78)).ownsRow (w.heap.size + 1) 73 2 (.slice AX l cX) (ptsS r j).length (flat encP (ptsS r j))) := Lib.hid (by rw [HPL.out]; exact own_later (row_rebase HPR.out (by omega)) hba)
              have HGz0 := Lib.hid (block_later hba HR0W.out)
              have HBz : Hid (Below w.heap.size w (wv.alloc (.cells #[.int .i64 (encE r j).1, .int .i64 (encE r j).2, .slice AX l cX] 78))) := Lib.hid (HWj.out.trans (hba.mono (by omega)))
              have HLE1 := Lib.hid hl1e
              have HLE2 := Lib.hid hl2e
              clear hl1e hl2e hba hbb
              go_upto_region 9 with (at_builtin; refine wpList_append_lies _ rfl (.tmp 121) (.tmp 123) 43 rfl (w.heap.size + 1) 78 iR (.agg #[.int .i64 0, .int .i64 0, .slice none 0 0]) 3 40 Tryd.underlying43 hiR hzR0 hzR1 hzR2 rfl (by decide) (.slice AW k cW) k (flat encM M) rfl HRz.out ⟨wv.heap.size, 0, none⟩ 1 1 [.int .i64 (encE r j).1, .int .i64 (encE r j).2, .slice AX l cX] rfl rfl (World.news_of_block (heap_at rfl)) (by intro y hy; simp at hy; rcases hy with rfl | rfl | rfl <;> rfl) (by omega) (by simp only [maxLen]; omega) (by omega) (by simp; omega) _ rfl ?_; intro gq cq w8 hown hgrow hat hlt; have hb8 := (hgrow.block (w.heap.size + 1) (Array.getElem?_eq_some_iff.1 HDz.out.cell).1 (by intro e; obtain ⟨cur, hcur⟩ := own_typ HRz.out e.symm; exact ne_of_typ HDz.out.cell hcur (by decide) rfl)).trans HDz.out.cell; have q8 := (Cl.of_block hb8 (j := 1) rfl).cell; have r8 := (Cl.of_block hb8 (j := 1) rfl).free)
              have hb0 := (hgrow.block w.heap.size (Array.getElem?_eq_some_iff.1 HGz0.out).1 (by intro e; obtain ⟨cur, hcur⟩ := own_typ HRz.out e.symm; exact ne_of_typ HGz0.out hcur (by decide) rfl)).trans HGz0.out
              have HD6 : Hid (DrO (w8.setCell ⟨w.heap.size + 1, 1, none⟩ (.slice (some ⟨gq, 0, none⟩) (k + 1) cq)) (w.heap.size + 1) (w.heap.size + 1) (.slice AV i cV) (.slice (some ⟨gq, 0, none⟩) (k + 1) cq) (M ++ [((encE r j).1, (encE r j).2, .slice AX l cX)]) ((bs.take 8).map bxS, (rs.take (k + 1)).map rtS)) := Lib.hid (by
                have h := DrO.route (m := ((encE r j).1, (encE r j).2, .slice AX l cX)) HDz.out hgrow (by show w8.ownsRow _ _ _ _ (((rs.take k).map rtS).length + 1) _; rw [HLE2.out]; exact hown) HPz.out
                rw [HT.out]
                have e : rtS r = (((encE r j).1, (encE r j).2), ptsS r j) := by
                  unfold rtS encE ptsS
                  rw [HTJ.out]
                  simp
                rw [e]
                exact h)
              have HX0 : Hid ((w8.setCell ⟨w.heap.size + 1, 1, none⟩ (.slice (some ⟨gq, 0, none⟩) (k + 1) cq)).heap[w.heap.size]? = some (.cells #[.slice none 0 0, .slice none 0 0] 45)) := Lib.hid (((grown_set w8 (w.heap.size + 1) 1 (.slice (some ⟨gq, 0, none⟩) (k + 1) cq)).block w.heap.size (Array.getElem?_eq_some_iff.1 hb0).1 (fun e => by injection e with e; omega)).trans hb0)
              have HXB : Hid (Below w.heap.size w (w8.setCell ⟨w.heap.size + 1, 1, none⟩ (.slice (some ⟨gq, 0, none⟩) (k + 1) cq))) := Lib.hid ((HBz.out.grown hgrow HBz.out.size (fun q hq => by have := own_ge HRz.out hq; omega)).setCell (p := ⟨w.heap.size + 1, 1, none⟩) (by simp) _)
              have HE1 : Hid ((w8.setCell ⟨w.heap.size + 1, 1, none⟩ (.slice (some ⟨gq, 0, none⟩) (k + 1) cq)).ownsRow (w.heap.size + 1) 75 4 (.slice AV i cV) i (flat encB ((bs.take 8).map bxS))) := Lib.hid (by
                have h := HD6.out.bx
                have e : ((bs.take 8).map bxS, (rs.take (k + 1)).map rtS).1.length = i := HLE1.out
                rw [e] at h
                exact h)
              have HE2 : Hid ((w8.setCell ⟨w.heap.size + 1, 1, none⟩ (.slice (some ⟨gq, 0, none⟩) (k + 1) cq)).ownsRow (w.heap.size + 1) 78 3 (.slice (some ⟨gq, 0, none⟩) (k + 1) cq) (k + 1) (flat encM (M ++ [((encE r j).1, (encE r j).2, .slice AX l cX)]))) := Lib.hid (by
                have h := HD6.out.rt
                have e : ((bs.take 8).map bxS, (rs.take (k + 1)).map rtS).2.length = k + 1 := by show ((rs.take (k + 1)).map rtS).length = _; rw [List.length_map, List.length_take, HNR.out]; omega
                rw [e] at h
                exact h)
              have HAQ : Hid (Apart (M ++ [((encE r j).1, (encE r j).2, .slice AX l cX)])) := Lib.hid (HAP.out.snoc HPC.out (Nat.le_refl _) (fun g e => own_ge HPR.out e))
              have hsx : w.heap.size + 2 ≤ (w8.setCell ⟨w.heap.size + 1, 1, none⟩ (.slice (some ⟨gq, 0, none⟩) (k + 1) cq)).heap.size := (Array.getElem?_eq_some_iff.1 HD6.out.cell).1
              clear hown hgrow hat hlt hb8 hb0 q8 r8 hd1 u0 u1 u2
              go_wp2_with fail
              go_roundw
              case rel => exact ⟨k + 1, _, _, _, by omega, by omega, by go_num, HX0.out, HD6.out.cell, HE1.out, HE2.out, HD6.out.pc, HAQ.out, hsx, HXB.out⟩
              case measure => simp [intOf]; omega
        · have HTK : Hid ((rs.take k).map rtS = (rs.take 8).map rtS) := Lib.hid (by
            by_cases h8 : k = 8
            · rw [h8]
            · rw [List.take_of_length_le (by rw [HNR.out]; omega), List.take_of_length_le (by rw [HNR.out]; omega)])
          have hl2e : ((rs.take k).map rtS).length = k := by rw [List.length_map, List.length_take, HNR.out]; omega
          go_upto_region 8 with fail
          go_cut [53] (fun p wx => p = .bool false ∧ wx = wo)
          case first =>
            by_cases hn : k < nr
            · have hd3 : decide ((k : Int) < (nr : Int)) = true := by simp only [decide_eq_true_eq]; omega
              have hd4 : decide ((k : Int) < 8) = false := by simp only [decide_eq_false_iff_not]; omega
              go_wp2_with fail
              go_meet
              exact ⟨rfl, rfl⟩
            · have hd3 : decide ((k : Int) < (nr : Int)) = false := by simp only [decide_eq_false_iff_not]; omega
              go_wp2_with fail
              go_meet
              exact ⟨rfl, rfl⟩
          obtain ⟨rfl, hwc⟩ := hcut
          subst hwc
          obtain ⟨wo, rfl⟩ : ∃ q : World, q = wc := ⟨_, rfl⟩
          have HFIN : Hid (DrR wo (w.heap.size + 1) (.slice AV i cV) (.slice AW k cW) M (someP bs rs)) := Lib.hid (by
            unfold someP
            rw [← HTK.out]
            exact ⟨by show wo.ownsRow _ _ _ _ ((bs.take 8).map bxS).length _; rw [HL8.out]; exact HRW.out, by show wo.ownsRow _ _ _ _ ((rs.take k).map rtS).length _; rw [hl2e]; exact HRT.out, HPC.out⟩)
          have d0 := (Cl.of_block HD0.out (j := 0) rfl).cell
          have d1 := (Cl.of_block HD0.out (j := 1) rfl).cell
          have p0 := (Cl.of_block HR0.out (j := 0) rfl).cell
          have p1 := (Cl.of_block HR0.out (j := 1) rfl).cell
          have r0 := (Cl.of_block HR0.out (j := 0) rfl).free
          have r1 := (Cl.of_block HR0.out (j := 1) rfl).free
          clear hkn hl2e
          go_wp2_with fail
          refine bodyPost_ret (v := .agg #[.slice AV i cV, .slice AW k cW]) ?_ rfl ⟨AV, i, cV, AW, k, cW, M, rfl, (HFIN.out.set HR0.out).set (set_zero HR0.out), HAP.out, (HBr.out.setCell (p := ⟨w.heap.size, 0, none⟩) (Nat.le_refl _) _).setCell (p := ⟨w.heap.size, 1, none⟩) (Nat.le_refl _) _⟩
          rw [results_one_cell rfl]
          go_simp
end Go.Proofs.YtkpgjgmlhcipeaaDoor
