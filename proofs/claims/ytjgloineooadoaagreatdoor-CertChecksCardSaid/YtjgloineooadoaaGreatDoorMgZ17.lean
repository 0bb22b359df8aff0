/- DagMany: a graph may have just so many nodes, and arcs. -/
import Derived.Test.YtjgloineooadoaaGreatDoorMgZ12
import Derived.Test.YtjgloineooadoaaGreatDoorMgZ15
import Derived.Test.YtjgloineooadoaaGreatDoorMgZ16
import Derived.Test.YtjgloineooadoaaGreatDoorMgZ6
import Derived.Test.YtjgloineooadoaaGreatDoorMgZ14
import Derived.Test.YtjgloineooadoaaGreatDoorMgZ4
namespace Go.Proofs.YtjgloineooadoaaGreatDoor
open Go.RowKit
def manyF (k : Nat) (j : Nat) : Value := .int .i64 (if j < 3 * k ∧ j % 3 = 1 then 1 else 0)
theorem info_arc : (Tryz.prog.info? 40).map (fun i => (i.zero, i.size, i.bytes)) = some (some (.agg #[.int .i64 0, .int .i64 0, .int .i64 0]), 3, 24) := by kernel_rfl
theorem row_made3 (w : World) (n : Nat) (t : TypeId) : (w.alloc (.cells (madeCells #[.int .i64 0, .int .i64 0, .int .i64 0] (n * 3)) t)).rowIs w.heap.size t (n * 3) (manyF 0) := by
  refine ⟨_, heap_alloc_new w _, size_madeCells _ _, fun i hi => ?_⟩
  unfold madeCells manyF
  rw [Array.getElem?_map]
  have h3 : i % 3 = 0 ∨ i % 3 = 1 ∨ i % 3 = 2 := by omega
  rcases h3 with h | h | h <;> simp [hi, h]
theorem many_arcs {w : World} {b t c : Nat} (h : w.rowIs b t (c * 3) (manyF c)) : Arcs w (.slice (some ⟨b, 0, none⟩) c c) (manyL c) := by
  have hl : (manyL c).length = c := by simp [manyL]
  refine ⟨some ⟨b, 0, none⟩, c, by rw [hl], by omega, (fun h => by cases h), fun hp => ⟨b, 0, rfl, fun i a hi r v hv => ?_⟩⟩
  have hic : i < c := by have := (List.getElem?_eq_some_iff.1 hi).1; omega
  obtain ⟨_, rfl⟩ := List.mem_replicate.1 (List.mem_of_getElem? hi)
  have hr : r < 3 := by have := (List.getElem?_eq_some_iff.1 hv).1; rw [encA_length] at this; exact this
  have e := h.cell (i := i * 3 + r) (by omega)
  rw [Nat.zero_add, e]
  have h1 : i * 3 + r < 3 * c := by omega
  have h2 : (i * 3 + r) % 3 = r := by omega
  unfold manyF
  rw [h2]
  match r, hr, hv with
  | 0, _, hv => simpa [encA, h1] using hv
  | 1, _, hv => simpa [encA, h1] using hv
  | 2, _, hv => simpa [encA, h1] using hv
end Go.Proofs.YtjgloineooadoaaGreatDoor
/- What a solver is made of, made in any order. -/
namespace Go.Proofs.YtjgloineooadoaaGreatDoor
open Go.RowKit
def dTy (j : Nat) : TypeId := if j < 2 then 29 else if j = 5 then 91 else if j = 6 then 4 else 3
def dLen (n m j : Nat) : Nat := if j = 3 then m else n
def dSz (n m j : Nat) : Nat := if j = 3 then m else if j = 5 then n * 2 else n
def dFn (sup : Nat → Int) (j : Nat) : Nat → Value := if j < 2 then fun _ => .slice none 0 0 else if j = 2 then fun v => .int .i64 (sup v) else if j = 5 then cameV (fun _ => (0, false)) else if j = 6 then fun _ => .bool false else fun _ => .int .i64 0
structure KB (n m : Nat) (sup : Nat → Int) (w0 w : World) (bs : List Bool) (U : Nat → Value) : Prop where
  bel : Below w0.heap.size w0 w
  p : ∀ j, bs[j]? = some true → ∃ b, U j = .slice (some ⟨b, 0, none⟩) (dLen n m j) (dLen n m j) ∧ w0.heap.size ≤ b ∧ w.rowIs b (dTy j) (dSz n m j) (dFn sup j)
  d : ∀ j k, j ≠ k → bs[j]? = some true → bs[k]? = some true → (U j).ownBlock ≠ (U k).ownBlock
theorem KB.add {n m : Nat} {sup : Nat → Int} {w0 w w' : World} {bs : List Bool} {U : Nat → Value} (K : KB n m sup w0 w bs U) {j b : Nat} (B : Below w.heap.size w w') (hb : w.heap.size ≤ b) (row : w'.rowIs b (dTy j) (dSz n m j) (dFn sup j)) :
    KB n m sup w0 w' (bs.set j true) (upd U j (.slice (some ⟨b, 0, none⟩) (dLen n m j) (dLen n m j))) := by
  have hs := K.bel.size
  have get : ∀ i, i ≠ j → (bs.set j true)[i]? = bs[i]? := fun i hi => by rw [List.getElem?_set_ne (Ne.symm hi)]
  have old : ∀ i, i ≠ j → (bs.set j true)[i]? = some true → ∃ b', upd U j (.slice (some ⟨b, 0, none⟩) (dLen n m j) (dLen n m j)) i = .slice (some ⟨b', 0, none⟩) (dLen n m i) (dLen n m i) ∧ w0.heap.size ≤ b' ∧ b' < w.heap.size ∧ w'.rowIs b' (dTy i) (dSz n m i) (dFn sup i) := fun i hi h => by
    rw [get i hi] at h
    obtain ⟨b', h1, h2, h3⟩ := K.p i h
    exact ⟨b', by unfold upd; rw [if_neg hi]; exact h1, h2, h3.lt, h3.of_block (B.block b' h3.lt)⟩
  refine ⟨below_then K.bel hs B, fun i h => ?_, fun i k hik hi hk => ?_⟩
  · by_cases e : i = j
    · subst e
      exact ⟨b, by simp [upd], by omega, row⟩
    · obtain ⟨b', h1, h2, _, h4⟩ := old i e h
      exact ⟨b', h1, h2, h4⟩
  · have new : upd U j (.slice (some ⟨b, 0, none⟩) (dLen n m j) (dLen n m j)) j = .slice (some ⟨b, 0, none⟩) (dLen n m j) (dLen n m j) := by simp [upd]
    by_cases e1 : i = j
    · subst e1
      obtain ⟨b', h1, _, h3, _⟩ := old k (Ne.symm hik) hk
      rw [new, h1]
      intro h
      have : b = b' := by simpa [Value.ownBlock] using h
      omega
    · obtain ⟨b1, g1, _, g3, _⟩ := old i e1 hi
      by_cases e2 : k = j
      · subst e2
        rw [new, g1]
        intro h
        have : b1 = b := by simpa [Value.ownBlock] using h
        omega
      · have hi' := hi
        have hk' := hk
        rw [get i e1] at hi'
        rw [get k e2] at hk'
        have := K.d i k hik hi' hk'
        unfold upd
        rw [if_neg e1, if_neg e2]
        exact this
/-- The rows made, with their blocks. -/
structure Made (n : Nat) (L : List Arc) (w0 w : World) (AA : Option Addr) (cA bx sb bo bi bl bf br bm bc : Nat) : Prop where
  bel : Below w0.heap.size w0 w
  nd : [sb, bo, bi, bl, bf, br, bm, bc].Nodup
  ge : ∀ b ∈ [sb, bo, bi, bl, bf, br, bm, bc], w0.heap.size ≤ b
  top : w.heap[sb]? = some (.cells #[.slice AA L.length cA, .slice (some ⟨bo, 0, none⟩) n n, .slice (some ⟨bi, 0, none⟩) n n, .slice (some ⟨bl, 0, none⟩) n n, .slice (some ⟨bf, 0, none⟩) L.length L.length, .slice (some ⟨bx, 0, none⟩) n n, .slice (some ⟨br, 0, none⟩) n n, .slice (some ⟨bm, 0, none⟩) n n, .slice (some ⟨bc, 0, none⟩) n n] 65)
  o : w.rowIs bo 29 n (fun _ => .slice none 0 0)
  i : w.rowIs bi 29 n (fun _ => .slice none 0 0)
  l : w.rowIs bl 3 n (fun v => .int .i64 (nf (gfL n L) (wtL L) v L.length))
  f : w.rowIs bf 3 L.length (fun _ => .int .i64 0)
  r : w.rowIs br 3 n (fun _ => .int .i64 0)
  m : w.rowIs bm 91 (n * 2) (cameV (fun _ => (0, false)))
  c : w.rowIs bc 4 n (fun _ => .bool false)
theorem row_came (w : World) (n : Nat) (t : TypeId) : (w.alloc (.cells (madeCells #[.int .i64 0, .bool false] (n * 2)) t)).rowIs w.heap.size t (n * 2) (cameV (fun _ => (0, false))) := by
  refine ⟨_, heap_alloc_new w _, size_madeCells _ _, fun i hi => ?_⟩
  unfold madeCells cameV
  rw [Array.getElem?_map]
  have h3 : i % 2 = 0 ∨ i % 2 = 1 := by omega
  rcases h3 with h | h <;> simp [hi, h]
theorem KB.all {n : Nat} {L : List Arc} {w0 w : World} {U : Nat → Value} (K : KB n L.length (fun v => nf (gfL n L) (wtL L) v L.length) w0 w [true, true, true, true, true, true, true] U) :
    ∃ bo bi bl bf br bm bc : Nat, U 0 = .slice (some ⟨bo, 0, none⟩) n n ∧ U 1 = .slice (some ⟨bi, 0, none⟩) n n ∧ U 2 = .slice (some ⟨bl, 0, none⟩) n n ∧ U 3 = .slice (some ⟨bf, 0, none⟩) L.length L.length ∧ U 4 = .slice (some ⟨br, 0, none⟩) n n ∧ U 5 = .slice (some ⟨bm, 0, none⟩) n n ∧ U 6 = .slice (some ⟨bc, 0, none⟩) n n ∧
      ∀ (AA : Option Addr) (cA bx : Nat), Made n L w0 (w.alloc (.cells #[.slice AA L.length cA, .slice (some ⟨bo, 0, none⟩) n n, .slice (some ⟨bi, 0, none⟩) n n, .slice (some ⟨bl, 0, none⟩) n n, .slice (some ⟨bf, 0, none⟩) L.length L.length, .slice (some ⟨bx, 0, none⟩) n n, .slice (some ⟨br, 0, none⟩) n n, .slice (some ⟨bm, 0, none⟩) n n, .slice (some ⟨bc, 0, none⟩) n n] 65)) AA cA bx w.heap.size bo bi bl bf br bm bc := by
  obtain ⟨b0, e0, q0, r0⟩ := K.p 0 rfl
  obtain ⟨b1, e1, q1, r1⟩ := K.p 1 rfl
  obtain ⟨b2, e2, q2, r2⟩ := K.p 2 rfl
  obtain ⟨b3, e3, q3, r3⟩ := K.p 3 rfl
  obtain ⟨b4, e4, q4, r4⟩ := K.p 4 rfl
  obtain ⟨b5, e5, q5, r5⟩ := K.p 5 rfl
  obtain ⟨b6, e6, q6, r6⟩ := K.p 6 rfl
  have D : ∀ {j k bj bk : Nat} {l1 l2 l3 l4 : Nat}, j ≠ k → ([true, true, true, true, true, true, true] : List Bool)[j]? = some true → ([true, true, true, true, true, true, true] : List Bool)[k]? = some true → U j = .slice (some ⟨bj, 0, none⟩) l1 l2 → U k = .slice (some ⟨bk, 0, none⟩) l3 l4 → bj ≠ bk := fun hjk h1 h2 ej ek e => by
    refine K.d _ _ hjk h1 h2 ?_
    rw [ej, ek, e]
    rfl
  have d01 := D (by decide) rfl rfl e0 e1
  have d02 := D (by decide) rfl rfl e0 e2
  have d03 := D (by decide) rfl rfl e0 e3
  have d04 := D (by decide) rfl rfl e0 e4
  have d05 := D (by decide) rfl rfl e0 e5
  have d06 := D (by decide) rfl rfl e0 e6
  have d12 := D (by decide) rfl rfl e1 e2
  have d13 := D (by decide) rfl rfl e1 e3
  have d14 := D (by decide) rfl rfl e1 e4
  have d15 := D (by decide) rfl rfl e1 e5
  have d16 := D (by decide) rfl rfl e1 e6
  have d23 := D (by decide) rfl rfl e2 e3
  have d24 := D (by decide) rfl rfl e2 e4
  have d25 := D (by decide) rfl rfl e2 e5
  have d26 := D (by decide) rfl rfl e2 e6
  have d34 := D (by decide) rfl rfl e3 e4
  have d35 := D (by decide) rfl rfl e3 e5
  have d36 := D (by decide) rfl rfl e3 e6
  have d45 := D (by decide) rfl rfl e4 e5
  have d46 := D (by decide) rfl rfl e4 e6
  have d56 := D (by decide) rfl rfl e5 e6
  have l0 := r0.lt
  have l1 := r1.lt
  have l2 := r2.lt
  have l3 := r3.lt
  have l4 := r4.lt
  have l5 := r5.lt
  have l6 := r6.lt
  have hs := K.bel.size
  refine ⟨b0, b1, b2, b3, b4, b5, b6, e0, e1, e2, e3, e4, e5, e6, fun AA cA bx => ?_⟩
  generalize hc : Obj.cells _ _ = c
  have B : Below w.heap.size w (w.alloc c) := (Below.refl _ _).alloc (Nat.le_refl _) _
  refine ⟨below_then K.bel hs B, ?_, ?_, ?_, r0.of_block (B.block _ l0), r1.of_block (B.block _ l1), r2.of_block (B.block _ l2), r3.of_block (B.block _ l3), r4.of_block (B.block _ l4), r5.of_block (B.block _ l5), r6.of_block (B.block _ l6)⟩
  · simp only [List.nodup_cons, List.mem_cons, List.not_mem_nil, or_false, not_or, List.nodup_nil, and_true, not_false_eq_true]
    have f : ∀ {b : Nat}, b < w.heap.size → w.heap.size ≠ b := fun h e => Nat.lt_irrefl _ (e ▸ h)
    exact ⟨⟨f l0, f l1, f l2, f l3, f l4, f l5, f l6⟩, ⟨d01, d02, d03, d04, d05, d06⟩, ⟨d12, d13, d14, d15, d16⟩, ⟨d23, d24, d25, d26⟩, ⟨d34, d35, d36⟩, ⟨d45, d46⟩, d56⟩
  · intro b hb
    simp only [List.mem_cons, List.not_mem_nil, or_false] at hb
    rcases hb with rfl | rfl | rfl | rfl | rfl | rfl | rfl | rfl
    · exact hs
    · exact q0
    · exact q1
    · exact q2
    · exact q3
    · exact q4
    · exact q5
    · exact q6
  · rw [heap_alloc_new, ← hc]
end Go.Proofs.YtjgloineooadoaaGreatDoor
/- The rows of arcs' numbers, put one arc after another. -/
namespace Go.Proofs.YtjgloineooadoaaGreatDoor
open Go.RowKit
def rws (n : Nat) (L : List Arc) (j v : Nat) : List Nat := if v < n then (List.range j).filter (fun i => frL L i == v) else (List.range j).filter (fun i => ttL L i == v - n)
theorem rws_zero (n : Nat) (L : List Arc) (v : Nat) : rws n L 0 v = [] := by unfold rws; split <;> rfl
theorem rws_len (n : Nat) (L : List Arc) (j v : Nat) : (rws n L j v).length ≤ j := by
  unfold rws
  split
  · exact Nat.le_trans (List.length_filter_le _ _) (by simp)
  · exact Nat.le_trans (List.length_filter_le _ _) (by simp)
theorem rws_succ {n : Nat} {L : List Arc} {j : Nat} (hf : frL L j < n) (v : Nat) : rws n L (j + 1) v = if v = frL L j ∨ v = n + ttL L j then rws n L j v ++ [j] else rws n L j v := by
  unfold rws
  rw [List.range_succ, List.filter_append, List.filter_append]
  by_cases hv : v < n
  · rw [if_pos hv, if_pos hv]
    by_cases e : frL L j = v
    · rw [if_pos (.inl e.symm)]; simp [e]
    · rw [if_neg (by omega)]; simp [e]
  · rw [if_neg hv, if_neg hv]
    by_cases e : ttL L j = v - n
    · rw [if_pos (.inr (by omega))]; simp [e]
    · rw [if_neg (by omega)]; simp [e]
theorem rws_out {n : Nat} {L : List Arc} {v : Nat} (hv : v < n) {i : Nat} : i ∈ rws n L L.length v ↔ i < L.length ∧ frL L i = v := by
  unfold rws
  rw [if_pos hv]
  simp
theorem rws_in {n : Nat} {L : List Arc} {v : Nat} {i : Nat} : i ∈ rws n L L.length (n + v) ↔ i < L.length ∧ ttL L i = v := by
  unfold rws
  rw [if_neg (by omega)]
  simp
theorem RS.congr {w : World} {base E sz m : Nat} {VV V2 : Nat → Value} {K K2 : Nat → Nat} {X X2 : Nat → List Value} (h : RS w base E sz m VV K X) (e : ∀ j, j < m → VV j = V2 j ∧ K j = K2 j ∧ X j = X2 j) : RS w base E sz m V2 K2 X2 := by
  refine ⟨fun j hj => ?_, fun u v hu hv hne g hgu => ?_⟩
  · obtain ⟨e1, e2, e3⟩ := e j hj
    rw [← e1, ← e2, ← e3]
    exact h.rows j hj
  · rw [← (e u hu).1] at hgu
    rw [← (e v hv).1]
    exact h.apart u v hu hv hne g hgu
theorem RS.chg {w w' : World} {base E sz m : Nat} {VV : Nat → Value} {K : Nat → Nat} {X : Nat → List Value} {S : Nat → Prop} (h : RS w base E sz m VV K X) (c : Chg S w w') (hS : ∀ b, base ≤ b → ¬ S b) : RS w' base E sz m VV K X :=
  ⟨fun j hj => own_chg (h.rows j hj) c (fun _ hg => hS _ (own_ge (h.rows j hj) hg)), h.apart⟩
/-- Where the loop stands that puts the arcs. -/
structure Pt (n : Nat) (L : List Arc) (wM : World) (bo bi j : Nat) (w : World) (VV : Nat → Value) : Prop where
  chg : Chg (fun b => b = bo ∨ b = bi) wM w
  o : w.rowIs bo 29 n VV
  i : w.rowIs bi 29 n (fun v => VV (n + v))
  rs : RS w wM.heap.size 3 1 (2 * n) VV (fun v => (rws n L j v).length) (fun v => flat encN (rws n L j v))
theorem Pt.begin {n : Nat} {L : List Arc} {w0 wM : World} {A : Option Addr} {cap bx sb bo bi bl bf br bm bc : Nat} (h : Made n L w0 wM A cap bx sb bo bi bl bf br bm bc) : Pt n L wM bo bi 0 wM (fun _ => .slice none 0 0) := by
  refine ⟨Chg.refl _ _, h.o, h.i, fun j _ => ?_, fun u v _ _ _ g hg => by simp [Value.ownBlock] at hg⟩
  simp only [rws_zero]
  exact ⟨rfl, .inl ⟨rfl, rfl⟩⟩
theorem Pt.later {n : Nat} {L : List Arc} {wM w w' : World} {bo bi j : Nat} {VV : Nat → Value} (h : Pt n L wM bo bi j w VV) (b : Below w.heap.size w w') : Pt n L wM bo bi j w' VV :=
  ⟨h.chg.trans (chg_below b _) (fun _ _ h => h), h.o.of_block (b.block _ h.o.lt), h.i.of_block (b.block _ h.i.lt), h.rs.later b⟩
/-- Both rows have grown, and are stored. -/
theorem Pt.next {n : Nat} {L : List Arc} {wM wA wB : World} {bo bi j : Nat} {VV : Nat → Value} (h : Pt n L wM bo bi j wA VV) (hoi : bo ≠ bi) (ho : bo < wM.heap.size) (hi : bi < wM.heap.size)
    (hf : frL L j < n) (B : Below wM.heap.size wA wB) {V1 V2 : Value}
    (rs : RS wB wM.heap.size 3 1 (2 * n) (upd (upd VV (frL L j) V1) (n + ttL L j) V2) (upd (upd (fun v => (rws n L j v).length) (frL L j) ((rws n L j (frL L j)).length + 1)) (n + ttL L j) ((rws n L j (n + ttL L j)).length + 1))
      (upd (upd (fun v => flat encN (rws n L j v)) (frL L j) (flat encN (rws n L j (frL L j)) ++ encN j)) (n + ttL L j) (flat encN (rws n L j (n + ttL L j)) ++ encN j))) :
    Pt n L wM bo bi (j + 1) ((wB.setCell ⟨bo, frL L j, none⟩ V1).setCell ⟨bi, ttL L j, none⟩ V2) (upd (upd VV (frL L j) V1) (n + ttL L j) V2) := by
  have o1 := (h.o.of_block (B.block _ ho)).set (frL L j) V1
  have i1 := (row_set_ne (h.i.of_block (B.block _ hi)) (p := ⟨bo, frL L j, none⟩) (v := V1) (Ne.symm hoi)).set (ttL L j) V2
  have o2 := row_set_ne o1 (p := ⟨bi, ttL L j, none⟩) (v := V2) hoi
  refine ⟨?_, o2.congr (fun v hv => ?_), i1.congr (fun v hv => ?_), ?_⟩
  · have c1 : Chg (fun b => b = bo ∨ b = bi) wM wB := h.chg.trans (S' := fun b => wM.heap.size ≤ b) ⟨B.os, B.tape, B.output, B.size, fun b _ hn => B.block b (by omega)⟩ (fun b hb hge => by have : wM.heap.size ≤ b := hge; omega)
    exact (c1.trans (chg_set wB ⟨bo, frL L j, none⟩ V1) (fun b _ hb => .inl hb)).trans (chg_set _ ⟨bi, ttL L j, none⟩ V2) (fun b _ hb => .inr hb)
  · unfold upd
    rw [if_neg (show ¬ v = n + ttL L j by omega)]
  · unfold upd
    by_cases e : v = ttL L j
    · rw [if_pos e, if_pos (by omega)]
    · rw [if_neg e, if_neg (by omega), if_neg (by omega)]
  · have r1 := (rs.chg (chg_set wB ⟨bo, frL L j, none⟩ V1) (fun b hb e => by have : b = bo := e; omega)).chg (chg_set _ ⟨bi, ttL L j, none⟩ V2) (fun b hb e => by have : b = bi := e; omega)
    refine r1.congr (fun v _ => ⟨rfl, ?_, ?_⟩)
    · rw [rws_succ hf v]
      unfold upd
      by_cases e1 : v = n + ttL L j
      · rw [if_pos e1, if_pos (.inr e1), e1]; simp
      · rw [if_neg e1]
        by_cases e2 : v = frL L j
        · rw [if_pos e2, if_pos (.inl e2), e2]; simp
        · rw [if_neg e2, if_neg (by omega)]
    · rw [rws_succ hf v]
      unfold upd
      by_cases e1 : v = n + ttL L j
      · rw [if_pos e1, if_pos (.inr e1), e1, flat_append]; simp [flat]
      · rw [if_neg e1]
        by_cases e2 : v = frL L j
        · rw [if_pos e2, if_pos (.inl e2), e2, flat_append]; simp [flat]
        · rw [if_neg e2, if_neg (by omega)]
/-- A solver made of all that. -/
def svOf (n : Nat) (L : List Arc) (A : Option Addr) (cap sb bo bi bl bf bx br bm bc lo hi : Nat) : Sv :=
  { n := n, L := L, outs := fun v => rws n L L.length v, ins := fun v => rws n L L.length (n + v), sb := sb, bl := bl, bf := bf, bx := bx, br := br, bm := bm, bc := bc, AA := A, cA := cap, bo := bo, bi := bi, R := fun b => b = sb ∨ b = bo ∨ b = bi ∨ (lo ≤ b ∧ b < hi) ∨ (b < bx ∧ b < lo) }
theorem nodup_get {sb bo bi bl bf br bm bc : Nat} (h : [sb, bo, bi, bl, bf, br, bm, bc].Nodup) {w0 : Nat} (hg : ∀ b ∈ [sb, bo, bi, bl, bf, br, bm, bc], w0 ≤ b) {bx : Nat} (hx : bx < w0) : [bl, bf, bx, br, bm, bc].Nodup ∧ sb ∉ [bl, bf, bx, br, bm, bc] ∧ bo ∉ [bl, bf, bx, br, bm, bc] ∧ bi ∉ [bl, bf, bx, br, bm, bc] ∧ bo ≠ bi ∧ sb ≠ bo ∧ sb ≠ bi := by
  have f : ∀ b, b ∈ [sb, bo, bi, bl, bf, br, bm, bc] → bx ≠ b := fun b hb e => by have := hg b hb; omega
  have x0 := f sb (by simp)
  have x1 := f bo (by simp)
  have x2 := f bi (by simp)
  have x3 := f bl (by simp)
  have x4 := f bf (by simp)
  have x5 := f br (by simp)
  have x6 := f bm (by simp)
  have x7 := f bc (by simp)
  clear f hg hx
  simp only [List.nodup_cons, List.mem_cons, List.not_mem_nil, or_false, not_or, List.nodup_nil, and_true, not_false_eq_true] at h ⊢
  obtain ⟨⟨a1, a2, a3, a4, a5, a6, a7⟩, ⟨b2, b3, b4, b5, b6, b7⟩, ⟨c3, c4, c5, c6, c7⟩, ⟨d4, d5, d6, d7⟩, ⟨e5, e6, e7⟩, ⟨g6, g7⟩, g8⟩ := h
  exact ⟨⟨⟨d4, Ne.symm x3, d5, d6, d7⟩, ⟨Ne.symm x4, e5, e6, e7⟩, ⟨x5, x6, x7⟩, ⟨g6, g7⟩, g8⟩, ⟨a3, a4, Ne.symm x0, a5, a6, a7⟩, ⟨b3, b4, Ne.symm x1, b5, b6, b7⟩, ⟨c3, c4, Ne.symm x2, c5, c6, c7⟩, b2, a1, a2⟩
theorem rows_of {w : World} {base n : Nat} {VV : Nat → Value} {N : Nat → List Nat} {b : Nat} {R : Nat → Prop} (o : w.rowIs b 29 n VV) (rs : ∀ v, v < n → w.ownsRow base 3 1 (VV v) (N v).length (flat encN (N v))) (hR : ∀ g, base ≤ g → g < w.heap.size → R g) : RowsA w R b n N := by
  intro v hv
  have hr := rs v hv
  rcases hr.2 with ⟨h1, h2⟩ | ⟨g, cap, cur, h1, h2, h3, _⟩
  · refine ⟨none, 0, ?_, fun hl => by omega⟩
    rw [o.cell hv, h1, h2]
  · refine ⟨some ⟨g, 0, none⟩, cap, ?_, fun _ => ⟨g, 0, rfl, hR g h2 (Array.getElem?_eq_some_iff.1 h3).1, fun j i hj => ?_⟩⟩
    · rw [o.cell hv, h1]
    · rw [Nat.zero_add]
      exact own_nat hr h1 hj
theorem Pt.done {n : Nat} {L : List Arc} {w1 wM w : World} {A : Option Addr} {cap bx sb bo bi bl bf br bm bc : Nat} {VV : Nat → Value} (k : Okg n L) (M : Made n L w1 wM A cap bx sb bo bi bl bf br bm bc) (h : Pt n L wM bo bi L.length w VV)
    {X : Nat → Int} (RX : w1.rowIs bx 3 n (fun v => .int .i64 (X v)))
    (hA : 0 < L.length → ∃ b off, A = some ⟨b, off, none⟩ ∧ b < bx ∧ ∀ i a, L[i]? = some a → w1.cell? ⟨b, off + i * 3, none⟩ = some (.int .i64 a.1) ∧ w1.cell? ⟨b, off + i * 3 + 1, none⟩ = some (.int .i64 a.2.1) ∧ w1.cell? ⟨b, off + i * 3 + 2, none⟩ = some (.int .i64 a.2.2)) :
    (svOf n L A cap sb bo bi bl bf bx br bm bc wM.heap.size w.heap.size).ok ∧ (svOf n L A cap sb bo bi bl bf bx br bm bc wM.heap.size w.heap.size).st w (fun v => nf (gfL n L) (wtL L) v L.length) (fun _ => 0) X (fun _ => 0) (fun _ => (0, false)) (fun _ => false) := by
  have hx := RX.lt
  have hs := M.bel.size
  have hw := h.chg.size
  obtain ⟨n1, n2, n3, n4, n5, n6, n7⟩ := nodup_get M.nd M.ge hx
  have lM : ∀ b, b ∈ [bl, bf, bx, br, bm, bc] → b < wM.heap.size := fun b hb => by
    simp only [List.mem_cons, List.not_mem_nil, or_false] at hb
    rcases hb with rfl | rfl | rfl | rfl | rfl | rfl
    · exact M.l.lt
    · exact M.f.lt
    · omega
    · exact M.r.lt
    · exact M.m.lt
    · exact M.c.lt
  have ls : sb < wM.heap.size := (Array.getElem?_eq_some_iff.1 M.top).1
  have lo := M.o.lt
  have li := M.i.lt
  have gx : ∀ b, b ∈ [bl, bf, bx, br, bm, bc] → ¬ b < bx := fun b hb => by
    have hg := M.ge b
    simp only [List.mem_cons, List.not_mem_nil, or_false] at hb hg
    rcases hb with rfl | rfl | rfl | rfl | rfl | rfl
    · have := hg (by simp); omega
    · have := hg (by simp); omega
    · omega
    · have := hg (by simp); omega
    · have := hg (by simp); omega
    · have := hg (by simp); omega
  have keep : ∀ {b t : Nat} {m : Nat} {f : Nat → Value}, b ∈ [bl, bf, bx, br, bm, bc] → wM.rowIs b t m f → w.rowIs b t m f := fun hb r => row_chg r h.chg (by
    rintro (rfl | rfl)
    · exact n3 hb
    · exact n4 hb)
  have rb : ∀ {b : Nat}, b < bx → w.heap[b]? = w1.heap[b]? := fun {b} hb => by
    have hg1 := M.ge bo (by simp)
    have hg2 := M.ge bi (by simp)
    rw [h.chg.block b (by omega) (by omega), M.bel.block b (by omega)]
  refine ⟨⟨k, n1, ?_, ?_, ?_, ?_, ?_, ?_, ?_⟩, ⟨⟨?_, .inl rfl, .inr (.inl rfl), .inr (.inr (.inl rfl)), ?_, ?_, ?_, ?_⟩, ?_, ?_, ?_, ?_, ?_, ?_⟩⟩
  · intro b hb hm
    rcases hb with rfl | rfl | rfl | ⟨hb, _⟩ | ⟨hb, _⟩
    · exact n2 hm
    · exact n3 hm
    · exact n4 hm
    · have := lM b hm; omega
    · exact gx b hm hb
  · exact fun v hv i hi => (rws_out hv).1 hi
  · exact fun i hi => (rws_out (k.at_ hi).2.1).2 ⟨hi, rfl⟩
  · exact fun v hv => rws_len _ _ _ _
  · exact fun v hv i hi => rws_in.1 hi
  · exact fun i hi => rws_in.2 ⟨hi, rfl⟩
  · exact fun v hv => rws_len _ _ _ _
  · intro b hb
    rcases hb with rfl | rfl | rfl | ⟨_, hb⟩ | ⟨_, hb⟩ <;> omega
  · exact (h.chg.block sb ls (by rintro (e | e); exact n6 e; exact n7 e)).trans M.top
  · intro hl
    obtain ⟨b, off, e, hb, hc⟩ := hA hl
    refine ⟨b, off, e, .inr (.inr (.inr (.inr ⟨hb, by omega⟩))), fun i a hi => ?_⟩
    obtain ⟨c1, c2, c3⟩ := hc i a hi
    exact ⟨(World.cell?_of_block (rb hb)).trans c1, (World.cell?_of_block (rb hb)).trans c2, (World.cell?_of_block (rb hb)).trans c3⟩
  · exact rows_of (n := n) h.o (fun v (hv : v < n) => h.rs.rows v (by omega)) (fun g h1 h2 => .inr (.inr (.inr (.inl ⟨h1, h2⟩))))
  · exact rows_of (n := n) h.i (fun v (hv : v < n) => h.rs.rows (n + v) (by omega)) (fun g h1 h2 => .inr (.inr (.inr (.inl ⟨h1, h2⟩))))
  · exact keep (b := bl) (by simp) M.l
  · exact keep (b := bf) (by simp) M.f
  · exact keep (b := bx) (by simp) (RX.of_block (M.bel.block bx hx))
  · exact keep (b := br) (by simp) M.r
  · exact keep (b := bm) (by simp) M.m
  · exact keep (b := bc) (by simp) M.c
end Go.Proofs.YtjgloineooadoaaGreatDoor
/- A region that draws its order: some operations of which one may wait for another. No program in sight. -/
namespace Go.Proofs.YtjgloineooadoaaGreatDoor
section
variable {P : Program} {md : Region.Mode} {ops : Array Oper} {Q : Exit → Act → World → Prop} {S : World → Prop}
def bagOKp (md : Region.Mode) (ops : Array Oper) (T : List Nat) (base : Array Bool) : Bool :=
  (allB T.length).all fun bs => bs.all id || (!(Region.ready md ops (bagMk T base bs)).isEmpty && (Region.ready md ops (bagMk T base bs)).all (fun i => ((T.zip bs).filterMap (fun p => if p.2 then none else some p.1)).contains i)) &&
    (List.range T.length).all fun j => (bs.getD j true) || (bagMk T base bs).setIfInBounds (T.getD j 0) true == bagMk T base (bs.set j true)
def bagOKr (md : Region.Mode) (ops : Array Oper) (T : List Nat) (base : Array Bool) (rc : List Bool → Bool) : Bool :=
  (allB T.length).all fun bs => !rc bs || (bs.all id || (!(Region.ready md ops (bagMk T base bs)).isEmpty && (Region.ready md ops (bagMk T base bs)).all (fun i => ((T.zip bs).filterMap (fun p => if p.2 then none else some p.1)).contains i)) &&
    (List.range T.length).all fun j => (bs.getD j true) || (bagMk T base bs).setIfInBounds (T.getD j 0) true == bagMk T base (bs.set j true))
theorem wpAnyH_bagp (T : List Nat) (base : Array Bool) (hB : bagOKp md ops T base = true) (J : List Bool → Act → World → Prop) (fuel : Nat)
    (hstep : ∀ (bs : List Bool) (j i : Nat) (a : Act) (w : World), bs.length = T.length → T[j]? = some i → bs[j]? = some false → i ∈ Region.ready md ops (bagMk T base bs) → J bs a w → wpOp P ops Q i (fun a' w' => S w' ∧ J (bs.set j true) a' w') a w)
    (hend : ∀ (bs : List Bool) (a : Act) (w : World), bs.length = T.length → bs.all id = true → J bs a w → wpAnyH P md ops Q S fuel (bagMk T base bs) a w) :
    ∀ (k : Nat) (bs : List Bool) (a : Act) (w : World), bs.length = T.length → bs.count false = k → J bs a w → wpAnyH P md ops Q S (k + fuel) (bagMk T base bs) a w := by
  intro k
  induction k with
  | zero =>
    intro bs a w hl hc hJ
    rw [Nat.zero_add]
    refine hend bs a w hl (List.all_eq_true.2 (fun b hb => ?_)) hJ
    cases b with
    | true => rfl
    | false => exact absurd hb (List.count_eq_zero.1 hc)
  | succ k ih =>
    intro bs a w hl hc hJ
    have h0 := List.all_eq_true.1 hB bs (mem_allB hl)
    have hna : bs.all id = false := by
      cases e : bs.all id with
      | false => rfl
      | true => have := count_zero e; omega
    rw [hna, Bool.false_or, Bool.and_eq_true, Bool.and_eq_true] at h0
    obtain ⟨⟨he, hr⟩, hs⟩ := h0
    rw [show k + 1 + fuel = (k + fuel) + 1 by omega]
    have key : ∀ i ∈ Region.ready md ops (bagMk T base bs), wpOp P ops Q i (fun a' w' => S w' ∧ wpAnyH P md ops Q S (k + fuel) ((bagMk T base bs).setIfInBounds i true) a' w') a w := fun i hi => by
      have hc' := List.all_eq_true.1 hr i hi
      obtain ⟨j, hj, h1, h2⟩ := bag_unset hl.symm (List.contains_iff_mem.1 hc')
      have hset := List.all_eq_true.1 hs j (List.mem_range.2 hj)
      have e1 : bs.getD j true = false := by rw [List.getD_eq_getElem?_getD, h2]; rfl
      have e2 : T.getD j 0 = i := by rw [List.getD_eq_getElem?_getD, h1]; rfl
      rw [e1, e2, Bool.false_or, beq_iff_eq] at hset
      rw [hset]
      refine wpOp_mono (fun a' w' h => ⟨h.1, ih _ a' w' (by simpa using hl) (by have := count_set_lt h2; omega) h.2⟩) (hstep bs j i a w hl h1 h2 hi hJ)
    refine ⟨fun h => ?_, key⟩
    rw [h] at he
    cases he
theorem wpW_bagp {W : List Nat} (T : List Nat) (base : Array Bool) (hB : bagOKp md ops T base = true) (J : List Bool → Act → World → Prop) (fuel : Nat)
    (hstep : ∀ (bs : List Bool) (j i : Nat) (a : Act) (w : World), bs.length = T.length → T[j]? = some i → bs[j]? = some false → i ∈ Region.ready md ops (bagMk T base bs) → J bs a w → wpOp P ops Q i (fun a' w' => (i ∉ W → S w') ∧ J (bs.set j true) a' w') a w)
    (hend : ∀ (bs : List Bool) (a : Act) (w : World), bs.length = T.length → bs.all id = true → J bs a w → wpW P md ops Q S W fuel (bagMk T base bs) a w) :
    ∀ (k : Nat) (bs : List Bool) (a : Act) (w : World), bs.length = T.length → bs.count false = k → J bs a w → wpW P md ops Q S W (k + fuel) (bagMk T base bs) a w := by
  intro k
  induction k with
  | zero =>
    intro bs a w hl hc hJ
    rw [Nat.zero_add]
    refine hend bs a w hl (List.all_eq_true.2 (fun b hb => ?_)) hJ
    cases b with
    | true => rfl
    | false => exact absurd hb (List.count_eq_zero.1 hc)
  | succ k ih =>
    intro bs a w hl hc hJ
    have h0 := List.all_eq_true.1 hB bs (mem_allB hl)
    have hna : bs.all id = false := by
      cases e : bs.all id with
      | false => rfl
      | true => have := count_zero e; omega
    rw [hna, Bool.false_or, Bool.and_eq_true, Bool.and_eq_true] at h0
    obtain ⟨⟨he, hr⟩, hs⟩ := h0
    rw [show k + 1 + fuel = (k + fuel) + 1 by omega]
    have key : ∀ i ∈ Region.ready md ops (bagMk T base bs), wpOp P ops Q i (fun a' w' => (i ∉ W → S w') ∧ wpW P md ops Q S W (k + fuel) ((bagMk T base bs).setIfInBounds i true) a' w') a w := fun i hi => by
      have hc' := List.all_eq_true.1 hr i hi
      obtain ⟨j, hj, h1, h2⟩ := bag_unset hl.symm (List.contains_iff_mem.1 hc')
      have hset := List.all_eq_true.1 hs j (List.mem_range.2 hj)
      have e1 : bs.getD j true = false := by rw [List.getD_eq_getElem?_getD, h2]; rfl
      have e2 : T.getD j 0 = i := by rw [List.getD_eq_getElem?_getD, h1]; rfl
      rw [e1, e2, Bool.false_or, beq_iff_eq] at hset
      rw [hset]
      refine wpOp_mono (fun a' w' h => ⟨h.1, ih _ a' w' (by simpa using hl) (by have := count_set_lt h2; omega) h.2⟩) (hstep bs j i a w hl h1 h2 hi hJ)
    refine ⟨fun h => ?_, key⟩
    rw [h] at he
    cases he
theorem wpV_bagp {A : World → Prop} {W : List Nat} (T : List Nat) (base : Array Bool) (rc : List Bool → Bool) (hB : bagOKr md ops T base rc = true) (J : List Bool → Act → World → Prop) (fuel : Nat) (hrc : ∀ bs a w, J bs a w → rc bs = true)
    (hstep : ∀ (bs : List Bool) (j i : Nat) (a : Act) (w : World), bs.length = T.length → T[j]? = some i → bs[j]? = some false → i ∈ Region.ready md ops (bagMk T base bs) → J bs a w → wpOp P ops Q i (fun a' w' => (A w' ∧ (i ∉ W → S w → S w')) ∧ J (bs.set j true) a' w') a w)
    (hend : ∀ (bs : List Bool) (a : Act) (w : World), bs.length = T.length → bs.all id = true → J bs a w → wpV P md ops Q A S W fuel (bagMk T base bs) a w) :
    ∀ (k : Nat) (bs : List Bool) (a : Act) (w : World), bs.length = T.length → bs.count false = k → J bs a w → wpV P md ops Q A S W (k + fuel) (bagMk T base bs) a w := by
  intro k
  induction k with
  | zero =>
    intro bs a w hl hc hJ
    rw [Nat.zero_add]
    refine hend bs a w hl (List.all_eq_true.2 (fun b hb => ?_)) hJ
    cases b with
    | true => rfl
    | false => exact absurd hb (List.count_eq_zero.1 hc)
  | succ k ih =>
    intro bs a w hl hc hJ
    have h0 := List.all_eq_true.1 hB bs (mem_allB hl)
    rw [hrc bs a w hJ, Bool.not_true, Bool.false_or] at h0
    have hna : bs.all id = false := by
      cases e : bs.all id with
      | false => rfl
      | true => have := count_zero e; omega
    rw [hna, Bool.false_or, Bool.and_eq_true, Bool.and_eq_true] at h0
    obtain ⟨⟨he, hr⟩, hs⟩ := h0
    rw [show k + 1 + fuel = (k + fuel) + 1 by omega]
    have key : ∀ i ∈ Region.ready md ops (bagMk T base bs), wpOp P ops Q i (fun a' w' => (A w' ∧ (i ∉ W → S w → S w')) ∧ wpV P md ops Q A S W (k + fuel) ((bagMk T base bs).setIfInBounds i true) a' w') a w := fun i hi => by
      have hc' := List.all_eq_true.1 hr i hi
      obtain ⟨j, hj, h1, h2⟩ := bag_unset hl.symm (List.contains_iff_mem.1 hc')
      have hset := List.all_eq_true.1 hs j (List.mem_range.2 hj)
      have e1 : bs.getD j true = false := by rw [List.getD_eq_getElem?_getD, h2]; rfl
      have e2 : T.getD j 0 = i := by rw [List.getD_eq_getElem?_getD, h1]; rfl
      rw [e1, e2, Bool.false_or, beq_iff_eq] at hset
      rw [hset]
      refine wpOp_mono (fun a' w' h => ⟨h.1, ih _ a' w' (by simpa using hl) (by have := count_set_lt h2; omega) h.2⟩) (hstep bs j i a w hl h1 h2 hi hJ)
    refine ⟨fun h => ?_, key⟩
    rw [h] at he
    cases he
theorem bag_dep {T : List Nat} {base : Array Bool} {rc : List Bool → Bool} {i j' : Nat} (h : ((allB T.length).all fun bs => !rc bs || !(Region.ready md ops (bagMk T base bs)).contains i || bs[j']? == some true) = true) {bs : List Bool} (hl : bs.length = T.length) (hrc : rc bs = true) (hi : i ∈ Region.ready md ops (bagMk T base bs)) : bs[j']? = some true := by
  have h0 := List.all_eq_true.1 h bs (mem_allB hl)
  rw [hrc, List.contains_iff_mem.2 hi, Bool.not_true, Bool.false_or, Bool.false_or, beq_iff_eq] at h0
  exact h0
end
end Go.Proofs.YtjgloineooadoaaGreatDoor
/- An arc's number put at the end of two rows: the four operations, in whatever order. -/
namespace Go.Proofs.YtjgloineooadoaaGreatDoor
open Go.RowKit
def vvB (VV : Nat → Value) (f t : Nat) (bs : List Bool) (U : Nat → Value) : Nat → Value := if bs[3]? = some true then upd (upd VV f (U 1)) t (U 3) else if bs[1]? = some true then upd VV f (U 1) else VV
def kkB (n : Nat) (L : List Arc) (j f t : Nat) (bs : List Bool) : Nat → Nat := if bs[3]? = some true then upd (upd (fun v => (rws n L j v).length) f ((rws n L j f).length + 1)) t ((rws n L j t).length + 1) else if bs[1]? = some true then upd (fun v => (rws n L j v).length) f ((rws n L j f).length + 1) else fun v => (rws n L j v).length
def xxB (n : Nat) (L : List Arc) (j f t : Nat) (bs : List Bool) : Nat → List Value := if bs[3]? = some true then upd (upd (fun v => flat encN (rws n L j v)) f (flat encN (rws n L j f) ++ encN j)) t (flat encN (rws n L j t) ++ encN j) else if bs[1]? = some true then upd (fun v => flat encN (rws n L j v)) f (flat encN (rws n L j f) ++ encN j) else fun v => flat encN (rws n L j v)
def rcB (bs : List Bool) : Bool := (!(bs.getD 1 false) || bs.getD 0 false) && (!(bs.getD 3 false) || (bs.getD 1 false && bs.getD 2 false))
/-- What stands when some of the four are done: 0 and 2 lay the number into a block, 1 and 3 put it at a row's end. -/
structure JB (n : Nat) (L : List Arc) (base j f t : Nat) (wA : World) (VV : Nat → Value) (bs : List Bool) (U : Nat → Value) (w : World) : Prop where
  be : Below base wA w
  lo : base ≤ wA.heap.size
  a0 : bs[1]? = some true → bs[0]? = some true
  a1 : bs[3]? = some true → bs[1]? = some true ∧ bs[2]? = some true
  p : ∀ k, (k = 0 ∨ k = 2) → bs[k]? = some true → ∃ e, U k = .slice (some ⟨e, 0, none⟩) 1 1 ∧ wA.heap.size ≤ e ∧ e < w.heap.size ∧ w.heap[e]? = some (.cells #[.int .i64 (j : Nat)] 3)
  s : ∀ k, (k = 1 ∨ k = 3) → bs[k]? = some true → ∃ q c, U k = .slice (some ⟨q, 0, none⟩) ((rws n L j (if k = 1 then f else t)).length + 1) c
  r : RS w base 3 1 (2 * n) (vvB VV f t bs U) (kkB n L j f t bs) (xxB n L j f t bs)
theorem JB.rc {n : Nat} {L : List Arc} {base j f t : Nat} {wA w : World} {VV : Nat → Value} {bs : List Bool} {U : Nat → Value} (h : JB n L base j f t wA VV bs U w) : rcB bs = true := by
  have a0 := h.a0
  have a1 := h.a1
  have e : ∀ k, bs.getD k false = true ↔ bs[k]? = some true := fun k => by
    rw [List.getD_eq_getElem?_getD]
    cases bs[k]? with
    | none => simp
    | some b => simp
  unfold rcB
  rw [← e, ← e] at a0
  rw [← e, ← e, ← e] at a1
  generalize bs.getD 0 false = x0 at *
  generalize bs.getD 1 false = x1 at *
  generalize bs.getD 2 false = x2 at *
  generalize bs.getD 3 false = x3 at *
  cases x0 <;> cases x1 <;> cases x2 <;> cases x3 <;> simp_all
theorem set_get {bs : List Bool} {k i : Nat} (h : (bs.set k true)[i]? = some true) (hne : i ≠ k) : bs[i]? = some true := by
  rwa [List.getElem?_set_ne (Ne.symm hne)] at h
theorem JB.begin {n : Nat} {L : List Arc} {wM wA : World} {bo bi j f t : Nat} {VV : Nat → Value} (h : Pt n L wM bo bi j wA VV) (U : Nat → Value) : JB n L wM.heap.size j f t wA VV [false, false, false, false] U wA.drew := by
  refine ⟨(Below.refl _ _).drew, h.chg.size, fun h => by simp at h, fun h => by simp at h, fun k hk h => ?_, fun k hk h => ?_, ?_⟩
  · rcases hk with rfl | rfl <;> simp at h
  · rcases hk with rfl | rfl <;> simp at h
  · exact h.rs.later (Below.refl _ _).drew
/-- The number laid into a block. -/
theorem JB.lay {n : Nat} {L : List Arc} {base j f t : Nat} {wA w w' : World} {VV : Nat → Value} {bs : List Bool} {U : Nat → Value} (h : JB n L base j f t wA VV bs U w) {k e : Nat} (hk : k = 0 ∨ k = 2) (hb : bs[k]? = some false) (B : Below w.heap.size w w') (he : w.heap.size ≤ e) (hl : w'.heap[e]? = some (.cells #[.int .i64 (j : Nat)] 3)) :
    JB n L base j f t wA VV (bs.set k true) (upd U k (.slice (some ⟨e, 0, none⟩) 1 1)) w' := by
  have hs := h.be.size
  have g : ∀ i, (i = 1 ∨ i = 3) → (bs.set k true)[i]? = bs[i]? := fun i hi => List.getElem?_set_ne (by omega)
  have hlt := (List.getElem?_eq_some_iff.1 hb).1
  have self : (bs.set k true)[k]? = some true := by rw [List.getElem?_set_self hlt]
  have mono : ∀ i, bs[i]? = some true → (bs.set k true)[i]? = some true := fun i hi => by
    by_cases e : i = k
    · rw [e]; exact self
    · rw [List.getElem?_set_ne (Ne.symm e)]; exact hi
  have ue : ∀ i, (i = 1 ∨ i = 3) → upd U k (.slice (some ⟨e, 0, none⟩) 1 1) i = U i := fun i hi => by
    unfold upd
    rw [if_neg (by omega)]
  refine ⟨h.be.trans (B.mono (by have := h.lo; omega)), h.lo, fun h1 => ?_, fun h3 => ?_, fun i hi hbi => ?_, fun i hi hbi => ?_, ?_⟩
  · rw [g 1 (.inl rfl)] at h1; exact mono 0 (h.a0 h1)
  · rw [g 3 (.inr rfl)] at h3
    rw [g 1 (.inl rfl)]
    exact ⟨(h.a1 h3).1, mono 2 (h.a1 h3).2⟩
  · by_cases ei : i = k
    · subst ei
      exact ⟨e, by simp [upd], by omega, (Array.getElem?_eq_some_iff.1 hl).1, hl⟩
    · obtain ⟨e', h1, h2, h3, h4⟩ := h.p i hi (set_get hbi ei)
      exact ⟨e', by unfold upd; rw [if_neg ei]; exact h1, h2, Nat.lt_of_lt_of_le h3 B.size, (B.block e' h3).trans h4⟩
  · rw [g i hi] at hbi
    rw [ue i hi]
    exact h.s i hi hbi
  · have r := h.r.later B
    unfold vvB kkB xxB at r ⊢
    rw [g 1 (.inl rfl), g 3 (.inr rfl), ue 1 (.inl rfl), ue 3 (.inr rfl)]
    exact r
/-- The number put at the end of out's row. -/
theorem JB.put1 {n : Nat} {L : List Arc} {base j f t : Nat} {wA w w' : World} {VV : Nat → Value} {bs : List Bool} {U : Nat → Value} (h : JB n L base j f t wA VV bs U w) (hf : f < n) (hb0 : bs[0]? = some true) (hb1 : bs[1]? = some false) (hVf : ∀ g, (VV f).ownBlock = some g → g < wA.heap.size)
    {q cq : Nat} (hown : w'.ownsRow base 3 1 (.slice (some ⟨q, 0, none⟩) ((rws n L j f).length + 1) cq) ((rws n L j f).length + 1) (flat encN (rws n L j f) ++ encN j)) (hg : w.grownBy w' (VV f).ownBlock) (hat : (VV f).ownBlock = some q ∨ w.heap.size ≤ q) (hge : ∀ g, (VV f).ownBlock = some g → base ≤ g) :
    JB n L base j f t wA VV (bs.set 1 true) (upd U 1 (.slice (some ⟨q, 0, none⟩) ((rws n L j f).length + 1) cq)) w' := by
  have hb3 : bs[3]? ≠ some true := fun e => by rw [(h.a1 e).1] at hb1; cases hb1
  have hlt := (List.getElem?_eq_some_iff.1 hb1).1
  have g : ∀ i, i ≠ 1 → (bs.set 1 true)[i]? = bs[i]? := fun i hi => List.getElem?_set_ne (Ne.symm hi)
  have self : (bs.set 1 true)[1]? = some true := by rw [List.getElem?_set_self hlt]
  refine ⟨h.be.grown hg (Nat.le_trans h.lo h.be.size) (fun q hq => hge q hq), h.lo, fun _ => ?_, fun h3 => ?_, fun i hi hbi => ?_, fun i hi hbi => ?_, ?_⟩
  · rw [g 0 (by omega)]; exact hb0
  · rw [g 3 (by omega)] at h3; exact absurd h3 hb3
  · rw [g i (by omega)] at hbi
    obtain ⟨e', h1, h2, h3, h4⟩ := h.p i hi hbi
    exact ⟨e', by unfold upd; rw [if_neg (by omega)]; exact h1, h2, Nat.lt_of_lt_of_le h3 hg.size, (hg.block e' h3 (fun e => by have := hVf e' e.symm; omega)).trans h4⟩
  · rcases hi with rfl | rfl
    · exact ⟨q, cq, by simp [upd]⟩
    · rw [g 3 (by omega)] at hbi; exact absurd hbi hb3
  · have r := h.r
    have hb1' : bs[1]? ≠ some true := by rw [hb1]; simp
    unfold vvB kkB xxB at r ⊢
    rw [g 3 (by omega), self, if_neg hb3, if_neg hb3, if_neg hb3, if_pos rfl, if_pos rfl, if_pos rfl]
    rw [if_neg hb3, if_neg hb3, if_neg hb3, if_neg hb1', if_neg hb1', if_neg hb1'] at r
    have e : upd U 1 (.slice (some ⟨q, 0, none⟩) ((rws n L j f).length + 1) cq) 1 = .slice (some ⟨q, 0, none⟩) ((rws n L j f).length + 1) cq := by simp [upd]
    rw [e]
    exact r.push f (by omega) hown hg hat
/-- The number put at the end of in's row. -/
theorem JB.put3 {n : Nat} {L : List Arc} {base j f t : Nat} {wA w w' : World} {VV : Nat → Value} {bs : List Bool} {U : Nat → Value} (h : JB n L base j f t wA VV bs U w) (ht : t < 2 * n) (hft : f ≠ t) (hb1 : bs[1]? = some true) (hb2 : bs[2]? = some true) (hb3 : bs[3]? = some false) (hVf : ∀ g, (VV t).ownBlock = some g → g < wA.heap.size)
    {q cq : Nat} (hown : w'.ownsRow base 3 1 (.slice (some ⟨q, 0, none⟩) ((rws n L j t).length + 1) cq) ((rws n L j t).length + 1) (flat encN (rws n L j t) ++ encN j)) (hg : w.grownBy w' (VV t).ownBlock) (hat : (VV t).ownBlock = some q ∨ w.heap.size ≤ q) (hge : ∀ g, (VV t).ownBlock = some g → base ≤ g) :
    JB n L base j f t wA VV (bs.set 3 true) (upd U 3 (.slice (some ⟨q, 0, none⟩) ((rws n L j t).length + 1) cq)) w' := by
  have hb3' : bs[3]? ≠ some true := by rw [hb3]; simp
  have hlt := (List.getElem?_eq_some_iff.1 hb3).1
  have g : ∀ i, i ≠ 3 → (bs.set 3 true)[i]? = bs[i]? := fun i hi => List.getElem?_set_ne (Ne.symm hi)
  have self : (bs.set 3 true)[3]? = some true := by rw [List.getElem?_set_self hlt]
  refine ⟨h.be.grown hg (Nat.le_trans h.lo h.be.size) (fun q hq => hge q hq), h.lo, fun _ => ?_, fun _ => ?_, fun i hi hbi => ?_, fun i hi hbi => ?_, ?_⟩
  · rw [g 0 (by omega)]; exact h.a0 hb1
  · rw [g 1 (by omega), g 2 (by omega)]; exact ⟨hb1, hb2⟩
  · rw [g i (by omega)] at hbi
    obtain ⟨e', h1, h2, h3, h4⟩ := h.p i hi hbi
    exact ⟨e', by unfold upd; rw [if_neg (by omega)]; exact h1, h2, Nat.lt_of_lt_of_le h3 hg.size, (hg.block e' h3 (fun e => by have := hVf e' e.symm; omega)).trans h4⟩
  · rcases hi with rfl | rfl
    · rw [g 1 (by omega)] at hbi
      obtain ⟨q', c', e'⟩ := h.s 1 (.inl rfl) hbi
      exact ⟨q', c', by unfold upd; rw [if_neg (by omega)]; exact e'⟩
    · exact ⟨q, cq, by simp [upd]⟩
  · have r := h.r
    unfold vvB kkB xxB at r ⊢
    rw [self, if_pos rfl, if_pos rfl, if_pos rfl]
    rw [if_neg hb3', if_neg hb3', if_neg hb3', if_pos hb1, if_pos hb1, if_pos hb1] at r
    have e : upd U 3 (.slice (some ⟨q, 0, none⟩) ((rws n L j t).length + 1) cq) 3 = .slice (some ⟨q, 0, none⟩) ((rws n L j t).length + 1) cq := by simp [upd]
    have e1 : upd U 3 (.slice (some ⟨q, 0, none⟩) ((rws n L j t).length + 1) cq) 1 = U 1 := by simp [upd]
    have e2 : upd VV f (U 1) t = VV t := by unfold upd; rw [if_neg (Ne.symm hft)]
    rw [e, e1]
    exact r.push t ht hown (by rw [e2]; exact hg) (by rw [e2]; exact hat)
theorem JB.row1 {n : Nat} {L : List Arc} {base j f t : Nat} {wA w : World} {VV : Nat → Value} {bs : List Bool} {U : Nat → Value} (h : JB n L base j f t wA VV bs U w) (hf : f < 2 * n) (hb1 : bs[1]? = some false) : w.ownsRow base 3 1 (VV f) (rws n L j f).length (flat encN (rws n L j f)) := by
  have hb3 : bs[3]? ≠ some true := fun e => by rw [(h.a1 e).1] at hb1; cases hb1
  have hb1' : bs[1]? ≠ some true := by rw [hb1]; simp
  have r := h.r.rows f hf
  unfold vvB kkB xxB at r
  rw [if_neg hb3, if_neg hb3, if_neg hb3, if_neg hb1', if_neg hb1', if_neg hb1'] at r
  exact r
theorem JB.row3 {n : Nat} {L : List Arc} {base j f t : Nat} {wA w : World} {VV : Nat → Value} {bs : List Bool} {U : Nat → Value} (h : JB n L base j f t wA VV bs U w) (ht : t < 2 * n) (hft : f ≠ t) (hb1 : bs[1]? = some true) (hb3 : bs[3]? = some false) : w.ownsRow base 3 1 (VV t) (rws n L j t).length (flat encN (rws n L j t)) := by
  have hb3' : bs[3]? ≠ some true := by rw [hb3]; simp
  have r := h.r.rows t ht
  unfold vvB kkB xxB at r
  rw [if_neg hb3', if_neg hb3', if_neg hb3', if_pos hb1, if_pos hb1, if_pos hb1] at r
  unfold upd at r
  rw [if_neg (Ne.symm hft), if_neg (Ne.symm hft), if_neg (Ne.symm hft)] at r
  exact r
theorem JB.all {n : Nat} {L : List Arc} {base j f t : Nat} {wA w : World} {VV : Nat → Value} {U : Nat → Value} (h : JB n L base j f t wA VV [true, true, true, true] U w) :
    ∃ q1 c1 q2 c2, U 1 = .slice (some ⟨q1, 0, none⟩) ((rws n L j f).length + 1) c1 ∧ U 3 = .slice (some ⟨q2, 0, none⟩) ((rws n L j t).length + 1) c2 ∧
      RS w base 3 1 (2 * n) (upd (upd VV f (.slice (some ⟨q1, 0, none⟩) ((rws n L j f).length + 1) c1)) t (.slice (some ⟨q2, 0, none⟩) ((rws n L j t).length + 1) c2)) (upd (upd (fun v => (rws n L j v).length) f ((rws n L j f).length + 1)) t ((rws n L j t).length + 1))
        (upd (upd (fun v => flat encN (rws n L j v)) f (flat encN (rws n L j f) ++ encN j)) t (flat encN (rws n L j t) ++ encN j)) := by
  obtain ⟨q1, c1, e1⟩ := h.s 1 (.inl rfl) rfl
  obtain ⟨q2, c2, e2⟩ := h.s 3 (.inr rfl) rfl
  refine ⟨q1, c1, q2, c2, e1, e2, ?_⟩
  have e1' : U 1 = .slice (some ⟨q1, 0, none⟩) ((rws n L j f).length + 1) c1 := e1
  have e2' : U 3 = .slice (some ⟨q2, 0, none⟩) ((rws n L j t).length + 1) c2 := e2
  rw [← e1', ← e2']
  have r := h.r
  have h3 : ([true, true, true, true] : List Bool)[3]? = some true := rfl
  unfold vvB kkB xxB at r
  rw [if_pos h3, if_pos h3, if_pos h3] at r
  exact r
/-- The cells that the round's reads look at. -/
def SixA (z sb bo bi f t n : Nat) (w : World) : Prop := w.cell? ⟨z, 0, none⟩ = some (.int .i64 (f : Nat)) ∧ w.cell? ⟨z, 1, none⟩ = some (.int .i64 (t : Nat)) ∧ w.cell? ⟨sb, 1, none⟩ = some (.slice (some ⟨bo, 0, none⟩) n n) ∧ w.cell? ⟨sb, 2, none⟩ = some (.slice (some ⟨bi, 0, none⟩) n n)
def SixS (bo bi f t : Nat) (V1 V2 : Value) (w : World) : Prop := w.cell? ⟨bo, f, none⟩ = some V1 ∧ w.cell? ⟨bi, t, none⟩ = some V2
theorem SixA.of {z sb bo bi f t n : Nat} {w w' : World} (h : SixA z sb bo bi f t n w) (hz : w'.heap[z]? = w.heap[z]?) (hs : w'.heap[sb]? = w.heap[sb]?) : SixA z sb bo bi f t n w' :=
  ⟨(World.cell?_of_block hz).trans h.1, (World.cell?_of_block hz).trans h.2.1, (World.cell?_of_block hs).trans h.2.2.1, (World.cell?_of_block hs).trans h.2.2.2⟩
theorem SixS.of {bo bi f t : Nat} {V1 V2 : Value} {w w' : World} (h : SixS bo bi f t V1 V2 w) (ho : w'.heap[bo]? = w.heap[bo]?) (hi : w'.heap[bi]? = w.heap[bi]?) : SixS bo bi f t V1 V2 w' :=
  ⟨(World.cell?_of_block ho).trans h.1, (World.cell?_of_block hi).trans h.2⟩
/-- Both hold, and the four blocks lie. -/
structure Six (z sb bo bi f t n : Nat) (V1 V2 : Value) (w : World) : Prop where
  a : SixA z sb bo bi f t n w
  s : SixS bo bi f t V1 V2 w
theorem Six.later {z sb bo bi f t n : Nat} {V1 V2 : Value} {w w' : World} (h : Six z sb bo bi f t n V1 V2 w) (b : Below w.heap.size w w') : Six z sb bo bi f t n V1 V2 w' :=
  have l1 := World.block_lt_of_cell? _ _ h.a.1
  have l2 := World.block_lt_of_cell? _ _ h.a.2.2.1
  have l3 := World.block_lt_of_cell? _ _ h.s.1
  have l4 := World.block_lt_of_cell? _ _ h.s.2
  ⟨h.a.of (b.block z l1) (b.block sb l2), h.s.of (b.block bo l3) (b.block bi l4)⟩
theorem Six.grown {z sb bo bi f t n : Nat} {V1 V2 : Value} {w w' : World} (h : Six z sb bo bi f t n V1 V2 w) {row : Option Nat} (g : w.grownBy w' row) (hne : ∀ q, row = some q → q ≠ z ∧ q ≠ sb ∧ q ≠ bo ∧ q ≠ bi) : Six z sb bo bi f t n V1 V2 w' :=
  have l1 := World.block_lt_of_cell? _ _ h.a.1
  have l2 := World.block_lt_of_cell? _ _ h.a.2.2.1
  have l3 := World.block_lt_of_cell? _ _ h.s.1
  have l4 := World.block_lt_of_cell? _ _ h.s.2
  ⟨h.a.of (g.block z l1 (fun e => (hne z e.symm).1 rfl)) (g.block sb l2 (fun e => (hne sb e.symm).2.1 rfl)), h.s.of (g.block bo l3 (fun e => (hne bo e.symm).2.2.1 rfl)) (g.block bi l4 (fun e => (hne bi e.symm).2.2.2 rfl))⟩
end Go.Proofs.YtjgloineooadoaaGreatDoor
