/- Drawings in a world: rows of one's own, pieces, what stays. No program in sight but the types' numbers. -/
import Derived.Test.YtkpgjgmlhcipeaaDoorRowS
import Derived.Test.YtkpgjgmlhcipeaaDoorPgP
namespace Go.Proofs.YtkpgjgmlhcipeaaDoor
open Go.RowKit
def encP (p : Pt) : List Value := [.int .i64 p.1, .int .i64 p.2]
theorem encP_length (p : Pt) : (encP p).length = 2 := rfl
def encB (b : Bx) : List Value := [.int .i64 b.1.1, .int .i64 b.1.2, .int .i64 b.2.1, .int .i64 b.2.2]
theorem encB_length (b : Bx) : (encB b).length = 4 := rfl
/-- A route's own cells: its two ends, the slice of its points. -/
abbrev Mt := Int × Int × Value
def encM (m : Mt) : List Value := [.int .i64 m.1, .int .i64 m.2.1, m.2.2]
theorem encM_length (m : Mt) : (encM m).length = 3 := rfl
abbrev Pts (w : World) (V : Value) (L : List Pt) : Prop := Sl 2 encP w V L
theorem Pts.at_ {w : World} {V : Value} {L : List Pt} (h : Pts w V L) : ∃ A cap, V = .slice A L.length cap ∧ L.length ≤ cap ∧ (A = none → L.length = 0 ∧ cap = 0) ∧
    (0 < L.length → ∃ b off, A = some ⟨b, off, none⟩ ∧ ∀ i a, L[i]? = some a → w.cell? ⟨b, off + i * 2, none⟩ = some (.int .i64 a.1) ∧ w.cell? ⟨b, off + i * 2 + 1, none⟩ = some (.int .i64 a.2)) := by
  obtain ⟨A, cap, e, h1, h2, h⟩ := h
  refine ⟨A, cap, e, h1, h2, fun hl => ?_⟩
  obtain ⟨b, off, e2, hc⟩ := h hl
  exact ⟨b, off, e2, fun i a hi => ⟨hc i a hi 0 _ rfl, hc i a hi 1 _ rfl⟩⟩
abbrev Bxs (w : World) (V : Value) (L : List Bx) : Prop := Sl 4 encB w V L
theorem Bxs.at_ {w : World} {V : Value} {L : List Bx} (h : Bxs w V L) : ∃ A cap, V = .slice A L.length cap ∧ L.length ≤ cap ∧ (A = none → L.length = 0 ∧ cap = 0) ∧
    (0 < L.length → ∃ b off, A = some ⟨b, off, none⟩ ∧ ∀ i a, L[i]? = some a → w.cell? ⟨b, off + i * 4, none⟩ = some (.int .i64 a.1.1) ∧ w.cell? ⟨b, off + i * 4 + 1, none⟩ = some (.int .i64 a.1.2) ∧ w.cell? ⟨b, off + i * 4 + 2, none⟩ = some (.int .i64 a.2.1) ∧ w.cell? ⟨b, off + i * 4 + 3, none⟩ = some (.int .i64 a.2.2)) := by
  obtain ⟨A, cap, e, h1, h2, h⟩ := h
  refine ⟨A, cap, e, h1, h2, fun hl => ?_⟩
  obtain ⟨b, off, e2, hc⟩ := h hl
  exact ⟨b, off, e2, fun i a hi => ⟨hc i a hi 0 _ rfl, hc i a hi 1 _ rfl, hc i a hi 2 _ rfl, hc i a hi 3 _ rfl⟩⟩
abbrev Mts (w : World) (V : Value) (L : List Mt) : Prop := Sl 3 encM w V L
theorem Mts.at_ {w : World} {V : Value} {L : List Mt} (h : Mts w V L) : ∃ A cap, V = .slice A L.length cap ∧ L.length ≤ cap ∧ (A = none → L.length = 0 ∧ cap = 0) ∧
    (0 < L.length → ∃ b off, A = some ⟨b, off, none⟩ ∧ ∀ i a, L[i]? = some a → w.cell? ⟨b, off + i * 3, none⟩ = some (.int .i64 a.1) ∧ w.cell? ⟨b, off + i * 3 + 1, none⟩ = some (.int .i64 a.2.1) ∧ w.cell? ⟨b, off + i * 3 + 2, none⟩ = some a.2.2) := by
  obtain ⟨A, cap, e, h1, h2, h⟩ := h
  refine ⟨A, cap, e, h1, h2, fun hl => ?_⟩
  obtain ⟨b, off, e2, hc⟩ := h hl
  exact ⟨b, off, e2, fun i a hi => ⟨hc i a hi 0 _ rfl, hc i a hi 1 _ rfl, hc i a hi 2 _ rfl⟩⟩
/-- The routes' cells and what they stand for. -/
def Pcs (w : World) (M : List Mt) (rs : List Rt) : Prop := M.length = rs.length ∧ ∀ (i : Nat) (m : Mt) (r : Rt), M[i]? = some m → rs[i]? = some r → m.1 = r.1.1 ∧ m.2.1 = r.1.2 ∧ Pts w m.2.2 r.2
theorem Pcs.later {w w' : World} {M : List Mt} {rs : List Rt} (h : Pcs w M rs) (B : Below w.heap.size w w') : Pcs w' M rs :=
  ⟨h.1, fun i m r hm hr => ⟨(h.2 i m r hm hr).1, (h.2 i m r hm hr).2.1, (h.2 i m r hm hr).2.2.later B⟩⟩
theorem Pcs.at_ {w : World} {M : List Mt} {rs : List Rt} (h : Pcs w M rs) {i : Nat} (hi : i < rs.length) : ∃ V, M[i]? = some (rs[i].1.1, rs[i].1.2, V) ∧ Pts w V rs[i].2 := by
  have hm : i < M.length := by rw [h.1]; exact hi
  obtain ⟨h1, h2, h3⟩ := h.2 i M[i] rs[i] (List.getElem?_eq_getElem hm) (List.getElem?_eq_getElem hi)
  refine ⟨M[i].2.2, ?_, h3⟩
  rw [List.getElem?_eq_getElem hm, ← h1, ← h2]
/-- A drawing: its boxes, its routes. -/
def Drw (w : World) (B R : Value) (D : Dr) : Prop := Bxs w B D.1 ∧ ∃ M, Mts w R M ∧ Pcs w M D.2
theorem Drw.later {w w' : World} {B R : Value} {D : Dr} (h : Drw w B R D) (b : Below w.heap.size w w') : Drw w' B R D := by
  obtain ⟨h1, M, h2, h3⟩ := h
  exact ⟨h1.later b, M, h2.later b, h3.later b⟩
theorem Drw.nil (w : World) : Drw w (.slice none 0 0) (.slice none 0 0) ([], []) :=
  ⟨⟨none, 0, rfl, Nat.le_refl _, fun _ => ⟨rfl, rfl⟩, fun h => absurd h (by simp)⟩, [], ⟨none, 0, rfl, Nat.le_refl _, fun _ => ⟨rfl, rfl⟩, fun h => absurd h (by simp)⟩, rfl, fun i m r h => by simp at h⟩
/-- The same, all of it the call's own: the pieces are rows of points. -/
def PcsO (w : World) (base : Nat) (M : List Mt) (rs : List Rt) : Prop := M.length = rs.length ∧ ∀ (i : Nat) (m : Mt) (r : Rt), M[i]? = some m → rs[i]? = some r → m.1 = r.1.1 ∧ m.2.1 = r.1.2 ∧ w.ownsRow base 73 2 m.2.2 r.2.length (flat encP r.2)
theorem PcsO.pcs {w : World} {base : Nat} {M : List Mt} {rs : List Rt} (h : PcsO w base M rs) : Pcs w M rs :=
  ⟨h.1, fun i m r hm hr => ⟨(h.2 i m r hm hr).1, (h.2 i m r hm hr).2.1, Sl.of_own encP_length (h.2 i m r hm hr).2.2⟩⟩
theorem PcsO.later {w w' : World} {base : Nat} {M : List Mt} {rs : List Rt} (h : PcsO w base M rs) (B : Below w.heap.size w w') : PcsO w' base M rs :=
  ⟨h.1, fun i m r hm hr => ⟨(h.2 i m r hm hr).1, (h.2 i m r hm hr).2.1, own_later (h.2 i m r hm hr).2.2 B⟩⟩
/-- .. a block is written that is none of points. -/
theorem PcsO.other {w w' : World} {base : Nat} {M : List Mt} {rs : List Rt} {row : Option Nat} (h : PcsO w base M rs) (hg : w.grownBy w' row) (hr : ∀ b, row = some b → ∃ cs t, w.heap[b]? = some (.cells cs t) ∧ t ≠ 73) : PcsO w' base M rs :=
  ⟨h.1, fun i m r hm hr' => ⟨(h.2 i m r hm hr').1, (h.2 i m r hm hr').2.1, row_typ (h.2 i m r hm hr').2.2 (fun b cur hb _ => hg.block b (Array.getElem?_eq_some_iff.1 hb).1 (fun e => by
    obtain ⟨cs, t, hc, ht⟩ := hr b e.symm
    exact ne_of_typ hb hc ht.symm rfl))⟩⟩
theorem PcsO.snoc {w : World} {base : Nat} {M : List Mt} {rs : List Rt} (h : PcsO w base M rs) {m : Mt} {r : Rt} (h1 : m.1 = r.1.1) (h2 : m.2.1 = r.1.2) (h3 : w.ownsRow base 73 2 m.2.2 r.2.length (flat encP r.2)) : PcsO w base (M ++ [m]) (rs ++ [r]) := by
  refine ⟨by simp [h.1], fun i m' r' hm hr => ?_⟩
  by_cases hi : i < M.length
  · rw [List.getElem?_append_left hi] at hm
    rw [List.getElem?_append_left (by rw [← h.1]; exact hi)] at hr
    exact h.2 i m' r' hm hr
  · rw [List.getElem?_append_right (by omega)] at hm
    rw [List.getElem?_append_right (by rw [← h.1]; omega)] at hr
    rw [h.1] at hm
    by_cases h0 : i - rs.length = 0
    · rw [h0] at hm hr
      simp at hm hr
      subst hm
      subst hr
      exact ⟨h1, h2, h3⟩
    · rw [List.getElem?_eq_none (by simp; omega)] at hm
      cases hm
theorem row_other {w w' : World} {base E sz k : Nat} {V : Value} {xs : List Value} {row : Option Nat} (h : w.ownsRow base E sz V k xs) (hg : w.grownBy w' row) (hr : ∀ b, row = some b → ∃ cs t, w.heap[b]? = some (.cells cs t) ∧ t ≠ E) : w'.ownsRow base E sz V k xs :=
  row_typ h (fun b cur hb _ => hg.block b (Array.getElem?_eq_some_iff.1 hb).1 (fun e => by
    obtain ⟨cs, t, hc, ht⟩ := hr b e.symm
    exact ne_of_typ hb hc ht.symm rfl))
theorem row_turn {w : World} {base E sz k : Nat} {V : Value} {xs : List Value} (h : w.ownsRow base E sz V k xs) {t : TypeId} (ht : t ≠ E) : ∀ b, V.ownBlock = some b → ∃ cs t', w.heap[b]? = some (.cells cs t') ∧ t' ≠ t := by
  intro b hb
  obtain ⟨cur, hc⟩ := own_typ h hb
  exact ⟨cur, E, hc, ht.symm⟩
/-- A drawing of one's own, in a block of its own. -/
structure DrO (w : World) (base b : Nat) (B R : Value) (M : List Mt) (D : Dr) : Prop where
  cell : w.heap[b]? = some (.cells #[B, R] 45)
  bas : base ≤ b
  bx : w.ownsRow base 75 4 B D.1.length (flat encB D.1)
  rt : w.ownsRow base 78 3 R D.2.length (flat encM M)
  pc : PcsO w base M D.2
theorem DrO.later {w w' : World} {base b : Nat} {B R : Value} {M : List Mt} {D : Dr} (h : DrO w base b B R M D) (k : Below w.heap.size w w') : DrO w' base b B R M D :=
  ⟨(k.block b (Array.getElem?_eq_some_iff.1 h.cell).1).trans h.cell, h.bas, own_later h.bx k, own_later h.rt k, h.pc.later k⟩
theorem DrO.drw {w : World} {base b : Nat} {B R : Value} {M : List Mt} {D : Dr} (h : DrO w base b B R M D) : Drw w B R D := by
  have h2 := h.rt
  rw [← h.pc.1] at h2
  exact ⟨Sl.of_own encB_length h.bx, M, Sl.of_own encM_length h2, h.pc.pcs⟩
end Go.Proofs.YtkpgjgmlhcipeaaDoor
