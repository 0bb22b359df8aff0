/- Rows of nodes, one a node, in memory of one's own: each grows. -/
import Derived.Test.YtimffpnfhkobkaaDagP
import Derived.Test.YtimffpnfhkobkaaHeapCt
namespace Go.Proofs.Ytimffpnfhkobkaa
open Go.RowKit
def encN (x : Nat) : List Value := [.int .i64 (x : Nat)]
theorem encN_length (x : Nat) : (encN x).length = 1 := rfl
theorem flat_encN (L : List Nat) : flat encN L = L.map (fun x => Value.int .i64 (x : Nat)) := by induction L with
  | nil => rfl
  | cons a l ih => simp only [flat, List.flatMap_cons, List.map_cons] at *; rw [ih]; rfl
theorem own_nat {w : World} {B E : Nat} {V : Value} {L : List Nat} (o : w.ownsRow B E 1 V L.length (flat encN L)) {g cap : Nat} (hV : V = .slice (some ⟨g, 0, none⟩) L.length cap) {i x : Nat} (hi : L[i]? = some x) : w.cell? ⟨g, i, none⟩ = some (.int .i64 (x : Nat)) := by
  subst hV
  have hl : i < L.length := (List.getElem?_eq_some_iff.1 hi).1
  have := o.cellAt i (by omega)
  rw [this, flat_encN, List.getElem?_map, hi]
  rfl
/-- Rows of nodes: block H holds them, each in a block of its own. -/
structure NX (w : World) (H n : Nat) (VV : Nat → Value) (N : Nat → List Nat) : Prop where
  top : w.rowIs H 26 n VV
  rows : ∀ v, v < n → w.ownsRow (H + 2) 3 1 (VV v) (N v).length (flat encN (N v))
  apart : ∀ u v, u < n → v < n → u ≠ v → ∀ g, (VV u).ownBlock = some g → (VV v).ownBlock ≠ some g
theorem NX.chg {w w' : World} {H n : Nat} {VV : Nat → Value} {N : Nat → List Nat} {S : Nat → Prop} (h : NX w H n VV N) (c : Chg S w w') (h1 : ¬ S H) (h2 : ∀ v g, v < n → (VV v).ownBlock = some g → ¬ S g) : NX w' H n VV N :=
  ⟨h.top.of_block (c.block _ h.top.lt h1), fun v hv => own_chg (h.rows v hv) c (fun g hg => h2 v g hv hg), h.apart⟩
theorem NX.later {w w' : World} {H n : Nat} {VV : Nat → Value} {N : Nat → List Nat} (h : NX w H n VV N) (b : Below w.heap.size w w') : NX w' H n VV N := h.chg (chg_below b (fun _ => False)) (by simp) (by simp)
theorem NX.congr {w : World} {H n : Nat} {VV : Nat → Value} {N M : Nat → List Nat} (h : NX w H n VV N) (e : ∀ v, v < n → N v = M v) : NX w H n VV M := ⟨h.top, fun v hv => by rw [← e v hv]; exact h.rows v hv, h.apart⟩
theorem NX.made {w' : World} {H n : Nat} (h : w'.rowIs H 26 n (fun _ => .slice none 0 0)) : NX w' H n (fun _ => .slice none 0 0) (fun _ => []) :=
  ⟨h, fun _ _ => World.ownsRow_nil _ _ _ _, fun _ _ _ _ _ _ hg => by simp [Value.ownBlock] at hg⟩
/-- One row grows by one: appended to, stored back. -/
theorem NX.push {wx w' : World} {H n : Nat} {VV : Nat → Value} {N : Nat → List Nat} (h : NX wx H n VV N) {f t : Nat} (hf : f < n) {q cq : Nat}
    (hown : w'.ownsRow (H + 2) 3 1 (.slice (some ⟨q, 0, none⟩) ((N f).length + 1) cq) ((N f).length + 1) (flat encN (N f) ++ encN t)) (hg : wx.grownBy w' (VV f).ownBlock) (hat : (VV f).ownBlock = some q ∨ wx.heap.size ≤ q) :
    NX (w'.setCell ⟨H, f, none⟩ (.slice (some ⟨q, 0, none⟩) ((N f).length + 1) cq)) H n (fun v => if v = f then .slice (some ⟨q, 0, none⟩) ((N f).length + 1) cq else VV v) (fun v => if v = f then N f ++ [t] else N v) ∧
      (∃ u, w'.cell? ⟨H, f, none⟩ = some u) ∧ w'.frozen? ⟨H, f, none⟩ = false ∧ Chg (fun b => b = H ∨ (VV f).ownBlock = some b) wx (w'.setCell ⟨H, f, none⟩ (.slice (some ⟨q, 0, none⟩) ((N f).length + 1) cq)) := by
  have hH : (VV f).ownBlock ≠ some H := fun e => by have := own_ge (h.rows f hf) e; omega
  have htop : w'.rowIs H 26 n VV := h.top.of_block (hg.block _ h.top.lt (fun e => hH e.symm))
  have hq : q ≠ H := by
    have := own_ge hown (g := q) rfl
    omega
  refine ⟨⟨(htop.set f _).congr (fun v _ => rfl), fun v hv => ?_, fun u v hu hv hne g hgu hgv => ?_⟩, ⟨_, htop.cell hf⟩, htop.frozen f, ?_⟩
  · by_cases e : v = f
    · subst e
      simp only [if_true]
      rw [List.length_append, flat_append]
      refine row_typ (by simpa [flat] using hown) (fun b cur _ hb => ?_)
      have : q = b := by simpa [Value.ownBlock] using hb
      subst this
      exact Below.heap_setCell _ _ _ _ hq
    · rw [if_neg e, if_neg e]
      refine row_typ (h.rows v hv) (fun b cur hc hb => ?_)
      have hlt := (Array.getElem?_eq_some_iff.1 hc).1
      have hbH : b ≠ H := fun e' => by have := own_ge (h.rows v hv) hb; omega
      rw [Below.heap_setCell _ _ _ _ hbH]
      exact hg.block b hlt (fun e' => h.apart v f hv hf e b hb e'.symm)
  · by_cases e1 : u = f
    · by_cases e2 : v = f
      · omega
      · rw [if_pos e1] at hgu
        rw [if_neg e2] at hgv
        have : q = g := by simpa [Value.ownBlock] using hgu
        subst this
        rcases hat with h' | h'
        · exact h.apart v f hv hf e2 q hgv h'
        · have := own_lt (h.rows v hv) hgv; omega
    · by_cases e2 : v = f
      · rw [if_neg e1] at hgu
        rw [if_pos e2] at hgv
        have : q = g := by simpa [Value.ownBlock] using hgv
        subst this
        rcases hat with h' | h'
        · exact h.apart u f hu hf e1 q hgu h'
        · have := own_lt (h.rows u hu) hgu; omega
      · rw [if_neg e1] at hgu
        rw [if_neg e2] at hgv
        exact h.apart u v hu hv hne g hgu hgv
  · exact Chg.setCell (Chg.of_grown hg (S := fun b => b = H ∨ (VV f).ownBlock = some b) (fun k e => .inr e)) (fun _ => .inl rfl) _
/-- One row read. -/
theorem NX.read {w : World} {H n : Nat} {VV : Nat → Value} {N : Nat → List Nat} (h : NX w H n VV N) {v : Nat} (hv : v < n) : w.cell? ⟨H, v, none⟩ = some (VV v) ∧ ∃ A cap, VV v = .slice A (N v).length cap ∧ (0 < (N v).length → ∃ g, A = some ⟨g, 0, none⟩ ∧ ∀ (i x : Nat), (N v)[i]? = some x → w.cell? ⟨g, i, none⟩ = some (.int .i64 (x : Nat))) := by
  refine ⟨h.top.cell hv, ?_⟩
  have o := h.rows v hv
  obtain ⟨A, cap, e, _⟩ := own_shape o
  refine ⟨A, cap, e, fun hl => ?_⟩
  obtain ⟨g, cap', e', _⟩ := o.form hl
  rw [e] at e'
  cases e'
  exact ⟨g, rfl, fun i x hi => own_nat o e hi⟩
theorem info_int : (Try.prog.info? 3).map (fun i => (i.zero, i.size, i.bytes)) = some (some (.int .i64 0), 1, 8) := by kernel_rfl
theorem info_ints : (Try.prog.info? 26).map (fun i => (i.zero, i.size, i.bytes)) = some (some (.slice none 0 0), 1, 24) := by kernel_rfl
def gOf (L : List Arc) : Gr := L.map fun a => (a.1.toNat, a.2.1.toNat)
/-- A graph that may be, in numbers from 0 on. -/
theorem right_gr {n : Int} {L : List Arc} (h : rightB n L = true) : ∃ m : Nat, n = m ∧ m ≤ 4096 ∧ L.length ≤ 16384 ∧ ∀ (i : Nat) (a : Arc), L[i]? = some a → ∃ f t x : Nat, a = ((f : Int), (t : Int), (x : Int)) ∧ f < m ∧ t < m ∧ x ≤ 1000000 ∧ (gOf L)[i]? = some (f, t) := by
  simp only [rightB, Bool.and_eq_true, decide_eq_true_eq, Bool.not_eq_true'] at h
  obtain ⟨⟨⟨h1, h2⟩, h3⟩, h4⟩ := h
  refine ⟨n.toNat, by omega, by omega, h3, fun i a hi => ?_⟩
  have hb := List.any_eq_false.1 h4 a (List.mem_of_getElem? hi)
  simp only [badA, Bool.not_eq_true, Bool.or_eq_false_iff, decide_eq_false_iff_not] at hb
  obtain ⟨f, t, x⟩ := a
  simp only at hb
  refine ⟨f.toNat, t.toNat, x.toNat, ?_, by omega, by omega, by omega, ?_⟩
  · rw [Int.toNat_of_nonneg (by omega), Int.toNat_of_nonneg (by omega), Int.toNat_of_nonneg (by omega)]
  · unfold gOf
    rw [List.getElem?_map, hi]
    rfl
end Go.Proofs.Ytimffpnfhkobkaa
