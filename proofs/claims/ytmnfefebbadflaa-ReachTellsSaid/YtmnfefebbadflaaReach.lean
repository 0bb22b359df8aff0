/- What can be reached from what: its rows in memory; 'is' and 'Has'. -/
import Derived.Test.YtmnfefebbadflaaFnd
import Derived.Deep.OwnRows
namespace Go.Proofs.Ytmnfefebbadflaa
open Go.RowKit
/-- A row of words, of which the first m are x. -/
def URow (w : World) (b m : Nat) (x : Nat → Nat) : Prop := ∃ z f, m ≤ z ∧ w.rowIs b 93 z f ∧ ∀ j, j < m → f j = .int .u64 (x j : Nat)
theorem URow.cl {w : World} {b m : Nat} {x : Nat → Nat} (h : URow w b m x) {j : Nat} (hj : j < m) : Cl w ⟨b, j, none⟩ (.int .u64 (x j : Nat)) := by
  obtain ⟨z, f, hz, hr, hf⟩ := h
  exact ⟨by rw [hr.cell (by omega), hf j hj], hr.frozen j⟩
theorem URow.lt {w : World} {b m : Nat} {x : Nat → Nat} (h : URow w b m x) : b < w.heap.size := by
  obtain ⟨z, f, hz, hr, hf⟩ := h
  exact hr.lt
theorem URow.of_block {w w' : World} {b m : Nat} {x : Nat → Nat} (h : URow w b m x) (e : w'.heap[b]? = w.heap[b]?) : URow w' b m x := by
  obtain ⟨z, f, hz, hr, hf⟩ := h
  exact ⟨z, f, hz, hr.of_block e, hf⟩
theorem URow.congr {w : World} {b m : Nat} {x y : Nat → Nat} (h : URow w b m x) (e : ∀ j, j < m → x j = y j) : URow w b m y := by
  obtain ⟨z, f, hz, hr, hf⟩ := h
  exact ⟨z, f, hz, hr, fun j hj => by rw [hf j hj, e j hj]⟩
theorem URow.set {w : World} {b m : Nat} {x : Nat → Nat} (h : URow w b m x) (i v : Nat) : URow (w.setCell ⟨b, i, none⟩ (.int .u64 (v : Nat))) b m (fun j => if j = i then v else x j) := by
  obtain ⟨z, f, hz, hr, hf⟩ := h
  refine ⟨z, _, hz, hr.set i _, fun j hj => ?_⟩
  by_cases e : j = i
  · simp [e]
  · simp [e, hf j hj]
/-- The rows of n nodes, m words each: those of X. -/
structure RR (w : World) (rb : Nat) (A : Option Addr) (cap : Nat) (g c : Nat → Nat) (base n m : Nat) (X : Nat → Nat → Nat) : Prop where
  blk : w.heap[rb]? = some (.cells #[.slice A n cap] 89)
  top : 0 < n → ∃ gb z f, A = some ⟨gb, 0, none⟩ ∧ base ≤ gb ∧ n ≤ z ∧ w.rowIs gb 90 z f ∧ ∀ i, i < n → f i = .slice (some ⟨g i, 0, none⟩) m (c i) ∧ g i ≠ gb
  rows : ∀ i, i < n → URow w (g i) m (X i) ∧ base ≤ g i ∧ g i ≠ rb
  inj : ∀ i j, i < n → j < n → g i = g j → i = j
theorem RR.chg {w w' : World} {rb : Nat} {A : Option Addr} {cap : Nat} {g c : Nat → Nat} {base n m : Nat} {X : Nat → Nat → Nat} {S : Nat → Prop} (h : RR w rb A cap g c base n m X) (k : Chg S w w') (h1 : ¬ S rb)
    (h2 : ∀ i, i < n → ¬ S (g i)) (h3 : ∀ a, A = some a → ¬ S a.block) : RR w' rb A cap g c base n m X := by
  refine ⟨(k.block rb (Array.getElem?_eq_some_iff.1 h.blk).1 h1).trans h.blk, fun hn => ?_, fun i hi => ?_, h.inj⟩
  · obtain ⟨gb, z, f, hA, hb, hz, hr, hf⟩ := h.top hn
    exact ⟨gb, z, f, hA, hb, hz, hr.of_block (k.block gb hr.lt (h3 _ hA)), hf⟩
  · obtain ⟨hu, r⟩ := h.rows i hi
    exact ⟨hu.of_block (k.block _ hu.lt (h2 i hi)), r⟩
theorem RR.later {w w' : World} {rb : Nat} {A : Option Addr} {cap : Nat} {g c : Nat → Nat} {base n m : Nat} {X : Nat → Nat → Nat} (h : RR w rb A cap g c base n m X) (k : Below w.heap.size w w') : RR w' rb A cap g c base n m X :=
  h.chg (chg_below k (fun _ => False)) (by simp) (by simp) (by simp)
theorem RR.lt {w : World} {rb : Nat} {A : Option Addr} {cap : Nat} {g c : Nat → Nat} {base n m : Nat} {X : Nat → Nat → Nat} (h : RR w rb A cap g c base n m X) : rb < w.heap.size := (Array.getElem?_eq_some_iff.1 h.blk).1
theorem RR.congr {w : World} {rb : Nat} {A : Option Addr} {cap : Nat} {g c : Nat → Nat} {base n m : Nat} {X Y : Nat → Nat → Nat} (h : RR w rb A cap g c base n m X) (e : ∀ i, i < n → ∀ j, j < m → X i j = Y i j) : RR w rb A cap g c base n m Y :=
  ⟨h.blk, h.top, fun i hi => ⟨(h.rows i hi).1.congr (e i hi), (h.rows i hi).2⟩, h.inj⟩
theorem RR.set {w : World} {rb : Nat} {A : Option Addr} {cap : Nat} {g c : Nat → Nat} {base n m : Nat} {X : Nat → Nat → Nat} (h : RR w rb A cap g c base n m X) (i : Nat) (hi : i < n) (j v : Nat) :
    RR (w.setCell ⟨g i, j, none⟩ (.int .u64 (v : Nat))) rb A cap g c base n m (fun a b => if a = i ∧ b = j then v else X a b) := by
  have hne := (h.rows i hi).2.2
  refine ⟨(Below.heap_setCell _ _ _ _ (fun e => hne e.symm)).trans h.blk, fun hn => ?_, fun a ha => ?_, h.inj⟩
  · obtain ⟨gb, z, f, hA, hb, hz, hr, hf⟩ := h.top hn
    exact ⟨gb, z, f, hA, hb, hz, hr.setOther (fun e => (hf i hi).2 e.symm) _, hf⟩
  · obtain ⟨hu, r⟩ := h.rows a ha
    refine ⟨?_, r⟩
    by_cases e : a = i
    · subst e
      exact (hu.set j v).congr (fun b _ => by simp)
    · exact (hu.of_block (Below.heap_setCell _ _ _ _ (fun e' => e (h.inj a i ha hi e')))).congr (fun b _ => by simp [e])
theorem is_any {w : World} {rb : Nat} {A : Option Addr} {cap : Nat} {g c : Nat → Nat} {base n m : Nat} {X : Nat → Nat → Nat} (H : RR w rb A cap g c base n m X) (v : Int) :
    Calls Try.prog 54 #[.pointer (some ⟨rb, 0, none⟩), .int .i64 v] w fun e w' => e = .returned (.bool (decide (0 ≤ v) && decide (v < n))) ∧ w' = w := by
  have c0 := (Cl.of_block H.blk (j := 0) (v := .slice A n cap) rfl).cell
  clear H
  go_enter Try.func54, Try.ntmps54
  by_cases h0 : 0 ≤ v
  · by_cases h1 : v < n
    · go_wp2
      go_ret
      exact ⟨ret_bool (by simp [h0, h1]), rfl⟩
    · go_wp2
      go_ret
      exact ⟨ret_bool (by simp [h1]), rfl⟩
  · go_wp2
    go_ret
    exact ⟨ret_bool (by simp; omega), rfl⟩
theorem is_nil (v : Int) (w : World) : Calls Try.prog 54 #[.pointer none, .int .i64 v] w fun e w' => e = .returned (.bool false) ∧ w' = w := by
  go_enter Try.func54, Try.ntmps54
  go_wp2
  go_ret
  exact ⟨rfl, rfl⟩
end Go.Proofs.Ytmnfefebbadflaa
