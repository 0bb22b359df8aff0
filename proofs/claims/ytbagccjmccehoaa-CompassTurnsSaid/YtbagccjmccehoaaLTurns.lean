/- The law CompassTurns returns true at all numbers. No condition. -/
import Derived.Test.YtbagccjmccehoaaCompC
import Derived.Deep.QuietTactic
import Derived.BigQuiet
import Derived.Lib.Hide
namespace Go.Proofs.Ytbagccjmccehoaa
open Go.RowKit
def gB (x : Int) : Bool := decide (0 ≤ x ∧ x ≤ 3)
theorem good_g (x : Int) (w : World) : Calls Try.prog 28 #[.int .i64 x] w fun e w' => e = .returned (.bool (gB x)) ∧ w' = w := by
  by_cases h : 0 ≤ x ∧ x ≤ 3
  · refine (good_yes x h w).mono ?_
    rintro e w' ⟨rfl, rfl⟩
    exact ⟨ret_bool (by unfold gB; simp [h]), rfl⟩
  · refine (good_no x h w).mono ?_
    rintro e w' ⟨rfl, rfl⟩
    exact ⟨ret_bool (by unfold gB; simp [h]), rfl⟩
theorem rgood_g (x : Int) (w : World) : Calls Try.prog 29 #[.int .i64 x] w fun e w' => e = .returned (.bool (gB x)) ∧ w' = w :=
  (rgood_any x w).mono fun _ _ h => ⟨h.1, h.2.symm⟩
theorem left_q (d t : Int) (w : World) : Calls Try.prog 30 #[.int .i64 d, .int .i64 t] w fun e w' => e = .returned (.int .i64 (leftF d t)) ∧ w' = w := (left_any d t w).mono fun _ _ h => ⟨h.1, h.2.symm⟩
theorem rleft_q (d t : Int) (w : World) : Calls Try.prog 31 #[.int .i64 d, .int .i64 t] w fun e w' => e = .returned (.int .i64 (leftF d t)) ∧ w' = w := (rleft_any d t w).mono fun _ _ h => ⟨h.1, h.2.symm⟩
theorem turn_q (d t : Int) (w : World) : Calls Try.prog 32 #[.int .i64 d, .int .i64 t] w fun e w' => e = .returned (.int .i64 (turnF d t)) ∧ w' = w := (turn_any d t w).mono fun _ _ h => ⟨h.1, h.2.symm⟩
theorem rturn_q (d t : Int) (w : World) : Calls Try.prog 33 #[.int .i64 d, .int .i64 t] w fun e w' => e = .returned (.int .i64 (turnF d t)) ∧ w' = w := (rturn_any d t w).mono fun _ _ h => ⟨h.1, h.2.symm⟩

set_option maxRecDepth 100000 in
set_option maxHeartbeats 400000 in
theorem turns_walk (a0 a1 a2 : Int) (_w0 : (Lit.int .i64 a0).wf = true) (_w1 : (Lit.int .i64 a1).wf = true) (_w2 : (Lit.int .i64 a2).wf = true) (w : World) :
    Calls Try.prog 7 #[.int .i64 a0, .int .i64 a1, .int .i64 a2] w fun e w' => e = .returned (.bool true) ∧ Below w.heap.size w w' := by
  go_enter Try.func7, Try.ntmps7
  go_wp2_with fail
  generalize max 0 a0 % 5 = b0
  generalize max 0 a1 % 5 = b1
  go_loopw [21] (fun c wr => ∃ k : Nat, k ≤ 2 ∧ c = .int .i64 k ∧ Below w.heap.size w wr ∧ wr.heap[w.heap.size]? = some (.cells #[.int .i64 a0, .int .i64 a1, .int .i64 b0, .int .i64 b1] 61)) (fun c _ => 2 - (intOf c).toNat)
  case atStart => exact ⟨0, by omega, rfl, (Below.refl _ _).alloc (Nat.le_refl _) _, heap_alloc_new w _⟩
  case round =>
    obtain ⟨k, hk, rfl, hb, hblk⟩ := hrel
    have hsz : w.heap.size < wr.heap.size := (Array.getElem?_eq_some_iff.1 hblk).1
    have c0 : wr.cell? ⟨w.heap.size, 0, none⟩ = some (.int .i64 a0) := by simp [World.cell?, hblk]
    have c1 : wr.cell? ⟨w.heap.size, 1, none⟩ = some (.int .i64 a1) := by simp [World.cell?, hblk]
    have c2 : wr.cell? ⟨w.heap.size, 2, none⟩ = some (.int .i64 b0) := by simp [World.cell?, hblk]
    have c3 : wr.cell? ⟨w.heap.size, 3, none⟩ = some (.int .i64 b1) := by simp [World.cell?, hblk]
    have HB := Lib.hid hblk
    clear hblk
    have g : ∀ x : Int, (gB x != gB x) = false := fun x => by simp
    have l : ∀ x : Int, (leftF x a2 != leftF x a2) = false := fun x => by simp
    have t : ∀ x y : Int, (turnF x y != turnF x y) = false := fun x y => by simp
    obtain rfl | rfl | rfl : k = 0 ∨ k = 1 ∨ k = 2 := by omega
    · go_wp2_with fail
      go_quiet (first | (go_at_call 28; exact Calls.quiet_of_same (good_g _ _)) | (go_at_call 29; exact Calls.quiet_of_same (rgood_g _ _)) | (go_at_call 30; exact Calls.quiet_of_same (left_q _ _ _)) | (go_at_call 31; exact Calls.quiet_of_same (rleft_q _ _ _)) | (go_at_call 32; exact Calls.quiet_of_same (turn_q _ _ _)) | (go_at_call 33; exact Calls.quiet_of_same (rturn_q _ _ _)))
      go_wp2_with fail
      exact ⟨⟨1, by omega, rfl, below_drewN (hb.alloc (by omega) _) _, (Below.heap_alloc wr _ _ hsz).trans HB.out⟩, by simp [intOf]⟩
    · go_wp2_with fail
      go_quiet (first | (go_at_call 28; exact Calls.quiet_of_same (good_g _ _)) | (go_at_call 29; exact Calls.quiet_of_same (rgood_g _ _)) | (go_at_call 30; exact Calls.quiet_of_same (left_q _ _ _)) | (go_at_call 31; exact Calls.quiet_of_same (rleft_q _ _ _)) | (go_at_call 32; exact Calls.quiet_of_same (turn_q _ _ _)) | (go_at_call 33; exact Calls.quiet_of_same (rturn_q _ _ _)))
      go_wp2_with fail
      exact ⟨⟨2, by omega, rfl, below_drewN (hb.alloc (by omega) _) _, (Below.heap_alloc wr _ _ hsz).trans HB.out⟩, by simp [intOf]⟩
    · go_wp2_with fail
      refine (wakes_any _).mono ?_
      rintro e w1 ⟨rfl, hb1⟩
      go_wp2_with fail
      go_ret
      exact ⟨rfl, hb.trans (hb1.mono (by have := hb.size; omega))⟩
end Go.Proofs.Ytbagccjmccehoaa
