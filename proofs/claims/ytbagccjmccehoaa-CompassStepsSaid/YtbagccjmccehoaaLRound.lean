/- The law CompassRound returns true at every pair of numbers. No condition. -/
import Derived.Test.YtbagccjmccehoaaCompC
namespace Go.Proofs.Ytbagccjmccehoaa
open Go.RowKit
theorem tmod1000 (t : Int) : -999 ≤ t.tmod 1000 ∧ t.tmod 1000 ≤ 999 := by
  rcases Int.le_total 0 t with h | h
  · rw [Int.tmod_eq_emod_of_nonneg h]; omega
  · have : t.tmod 1000 = -((-t) % 1000) := by
      have h2 := Int.neg_tmod (-t) 1000
      rw [Int.neg_neg] at h2
      rw [h2, Int.tmod_eq_emod_of_nonneg (by omega)]
    omega
theorem leftF_good {x : Int} (h : 0 ≤ x ∧ x ≤ 3) (n : Int) : 0 ≤ leftF x n ∧ leftF x n ≤ 3 := by unfold leftF; rw [if_pos h]; omega
theorem leftF_left {x : Int} (h : 0 ≤ x ∧ x ≤ 3) (n m : Int) : leftF (leftF x n) m = leftF x (n + m) := by
  have h2 := leftF_good h n
  unfold leftF at *
  rw [if_pos h] at *
  rw [if_pos h2, if_pos h]; omega
theorem leftF_zero {x : Int} (h : 0 ≤ x ∧ x ≤ 3) : leftF x 0 = x := by unfold leftF; rw [if_pos h]; omega
theorem leftF_four {x : Int} (h : 0 ≤ x ∧ x ≤ 3) : leftF x 4 = x := by unfold leftF; rw [if_pos h]; omega
theorem turn_left1 {x : Int} (h : 0 ≤ x ∧ x ≤ 3) : turnF x (leftF x 1) = 1 := rturn_one h (leftF_good h 1) rfl
theorem turn_left2 {x : Int} (h : 0 ≤ x ∧ x ≤ 3) : turnF x (leftF x 2) = -2 := by
  refine rturn_two h (leftF_good h 2) ?_ ?_ ?_
  all_goals (unfold leftF; simp only [if_pos h]; omega)

set_option maxRecDepth 100000 in
set_option maxHeartbeats 400000 in
theorem round_walk (a0 : Int) (a1 : Int) (_w0 : (Lit.int .i64 a0).wf = true) (_w1 : (Lit.int .i64 a1).wf = true) (w : World) :
    Calls Try.prog 8 #[.int .i64 a0, .int .i64 a1] w fun e w' => e = .returned (.bool true) ∧ Below w.heap.size w w' := by
  have hx : 0 ≤ max 0 a0 % 4 ∧ max 0 a0 % 4 ≤ 3 := by omega
  have hn := tmod1000 a1
  go_enter Try.func8, Try.ntmps8
  go_wp2_with fail
  generalize max 0 a0 % 4 = x at hx ⊢
  generalize a1.tmod 1000 = n at hn ⊢
  obtain ⟨hn0, hn1⟩ := hn
  have hlg := leftF_good hx n
  have HB : Hid (leftF (leftF x n) (-n) = x) := by rw [leftF_left hx]; exact (congrArg (leftF x) (by omega)).trans (leftF_zero hx)
  generalize hl : leftF x n = l at hlg HB
  have HL : Hid (leftF x n = l) := hl
  clear hl
  refine (left_any x n _).mono ?_
  rw [HL.out]
  rintro e w' ⟨rfl, rfl⟩
  go_wp2_with fail
  go_loop [8, 9, 20] (fun s y c => ∃ (k : Nat) (z : Int), k ≤ 4 ∧ c = .int .i64 k ∧ s = .int .i64 k ∧ y = .int .i64 z ∧ 0 ≤ z ∧ z ≤ 3 ∧ Hid (z = leftF x k)) (fun _ _ c => 4 - (intOf c).toNat)
  case atStart => exact ⟨0, x, by omega, rfl, rfl, rfl, hx.1, hx.2, (leftF_zero hx).symm⟩
  case round =>
    obtain ⟨k, z, hk, rfl, rfl, rfl, hz0, hz1, HZ⟩ := hrel
    have ht := turn_left1 ⟨hz0, hz1⟩
    have hzl := leftF_good ⟨hz0, hz1⟩ 1
    by_cases hlt : k < 4
    · have HN : Hid (leftF z 1 = leftF x (k + 1 : Nat)) := by rw [HZ.out, leftF_left hx]; rfl
      go_wp2_with fail
      refine (left_any z 1 _).mono ?_
      rintro e w' ⟨rfl, rfl⟩
      go_wp2_with fail
      refine (turn_any _ _ _).mono ?_
      rintro e w' ⟨rfl, rfl⟩
      go_wp2_with fail
      go_round
      case rel => exact ⟨k + 1, leftF z 1, by omega, by go_num, by go_num, rfl, hzl.1, hzl.2, HN⟩
      case measure => simp [intOf]; omega
    · obtain rfl : k = 4 := by omega
      obtain rfl : z = x := by rw [HZ.out]; exact leftF_four hx
      have t2 := turn_left2 hx
      have f4 : leftF z 4 = z := leftF_four hx
      clear ht hzl HZ
      go_wp2_with fail
      refine (wakes_any _).mono ?_
      rintro e w1 ⟨rfl, hb⟩
      go_wp2_with fail
      refine (good_yes _ hlg _).mono ?_
      rintro e w' ⟨rfl, rfl⟩
      go_wp2_with fail
      refine (left_any _ _ _).mono ?_
      rw [HB.out]
      rintro e w' ⟨rfl, rfl⟩
      go_wp2_with fail
      refine (left_any _ _ _).mono ?_
      rintro e w' ⟨rfl, rfl⟩
      go_wp2_with fail
      refine (left_any _ _ _).mono ?_
      rintro e w' ⟨rfl, rfl⟩
      go_wp2_with fail
      refine (turn_any _ _ _).mono ?_
      rintro e w' ⟨rfl, rfl⟩
      go_wp2_with fail
      go_ret
      exact ⟨rfl, hb⟩
end Go.Proofs.Ytbagccjmccehoaa
