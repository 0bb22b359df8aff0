/- More of the direction functions of compass and of its reference: what each call answers, at every number, point and text. No condition. -/
import Derived.Test.YtbagccjmccehoaaCompA
namespace Go.Proofs.Ytbagccjmccehoaa
open Go.RowKit

theorem rturn_same {d e : Int} (h : d = e) : turnF d e = 0 := by subst h; unfold turnF; split <;> simp
theorem rturn_one {d e : Int} (h : 0 ≤ d ∧ d ≤ 3) (h' : 0 ≤ e ∧ e ≤ 3) (hl : leftF d 1 = e) : turnF d e = 1 := by
  unfold leftF at hl; rw [if_pos h] at hl
  rw [turn_cases ⟨h, h'⟩ 1 (by omega)]; rfl
theorem rturn_three {d e : Int} (h : 0 ≤ d ∧ d ≤ 3) (h' : 0 ≤ e ∧ e ≤ 3) (hl : leftF d 3 = e) : turnF d e = -1 := by
  unfold leftF at hl; rw [if_pos h] at hl
  rw [turn_cases ⟨h, h'⟩ 3 (by omega)]; rfl
theorem rturn_two {d e : Int} (h : 0 ≤ d ∧ d ≤ 3) (h' : 0 ≤ e ∧ e ≤ 3) (h0 : d ≠ e) (h1 : leftF d 1 ≠ e) (h3 : leftF d 3 ≠ e) : turnF d e = -2 := by
  unfold leftF at h1 h3; rw [if_pos h] at h1 h3
  rw [turn_cases ⟨h, h'⟩ 2 (by omega)]; rfl
theorem turn_bad {d e : Int} (h : ¬ ((0 ≤ d ∧ d ≤ 3) ∧ (0 ≤ e ∧ e ≤ 3))) : turnF d e = 0 := by unfold turnF; rw [if_neg h]

set_option maxRecDepth 100000 in
set_option maxHeartbeats 400000 in
theorem rturn_any (d f : Int) (w : World) : Calls Try.prog 33 #[.int .i64 d, .int .i64 f] w fun e w' => e = .returned (.int .i64 (turnF d f)) ∧ w = w' := by
  by_cases h : 0 ≤ d ∧ d ≤ 3
  · by_cases h' : 0 ≤ f ∧ f ≤ 3
    · by_cases hs : d = f
      · have hc : Hid (turnF d f = 0) := rturn_same hs
        have hb : (d == f) = true := by simp [hs]
        clear hs
        go_enter Try.func33, Try.ntmps33
        go_wp2_with fail
        refine (rgood_yes _ h _).mono ?_
        rintro e w' ⟨rfl, rfl⟩
        go_wp2_with fail
        refine (rgood_yes _ h' _).mono ?_
        rintro e w' ⟨rfl, rfl⟩
        go_wp2_with fail
        go_ret
        exact ⟨ret_int (by rw [hc.out]), rfl⟩
      · have hb : (d == f) = false := by simp [hs]
        by_cases h1 : leftF d 1 = f
        · have hc : Hid (turnF d f = 1) := rturn_one h h' h1
          have hb1 : (leftF d 1 == f) = true := by simp [h1]
          clear h1 hs
          go_enter Try.func33, Try.ntmps33
          go_wp2_with fail
          refine (rgood_yes _ h _).mono ?_
          rintro e w' ⟨rfl, rfl⟩
          go_wp2_with fail
          refine (rgood_yes _ h' _).mono ?_
          rintro e w' ⟨rfl, rfl⟩
          go_wp2_with fail
          refine (rleft_any _ _ _).mono ?_
          rintro e w' ⟨rfl, rfl⟩
          go_wp2_with fail
          go_ret
          exact ⟨ret_int (by rw [hc.out]), rfl⟩
        · have hb1 : (leftF d 1 == f) = false := by simp [h1]
          by_cases h3 : leftF d 3 = f
          · have hc : Hid (turnF d f = -1) := rturn_three h h' h3
            have hb3 : (leftF d 3 == f) = true := by simp [h3]
            clear h1 hs h3
            go_enter Try.func33, Try.ntmps33
            go_wp2_with fail
            refine (rgood_yes _ h _).mono ?_
            rintro e w' ⟨rfl, rfl⟩
            go_wp2_with fail
            refine (rgood_yes _ h' _).mono ?_
            rintro e w' ⟨rfl, rfl⟩
            go_wp2_with fail
            refine (rleft_any _ _ _).mono ?_
            rintro e w' ⟨rfl, rfl⟩
            go_wp2_with fail
            refine (rleft_any _ _ _).mono ?_
            rintro e w' ⟨rfl, rfl⟩
            go_wp2_with fail
            go_ret
            exact ⟨ret_int (by rw [hc.out]), rfl⟩
          · have hc : Hid (turnF d f = -2) := rturn_two h h' hs h1 h3
            have hb3 : (leftF d 3 == f) = false := by simp [h3]
            clear h1 hs h3
            go_enter Try.func33, Try.ntmps33
            go_wp2_with fail
            refine (rgood_yes _ h _).mono ?_
            rintro e w' ⟨rfl, rfl⟩
            go_wp2_with fail
            refine (rgood_yes _ h' _).mono ?_
            rintro e w' ⟨rfl, rfl⟩
            go_wp2_with fail
            refine (rleft_any _ _ _).mono ?_
            rintro e w' ⟨rfl, rfl⟩
            go_wp2_with fail
            refine (rleft_any _ _ _).mono ?_
            rintro e w' ⟨rfl, rfl⟩
            go_wp2_with fail
            go_ret
            exact ⟨ret_int (by rw [hc.out]), rfl⟩
    · go_enter Try.func33, Try.ntmps33
      go_wp2_with fail
      refine (rgood_yes _ h _).mono ?_
      rintro e w' ⟨rfl, rfl⟩
      go_wp2_with fail
      refine (rgood_no _ h' _).mono ?_
      rintro e w' ⟨rfl, rfl⟩
      go_wp2_with fail
      go_ret
      exact ⟨ret_int (by rw [turn_bad (by omega)]), rfl⟩
  · go_enter Try.func33, Try.ntmps33
    go_wp2_with fail
    refine (rgood_no _ h _).mono ?_
    rintro e w' ⟨rfl, rfl⟩
    go_wp2_with fail
    refine (rgood_any _ _).mono ?_
    rintro e w' ⟨rfl, rfl⟩
    go_wp2_with fail
    go_ret
    exact ⟨ret_int (by rw [turn_bad (by omega)]), rfl⟩

theorem let_bad {d : Int} (h : ¬ (0 ≤ d ∧ d ≤ 3)) : letF d = ⟨#[]⟩ := by
  unfold letF
  rw [if_neg (by omega), if_neg (by omega), if_neg (by omega), if_neg (by omega)]
set_option maxRecDepth 100000 in
set_option maxHeartbeats 400000 in
theorem letter_any (d : Int) (w : World) : Calls Try.prog 35 #[.int .i64 d] w fun e w' => e = .returned (.string (letF d)) ∧ w = w' := by
  by_cases h : 0 ≤ d ∧ d ≤ 3
  · have h4 : d = 0 ∨ d = 1 ∨ d = 2 ∨ d = 3 := by omega
    rcases h4 with rfl | rfl | rfl | rfl
    all_goals
      go_enter Try.func35, Try.ntmps35
      go_wp2_with fail
      refine (good_yes _ h _).mono ?_
      rintro e w' ⟨rfl, rfl⟩
      go_wp2_with fail
      go_ret
      exact ⟨rfl, rfl⟩
  · go_enter Try.func35, Try.ntmps35
    go_wp2_with fail
    refine (good_no _ h _).mono ?_
    rintro e w' ⟨rfl, rfl⟩
    go_wp2_with fail
    go_ret
    exact ⟨by rw [let_bad h]; rfl, rfl⟩
set_option maxRecDepth 100000 in
set_option maxHeartbeats 400000 in
theorem rletter_any (d : Int) (w : World) : Calls Try.prog 37 #[.int .i64 d] w fun e w' => e = .returned (.string (letF d)) ∧ Below w.heap.size w w' := by
  by_cases h : 0 ≤ d ∧ d ≤ 3
  · have h4 : d = 0 ∨ d = 1 ∨ d = 2 ∨ d = 3 := by omega
    rcases h4 with rfl | rfl | rfl | rfl
    all_goals
      go_enter Try.func37, Try.ntmps37
      go_wp2_with fail
      refine (rgood_yes _ h _).mono ?_
      rintro e w' ⟨rfl, rfl⟩
      go_wp2_with fail
      go_ret
      exact ⟨rfl, (Below.refl _ _).alloc (Nat.le_refl _) _⟩
  · go_enter Try.func37, Try.ntmps37
    go_wp2_with fail
    refine (rgood_no _ h _).mono ?_
    rintro e w' ⟨rfl, rfl⟩
    go_wp2_with fail
    go_ret
    exact ⟨by rw [let_bad h]; rfl, Below.refl _ _⟩
end Go.Proofs.Ytbagccjmccehoaa
