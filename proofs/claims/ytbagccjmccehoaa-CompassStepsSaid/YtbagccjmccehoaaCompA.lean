/- The direction functions of compass and of its reference: what each call answers, at every number and text. No condition. -/
import Derived.Test.YtbagccjmccehoaaRows
import Derived.Test.YtbagccjmccehoaaShelf
import Derived.WalkKit
import Derived.WalkSpells
import Derived.WalkLawsBesides
namespace Go.Proofs.Ytbagccjmccehoaa
open Go.RowKit

def leftF (d t : Int) : Int := if 0 ≤ d ∧ d ≤ 3 then (d + t) % 4 else 0
def turnF (d e : Int) : Int :=
  if (0 ≤ d ∧ d ≤ 3) ∧ (0 ≤ e ∧ e ≤ 3) then (if (e - d) % 4 = 0 then 0 else if (e - d) % 4 = 1 then 1 else if (e - d) % 4 = 2 then -2 else -1) else 0
def letF (d : Int) : ByteArray := if d = 0 then ⟨#[69]⟩ else if d = 1 then ⟨#[78]⟩ else if d = 2 then ⟨#[87]⟩ else if d = 3 then ⟨#[83]⟩ else ⟨#[]⟩
def stepX (d : Int) : Int := if d = 0 then 1 else if d = 2 then -1 else 0
def stepY (d : Int) : Int := if d = 1 then 1 else if d = 3 then -1 else 0
def betD (ax ay bx by_ : Int) : Int := if (ax = bx) = (ay = by_) then 0 else if ax < bx then 0 else if bx < ax then 2 else if ay < by_ then 1 else 3
def betB (ax ay bx by_ : Int) : Bool := decide ((ax = bx) ≠ (ay = by_))
def refBet (ax ay bx by_ : Int) : Int := if ax ≠ bx ∧ ay ≠ by_ then -1 else if ax < bx then 0 else if ay < by_ then 1 else if bx < ax then 2 else if by_ < ay then 3 else -1

theorem ret_int {k : IntKind} {a b : Int} (h : a = b) : Ending.returned (.int k a) = Ending.returned (.int k b) := by rw [h]
theorem ret_bool {a b : Bool} (h : a = b) : Ending.returned (.bool a) = Ending.returned (.bool b) := by rw [h]

theorem tmod4 (t : Int) : -3 ≤ t.tmod 4 ∧ t.tmod 4 ≤ 3 ∧ (t.tmod 4) % 4 = t % 4 := by
  rcases Int.le_total 0 t with h | h
  · rw [Int.tmod_eq_emod_of_nonneg h]; omega
  · have : t.tmod 4 = -((-t) % 4) := by
      have h2 := Int.neg_tmod (-t) 4
      rw [Int.neg_neg] at h2
      rw [h2, Int.tmod_eq_emod_of_nonneg (by omega)]
    omega
theorem turn_cases {d e : Int} (h : (0 ≤ d ∧ d ≤ 3) ∧ (0 ≤ e ∧ e ≤ 3)) (m : Int) (hm : (e - d + 4) % 4 = m) : turnF d e = (if m = 0 then 0 else if m = 1 then 1 else if m = 2 then -2 else -1) := by
  have h2 : (e - d) % 4 = m := by omega
  unfold turnF
  rw [if_pos h, h2]

set_option maxHeartbeats 400000 in
theorem good_yes (d : Int) (h : 0 ≤ d ∧ d ≤ 3) (w : World) : Calls Try.prog 28 #[.int .i64 d] w fun e w' => e = .returned (.bool true) ∧ w = w' := by
  obtain ⟨h0, h1⟩ := h
  go_enter Try.func28, Try.ntmps28
  go_wp2
  go_ret
  exact ⟨ret_bool (by simp), rfl⟩
set_option maxHeartbeats 400000 in
theorem good_no (d : Int) (h : ¬ (0 ≤ d ∧ d ≤ 3)) (w : World) : Calls Try.prog 28 #[.int .i64 d] w fun e w' => e = .returned (.bool false) ∧ w = w' := by
  by_cases h0 : 0 ≤ d
  · have h1 : 3 < d := by omega
    go_enter Try.func28, Try.ntmps28
    go_wp2
    go_ret
    exact ⟨ret_bool (by simp; omega), rfl⟩
  · go_enter Try.func28, Try.ntmps28
    go_wp2
    go_ret
    exact ⟨rfl, rfl⟩
set_option maxHeartbeats 400000 in
theorem rgood_any (d : Int) (w : World) : Calls Try.prog 29 #[.int .i64 d] w fun e w' => e = .returned (.bool (decide (0 ≤ d ∧ d ≤ 3))) ∧ w = w' := by
  by_cases h0 : 0 ≤ d
  · by_cases h1 : d ≤ 3
    · go_enter Try.func29, Try.ntmps29
      go_wp2
      go_ret
      exact ⟨ret_bool (by simp [h0, h1]), rfl⟩
    · go_enter Try.func29, Try.ntmps29
      go_wp2
      go_ret
      exact ⟨ret_bool (by simp; omega), rfl⟩
  · go_enter Try.func29, Try.ntmps29
    go_wp2
    go_ret
    exact ⟨ret_bool (by simp; omega), rfl⟩
theorem rgood_yes (d : Int) (h : 0 ≤ d ∧ d ≤ 3) (w : World) : Calls Try.prog 29 #[.int .i64 d] w fun e w' => e = .returned (.bool true) ∧ w = w' := by
  have h1 := rgood_any d w
  rwa [show decide (0 ≤ d ∧ d ≤ 3) = true from by simp; exact h] at h1
theorem rgood_no (d : Int) (h : ¬ (0 ≤ d ∧ d ≤ 3)) (w : World) : Calls Try.prog 29 #[.int .i64 d] w fun e w' => e = .returned (.bool false) ∧ w = w' := by
  have h1 := rgood_any d w
  rwa [show decide (0 ≤ d ∧ d ≤ 3) = false from by simp; omega] at h1

set_option maxHeartbeats 400000 in
theorem left_any (d t : Int) (w : World) : Calls Try.prog 30 #[.int .i64 d, .int .i64 t] w fun e w' => e = .returned (.int .i64 (leftF d t)) ∧ w = w' := by
  have ht := tmod4 t
  by_cases h : 0 ≤ d ∧ d ≤ 3
  · have ht1 := ht.1
    have ht2 := ht.2.1
    have hh := h
    obtain ⟨h0, h1⟩ := h
    go_enter Try.func30, Try.ntmps30
    go_wp2_with (go_at_call 28; refine (good_yes _ (by omega) _).mono ?_; rintro e w' ⟨rfl, rfl⟩)
    go_ret
    exact ⟨ret_int (by unfold leftF; rw [if_pos hh]; omega), rfl⟩
  · go_enter Try.func30, Try.ntmps30
    go_wp2_with (go_at_call 28; refine (good_no _ (by omega) _).mono ?_; rintro e w' ⟨rfl, rfl⟩)
    go_ret
    exact ⟨ret_int (by unfold leftF; rw [if_neg h]), rfl⟩
set_option maxHeartbeats 400000 in
theorem rleft_any (d t : Int) (w : World) : Calls Try.prog 31 #[.int .i64 d, .int .i64 t] w fun e w' => e = .returned (.int .i64 (leftF d t)) ∧ w = w' := by
  have ht := tmod4 t
  by_cases h : 0 ≤ d ∧ d ≤ 3
  · have ht1 := ht.1
    have ht2 := ht.2.1
    have hh := h
    obtain ⟨h0, h1⟩ := h
    by_cases hn : t.tmod 4 < 0
    all_goals
      go_enter Try.func31, Try.ntmps31
      go_wp2_with (go_at_call 29; refine (rgood_yes _ (by omega) _).mono ?_; rintro e w' ⟨rfl, rfl⟩)
      go_ret
      exact ⟨ret_int (by unfold leftF; rw [if_pos hh]; omega), rfl⟩
  · go_enter Try.func31, Try.ntmps31
    go_wp2_with (go_at_call 29; refine (rgood_no _ (by omega) _).mono ?_; rintro e w' ⟨rfl, rfl⟩)
    go_ret
    exact ⟨ret_int (by unfold leftF; rw [if_neg h]), rfl⟩
theorem turn_ix0 (w : World) : (Instr.index 55 (.agg #[.int .i64 0, .int .i64 1, .int .i64 (-2), .int .i64 (-1)]) (.int .i64 0)).run Try.prog w = .ok (.int .i64 (0)) w := by kernel_rfl
theorem turn_ix1 (w : World) : (Instr.index 55 (.agg #[.int .i64 0, .int .i64 1, .int .i64 (-2), .int .i64 (-1)]) (.int .i64 1)).run Try.prog w = .ok (.int .i64 (1)) w := by kernel_rfl
theorem turn_ix2 (w : World) : (Instr.index 55 (.agg #[.int .i64 0, .int .i64 1, .int .i64 (-2), .int .i64 (-1)]) (.int .i64 2)).run Try.prog w = .ok (.int .i64 (-2)) w := by kernel_rfl
theorem turn_ix3 (w : World) : (Instr.index 55 (.agg #[.int .i64 0, .int .i64 1, .int .i64 (-2), .int .i64 (-1)]) (.int .i64 3)).run Try.prog w = .ok (.int .i64 (-1)) w := by kernel_rfl
set_option maxRecDepth 100000 in
set_option maxHeartbeats 400000 in
theorem turn_any (d f : Int) (w : World) : Calls Try.prog 32 #[.int .i64 d, .int .i64 f] w fun e w' => e = .returned (.int .i64 (turnF d f)) ∧ w = w' := by
  by_cases h : 0 ≤ d ∧ d ≤ 3
  · by_cases h' : 0 ≤ f ∧ f ≤ 3
    · have hm : (f - d + 4) % 4 = 0 ∨ (f - d + 4) % 4 = 1 ∨ (f - d + 4) % 4 = 2 ∨ (f - d + 4) % 4 = 3 := by omega
      have hh := h
      have hh' := h'
      obtain ⟨h0, h1⟩ := h
      obtain ⟨h2, h3⟩ := h'
      rcases hm with hm | hm | hm | hm
      all_goals
        have i0 := turn_ix0
        have i1 := turn_ix1
        have i2 := turn_ix2
        have i3 := turn_ix3
        have hc : Hid (turnF d f = _) := turn_cases ⟨hh, hh'⟩ _ hm
        go_enter Try.func32, Try.ntmps32
        go_wp2_with fail
        refine (good_yes _ hh _).mono ?_
        rintro e w' ⟨rfl, rfl⟩
        go_wp2_with fail
        refine (good_yes _ hh' _).mono ?_
        rintro e w' ⟨rfl, rfl⟩
        go_wp2
        go_ret
        exact ⟨ret_int (by rw [hc.out]; rfl), rfl⟩
    · obtain ⟨h0, h1⟩ := h
      go_enter Try.func32, Try.ntmps32
      go_wp2_with fail
      refine (good_yes _ ⟨h0, h1⟩ _).mono ?_
      rintro e w' ⟨rfl, rfl⟩
      go_wp2_with fail
      refine (good_no _ h' _).mono ?_
      rintro e w' ⟨rfl, rfl⟩
      go_wp2
      go_ret
      exact ⟨ret_int (by unfold turnF; rw [if_neg (by omega)]), rfl⟩
  · go_enter Try.func32, Try.ntmps32
    go_wp2_with fail
    refine (good_no _ h _).mono ?_
    rintro e w' ⟨rfl, rfl⟩
    go_wp2
    go_ret
    exact ⟨ret_int (by unfold turnF; rw [if_neg (by omega)]), rfl⟩
end Go.Proofs.Ytbagccjmccehoaa
