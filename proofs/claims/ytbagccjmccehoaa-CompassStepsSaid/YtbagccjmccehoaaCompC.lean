/- Letters told back, steps, the direction between points, and the first look of the compass laws: what each call answers. No condition. -/
import Derived.Test.YtbagccjmccehoaaCompB
namespace Go.Proofs.Ytbagccjmccehoaa
open Go.RowKit

def ofI (c : UInt8) : Int := if c = 69 then 0 else if c = 78 then 1 else if c = 87 then 2 else if c = 83 then 3 else -1
theorem ofI_eq (c : UInt8) : Lib.indexByte [69, 78, 87, 83] c = ofI c := by
  unfold ofI
  by_cases h0 : c = 69
  · subst h0; decide
  · by_cases h1 : c = 78
    · subst h1; decide
    · by_cases h2 : c = 87
      · subst h2; decide
      · by_cases h3 : c = 83
        · subst h3; decide
        · simp only [h0, h1, h2, h3, if_false]
          simp [Lib.indexByte, Ne.symm h0, Ne.symm h1, Ne.symm h2, Ne.symm h3]

set_option maxRecDepth 100000 in
set_option maxHeartbeats 400000 in
theorem of_one (c : UInt8) (h : 0 ≤ ofI c) (w : World) : Calls Try.prog 36 #[.string ⟨#[c]⟩] w fun e w' => e = .returned (.tuple #[.int .i64 (ofI c), .bool true]) ∧ w = w' := by
  have hk : decide (0 ≤ Lib.indexByte [69, 78, 87, 83] c) = true := by rw [ofI_eq]; exact decide_eq_true h
  have hi : Hid (Lib.indexByte [69, 78, 87, 83] c = ofI c) := ofI_eq c
  go_enter Try.func36, Try.ntmps36
  go_wp2_with fail
  refine (Try.strings_Contains_one _ c _).mono ?_
  rintro e w' ⟨rfl, rfl⟩
  go_wp2_with fail
  refine (Try.strings_Index_one _ c _).mono ?_
  rintro e w' ⟨rfl, rfl⟩
  go_wp2_with fail
  go_ret2
  exact ⟨by show Ending.returned (.tuple #[.int .i64 (Lib.indexByte [69, 78, 87, 83] c), .bool true]) = _; rw [hi.out], rfl⟩
set_option maxRecDepth 100000 in
set_option maxHeartbeats 400000 in
theorem of_other (c : UInt8) (h : ofI c < 0) (w : World) : Calls Try.prog 36 #[.string ⟨#[c]⟩] w fun e w' => e = .returned (.tuple #[.int .i64 0, .bool false]) ∧ w = w' := by
  have hk : decide (0 ≤ Lib.indexByte [69, 78, 87, 83] c) = false := by rw [ofI_eq]; exact decide_eq_false (by omega)
  go_enter Try.func36, Try.ntmps36
  go_wp2_with fail
  refine (Try.strings_Contains_one _ c _).mono ?_
  rintro e w' ⟨rfl, rfl⟩
  go_wp2_with fail
  go_ret2
  exact ⟨rfl, rfl⟩
set_option maxRecDepth 100000 in
set_option maxHeartbeats 400000 in
theorem of_long (s : ByteArray) (h : s.size ≠ 1) (w : World) : Calls Try.prog 36 #[.string s] w fun e w' => e = .returned (.tuple #[.int .i64 0, .bool false]) ∧ w = w' := by
  have hn : ((s.size : Int) == 1) = false := by simp; omega
  have hn' : ((s.size : Int) != 1) = true := by simp; omega
  have hn2 : (s.size == 1) = false := by simp; omega
  go_enter Try.func36, Try.ntmps36
  go_wp2_with fail
  go_ret2
  exact ⟨rfl, rfl⟩

theorem bet_ne {ax ay bx y : Int} (h : ¬ ax = bx) (h' : ay = y) : betD ax ay bx y = (if ax < bx then 0 else 2) ∧ betB ax ay bx y = true := by
  unfold betD betB
  simp only [h, h', eq_iff_iff, false_iff, not_true, if_false, ne_eq, not_false_eq_true, decide_true, and_true]
  by_cases hh : ax < bx
  · simp [hh]
  · simp [hh]; omega
theorem bet_ne' {ax ay bx y : Int} (h : ax = bx) (h' : ¬ ay = y) : betD ax ay bx y = (if ay < y then 1 else 3) ∧ betB ax ay bx y = true := by
  unfold betD betB
  subst h
  simp [h']
theorem bet_no {ax ay bx y : Int} (h : (ax = bx) = (ay = y)) : betD ax ay bx y = 0 ∧ betB ax ay bx y = false := by
  unfold betD betB
  simp [h]
set_option maxRecDepth 100000 in
set_option maxHeartbeats 400000 in
theorem between_any (ax ay bx y : Int) (w : World) : Calls Try.prog 38 #[.agg #[.int .i64 ax, .int .i64 ay], .agg #[.int .i64 bx, .int .i64 y]] w fun e w' => e = .returned (.tuple #[.int .i64 (betD ax ay bx y), .bool (betB ax ay bx y)]) ∧ Below w.heap.size w w' := by
  by_cases h : ax = bx
  · by_cases h' : ay = y
    · have hb : (ax == bx) = true := by simp [h]
      have hb' : (ay == y) = true := by simp [h']
      have hf : Hid (betD ax ay bx y = 0 ∧ betB ax ay bx y = false) := bet_no (by simp [h, h'])
      clear h h'
      go_enter Try.func38, Try.ntmps38
      go_wp2
      go_ret2
      exact ⟨by rw [hf.out.1, hf.out.2]; rfl, ((Below.refl _ _).alloc (Nat.le_refl _) _).alloc (by simp) _⟩
    · have hf := bet_ne' h h'
      have hb : (ax == bx) = true := by simp [h]
      have hb' : (ay == y) = false := by simp [h']
      have n1 : ¬ ax < bx := by omega
      have n2 : ¬ bx < ax := by omega
      by_cases hl : ay < y
      · have hf : Hid (betD ax ay bx y = 1 ∧ betB ax ay bx y = true) := by rw [if_pos hl] at hf; exact hf
        clear h h' 
        rename_i hf0
        clear hf0
        go_enter Try.func38, Try.ntmps38
        go_wp2
        go_ret2
        exact ⟨by rw [hf.out.1, hf.out.2]; rfl, ((Below.refl _ _).alloc (Nat.le_refl _) _).alloc (by simp) _⟩
      · have hf : Hid (betD ax ay bx y = 3 ∧ betB ax ay bx y = true) := by rw [if_neg hl] at hf; exact hf
        clear h h' 
        rename_i hf0
        clear hf0
        go_enter Try.func38, Try.ntmps38
        go_wp2
        go_ret2
        exact ⟨by rw [hf.out.1, hf.out.2]; rfl, ((Below.refl _ _).alloc (Nat.le_refl _) _).alloc (by simp) _⟩
  · by_cases h' : ay = y
    · have hf := bet_ne h h'
      have hb : (ax == bx) = false := by simp [h]
      have hb' : (ay == y) = true := by simp [h']
      by_cases hl : ax < bx
      · have hf : Hid (betD ax ay bx y = 0 ∧ betB ax ay bx y = true) := by rw [if_pos hl] at hf; exact hf
        clear h h'
        rename_i hf0
        clear hf0
        go_enter Try.func38, Try.ntmps38
        go_wp2
        go_ret2
        exact ⟨by rw [hf.out.1, hf.out.2]; rfl, ((Below.refl _ _).alloc (Nat.le_refl _) _).alloc (by simp) _⟩
      · have hf : Hid (betD ax ay bx y = 2 ∧ betB ax ay bx y = true) := by rw [if_neg hl] at hf; exact hf
        have hg : bx < ax := by omega
        clear h h'
        rename_i hf0
        clear hf0
        go_enter Try.func38, Try.ntmps38
        go_wp2
        go_ret2
        exact ⟨by rw [hf.out.1, hf.out.2]; rfl, ((Below.refl _ _).alloc (Nat.le_refl _) _).alloc (by simp) _⟩
    · have hb : (ax == bx) = false := by simp [h]
      have hb' : (ay == y) = false := by simp [h']
      have hf : Hid (betD ax ay bx y = 0 ∧ betB ax ay bx y = false) := bet_no (by simp [h, h'])
      clear h h'
      go_enter Try.func38, Try.ntmps38
      go_wp2
      go_ret2
      exact ⟨by rw [hf.out.1, hf.out.2]; rfl, ((Below.refl _ _).alloc (Nat.le_refl _) _).alloc (by simp) _⟩
set_option maxRecDepth 100000 in
set_option maxHeartbeats 400000 in
theorem rbetween_any (ax ay bx y : Int) (w : World) : Calls Try.prog 40 #[.agg #[.int .i64 ax, .int .i64 ay], .agg #[.int .i64 bx, .int .i64 y]] w fun e w' => e = .returned (.int .i64 (refBet ax ay bx y)) ∧ Below w.heap.size w w' := by
  by_cases h : ax = bx
  · have n1 : ¬ ax < bx := by omega
    have n2 : ¬ bx < ax := by omega
    have hb : (ax == bx) = true := by simp [h]
    have hb2 : (ax != bx) = false := by simp [h]
    by_cases h1 : ay < y
    · have hf : Hid (refBet ax ay bx y = 1) := by unfold refBet Hid; simp [h, h1]
      clear h
      go_enter Try.func40, Try.ntmps40
      go_wp2
      go_ret
      exact ⟨ret_int hf.out.symm, ((Below.refl _ _).alloc (Nat.le_refl _) _).alloc (by simp) _⟩
    · by_cases h2 : y < ay
      · have hf : Hid (refBet ax ay bx y = 3) := by unfold refBet Hid; simp [h, h1, h2]
        clear h
        go_enter Try.func40, Try.ntmps40
        go_wp2
        go_ret
        exact ⟨ret_int hf.out.symm, ((Below.refl _ _).alloc (Nat.le_refl _) _).alloc (by simp) _⟩
      · have hf : Hid (refBet ax ay bx y = -1) := by unfold refBet Hid; simp [h, h1, h2]
        clear h
        go_enter Try.func40, Try.ntmps40
        go_wp2
        go_ret
        exact ⟨ret_int hf.out.symm, ((Below.refl _ _).alloc (Nat.le_refl _) _).alloc (by simp) _⟩
  · have hb : (ax == bx) = false := by simp [h]
    have hb2 : (ax != bx) = true := by simp [h]
    by_cases h' : ay = y
    · have hb' : (ay == y) = true := by simp [h']
      have hb2' : (ay != y) = false := by simp [h']
      have n1 : ¬ ay < y := by omega
      by_cases h1 : ax < bx
      · have hf : Hid (refBet ax ay bx y = 0) := by unfold refBet Hid; simp [h', h1]
        clear h h'
        go_enter Try.func40, Try.ntmps40
        go_wp2
        go_ret
        exact ⟨ret_int hf.out.symm, ((Below.refl _ _).alloc (Nat.le_refl _) _).alloc (by simp) _⟩
      · have h2 : bx < ax := by omega
        have hf : Hid (refBet ax ay bx y = 2) := by unfold refBet Hid; simp [h', h1, h2]
        clear h h'
        go_enter Try.func40, Try.ntmps40
        go_wp2
        go_ret
        exact ⟨ret_int hf.out.symm, ((Below.refl _ _).alloc (Nat.le_refl _) _).alloc (by simp) _⟩
    · have hb' : (ay == y) = false := by simp [h']
      have hb2' : (ay != y) = true := by simp [h']
      have hf : Hid (refBet ax ay bx y = -1) := by unfold refBet Hid; simp [h, h']
      clear h h'
      go_enter Try.func40, Try.ntmps40
      go_wp2
      go_ret
      exact ⟨ret_int hf.out.symm, ((Below.refl _ _).alloc (Nat.le_refl _) _).alloc (by simp) _⟩
set_option maxRecDepth 100000 in
set_option maxHeartbeats 400000 in
theorem step_any (d : Int) (w : World) : Calls Try.prog 39 #[.int .i64 d] w fun e w' => e = .returned (.agg #[.int .i64 (stepX d), .int .i64 (stepY d)]) ∧ Below w.heap.size w w' := by
  by_cases h0 : d = 0
  · subst h0
    go_enter Try.func39, Try.ntmps39
    go_wp2
    exact bodyPost_ret (v := .agg #[.int .i64 1, .int .i64 0]) (by simp [results, Try.results39, go_sem]) rfl ⟨rfl, (Below.refl _ _).alloc (Nat.le_refl _) _⟩
  · by_cases h1 : d = 1
    · subst h1
      go_enter Try.func39, Try.ntmps39
      go_wp2
      exact bodyPost_ret (v := .agg #[.int .i64 0, .int .i64 1]) (by simp [results, Try.results39, go_sem]) rfl ⟨rfl, (Below.refl _ _).alloc (Nat.le_refl _) _⟩
    · by_cases h2 : d = 2
      · subst h2
        go_enter Try.func39, Try.ntmps39
        go_wp2
        exact bodyPost_ret (v := .agg #[.int .i64 (-1), .int .i64 0]) (by simp [results, Try.results39, go_sem]) rfl ⟨rfl, (Below.refl _ _).alloc (Nat.le_refl _) _⟩
      · by_cases h3 : d = 3
        · subst h3
          go_enter Try.func39, Try.ntmps39
          go_wp2
          exact bodyPost_ret (v := .agg #[.int .i64 0, .int .i64 (-1)]) (by simp [results, Try.results39, go_sem]) rfl ⟨rfl, (Below.refl _ _).alloc (Nat.le_refl _) _⟩
        · have b0 : (d == 0) = false := by simp [h0]
          have b1 : (d == 1) = false := by simp [h1]
          have b2 : (d == 2) = false := by simp [h2]
          have b3 : (d == 3) = false := by simp [h3]
          have hf : Hid (stepX d = 0 ∧ stepY d = 0) := by unfold Hid stepX stepY; simp [h0, h1, h2, h3]
          clear h0 h1 h2 h3
          go_enter Try.func39, Try.ntmps39
          go_wp2
          exact bodyPost_ret (v := .agg #[.int .i64 0, .int .i64 0]) (by simp [results, Try.results39, go_sem]) rfl ⟨by rw [hf.out.1, hf.out.2], (Below.refl _ _).alloc (Nat.le_refl _) _⟩
set_option maxRecDepth 100000 in
set_option maxHeartbeats 400000 in
theorem wakes_any (w : World) : Calls Try.prog 34 #[] w fun e w' => e = .returned (.bool true) ∧ Below w.heap.size w w' := by
  have e1 : leftF 3 1 = 0 := by decide
  have e2 : turnF 1 0 = -1 := by decide
  have e3 : letF 1 = ⟨#[78]⟩ := by decide
  have e4 : stepX 2 = -1 := by decide
  have e5 : stepY 2 = 0 := by decide
  have e6 : ofI 87 = 2 := by decide
  go_enter Try.func34, Try.ntmps34
  go_wp2_with fail
  refine (of_one 87 (by decide) _).mono ?_
  rintro e w' ⟨rfl, rfl⟩
  go_wp2_with fail
  refine (left_any _ _ _).mono ?_
  rintro e w' ⟨rfl, rfl⟩
  go_wp2_with fail
  refine (turn_any _ _ _).mono ?_
  rintro e w' ⟨rfl, rfl⟩
  go_wp2_with fail
  refine (letter_any _ _).mono ?_
  rintro e w' ⟨rfl, rfl⟩
  go_wp2_with fail
  refine (step_any _ _).mono ?_
  rintro e w1 ⟨rfl, hb⟩
  go_wp2_with fail
  go_ret
  exact ⟨rfl, hb⟩
end Go.Proofs.Ytbagccjmccehoaa
