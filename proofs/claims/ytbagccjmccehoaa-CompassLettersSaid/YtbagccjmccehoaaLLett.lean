/- The law CompassLetters returns true at every number and text. No condition. -/
import Derived.Test.YtbagccjmccehoaaCompC
import Derived.Lib.Hide
namespace Go.Proofs.Ytbagccjmccehoaa
open Go.RowKit
theorem let_of {x : Int} (h : 0 ≤ x ∧ x ≤ 3) : ∃ c : UInt8, letF x = ⟨#[c]⟩ ∧ ofI c = x := by
  obtain rfl | rfl | rfl | rfl : x = 0 ∨ x = 1 ∨ x = 2 ∨ x = 3 := by omega
  · exact ⟨69, by decide, by decide⟩
  · exact ⟨78, by decide, by decide⟩
  · exact ⟨87, by decide, by decide⟩
  · exact ⟨83, by decide, by decide⟩
theorem bet_step {x : Int} (h : 0 ≤ x ∧ x ≤ 3) : betD 0 0 (stepX x) (stepY x) = x ∧ betB 0 0 (stepX x) (stepY x) = true := by
  obtain rfl | rfl | rfl | rfl : x = 0 ∨ x = 1 ∨ x = 2 ∨ x = 3 := by omega
  all_goals simp [betD, betB, stepX, stepY]
theorem step_bad {x : Int} (h : ¬ (0 ≤ x ∧ x ≤ 3)) : stepX x = 0 ∧ stepY x = 0 := by
  unfold stepX stepY
  rw [if_neg (by omega), if_neg (by omega), if_neg (by omega), if_neg (by omega)]
  exact ⟨rfl, rfl⟩
theorem letter_g {x : Int} {c : UInt8} (h : letF x = ⟨#[c]⟩) (w : World) : Calls Try.prog 35 #[.int .i64 x] w fun e w' => e = .returned (.string ⟨#[c]⟩) ∧ w = w' := by rw [← h]; exact letter_any x w
theorem rletter_g {x : Int} {c : UInt8} (h : letF x = ⟨#[c]⟩) (w : World) : Calls Try.prog 37 #[.int .i64 x] w fun e w' => e = .returned (.string ⟨#[c]⟩) ∧ Below w.heap.size w w' := by rw [← h]; exact rletter_any x w
theorem letter_b {x : Int} (h : ¬ (0 ≤ x ∧ x ≤ 3)) (w : World) : Calls Try.prog 35 #[.int .i64 x] w fun e w' => e = .returned (.string ⟨#[]⟩) ∧ w = w' := by rw [← let_bad h]; exact letter_any x w
theorem rletter_b {x : Int} (h : ¬ (0 ≤ x ∧ x ≤ 3)) (w : World) : Calls Try.prog 37 #[.int .i64 x] w fun e w' => e = .returned (.string ⟨#[]⟩) ∧ Below w.heap.size w w' := by rw [← let_bad h]; exact rletter_any x w

set_option maxRecDepth 100000 in
set_option maxHeartbeats 1000000 in
theorem lett_walk (a0 : Int) (s : ByteArray) (_w0 : (Lit.int .i64 a0).wf = true) (_w1 : s.size ≤ 140737488351232) (w : World) :
    Calls Try.prog 9 #[.int .i64 a0, .string s] w fun e w' => e = .returned (.bool true) ∧ Below w.heap.size w w' := by
  go_enter Try.func9, Try.ntmps9
  go_wp2_with fail
  generalize max 0 a0 % 4 = b0
  go_loopw [21] (fun c wr => ∃ k : Nat, k ≤ 2 ∧ c = .int .i64 k ∧ Below w.heap.size w wr ∧ wr.heap[w.heap.size]? = some (.cells #[.int .i64 a0, .int .i64 b0] 3)) (fun c _ => 2 - (intOf c).toNat)
  case atStart => exact ⟨0, by omega, rfl, (Below.refl _ _).alloc (Nat.le_refl _) _, heap_alloc_new w _⟩
  case round =>
    obtain ⟨k, hk, rfl, hb, hblk⟩ := hrel
    have hsz : w.heap.size < wr.heap.size := (Array.getElem?_eq_some_iff.1 hblk).1
    have HB := Lib.hid hblk
    by_cases hlt : k < 2
    · obtain ⟨x, hx⟩ : ∃ x, wr.cell? ⟨w.heap.size, k, none⟩ = some (.int .i64 x) := by
        obtain rfl | rfl : k = 0 ∨ k = 1 := by omega
        · exact ⟨a0, by simp [World.cell?, hblk]⟩
        · exact ⟨b0, by simp [World.cell?, hblk]⟩
      clear hblk
      by_cases hg : 0 ≤ x ∧ x ≤ 3
      · obtain ⟨c, hc, ho⟩ := let_of hg
        have HC := Lib.hid hc
        clear hc
        have HO := Lib.hid ho
        have hp := bet_step hg
        obtain ⟨hp1, hp2⟩ := hp
        have hn1 : (x != x) = false := by simp
        go_wp2_with fail
        refine (letter_g HC.out _).mono ?_
        rintro e w' ⟨rfl, rfl⟩
        go_wp2_with fail
        refine (of_one c (by rw [HO.out]; exact hg.1) _).mono ?_
        rw [HO.out]
        rintro e w' ⟨rfl, rfl⟩
        go_wp2_with fail
        refine (rletter_g HC.out _).mono ?_
        rintro e w1 ⟨rfl, hb1⟩
        go_wp2_with fail
        refine (rgood_yes _ hg _).mono ?_
        rintro e w' ⟨rfl, rfl⟩
        go_wp2_with fail
        refine (step_any _ _).mono ?_
        rintro e w2 ⟨rfl, hb2⟩
        go_wp2_with fail
        refine (between_any _ _ _ _ _).mono ?_
        rw [hp1, hp2]
        rintro e w3 ⟨rfl, hb3⟩
        go_wp2_with fail
        refine (rgood_yes _ hg _).mono ?_
        rintro e w' ⟨rfl, rfl⟩
        have hb4 := (hb1.trans (hb2.mono hb1.size))
        have hb5 := hb4.trans (hb3.mono hb4.size)
        have HN := Lib.hid (hb.trans (hb5.mono (by omega)))
        have HN2 := Lib.hid ((hb5.block w.heap.size hsz).trans HB.out)
        clear hb1 hb2 hb3 hb4 hb5 hb
        go_wp2_with fail
        exact ⟨⟨k + 1, by omega, by go_num, HN.out, HN2.out⟩, by simp [intOf]; omega⟩
      · obtain ⟨hp1, hp2⟩ := step_bad hg
        have hq1 : betD 0 0 0 0 = 0 := by decide
        have hq2 : betB 0 0 0 0 = false := by decide
        go_wp2_with fail
        refine (letter_b hg _).mono ?_
        rintro e w' ⟨rfl, rfl⟩
        go_wp2_with fail
        refine (of_long ⟨#[]⟩ (by decide) _).mono ?_
        rintro e w' ⟨rfl, rfl⟩
        go_wp2_with fail
        refine (rletter_b hg _).mono ?_
        rintro e w1 ⟨rfl, hb1⟩
        go_wp2_with fail
        refine (rgood_no _ hg _).mono ?_
        rintro e w' ⟨rfl, rfl⟩
        go_wp2_with fail
        refine (step_any _ _).mono ?_
        rw [hp1, hp2]
        rintro e w2 ⟨rfl, hb2⟩
        go_wp2_with fail
        refine (between_any _ _ _ _ _).mono ?_
        rw [hq1, hq2]
        rintro e w3 ⟨rfl, hb3⟩
        go_wp2_with fail
        refine (rgood_no _ hg _).mono ?_
        rintro e w' ⟨rfl, rfl⟩
        have hb4 := (hb1.trans (hb2.mono hb1.size))
        have hb5 := hb4.trans (hb3.mono hb4.size)
        have HN := Lib.hid (hb.trans (hb5.mono (by omega)))
        have HN2 := Lib.hid ((hb5.block w.heap.size hsz).trans HB.out)
        clear hb1 hb2 hb3 hb4 hb5 hb
        go_wp2_with fail
        exact ⟨⟨k + 1, by omega, by go_num, HN.out, HN2.out⟩, by simp [intOf]; omega⟩
    · obtain rfl : k = 2 := by omega
      clear HB hblk
      by_cases h1 : s.size = 1
      · obtain ⟨c, rfl⟩ : ∃ c : UInt8, s = ⟨#[c]⟩ := by
          obtain ⟨⟨l⟩⟩ := s
          match l, h1 with
          | [c], _ => exact ⟨c, rfl⟩
        by_cases hc : 0 ≤ ofI c
        · have h4 : c = 69 ∨ c = 78 ∨ c = 87 ∨ c = 83 := by
            unfold ofI at hc
            by_cases c = 69 <;> by_cases c = 78 <;> by_cases c = 87 <;> by_cases c = 83 <;> simp_all
          rcases h4 with rfl | rfl | rfl | rfl
          · have o1 : ofI 69 = 0 := by decide
            go_wp2_with fail
            refine (of_one 69 hc _).mono ?_
            rw [o1]
            rintro e w' ⟨rfl, rfl⟩
            go_wp2_with fail
            refine (wakes_any _).mono ?_
            rintro e w1 ⟨rfl, hb1⟩
            go_wp2_with fail
            refine (rletter_g (x := 0) (c := 69) (by decide) _).mono ?_
            rintro e w2 ⟨rfl, hb2⟩
            go_wp2_with fail
            go_ret
            have hb4 := (hb1.trans (hb2.mono hb1.size))
            exact ⟨rfl, hb.trans (hb4.mono (by omega))⟩
          · have o1 : ofI 78 = 1 := by decide
            go_wp2_with fail
            refine (of_one 78 hc _).mono ?_
            rw [o1]
            rintro e w' ⟨rfl, rfl⟩
            go_wp2_with fail
            refine (wakes_any _).mono ?_
            rintro e w1 ⟨rfl, hb1⟩
            go_wp2_with fail
            refine (rletter_g (x := 1) (c := 78) (by decide) _).mono ?_
            rintro e w2 ⟨rfl, hb2⟩
            go_wp2_with fail
            go_ret
            have hb4 := (hb1.trans (hb2.mono hb1.size))
            exact ⟨rfl, hb.trans (hb4.mono (by omega))⟩
          · have o1 : ofI 87 = 2 := by decide
            go_wp2_with fail
            refine (of_one 87 hc _).mono ?_
            rw [o1]
            rintro e w' ⟨rfl, rfl⟩
            go_wp2_with fail
            refine (wakes_any _).mono ?_
            rintro e w1 ⟨rfl, hb1⟩
            go_wp2_with fail
            refine (rletter_g (x := 2) (c := 87) (by decide) _).mono ?_
            rintro e w2 ⟨rfl, hb2⟩
            go_wp2_with fail
            go_ret
            have hb4 := (hb1.trans (hb2.mono hb1.size))
            exact ⟨rfl, hb.trans (hb4.mono (by omega))⟩
          · have o1 : ofI 83 = 3 := by decide
            go_wp2_with fail
            refine (of_one 83 hc _).mono ?_
            rw [o1]
            rintro e w' ⟨rfl, rfl⟩
            go_wp2_with fail
            refine (wakes_any _).mono ?_
            rintro e w1 ⟨rfl, hb1⟩
            go_wp2_with fail
            refine (rletter_g (x := 3) (c := 83) (by decide) _).mono ?_
            rintro e w2 ⟨rfl, hb2⟩
            go_wp2_with fail
            go_ret
            have hb4 := (hb1.trans (hb2.mono hb1.size))
            exact ⟨rfl, hb.trans (hb4.mono (by omega))⟩
        · have n1 : c ≠ 69 := by rintro rfl; revert hc; decide
          have n2 : c ≠ 78 := by rintro rfl; revert hc; decide
          have n3 : c ≠ 87 := by rintro rfl; revert hc; decide
          have n4 : c ≠ 83 := by rintro rfl; revert hc; decide
          have m1 : (c == 69) = false := by simpa using n1
          have m2 : (c == 78) = false := by simpa using n2
          have m3 : (c == 87) = false := by simpa using n3
          have m4 : (c == 83) = false := by simpa using n4
          go_wp2_with fail
          refine (of_other _ (by omega) _).mono ?_
          rintro e w' ⟨rfl, rfl⟩
          go_wp2_with fail
          refine (wakes_any _).mono ?_
          rintro e w1 ⟨rfl, hb1⟩
          go_wp2_with fail
          go_ret
          exact ⟨rfl, hb.trans (hb1.mono (by omega))⟩
      · have m : ∀ c : UInt8, ¬ s.toList = [c] := fun c h => by
          rw [ByteArray.toList_eq] at h
          apply h1
          have h2 := congrArg List.length h
          simpa using h2
        have m1 := m 69
        have m2 := m 78
        have m3 := m 87
        have m4 := m 83
        clear m
        go_wp2_with fail
        refine (of_long _ h1 _).mono ?_
        rintro e w' ⟨rfl, rfl⟩
        go_wp2_with fail
        refine (wakes_any _).mono ?_
        rintro e w1 ⟨rfl, hb1⟩
        go_wp2_with fail
        go_ret
        exact ⟨ret_bool (by simp [m1, m2, m3, m4]), hb.trans (hb1.mono (by omega))⟩
end Go.Proofs.Ytbagccjmccehoaa
