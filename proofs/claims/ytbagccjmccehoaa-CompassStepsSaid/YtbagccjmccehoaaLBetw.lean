/- The law CompassBetween returns true at all points. No condition. -/
import Derived.Test.YtbagccjmccehoaaCompC
import Derived.Lib.Hide
import Derived.OpenShut
namespace Go.Proofs.Ytbagccjmccehoaa
open Go.RowKit
theorem betF (ax ay bx y : Int) : betB ax ay bx y = decide (0 ≤ refBet ax ay bx y) ∧ betD ax ay bx y = max (refBet ax ay bx y) 0 ∧ betB bx y ax ay = betB ax ay bx y ∧
    (betB ax ay bx y = true → betD bx y ax ay = leftF (betD ax ay bx y) 2) := by
  by_cases h : ax = bx
  · by_cases h' : ay = y
    · subst h h'
      simp [betB, betD, refBet] <;> omega
    · obtain ⟨p, q⟩ := bet_ne' h h'
      obtain ⟨p', q'⟩ := bet_ne' h.symm (Ne.symm h' : ¬ y = ay)
      rw [p, q, p', q']
      subst h
      by_cases hl : ay < y
      · have : ¬ y < ay := by omega
        simp [refBet, hl, this, leftF] <;> omega
      · have : y < ay := by omega
        simp [refBet, hl, this, leftF] <;> omega
  · by_cases h' : ay = y
    · obtain ⟨p, q⟩ := bet_ne h h'
      obtain ⟨p', q'⟩ := bet_ne (Ne.symm h : ¬ bx = ax) h'.symm
      rw [p, q, p', q']
      subst h'
      by_cases hl : ax < bx
      · have : ¬ bx < ax := by omega
        simp [refBet, hl, this, leftF] <;> omega
      · have : bx < ax := by omega
        simp [refBet, hl, this, leftF] <;> omega
    · obtain ⟨p, q⟩ := bet_no (ax := ax) (ay := ay) (bx := bx) (y := y) (by simp [h, h'])
      obtain ⟨p', q'⟩ := bet_no (ax := bx) (ay := y) (bx := ax) (y := ay) (by simp [Ne.symm h, Ne.symm h'])
      rw [p, q, p', q']
      simp [refBet, h, h'] <;> omega

theorem bcell {W w1 : World} (hb : Below W.heap.size W w1) : (∀ b o, b < W.heap.size → w1.cell? ⟨b, o, none⟩ = W.cell? ⟨b, o, none⟩) ∧ (∀ b o, b < W.heap.size → w1.frozen? ⟨b, o, none⟩ = W.frozen? ⟨b, o, none⟩) :=
  ⟨fun b o h => hb.cell (p := ⟨b, o, none⟩) h, fun b o h => hb.frozen (p := ⟨b, o, none⟩) h⟩
set_option maxRecDepth 100000 in
set_option maxHeartbeats 400000 in
theorem betw_walk (ax ay bx y z : Int) (_w0 : (Lit.int .i64 ax).wf = true) (_w1 : (Lit.int .i64 ay).wf = true) (_w2 : (Lit.int .i64 bx).wf = true) (_w3 : (Lit.int .i64 y).wf = true) (_w4 : (Lit.int .u8 z).wf = true) (w : World) :
    Calls Try.prog 10 #[.agg #[.int .i64 ax, .int .i64 ay], .agg #[.int .i64 bx, .int .i64 y], .int .u8 z] w fun e w' => e = .returned (.bool true) ∧ Below w.heap.size w w' := by
  have hz : 0 ≤ z := (bounds_u8 _w4).1
  have hz3 : z % 3 = 0 ∨ z % 3 = 1 ∨ z % 3 = 2 := by omega
  have fin : ∀ px py : Int, px = px ∧ py = py := fun _ _ => ⟨rfl, rfl⟩
  obtain ⟨px, py, Hp⟩ : ∃ px py : Int, Hid ((z % 3 = 0 ∧ px = ax ∧ py = y) ∨ (z % 3 = 1 ∧ px = bx ∧ py = ay) ∨ (z % 3 = 2 ∧ px = bx ∧ py = y)) := by
    rcases hz3 with h | h | h
    · exact ⟨ax, y, .inl ⟨h, rfl, rfl⟩⟩
    · exact ⟨bx, ay, .inr (.inl ⟨h, rfl, rfl⟩)⟩
    · exact ⟨bx, y, .inr (.inr ⟨h, rfl, rfl⟩)⟩
  obtain ⟨f1, f2, f3, f4⟩ := betF ax ay px py
  clear fin
  have F1 := Lib.hid f1
  have F2 := Lib.hid f2
  have F3 := Lib.hid f3
  have F4 := Lib.hid f4
  clear f1 f2 f3 f4 hz3
  rcases Hp.out with ⟨hz3, rfl, rfl⟩ | ⟨hz3, rfl, rfl⟩ | ⟨hz3, rfl, rfl⟩
  all_goals
    clear Hp
    go_enter Try.func10, Try.ntmps10
    go_wp2_with fail
    refine (between_any _ _ _ _ _).mono ?_
    rintro e w1 ⟨rfl, hb1⟩
    obtain ⟨r1, r1'⟩ := bcell hb1
    go_wp2_with fail
    refine (between_any _ _ _ _ _).mono ?_
    rw [F3.out]
    rintro e w2 ⟨rfl, hb2'⟩
    have hb2 := hb1.trans (hb2'.mono hb1.size)
    clear r1 r1' hb2'
    obtain ⟨r2, r2'⟩ := bcell hb2
    go_wp2_with fail
    refine (rbetween_any _ _ _ _ _).mono ?_
    rintro e w3 ⟨rfl, hb3'⟩
    have hb3 := hb2.trans (hb3'.mono hb2.size)
    clear hb3'
    go_wp2_with fail
    refine (wakes_any _).mono ?_
    rintro e w4 ⟨rfl, hb4'⟩
    have hb4 := hb3.trans (hb4'.mono hb3.size)
    have hb4 := ((((Below.refl _ _).alloc (Nat.le_refl _) _).alloc (by simp) _).trans (hb4.mono (by simp; omega)))
    obtain ⟨_, HB⟩ : ∃ _ : Unit, Hid (Below w.heap.size w w4) := ⟨(), hb4⟩
    clear hb4 hb4' hb3 hb2 hb1 r2 r2'
    generalize betB _ _ _ _ = B at F1 F3 F4 ⊢
    generalize refBet _ _ _ _ = R at F1 F2 ⊢
    generalize hD : betD _ _ _ _ = D at F2 F4 ⊢
    clear hD
    generalize hD2 : betD _ _ _ _ = D2 at F4 ⊢
    clear hD2
    obtain rfl : D = max R 0 := F2.out
    by_cases hR : 0 ≤ R
    · obtain rfl : B = true := by rw [F1.out]; simp [hR]
      obtain rfl : D2 = leftF (max R 0) 2 := F4.out rfl
      clear F1 F2 F3 F4
      go_wp2_with fail
      refine (rleft_any _ _ _).mono ?_
      rintro e w5 ⟨rfl, rfl⟩
      go_wp2_with fail
      go_ret
      exact ⟨rfl, HB.out⟩
    · obtain rfl : B = false := by rw [F1.out]; simp [hR]
      clear F1 F2 F3 F4
      go_wp2_with fail
      go_ret
      exact ⟨ret_bool (by simp [hR]), HB.out⟩
end Go.Proofs.Ytbagccjmccehoaa
