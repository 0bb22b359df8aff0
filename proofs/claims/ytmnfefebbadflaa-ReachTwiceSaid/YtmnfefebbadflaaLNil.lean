/- The law ReachNil returns true at all numbers. -/
import Derived.Test.YtmnfefebbadflaaRWake
namespace Go.Proofs.Ytmnfefebbadflaa
open Go.RowKit
theorem has_added {n : Nat} {X : Nat → Nat → Nat} {u v : Nat} (hu : u < n) : hasX (addX n X u v) u v = true := by
  unfold addX
  split
  · assumption
  · unfold hasX addJ
    rw [if_pos ⟨Or.inl hu, by simp [hitX]⟩]
    unfold moreX
    rw [if_pos rfl, Nat.testBit_or, Nat.testBit_or, Nat.testBit_two_pow_self]
    simp
set_option maxRecDepth 100000 in
set_option maxHeartbeats 1000000 in
theorem nil_walk (u v : Int) (hu : (Lit.int .i64 u).wf = true) (_ : (Lit.int .i64 v).wf = true) (w : World) : Calls Try.prog 7 #[.int .i64 u, .int .i64 v] w fun e w' => e = .returned (.bool true) ∧ Below w.heap.size w w' := by
  go_enter Try.func7, Try.ntmps7
  go_wp2_with fail
  by_cases hr : 0 ≤ u ∧ u ≤ 4096
  · obtain ⟨n, rfl⟩ := Int.eq_ofNat_of_zero_le hr.1
    refine (new_in n (by omega) _).mono ?_
    rintro e w1 ⟨rfl, hM⟩
    have HB1 := Lib.hid hM.below
    clear hM
    have hle : ((n : Int) ≤ 4096) := hr.2
    clear hr
    have hs1 := HB1.out.size
    go_wp2_with fail
    all_goals
      refine (new_out _ (by omega) _).mono ?_
      rintro e w' ⟨rfl, hw'⟩
      replace hw' := hw'.symm
      subst hw'
      go_wp2_with fail
      refine (new_in 4096 (by omega) _).mono ?_
      rintro e w2 ⟨rfl, hM2⟩
      have M2 : Made w1 w2 4096 64 4096 := hM2
      have HR2 := Lib.hid M2.rr
      have HB2 := Lib.hid (below_then HB1.out hs1 M2.below)
      clear hM2 M2
      go_wp2_with fail
      refine (add_in HR2.out (bnd_zero 4096 64) (by omega) (by omega) (by omega) 4095 0 (by omega) (by omega)).mono ?_
      rintro e w3 ⟨rfl, R3, C3⟩
      have HR3 := Lib.hid R3
      have HB3 := Lib.hid (below_add HB2.out C3 (fun i _ => by omega))
      clear R3 C3
      go_wp2_with fail
      refine (rwakes_any _).mono ?_
      rintro e w4 ⟨rfl, B4⟩
      have HR4 := Lib.hid (HR3.out.later B4)
      have HB4 := Lib.hid (below_then HB3.out HB3.out.size B4)
      clear B4
      go_wp2_with fail
      all_goals
        refine (has_in HR4.out (by omega) (by omega) 4095 0 (by omega) (by omega) (addX_bnd (bnd_zero 4096 64) 4095 (by omega) 4095 (by omega) 0 (by omega))).mono ?_
        rw [has_added (by omega)]
        rintro e w' ⟨rfl, hw'⟩
        replace hw' := hw'.symm
        subst hw'
        go_wp2_with fail
        refine (add_nil _ _ _).mono ?_
        rintro e w' ⟨rfl, hw'⟩
        replace hw' := hw'.symm
        subst hw'
        go_wp2_with fail
        refine (has_nil _ _ _).mono ?_
        rintro e w' ⟨rfl, hw'⟩
        replace hw' := hw'.symm
        subst hw'
        go_wp2_with fail
        refine (count_nil _).mono ?_
        rintro e w' ⟨rfl, hw'⟩
        replace hw' := hw'.symm
        subst hw'
        go_wp2_with fail
        refine (copy_nil _).mono ?_
        rintro e w' ⟨rfl, hw'⟩
        replace hw' := hw'.symm
        subst hw'
        go_wp2_with fail
        go_ret
        first | exact ⟨rfl, HB4.out⟩ | exact ⟨ret_bool (by simp; omega), HB4.out⟩
  · refine (new_out u hr _).mono ?_
    rintro e w1 ⟨rfl, hw1⟩
    have HB1 : Hid (Below w.heap.size w w1) := by rw [hw1]; exact Lib.hid (Below.refl _ _)
    clear hw1
    have hs1 := HB1.out.size
    go_wp2_with fail
    all_goals
      refine (new_out _ (by omega) _).mono ?_
      rintro e w' ⟨rfl, hw'⟩
      replace hw' := hw'.symm
      subst hw'
      go_wp2_with fail
      refine (new_in 4096 (by omega) _).mono ?_
      rintro e w2 ⟨rfl, hM2⟩
      have M2 : Made w1 w2 4096 64 4096 := hM2
      have HR2 := Lib.hid M2.rr
      have HB2 := Lib.hid (below_then HB1.out hs1 M2.below)
      clear hM2 M2
      go_wp2_with fail
      refine (add_in HR2.out (bnd_zero 4096 64) (by omega) (by omega) (by omega) 4095 0 (by omega) (by omega)).mono ?_
      rintro e w3 ⟨rfl, R3, C3⟩
      have HR3 := Lib.hid R3
      have HB3 := Lib.hid (below_add HB2.out C3 (fun i _ => by omega))
      clear R3 C3
      go_wp2_with fail
      refine (rwakes_any _).mono ?_
      rintro e w4 ⟨rfl, B4⟩
      have HR4 := Lib.hid (HR3.out.later B4)
      have HB4 := Lib.hid (below_then HB3.out HB3.out.size B4)
      clear B4
      go_wp2_with fail
      all_goals
        refine (has_in HR4.out (by omega) (by omega) 4095 0 (by omega) (by omega) (addX_bnd (bnd_zero 4096 64) 4095 (by omega) 4095 (by omega) 0 (by omega))).mono ?_
        rw [has_added (by omega)]
        rintro e w' ⟨rfl, hw'⟩
        replace hw' := hw'.symm
        subst hw'
        go_wp2_with fail
        refine (add_nil _ _ _).mono ?_
        rintro e w' ⟨rfl, hw'⟩
        replace hw' := hw'.symm
        subst hw'
        go_wp2_with fail
        refine (has_nil _ _ _).mono ?_
        rintro e w' ⟨rfl, hw'⟩
        replace hw' := hw'.symm
        subst hw'
        go_wp2_with fail
        refine (count_nil _).mono ?_
        rintro e w' ⟨rfl, hw'⟩
        replace hw' := hw'.symm
        subst hw'
        go_wp2_with fail
        refine (copy_nil _).mono ?_
        rintro e w' ⟨rfl, hw'⟩
        replace hw' := hw'.symm
        subst hw'
        go_wp2_with fail
        go_ret
        first | exact ⟨rfl, HB4.out⟩ | exact ⟨ret_bool (by simp; omega), HB4.out⟩
end Go.Proofs.Ytmnfefebbadflaa

