/- The first look of the reach laws returns true. -/
import Derived.Test.YtmnfefebbadflaaRCount
namespace Go.Proofs.Ytmnfefebbadflaa
open Go.RowKit
theorem below_add {W w w' : World} {n : Nat} {g : Nat → Nat} (h : Below W.heap.size W w) (c : Chg (fun b => ∃ i, i < n ∧ b = g i) w w') (hg : ∀ i, i < n → W.heap.size ≤ g i) : Below W.heap.size W w' :=
  h.trans (c.below h.size (fun k hk => by obtain ⟨i, hi, rfl⟩ := hk; exact hg i hi))
theorem bnd_zero (n m : Nat) : Bnd n m (fun _ _ => 0) := fun _ _ _ _ => Nat.pow_pos (by omega)
set_option maxRecDepth 100000 in
set_option maxHeartbeats 1000000 in
theorem rwakes_any (w : World) : Calls Try.prog 26 #[] w fun e w' => e = .returned (.bool true) ∧ Below w.heap.size w w' := by
  have p1 : hasX (addX 3 (addX 3 (fun _ _ => 0) 0 1) 1 2) 0 2 = true := by decide
  have p2 : hasX (addX 3 (addX 3 (fun _ _ => 0) 0 1) 1 2) 0 0 = false := by decide
  have p3 : cntC (addX 3 (addX 3 (fun _ _ => 0) 0 1) 1 2) 1 3 = 3 := by decide
  have bn1 := addX_bnd (bnd_zero 3 1) 0 (v := 1) (by omega)
  have bn2 := addX_bnd bn1 1 (v := 2) (by omega)
  have P1 := Lib.hid p1
  have P2 := Lib.hid p2
  have P3 := Lib.hid p3
  have N1 := Lib.hid bn1
  have N2 := Lib.hid bn2
  clear p1 p2 p3 bn1 bn2
  go_enter Try.func26, Try.ntmps26
  go_wp2_with fail
  refine (new_in 3 (by omega) _).mono ?_
  rintro e w1 ⟨rfl, hM⟩
  have M : Made w w1 3 1 3 := hM
  have R1 := M.rr
  have HR1 := Lib.hid R1
  have HB1 := Lib.hid M.below
  clear hM M R1
  go_wp2_with fail
  refine (add_in HR1.out (bnd_zero 3 1) (by omega) (by omega) (by omega) 0 1 (by omega) (by omega)).mono ?_
  rintro e w2 ⟨rfl, R2, C2⟩
  have HR2 := Lib.hid R2
  have HB2 := Lib.hid (below_add HB1.out C2 (fun i _ => by omega))
  clear R2 C2
  go_wp2_with fail
  refine (add_in HR2.out N1.out (by omega) (by omega) (by omega) 1 2 (by omega) (by omega)).mono ?_
  rintro e w3 ⟨rfl, R3, C3⟩
  have HR3 := Lib.hid R3
  have HB3 := Lib.hid (below_add HB2.out C3 (fun i _ => by omega))
  clear R3 C3
  go_wp2_with fail
  refine (new_out (-1) (by omega) _).mono ?_
  rintro e w' ⟨rfl, hw'⟩
  replace hw' := hw'.symm
  subst hw'
  go_wp2_with fail
  refine (has_in HR3.out (by omega) (by omega) 0 2 (by omega) (by omega) (N2.out 0 (by omega) 0 (by omega))).mono ?_
  rw [P1.out]
  rintro e w' ⟨rfl, hw'⟩
  replace hw' := hw'.symm
  subst hw'
  go_wp2_with fail
  refine (has_in HR3.out (by omega) (by omega) 0 0 (by omega) (by omega) (N2.out 0 (by omega) 0 (by omega))).mono ?_
  rw [P2.out]
  rintro e w' ⟨rfl, hw'⟩
  replace hw' := hw'.symm
  subst hw'
  go_wp2_with fail
  refine (count_any HR3.out N2.out (by omega) (by omega)).mono ?_
  rw [P3.out]
  rintro e w4 ⟨rfl, B4⟩
  have HR4 := Lib.hid (HR3.out.later B4)
  have HB4 := Lib.hid (below_then HB3.out HB3.out.size B4)
  clear B4
  go_wp2_with fail
  refine (add_out HR4.out 0 3 (by omega)).mono ?_
  rintro e w' ⟨rfl, hw'⟩
  replace hw' := hw'.symm
  subst hw'
  go_wp2_with fail
  go_ret
  exact ⟨rfl, HB4.out⟩
end Go.Proofs.Ytmnfefebbadflaa
