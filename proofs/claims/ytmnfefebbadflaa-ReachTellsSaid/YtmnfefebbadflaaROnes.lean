/- OnesCount64 counts bits; Count. -/
import Derived.Test.YtmnfefebbadflaaSwar
import Derived.Test.YtmnfefebbadflaaRAdd
namespace Go.Proofs.Ytmnfefebbadflaa
open Go.RowKit
def f1 (x : Int) : Int := IntKind.u64.wrap (bits .and .u64 (x / 2) 6148914691236517205 + bits .and .u64 x 6148914691236517205)
def f2 (x : Int) : Int := IntKind.u64.wrap (bits .and .u64 (x / 4) 3689348814741910323 + bits .and .u64 x 3689348814741910323)
def f3 (x : Int) : Int := bits .and .u64 (IntKind.u64.wrap (x / 16 + x)) 1085102592571150095
def f4 (x : Int) : Int := IntKind.u64.wrap (x + x / 256)
def f5 (x : Int) : Int := IntKind.u64.wrap (x + x / 65536)
def f6 (x : Int) : Int := IntKind.u64.wrap (x + x / 4294967296)
theorem wraps_i64 (n : Int) (h₀ : 0 ≤ n) (h₁ : n < 2 ^ 63) : IntKind.i64.wrap n = n := by
  simp [IntKind.wrap, IntKind.bits, IntKind.signed]
  split <;> omega
theorem wrapN (n : Nat) (h : n < 2 ^ 64) : IntKind.u64.wrap (n : Int) = n := wraps_u64 _ (Int.natCast_nonneg _) (by exact_mod_cast h)
theorem f1_nat (x : Nat) (hx : x < 2 ^ 64) : f1 x = (s1 8 x : Nat) := by
  unfold f1 s1
  have r : rep 85 8 = 6148914691236517205 := by decide
  have h1 : bits .and .u64 (((x / 2) : Nat) : Int) 6148914691236517205 = (((x / 2) &&& 6148914691236517205 : Nat) : Int) := and64 (x / 2) 6148914691236517205 (by omega) (by decide)
  have h2 : bits .and .u64 ((x : Nat) : Int) 6148914691236517205 = ((x &&& 6148914691236517205 : Nat) : Int) := and64 x 6148914691236517205 hx (by decide)
  have l1 : x / 2 &&& 6148914691236517205 ≤ 6148914691236517205 := Nat.and_le_right
  have l2 : x &&& 6148914691236517205 ≤ 6148914691236517205 := Nat.and_le_right
  rw [r, show ((x : Int) / 2) = ((x / 2 : Nat) : Int) by omega]
  rw [h1, h2, ← Int.natCast_add, wrapN _ (by omega)]
theorem s1_le (x : Nat) : s1 8 x < 2 ^ 64 := by
  have r : rep 85 8 = 6148914691236517205 := by decide
  unfold s1; rw [r]
  have l1 : x / 2 &&& 6148914691236517205 ≤ 6148914691236517205 := Nat.and_le_right
  have l2 : x &&& 6148914691236517205 ≤ 6148914691236517205 := Nat.and_le_right
  omega
theorem f2_nat (x : Nat) (hx : x < 2 ^ 64) : f2 x = (s2 8 x : Nat) := by
  unfold f2 s2
  have r : rep 51 8 = 3689348814741910323 := by decide
  have h1 : bits .and .u64 (((x / 4) : Nat) : Int) 3689348814741910323 = (((x / 4) &&& 3689348814741910323 : Nat) : Int) := and64 (x / 4) 3689348814741910323 (by omega) (by decide)
  have h2 : bits .and .u64 ((x : Nat) : Int) 3689348814741910323 = ((x &&& 3689348814741910323 : Nat) : Int) := and64 x 3689348814741910323 hx (by decide)
  have l1 : x / 4 &&& 3689348814741910323 ≤ 3689348814741910323 := Nat.and_le_right
  have l2 : x &&& 3689348814741910323 ≤ 3689348814741910323 := Nat.and_le_right
  rw [r, show ((x : Int) / 4) = ((x / 4 : Nat) : Int) by omega]
  rw [h1, h2, ← Int.natCast_add, wrapN _ (by omega)]
theorem s2_le (x : Nat) : s2 8 x ≤ 7378697629483820646 := by
  have r : rep 51 8 = 3689348814741910323 := by decide
  unfold s2; rw [r]
  have l1 : x / 4 &&& 3689348814741910323 ≤ 3689348814741910323 := Nat.and_le_right
  have l2 : x &&& 3689348814741910323 ≤ 3689348814741910323 := Nat.and_le_right
  omega
theorem f3_nat (x : Nat) (hx : x ≤ 7378697629483820646) : f3 x = (s3 8 x : Nat) := by
  unfold f3 s3
  have r : rep 15 8 = 1085102592571150095 := by decide
  have h1 : bits .and .u64 (((x / 16 + x) : Nat) : Int) 1085102592571150095 = (((x / 16 + x) &&& 1085102592571150095 : Nat) : Int) := and64 (x / 16 + x) 1085102592571150095 (by omega) (by decide)
  rw [r, show ((x : Int) / 16 + x) = ((x / 16 + x : Nat) : Int) by omega, wrapN _ (by omega)]
  exact h1
theorem s3_le (x : Nat) : s3 8 x ≤ 1085102592571150095 := by
  have r : rep 15 8 = 1085102592571150095 := by decide
  unfold s3; rw [r]; exact Nat.and_le_right
theorem ones_val (x : Nat) (hx : x < 2 ^ 64) : f6 (f5 (f4 (f3 (f2 (f1 x))))) % 128 = (popN 64 x : Nat) ∧ 0 ≤ f6 (f5 (f4 (f3 (f2 (f1 x))))) ∧ f6 (f5 (f4 (f3 (f2 (f1 x))))) < 2 ^ 63 := by
  rw [f1_nat x hx, f2_nat _ (s1_le x), f3_nat _ (s2_le _)]
  have h := s3_le (s2 8 (s1 8 x))
  obtain ⟨k1, k2⟩ := swar x hx _ _ _ rfl rfl rfl
  change _ ≤ _ at h
  have e : D 8 x = s3 8 (s2 8 (s1 8 x)) := rfl
  rw [← e] at h ⊢
  generalize D 8 x = d at *
  have e4 : f4 (d : Nat) = ((d + d / 256 : Nat) : Int) := by unfold f4; rw [show ((d : Int) + d / 256) = ((d + d / 256 : Nat) : Int) by omega, wrapN _ (by omega)]
  rw [e4]
  generalize hd1 : d + d / 256 = d1 at *
  have e5 : f5 (d1 : Nat) = ((d1 + d1 / 65536 : Nat) : Int) := by unfold f5; rw [show ((d1 : Int) + d1 / 65536) = ((d1 + d1 / 65536 : Nat) : Int) by omega, wrapN _ (by omega)]
  rw [e5]
  generalize hd2 : d1 + d1 / 65536 = d2 at *
  have e6 : f6 (d2 : Nat) = ((d2 + d2 / 4294967296 : Nat) : Int) := by unfold f6; rw [show ((d2 : Int) + d2 / 4294967296) = ((d2 + d2 / 4294967296 : Nat) : Int) by omega, wrapN _ (by omega)]
  rw [e6]
  generalize d2 + d2 / 4294967296 = d3 at *
  omega
set_option maxRecDepth 100000 in
theorem ones_any (x : Nat) (hx : x < 2 ^ 64) (w : World) : Calls Try.prog 56 #[.int .u64 x] w fun e w' => e = .returned (.int .i64 (popN 64 x : Nat)) ∧ w' = w := by
  obtain ⟨v1, v2, v3⟩ := ones_val x hx
  go_enter Try.func56, Try.ntmps56
  go_wp2
  go_ret
  refine ⟨ret_int ?_, rfl⟩
  refine Eq.trans (b := bits .and .i64 (wrap64 (f6 (f5 (f4 (f3 (f2 (f1 x))))))) 127) rfl ?_
  generalize f6 (f5 (f4 (f3 (f2 (f1 (x : Int)))))) = z at *
  rw [show wrap64 z = z by unfold wrap64; omega]
  obtain ⟨d, rfl⟩ := Int.eq_ofNat_of_zero_le v2
  have h := (bits_nat .i64 63 (by decide) wraps_i64 d 127 (by omega) (by decide)).1
  have h2 : d &&& 127 = d % 128 := Nat.and_two_pow_sub_one_eq_mod d 7
  rw [h2] at h
  exact h.trans (by omega)
end Go.Proofs.Ytmnfefebbadflaa
