/- Has, and its bits. -/
import Derived.Test.YtmnfefebbadflaaReach
import Derived.Lib.EndianBits
namespace Go.Proofs.Ytmnfefebbadflaa
open Go.RowKit
theorem and64 (a b : Nat) (ha : a < 2 ^ 64) (hb : b < 2 ^ 64) : bits .and .u64 (a : Int) (b : Int) = ((a &&& b : Nat) : Int) := (bits_nat .u64 64 (by decide) wraps_u64 a b ha hb).1
theorem or64 (a b : Nat) (ha : a < 2 ^ 64) (hb : b < 2 ^ 64) : bits .or .u64 (a : Int) (b : Int) = ((a ||| b : Nat) : Int) := (bits_nat .u64 64 (by decide) wraps_u64 a b ha hb).2
theorem test64 (x r : Nat) (hx : x < 2 ^ 64) : (bits .and .u64 ((x : Int) / 2 ^ r) 1 == 1) = x.testBit r := by
  have h1 : ((x : Int) / 2 ^ r) = ((x / 2 ^ r : Nat) : Int) := by norm_cast
  have h2 : x / 2 ^ r < 2 ^ 64 := Nat.lt_of_le_of_lt (Nat.div_le_self _ _) hx
  have h3 := and64 (x / 2 ^ r) 1 h2 (by decide)
  rw [Nat.and_one_is_mod] at h3
  rw [h1, show (1 : Int) = ((1 : Nat) : Int) from rfl, h3, Nat.testBit_eq_decide_div_mod_eq]
  by_cases h : x / 2 ^ r % 2 = 1
  · simp [h]
  · simp [h]
    omega
def hasX (X : Nat → Nat → Nat) (u v : Nat) : Bool := (X u (v / 64)).testBit (v % 64)
theorem has_in {w : World} {rb : Nat} {A : Option Addr} {cap : Nat} {g c : Nat → Nat} {base n m : Nat} {X : Nat → Nat → Nat} (H : RR w rb A cap g c base n m X) (hm : n ≤ m * 64) (hn : n ≤ 4096) (u v : Nat) (hu : u < n) (hv : v < n) (hx : X u (v / 64) < 2 ^ 64) :
    Calls Try.prog 28 #[.pointer (some ⟨rb, 0, none⟩), .int .i64 u, .int .i64 v] w fun e w' => e = .returned (.bool (hasX X u v)) ∧ w' = w := by
  have c0 := (Cl.of_block H.blk (j := 0) (v := .slice A n cap) rfl).cell
  obtain ⟨gb, z, f, rfl, hb, hz, hr, hf⟩ := H.top (by omega)
  have c1 := hr.cell (i := u) (by omega)
  rw [(hf u hu).1] at c1
  have c2 := ((H.rows u hu).1.cl (j := v / 64) (by omega)).cell
  obtain ⟨q, hq⟩ : ∃ q, q = v / 64 := ⟨_, rfl⟩
  obtain ⟨r, hr'⟩ : ∃ r, r = v % 64 := ⟨_, rfl⟩
  have hqr : (v : Int) = 64 * q + r := by omega
  have hqm : q < m := by omega
  have hr1 : r < 64 := by omega
  have hq1 : q < 64 := by omega
  have hres : hasX X u v = (X u q).testBit r := by rw [hasX, ← hq, ← hr']
  rw [← hq] at c2 hx
  have HR := Lib.hid hres
  have HH := Lib.hid H
  generalize X u q = x at *
  clear hres H hf hr hq hr'
  have t1 : (v : Int).tdiv 64 = q := by rw [Int.tdiv_eq_ediv_of_nonneg (by omega)]; omega
  have t2 : (v : Int).tmod 64 = r := by rw [Int.tmod_eq_emod_of_nonneg (by omega)]; omega
  have hQ := Lib.hid hqr
  clear hqr
  go_enter Try.func28, Try.ntmps28
  go_wp2_with fail
  refine (is_any HH.out _).mono ?_
  rintro e w' ⟨rfl, rfl⟩
  have hu1 : (decide (0 ≤ (u : Int)) && decide ((u : Int) < n)) = true := by simp; omega
  rw [hu1]
  go_wp2_with fail
  refine (is_any HH.out _).mono ?_
  rintro e w' ⟨rfl, rfl⟩
  have hv1 : (decide (0 ≤ (v : Int)) && decide ((v : Int) < n)) = true := by simp; omega
  rw [hv1]
  go_wp2
  go_ret
  exact ⟨ret_bool (by rw [HR.out]; exact test64 x r hx), rfl⟩
end Go.Proofs.Ytmnfefebbadflaa
