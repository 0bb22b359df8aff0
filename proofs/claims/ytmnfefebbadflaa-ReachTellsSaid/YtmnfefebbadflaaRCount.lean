/- Count of all pairs; Copy. -/
import Derived.Test.YtmnfefebbadflaaROnes
namespace Go.Proofs.Ytmnfefebbadflaa
open Go.RowKit
def rowC (x : Nat → Nat) : Nat → Nat
  | 0 => 0
  | j + 1 => rowC x j + popN 64 (x j)
def cntC (X : Nat → Nat → Nat) (m : Nat) : Nat → Nat
  | 0 => 0
  | k + 1 => cntC X m k + rowC (X k) m
theorem rowC_le (x : Nat → Nat) : ∀ j, rowC x j ≤ 64 * j
  | 0 => by simp [rowC]
  | j + 1 => by have := rowC_le x j; have := popN_le 64 (x j); simp only [rowC]; omega
theorem cntC_le (X : Nat → Nat → Nat) (m : Nat) (hm : m ≤ 64) : ∀ k, cntC X m k ≤ 4096 * k
  | 0 => by simp [cntC]
  | k + 1 => by have := cntC_le X m hm k; have := rowC_le (X k) m; simp only [cntC]; omega
set_option maxRecDepth 100000 in
set_option maxHeartbeats 1000000 in
theorem count_any {w : World} {rb : Nat} {A : Option Addr} {cap : Nat} {g c : Nat → Nat} {base n m : Nat} {X : Nat → Nat → Nat} (H : RR w rb A cap g c base n m X) (hX : Bnd n m X) (hm64 : m ≤ 64) (hn : n ≤ 4096) :
    Calls Try.prog 29 #[.pointer (some ⟨rb, 0, none⟩)] w fun e w' => e = .returned (.int .i64 (cntC X m n : Nat)) ∧ Below w.heap.size w w' := by
  have c0 := (Cl.of_block H.blk (j := 0) (v := .slice A n cap) rfl).cell
  have HH := Lib.hid H
  have HX := Lib.hid hX
  clear H hX
  go_enter Try.func29, Try.ntmps29
  go_wp2_with fail
  go_loopw [3, 16] (fun t s wr => ∃ k : Nat, k ≤ n ∧ s = .int .i64 k ∧ t = .int .i64 (cntC X m k : Nat) ∧ wr = w) (fun _ s _ => n - (intOf s).toNat)
  case atStart => exact ⟨0, by omega, rfl, rfl, rfl⟩
  case round =>
    obtain ⟨k, hk, rfl, rfl, rfl⟩ := hrel
    have hl := cntC_le X m hm64 k
    by_cases hkn : k < n
    · obtain ⟨gb, z, f, rfl, hb, hz, hr, hf⟩ := HH.out.top (by omega)
      have c1 := hr.cell (i := k) (by omega)
      rw [(hf k hkn).1] at c1
      have hrow := (HH.out.rows k hkn).1
      have HW := Lib.hid hrow
      obtain ⟨cc, hcc⟩ : ∃ cc, cc = cntC X m k := ⟨_, rfl⟩
      rw [← hcc] at hl ⊢
      have HC := Lib.hid hcc
      clear hcc hrow hr hf
      go_wp2_with fail
      go_loopw [3, 22] (fun t s wr' => ∃ j : Nat, j ≤ m ∧ s = .int .i64 j ∧ t = .int .i64 (cc + rowC (X k) j : Nat) ∧ wr' = wr) (fun _ s _ => m - (intOf s).toNat)
      case atStart => exact ⟨0, by omega, rfl, by simp [rowC], rfl⟩
      case round =>
        obtain ⟨j, hj, rfl, rfl, rfl⟩ := hrel
        have hl2 := rowC_le (X k) j
        by_cases hjm : j < m
        · have d0 := (HW.out.cl hjm).cell
          have hpl := popN_le 64 (X k j)
          go_wp2_with fail
          refine (ones_any (X k j) (HX.out k hkn j hjm) _).mono ?_
          rintro e w' ⟨rfl, hw'⟩
          replace hw' := hw'.symm
          subst hw'
          go_wp2_with fail
          exact ⟨⟨j + 1, by omega, by go_num, congrArg (Value.int .i64) (by simp only [rowC]; omega), trivial⟩, by simp [intOf]; omega⟩
        · obtain rfl : j = m := by omega
          go_wp2_with fail
          exact ⟨⟨k + 1, by omega, by go_num, by simp only [cntC]; rw [HC.out], trivial⟩, by simp [intOf]; omega⟩
    · obtain rfl : k = n := by omega
      go_wp2_with fail
      go_ret
      exact ⟨rfl, Below.refl _ _⟩
theorem count_nil (w : World) : Calls Try.prog 29 #[.pointer none] w fun e w' => e = .returned (.int .i64 0) ∧ w' = w := by
  go_enter Try.func29, Try.ntmps29
  go_wp2
  go_ret
  exact ⟨rfl, rfl⟩
theorem has_nil (u v : Int) (w : World) : Calls Try.prog 28 #[.pointer none, .int .i64 u, .int .i64 v] w fun e w' => e = .returned (.bool false) ∧ w' = w := by
  go_enter Try.func28, Try.ntmps28
  go_wp2_with fail
  refine (is_nil _ _).mono ?_
  rintro e w' ⟨rfl, hw'⟩
  replace hw' := hw'.symm
  subst hw'
  go_wp2
  go_ret
  exact ⟨rfl, rfl⟩
theorem has_out {w : World} {rb : Nat} {A : Option Addr} {cap : Nat} {g c : Nat → Nat} {base n m : Nat} {X : Nat → Nat → Nat} (H : RR w rb A cap g c base n m X) (u v : Int) (h : ¬ (0 ≤ u ∧ u < n ∧ 0 ≤ v ∧ v < n)) :
    Calls Try.prog 28 #[.pointer (some ⟨rb, 0, none⟩), .int .i64 u, .int .i64 v] w fun e w' => e = .returned (.bool false) ∧ w' = w := by
  have HH := Lib.hid H
  clear H
  go_enter Try.func28, Try.ntmps28
  go_wp2_with fail
  refine (is_any HH.out _).mono ?_
  rintro e w' ⟨rfl, hw'⟩
  replace hw' := hw'.symm
  subst hw'
  by_cases hu : 0 ≤ u ∧ u < n
  · have hu1 : (decide (0 ≤ u) && decide (u < n)) = true := by simp [hu]
    have hv1 : (decide (0 ≤ v) && decide (v < n)) = false := by
      have : ¬ (0 ≤ v ∧ v < n) := fun hv => h ⟨hu.1, hu.2, hv⟩
      simp; omega
    rw [hu1]
    go_wp2_with fail
    refine (is_any HH.out _).mono ?_
    rintro e w' ⟨rfl, hw'⟩
    replace hw' := hw'.symm
    subst hw'
    rw [hv1]
    go_wp2
    go_ret
    exact ⟨rfl, rfl⟩
  · have hu1 : (decide (0 ≤ u) && decide (u < n)) = false := by simp; omega
    rw [hu1]
    go_wp2
    go_ret
    exact ⟨rfl, rfl⟩
theorem add_nil (u v : Int) (w : World) : Calls Try.prog 27 #[.pointer none, .int .i64 u, .int .i64 v] w fun e w' => e = .returned (.int .i64 1) ∧ w' = w := by
  go_enter Try.func27, Try.ntmps27
  go_wp2
  go_ret
  exact ⟨rfl, rfl⟩
theorem add_out {w : World} {rb : Nat} {A : Option Addr} {cap : Nat} {g c : Nat → Nat} {base n m : Nat} {X : Nat → Nat → Nat} (H : RR w rb A cap g c base n m X) (u v : Int) (h : ¬ (0 ≤ u ∧ u < n ∧ 0 ≤ v ∧ v < n)) :
    Calls Try.prog 27 #[.pointer (some ⟨rb, 0, none⟩), .int .i64 u, .int .i64 v] w fun e w' => e = .returned (.int .i64 2) ∧ w' = w := by
  have HH := Lib.hid H
  clear H
  go_enter Try.func27, Try.ntmps27
  go_wp2_with fail
  refine (is_any HH.out _).mono ?_
  rintro e w' ⟨rfl, hw'⟩
  replace hw' := hw'.symm
  subst hw'
  by_cases hu : 0 ≤ u ∧ u < n
  · have hu1 : (decide (0 ≤ u) && decide (u < n)) = true := by simp [hu]
    have hv1 : (decide (0 ≤ v) && decide (v < n)) = false := by
      have : ¬ (0 ≤ v ∧ v < n) := fun hv => h ⟨hu.1, hu.2, hv⟩
      simp; omega
    rw [hu1]
    go_wp2_with fail
    refine (is_any HH.out _).mono ?_
    rintro e w' ⟨rfl, hw'⟩
    replace hw' := hw'.symm
    subst hw'
    rw [hv1]
    go_wp2
    go_ret
    exact ⟨rfl, rfl⟩
  · have hu1 : (decide (0 ≤ u) && decide (u < n)) = false := by simp; omega
    rw [hu1]
    go_wp2
    go_ret
    exact ⟨rfl, rfl⟩
theorem copy_nil (w : World) : Calls Try.prog 30 #[.pointer none] w fun e w' => e = .returned (.pointer none) ∧ w' = w := by
  go_enter Try.func30, Try.ntmps30
  go_wp2
  go_ret
  exact ⟨rfl, rfl⟩
end Go.Proofs.Ytmnfefebbadflaa
