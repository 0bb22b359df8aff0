/- The document's own digits. -/
import Derived.Test.YtkpgjgmlhcipeaaDoorLexC
import Derived.Laws.IdiomStrings
namespace Go.Proofs.YtkpgjgmlhcipeaaDoor
open Go.RowKit
theorem one_byte {d : Nat} (h : d < 10) : (UInt8.ofNat (48 + d)).toNat = 48 + d := by
  rw [UInt8.toNat_ofNat']
  omega
theorem conv_one (w : World) {d : Nat} (h : d < 10) : (convert 68 9 (.slice (some ⟨w.heap.size, 0, none⟩) 1 1)).run Tryd.prog (w.alloc (.cells #[.int .u8 (48 + (d : Int))] 5)) = .ok (.string (toB [UInt8.ofNat (48 + d)])) (w.alloc (.cells #[.int .u8 (48 + (d : Int))] 5)) := by
  have hc := run_convert_bytes_back (P := Tryd.prog) (w.alloc (.cells #[.int .u8 (48 + (d : Int))] 5)) 68 9 5 ⟨w.heap.size, 0, none⟩ 1 [UInt8.ofNat (48 + d)] Tryd.underlying68 Tryd.underlying5 Tryd.underlying9 (fun j hj => by
    have hj0 : j = 0 := by simpa using hj
    subst hj0
    have hG : (w.alloc (.cells #[.int .u8 (48 + (d : Int))] 5)).heap[w.heap.size]? = some (.cells #[.int .u8 (48 + (d : Int))] 5) := heap_at rfl
    have := (Cl.of_block hG (j := 0) rfl).cell
    have e : (([UInt8.ofNat (48 + d)] : List UInt8)[0].toNat : Int) = 48 + (d : Int) := by
      show (((UInt8.ofNat (48 + d)).toNat : Nat) : Int) = _
      rw [one_byte h]
      omega
    rw [e]
    exact this)
  exact hc
theorem cat_data (a b : ByteArray) : (a ++ b).data.toList = a.data.toList ++ b.data.toList := by simp
theorem to_toB {s : ByteArray} {l : List UInt8} (h : s.data.toList = l) : s = toB l := by rw [← h, toB_data]
set_option maxRecDepth 100000 in
set_option maxHeartbeats 1000000 in
theorem refDigits_nn {w : World} (n : Nat) (hn : n ≤ 9223372036854775807) :
    Calls Tryd.prog 23 #[.int .i64 (n : Int)] w fun e w' => e = .returned (.string (toB (Lib.decDigits n))) ∧ Below w.heap.size w w' := by
  have hq : ((n : Int) == -9223372036854775808) = false := by simp
  have hd : decide ((n : Int) < 0) = false := by simp
  obtain ⟨d, hm, h10, hdn⟩ : ∃ d : Nat, (n : Int) % 10 = (d : Int) ∧ d < 10 ∧ d = n % 10 := ⟨n % 10, by omega, by omega, rfl⟩
  obtain ⟨k0, hk0, hkn⟩ : ∃ k : Nat, (n : Int) / 10 = (k : Int) ∧ k = n / 10 := ⟨n / 10, by omega, rfl⟩
  have hk1 : (n : Int).tdiv 10 = (k0 : Int) := by rw [Int.tdiv_eq_ediv_of_nonneg (by omega)]; exact hk0
  have e1 : IntKind.i64.wrap (48 + (d : Int)) = 48 + (d : Int) := IntWalk.i64_in _ (by omega)
  have e2 : IntKind.u8.wrap (48 + (d : Int)) = 48 + (d : Int) := by simp [IntKind.wrap, IntKind.signed, IntKind.bits]; omega
  have e3 : IntKind.i64.wrap (k0 : Int) = k0 := IntWalk.i64_in _ (by omega)
  have hcv := conv_one w h10
  have HS0 : Hid ((k0 = 0 ∧ (toB [UInt8.ofNat (48 + d)]).data.toList = Lib.decDigits n) ∨ (0 < k0 ∧ Lib.decDigits n = Lib.decDigits k0 ++ (toB [UInt8.ofNat (48 + d)]).data.toList)) := Lib.hid (by
    rw [data_toB]
    by_cases h : n < 10
    · left
      refine ⟨by omega, ?_⟩
      rw [dig_small h, hdn, Nat.mod_eq_of_lt h]
    · right
      refine ⟨by omega, ?_⟩
      rw [dig_big h, hkn, hdn])
  have hkb : k0 ≤ 9223372036854775807 := by omega
  clear hdn hkn
  generalize toB [UInt8.ofNat (48 + d)] = S0 at *
  go_enter Tryd.func23, Tryd.ntmps23
  go_wp2_with fail
  obtain ⟨w1, hw1⟩ : ∃ x, x = w.alloc (.cells #[.int .u8 (48 + (d : Int))] 5) := ⟨_, rfl⟩
  try rw [← hw1]
  have B1 : Below w.heap.size w w1 := by rw [hw1]; exact (Below.refl _ _).alloc (Nat.le_refl _) _
  have HB1 := Lib.hid B1
  clear hw1 B1 hcv e1 e2 e3 hm hk0 hk1 hq hd
  go_loopw [0, 4] (fun q s wr => ∃ (k : Nat) (S : ByteArray), k ≤ 9223372036854775807 ∧ q = .int .i64 k ∧ s = .string S ∧ Hid ((k = 0 ∧ S.data.toList = Lib.decDigits n) ∨ (0 < k ∧ Lib.decDigits n = Lib.decDigits k ++ S.data.toList)) ∧ Below w.heap.size w wr) (fun q _ _ => (intOf q).toNat)
  case atStart => exact ⟨k0, S0, hkb, rfl, rfl, HS0, HB1.out⟩
  case round =>
    obtain ⟨k, S, hk, rfl, rfl, HS, B⟩ := hrel
    obtain ⟨wo, rfl⟩ : ∃ q : World, q = wr := ⟨_, rfl⟩
    have HB := Lib.hid B
    have hwo := B.size
    have hSz : S.size ≤ 19 := by
      have h1 := dig_len 18 n (by omega)
      rw [Lib.size_eq S]
      rcases HS.out with ⟨-, h⟩ | ⟨-, h⟩
      · rw [h]; exact h1
      · rw [h, List.length_append] at h1; omega
    clear B HB1 HS0
    by_cases hk0' : 0 < k
    · have hdk : decide (0 < k) = true := by simpa using hk0'
      have hdk2 : decide ((0 : Int) < (k : Int)) = true := by simpa using hk0'
      obtain ⟨d1, hm, h10', hdn⟩ : ∃ d : Nat, (k : Int) % 10 = (d : Int) ∧ d < 10 ∧ d = k % 10 := ⟨k % 10, by omega, by omega, rfl⟩
      obtain ⟨k1, hkd, hkn⟩ : ∃ j : Nat, (k : Int) / 10 = (j : Int) ∧ j = k / 10 := ⟨k / 10, by omega, rfl⟩
      have hkt : (k : Int).tdiv 10 = (k1 : Int) := by rw [Int.tdiv_eq_ediv_of_nonneg (by omega)]; exact hkd
      have e1 : IntKind.i64.wrap (48 + (d1 : Int)) = 48 + (d1 : Int) := IntWalk.i64_in _ (by omega)
      have e2 : IntKind.u8.wrap (48 + (d1 : Int)) = 48 + (d1 : Int) := by simp [IntKind.wrap, IntKind.signed, IntKind.bits]; omega
      have e3 : IntKind.i64.wrap (k1 : Int) = k1 := IntWalk.i64_in _ (by omega)
      have hcv := conv_one wo h10'
      have HT := Lib.hid (cat_data (toB [UInt8.ofNat (48 + d1)]) S)
      have HTB := Lib.hid (data_toB [UInt8.ofNat (48 + d1)])
      have hS1 : (toB [UInt8.ofNat (48 + d1)]).size = 1 := by rw [Lib.size_eq, HTB.out]; rfl
      have HD : Hid (d1 = k % 10 ∧ k1 = k / 10) := Lib.hid ⟨hdn, hkn⟩
      have hlt : k1 < k := by omega
      clear hdn hkn
      generalize toB [UInt8.ofNat (48 + d1)] = S1 at *
      have hcat : ¬9223372036854775807 < S1.size + S.size := by omega
      go_wp2_with fail
      refine ⟨⟨k1, S1 ++ S, by omega, by go_num, rfl, Lib.hid ?_, HB.out.alloc (by omega) _⟩, by simp [intOf]; omega⟩
      rw [HT.out, HTB.out]
      obtain ⟨r1, r2⟩ := HD.out
      rcases HS.out with ⟨h, -⟩ | ⟨-, h⟩
      · omega
      · by_cases hs : k < 10
        · left
          refine ⟨by omega, ?_⟩
          rw [h, dig_small hs, r1, Nat.mod_eq_of_lt hs]
        · right
          refine ⟨by omega, ?_⟩
          rw [h, dig_big hs, r1, r2, List.append_assoc]
    · have hdk : decide (0 < k) = false := by simpa using hk0'
      have hdk2 : decide ((0 : Int) < (k : Int)) = false := by simpa using hk0'
      have HE : Hid (S = toB (Lib.decDigits n)) := Lib.hid (by
        rcases HS.out with ⟨-, h⟩ | ⟨h, -⟩
        · exact to_toB h
        · omega)
      go_wp2_with fail
      go_ret
      have hE := HE.out
      subst hE
      exact ⟨rfl, HB.out⟩
theorem itoa_min : toB (Lib.itoa (-9223372036854775808)) = ⟨#[45, 57, 50, 50, 51, 51, 55, 50, 48, 51, 54, 56, 53, 52, 55, 55, 53, 56, 48, 56]⟩ := by
  have h : Lib.decDigits 9223372036854775808 = [57, 50, 50, 51, 51, 55, 50, 48, 51, 54, 56, 53, 52, 55, 55, 53, 56, 48, 56] := dig_canon 18 _ _ rfl (by decide) (.inr (by decide))
  unfold Lib.itoa
  rw [if_pos (by decide)]
  show toB (45 :: Lib.decDigits 9223372036854775808) = _
  rw [h]
  rfl
set_option maxRecDepth 100000 in
set_option maxHeartbeats 1000000 in
theorem refDigits_any {w : World} (n : Int) (h0 : -9223372036854775808 ≤ n) (h1 : n ≤ 9223372036854775807) :
    Calls Tryd.prog 23 #[.int .i64 n] w fun e w' => e = .returned (.string (toB (Lib.itoa n))) ∧ Below w.heap.size w w' := by
  by_cases hnn : 0 ≤ n
  · obtain ⟨u, rfl⟩ : ∃ u : Nat, n = u := ⟨n.toNat, by omega⟩
    rw [Lib.itoa_nonneg]
    exact refDigits_nn u (by omega)
  · by_cases hmin : n = -9223372036854775808
    · subst hmin
      rw [itoa_min]
      go_enter Tryd.func23, Tryd.ntmps23
      go_wp2_with fail
      go_ret
      exact ⟨rfl, Below.refl _ _⟩
    · obtain ⟨u, rfl, hu1, hu2⟩ : ∃ u : Nat, n = -(u : Int) ∧ 1 ≤ u ∧ u ≤ 9223372036854775807 := ⟨n.natAbs, by omega, by omega, by omega⟩
      have hq : ((-(u : Int)) == -9223372036854775808) = false := by simp; omega
      have hd : decide ((-(u : Int)) < 0) = true := by simp; omega
      have e1 : IntKind.i64.wrap (u : Int) = u := IntWalk.i64_in _ (by omega)
      have e2 : IntKind.i64.wrap (-(-(u : Int))) = u := by rw [Int.neg_neg]; exact e1
      rw [Lib.itoa_neg u hu1]
      have HT : Hid ((⟨#[45]⟩ : ByteArray) ++ toB (Lib.decDigits u) = toB (45 :: Lib.decDigits u)) := Lib.hid (to_toB (by rw [cat_data, data_toB]; rfl))
      have hsz : (toB (Lib.decDigits u)).size ≤ 19 := by
        rw [Lib.size_eq, data_toB]
        exact dig_len 18 u (by omega)
      have HDN := Lib.hid (refDigits_nn (w := w) u hu2)
      clear hnn hmin
      generalize toB (Lib.decDigits u) = S at *
      generalize toB (45 :: Lib.decDigits u) = S2 at *
      have hcat : ¬9223372036854775807 < (⟨#[45]⟩ : ByteArray).size + S.size := by
        have : (⟨#[45]⟩ : ByteArray).size = 1 := rfl
        omega
      have hcat2 : ¬9223372036854775807 < 1 + S.size := by omega
      go_enter Tryd.func23, Tryd.ntmps23
      go_wp2_with fail
      refine HDN.out.mono ?_
      rintro e w1 ⟨rfl, B1⟩
      have HB := Lib.hid B1
      clear B1
      go_wp2_with fail
      go_ret
      have hT := HT.out
      subst hT
      exact ⟨rfl, HB.out⟩
end Go.Proofs.YtkpgjgmlhcipeaaDoor
