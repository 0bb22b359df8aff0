/- LexOne: numbers are read of their digits, and of nothing else. -/
import Derived.Test.YtkpgjgmlhcipeaaDoorLexW
import Derived.Test.YtkpgjgmlhcipeaaDoorLexD
namespace Go.Proofs.YtkpgjgmlhcipeaaDoor
open Go.RowKit
theorem one_self (k : Nat) (hk : k ≤ 9999999) : numO (Lib.itoa (k : Int)) (k : Int) = some k := by
  rw [itoa_numO _ _ (by omega), if_pos ⟨by omega, by omega⟩]
  simp
theorem one_less (k : Nat) (hk : k ≤ 9999999) : numO (Lib.itoa (k : Int)) ((k : Int) - 1) = none := by
  rw [itoa_numO _ _ (by omega), if_neg (by omega)]
theorem one_blank (l : List UInt8) (most : Int) : numO (32 :: l) most = none := numO_bad (dec_bad _ 0 (by rw [List.any_cons]; rfl))
theorem one_nought (l : List UInt8) (most : Int) (h : 0 < l.length) : numO (48 :: l) most = none := numO_shape (fun h2 => h2.2.2 ⟨by simp; omega, rfl⟩)
theorem eq_list {x y : ByteArray} (h : x = y) : (x.toList == y.toList) = true := by subst h; simp
set_option maxRecDepth 100000 in
set_option maxHeartbeats 2000000 in
theorem one_core {w : World} (n : Int) (other : ByteArray) {m0 : Int} (h0 : -9223372036854775808 ≤ n) (h1 : n ≤ 9223372036854775807) (hm : w.cell? ⟨0, 0, none⟩ = some (.int .i64 m0)) (ht : Tab w) :
    Calls Tryd.prog 3 #[.int .i64 n, .string other] w fun e w' => e = .returned (.bool true) ∧ Below w.heap.size w w' := by
  obtain ⟨M, hmax, hM⟩ : ∃ M : Nat, max (0 : Int) n = (M : Int) ∧ M ≤ 9223372036854775807 := ⟨(max 0 n).toNat, by omega, by omega⟩
  obtain ⟨k, hk, hk9⟩ : ∃ k : Nat, (M : Int) % 10000000 = (k : Int) ∧ k ≤ 9999999 := ⟨M % 10000000, by omega, by omega⟩
  have HM := Lib.hid hm
  have HT := Lib.hid ht
  clear hm ht
  go_enter Tryd.func3, Tryd.ntmps3
  go_wp2_with fail
  refine (digits_any (k : Int) (by omega) (by omega) HT.out).mono ?_
  obtain ⟨D, hD⟩ : ∃ D, toB (Lib.itoa (k : Int)) = D := ⟨_, rfl⟩
  have hDl : D.data.toList = Lib.itoa (k : Int) := by rw [← hD, data_toB]
  have hDz : D.size ≤ 7 ∧ 1 ≤ D.size := by
    rw [Lib.size_eq, hDl, Lib.itoa_nonneg]
    exact ⟨dig_len 6 k (by omega), dig_pos k⟩
  rw [hD]
  have HDL := Lib.hid hDl
  clear hD hDl
  rintro e w1 ⟨rfl, B1⟩
  have HM1 := Lib.hid (cell_later B1 HM.out)
  have HT1 := Lib.hid (tab_later HT.out B1)
  have HB1 := Lib.hid B1
  clear B1 HM HT
  go_wp2_with fail
  refine (lexNumber_some (s := D) (most := (k : Int)) (m := k) (by rw [HDL.out]; exact one_self k hk9)).mono ?_
  rintro e w2 ⟨rfl, B2⟩
  have HM2 := Lib.hid (cell_later B2 HM1.out)
  have HT2 := Lib.hid (tab_later HT1.out B2)
  have HB2 := Lib.hid (below_then HB1.out HB1.out.size B2)
  clear B2 HM1 HT1 HB1
  have e1 : IntKind.i64.wrap ((k : Int) - 1) = (k : Int) - 1 := IntWalk.i64_in _ (by omega)
  go_wp2_with fail
  refine (lexNumber_none (s := D) (most := (k : Int) - 1) (by rw [HDL.out]; exact one_less k hk9)).mono ?_
  rintro e w3 ⟨rfl, B3⟩
  have HM3 := Lib.hid (cell_later B3 HM2.out)
  have HT3 := Lib.hid (tab_later HT2.out B3)
  have HB3 := Lib.hid (below_then HB2.out HB2.out.size B3)
  clear B3 HM2 HT2 HB2
  have hcat : ¬9223372036854775807 < 1 + D.size := by omega
  have hc1 : (⟨#[32]⟩ : ByteArray).size = 1 := rfl
  have hc2 : (⟨#[48]⟩ : ByteArray).size = 1 := rfl
  obtain ⟨X, hX⟩ : ∃ X, (⟨#[32]⟩ ++ D : ByteArray) = X := ⟨_, rfl⟩
  obtain ⟨Y, hY⟩ : ∃ Y, (⟨#[48]⟩ ++ D : ByteArray) = Y := ⟨_, rfl⟩
  have HXN : Hid (numO X.data.toList (k : Int) = none) := Lib.hid (by
    have e : X.data.toList = 32 :: D.data.toList := by rw [← hX, cat_data]; rfl
    rw [e]
    exact one_blank _ _)
  have HYN : Hid (numO Y.data.toList 9999999 = none) := Lib.hid (by
    have e : Y.data.toList = 48 :: D.data.toList := by rw [← hY, cat_data]; rfl
    rw [e]
    exact one_nought _ _ (by rw [← Lib.size_eq]; omega))
  go_wp2_with fail
  refine (lexNumber_none HXN.out).mono ?_
  rintro e w4 ⟨rfl, B4⟩
  have HM4 := Lib.hid (cell_later B4 HM3.out)
  have HT4 := Lib.hid (tab_later HT3.out B4)
  have HB4 := Lib.hid (below_then HB3.out HB3.out.size B4)
  clear B4 HM3 HT3 HB3
  go_wp2_with fail
  refine (lexNumber_none HYN.out).mono ?_
  rintro e w5 ⟨rfl, B5⟩
  have HM5 := Lib.hid (cell_later B5 HM4.out)
  have HT5 := Lib.hid (tab_later HT4.out B5)
  have HB5 := Lib.hid (below_then HB4.out HB4.out.size B5)
  clear B5 HM4 HT4 HB4 hcat hc1 hc2 hX hY HXN HYN
  have hkk : ((k : Int) == (k : Int)) = true := by simp
  obtain ⟨O, hO⟩ : ∃ O, numO other.data.toList 9999999 = O := ⟨_, rfl⟩
  have HO := Lib.hid hO
  clear hO
  cases O with
  | none =>
    go_wp2_with fail
    refine (lexNumber_none (s := other) (most := 9999999) HO.out).mono ?_
    rintro e w6 ⟨rfl, B6⟩
    have HM6 := Lib.hid (cell_later B6 HM5.out)
    have HT6 := Lib.hid (tab_later HT5.out B6)
    have HB6 := Lib.hid (below_then HB5.out HB5.out.size B6)
    clear B6 HM5 HT5 HB5
    go_wp2_with fail
    refine (lexWakes_ok HM6.out HT6.out).mono ?_
    rintro e w7 ⟨rfl, B7⟩
    have HB7 := Lib.hid (below_then HB6.out HB6.out.size B7)
    clear B7 HM6 HT6 HB6
    go_wp2_with fail
    go_ret
    exact ⟨rfl, HB7.out⟩
  | some m =>
    have hm9 := (numO_some HO.out).2.2
    have HIT := Lib.hid (to_toB (numO_itoa HO.out).symm)
    go_wp2_with fail
    refine (lexNumber_some (s := other) (most := 9999999) HO.out).mono ?_
    rintro e w6 ⟨rfl, B6⟩
    have HM6 := Lib.hid (cell_later B6 HM5.out)
    have HT6 := Lib.hid (tab_later HT5.out B6)
    have HB6 := Lib.hid (below_then HB5.out HB5.out.size B6)
    clear B6 HM5 HT5 HB5
    go_wp2_with fail
    refine (lexWakes_ok HM6.out HT6.out).mono ?_
    rintro e w7 ⟨rfl, B7⟩
    have HT7 := Lib.hid (tab_later HT6.out B7)
    have HB7 := Lib.hid (below_then HB6.out HB6.out.size B7)
    clear B7 HM6 HT6 HB6
    go_wp2_with fail
    refine (digits_any (m : Int) (by omega) (by omega) HT7.out).mono ?_
    rw [← HIT.out]
    rintro e w8 ⟨rfl, B8⟩
    have HB8 := Lib.hid (below_then HB7.out HB7.out.size B8)
    have hs : (other.toList == other.toList) = true := by simp
    clear B8 HT7 HB7
    go_wp2_with fail
    go_ret
    exact ⟨rfl, HB8.out⟩
end Go.Proofs.YtkpgjgmlhcipeaaDoor
