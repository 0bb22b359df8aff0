/- LexLong: a text of more than MaxText bytes is too long; of MaxText bytes it has its lines. -/
import Derived.Test.YtkpgjgmlhcipeaaDoorLexW
import Derived.Test.YtkpgjgmlhcipeaaDoorLexD
namespace Go.Proofs.YtkpgjgmlhcipeaaDoor
open Go.RowKit
theorem cut_len (c : UInt8) : ∀ l : List UInt8, (cut c l).length = l.count c + 1
  | [] => by simp [cut]
  | x :: r => by
    have ih := cut_len c r
    by_cases h : x = c
    · rw [cut_hit h, List.length_cons, ih, h, List.count_cons_self]
    · cases hr : cut c r with
      | nil => exact absurd hr (cut_ne c r)
      | cons a t =>
        rw [hr] at ih
        rw [cut_miss h hr, List.count_cons_of_ne (fun e => h e)]
        simpa using ih
theorem rep_one (c : Nat) : Lib.repeatL [10] c = List.replicate c 10 := by
  induction c with
  | zero => rfl
  | succ c ih =>
    show [10] ++ Lib.repeatL [10] c = _
    rw [ih, List.replicate_succ]
    rfl
theorem ext_zero (s : ByteArray) {k : Nat} (hk : k ≤ s.size) : (s.extract 0 k).size = k := by
  rw [ByteArray.size_extract]
  omega
set_option maxRecDepth 100000 in
set_option maxHeartbeats 1000000 in
theorem long_core {w : World} (s : ByteArray) (more : Bool) {m0 : Int} (hs : s.size ≤ 140737488351232) (hm : w.cell? ⟨0, 0, none⟩ = some (.int .i64 m0)) (ht : Tab w) :
    Calls Tryd.prog 6 #[.string s, .bool more] w fun e w' => e = .returned (.bool true) ∧ Below w.heap.size w w' := by
  obtain ⟨k, hk1, hk2, hmin⟩ : ∃ k : Nat, k ≤ s.size ∧ k ≤ 100 ∧ min (s.size : Int) 100 = (k : Int) := ⟨min s.size 100, by omega, by omega, by omega⟩
  have htz := ext_zero s hk1
  obtain ⟨t, ht0⟩ : ∃ t, s.extract 0 k = t := ⟨_, rfl⟩
  rw [ht0] at htz
  obtain ⟨c, hc⟩ : ∃ c : Nat, c + k + 1 = 1048576 := ⟨1048575 - k, by omega⟩
  have e1 : IntKind.i64.wrap (1048576 - (t.size : Int)) = 1048576 - (t.size : Int) := IntWalk.i64_in _ (by omega)
  have e2 : IntKind.i64.wrap (1048576 - (t.size : Int) - 1) = (c : Int) := by rw [IntWalk.i64_in _ (by omega)]; omega
  have i1 : (0 : Int) ≤ (k : Int) := by omega
  have i2 : (k : Int) ≤ (s.size : Int) := by omega
  have HM := Lib.hid hm
  have HT := Lib.hid ht
  have HTZ := Lib.hid htz
  clear hm ht htz
  go_enter Tryd.func6, Tryd.ntmps6
  go_wp2_with fail
  clear hmin ht0 i1 i2
  refine (Tryd.strings_Repeat bNl c w (by omega) (by rw [show bNl.size = 1 from rfl, Nat.one_mul]; omega)).mono ?_
  rw [show bNl.data.toList = [10] from rfl, rep_one]
  obtain ⟨R, hR⟩ : ∃ R, (⟨(List.replicate c (10 : UInt8)).toArray⟩ : ByteArray) = R := ⟨_, rfl⟩
  have hRd : R.data.toList = List.replicate c 10 := by rw [← hR]
  have hRz : R.size = c := by rw [Lib.size_eq, hRd, List.length_replicate]
  rw [hR]
  have HRD := Lib.hid hRd
  clear hR hRd
  rintro e w1 ⟨rfl, B1⟩
  have HM1 := Lib.hid (cell_later B1 HM.out)
  have HT1 := Lib.hid (tab_later HT.out B1)
  have HB1 := Lib.hid B1
  clear B1 HM HT
  obtain ⟨X1, hX1⟩ : ∃ X, R ++ t = X := ⟨_, rfl⟩
  obtain ⟨X, hX⟩ : ∃ X, X1 ++ bNl = X := ⟨_, rfl⟩
  have hX1d : X1.data.toList = List.replicate c 10 ++ t.data.toList := by rw [← hX1, cat_data, HRD.out]
  have hXd : X.data.toList = (List.replicate c 10 ++ t.data.toList) ++ [10] := by rw [← hX, cat_data, hX1d]; rfl
  have hX1z : X1.size = c + k := by rw [Lib.size_eq, hX1d, List.length_append, List.length_replicate, ← Lib.size_eq, HTZ.out]
  have hXz : X.size = 1048576 := by rw [Lib.size_eq, hXd, List.length_append, ← hX1d, ← Lib.size_eq, hX1z]; simp; omega
  have hb1 : (⟨#[10]⟩ : ByteArray).size = 1 := rfl
  have g1 : ¬9223372036854775807 < R.size + t.size := by have := HTZ.out; omega
  have g2 : ¬9223372036854775807 < X1.size + 1 := by omega
  have hX' : X1 ++ (⟨#[10]⟩ : ByteArray) = X := hX
  have HXD := Lib.hid hXd
  have HXZ := Lib.hid hXz
  have g3 : ¬9223372036854775807 < X.size + 1 := by omega
  clear hX hX1d hXd hX1z hXz hRz e1 e2
  cases more with
  | true =>
    obtain ⟨Y, hY⟩ : ∃ Y, X ++ (⟨#[10]⟩ : ByteArray) = Y := ⟨_, rfl⟩
    have hYz : Y.data.toList.length = 1048577 := by rw [← hY, cat_data, List.length_append, ← Lib.size_eq, HXZ.out]; rfl
    have hYs : Y.size < 4294967281 := by rw [Lib.size_eq]; omega
    have hYE : lnE Y.data.toList = 16 := by unfold lnE; rw [if_pos (by omega)]
    have hYL : lnL Y.data.toList = [] := by unfold lnL; rw [hYE, if_neg (by simp)]
    have HYE := Lib.hid hYE
    have HYL := Lib.hid hYL
    have HYS := Lib.hid hYs
    clear hYz hYE hYL hYs
    go_wp2_with fail
    clear hX1 hX' hY g1 g2 g3 hb1
    refine (lexLines_any HYS.out HM1.out).mono ?_
    rw [HYE.out, HYL.out]
    rintro e w2 ⟨V2, rfl, S2, B2⟩
    obtain ⟨A2, c2, rfl, -⟩ := S2.at_
    have HM2 := Lib.hid (cell_later B2 HM1.out)
    have HT2 := Lib.hid (tab_later HT1.out B2)
    have HB2 := Lib.hid (below_then HB1.out HB1.out.size B2)
    clear S2 B2 HM1 HT1 HB1
    go_wp2_with fail
    refine (lexWakes_ok HM2.out HT2.out).mono ?_
    rintro e w3 ⟨rfl, B3⟩
    have HB3 := Lib.hid (below_then HB2.out HB2.out.size B3)
    clear B3 HM2 HT2 HB2
    go_wp2_with fail
    go_ret
    exact ⟨rfl, HB3.out⟩
  | false =>
    have hXs : X.size < 4294967281 := by rw [HXZ.out]; omega
    have hsf : Lib.hasSuffix X.data.toList [10] = true := by
      unfold Lib.hasSuffix
      rw [List.isSuffixOf_iff_suffix, HXD.out]
      exact ⟨_, rfl⟩
    have hne : X.data.toList ≠ [] := by rw [HXD.out]; simp
    have hXl : X.data.toList.length = 1048576 := by rw [← Lib.size_eq]; exact HXZ.out
    have hXE : lnE X.data.toList = 0 := by unfold lnE; rw [if_neg (by omega), if_neg hne, if_pos hsf]
    have hXL : (lnL X.data.toList).length = c + t.data.toList.count 10 + 1 := by
      unfold lnL
      rw [if_pos ⟨hXE, hne⟩, List.length_map, cut_len, HXD.out, List.dropLast_concat, List.count_append, List.count_replicate_self]
    have HXE := Lib.hid hXE
    have hcl : t.data.toList.count 10 ≤ 100 := by
      have h1 := List.count_le_length (a := (10 : UInt8)) (l := t.data.toList)
      have h2 := HTZ.out
      rw [Lib.size_eq] at h2
      omega
    obtain ⟨LL, hLL⟩ : ∃ LL, lnL X.data.toList = LL := ⟨_, rfl⟩
    rw [hLL] at hXL
    have HLL := Lib.hid hLL
    have HXS := Lib.hid hXs
    have HXL := Lib.hid hXL
    clear hXs hsf hne hXl hXE hLL hXL
    go_wp2_with fail
    clear hX1 hX' g1 g2 g3 hb1
    refine (lexLines_any HXS.out HM1.out).mono ?_
    rw [HXE.out, HLL.out]
    rintro e w2 ⟨V2, rfl, S2, B2⟩
    obtain ⟨A2, c2, rfl, -⟩ := S2.at_
    have HM2 := Lib.hid (cell_later B2 HM1.out)
    have HT2 := Lib.hid (tab_later HT1.out B2)
    have HB2 := Lib.hid (below_then HB1.out HB1.out.size B2)
    clear S2 B2 HM1 HT1 HB1
    go_wp2_with fail
    refine (lexWakes_ok HM2.out HT2.out).mono ?_
    rintro e w3 ⟨rfl, B3⟩
    have HB3 := Lib.hid (below_then HB2.out HB2.out.size B3)
    clear B3 HM2 HT2 HB2
    have f1 : IntKind.i64.wrap (1048576 - (t.size : Int)) = 1048576 - (t.size : Int) := IntWalk.i64_in _ (by have := HTZ.out; omega)
    obtain ⟨q, hq⟩ : ∃ q, t.data.toList.count 10 = q := ⟨_, rfl⟩
    have HQ := Lib.hid hq
    rw [hq] at hcl
    have f2 : IntKind.i64.wrap (1048576 - (t.size : Int) + (q : Int)) = ((LL.length : Nat) : Int) := by
      have h1 := HTZ.out
      have h2 := HXL.out
      rw [hq] at h2
      rw [IntWalk.i64_in _ (by omega)]
      omega
    have hll : (((LL.length : Nat) : Int) == ((LL.length : Nat) : Int)) = true := by simp
    clear hq
    go_wp2_with fail
    refine (Tryd.strings_Count_one t 10 w3).mono ?_
    rw [show Lib.countByte t.data.toList 10 = q from HQ.out]
    rintro e w4 ⟨rfl, hw4⟩
    subst hw4
    go_wp2_with fail
    go_ret
    exact ⟨rfl, HB3.out⟩
end Go.Proofs.YtkpgjgmlhcipeaaDoor
