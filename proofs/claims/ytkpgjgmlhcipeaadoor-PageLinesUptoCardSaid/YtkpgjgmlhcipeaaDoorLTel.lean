/- LexTells: lines, words and numbers of any text are the document's. -/
import Derived.Test.YtkpgjgmlhcipeaaDoorLexW
import Derived.Test.YtkpgjgmlhcipeaaDoorLexR
import Derived.Test.YtkpgjgmlhcipeaaDoorLexC
import Derived.Test.YtkpgjgmlhcipeaaDoorStrE
namespace Go.Proofs.YtkpgjgmlhcipeaaDoor
open Go.RowKit
theorem ext_zeroT (s : ByteArray) {k : Nat} (hk : k ≤ s.size) : (s.extract 0 k).size = k := by
  rw [ByteArray.size_extract]
  omega
theorem lnL_len {l : List UInt8} (h : l.length ≤ 1000) : (lnL l).length ≤ 1001 := by
  unfold lnL
  split
  · rw [List.length_map]
    have : ∀ (l : List UInt8), (cut 10 l).length ≤ l.length + 1 := by
      intro l
      induction l with
      | nil => simp [cut]
      | cons x r ih =>
        by_cases hx : x = 10
        · rw [cut_hit hx]; simp; omega
        · cases hr : cut 10 r with
          | nil => exact absurd hr (cut_ne 10 r)
          | cons a t => rw [hr] at ih; rw [cut_miss hx hr]; simp at ih ⊢; omega
    have h1 := this l.dropLast
    rw [List.length_dropLast] at h1
    omega
  · simp
theorem wdL_len {l : List UInt8} (h : l.length ≤ 1000) : (wdL l).length ≤ 1001 := by
  unfold wdL
  split
  · rw [List.length_map]
    have : ∀ (l : List UInt8), (cut 32 l).length ≤ l.length + 1 := by
      intro l
      induction l with
      | nil => simp [cut]
      | cons x r ih =>
        by_cases hx : x = 32
        · rw [cut_hit hx]; simp; omega
        · cases hr : cut 32 r with
          | nil => exact absurd hr (cut_ne 32 r)
          | cons a t => rw [hr] at ih; rw [cut_miss hx hr]; simp at ih ⊢; omega
    have h1 := this l
    omega
  · simp
set_option maxRecDepth 100000 in
set_option maxHeartbeats 1000000 in
theorem tells_core {w : World} (s : ByteArray) (most : Int) {m0 : Int} (hs : s.size ≤ 140737488351232) (hm : w.cell? ⟨0, 0, none⟩ = some (.int .i64 m0)) (ht : Tab w) :
    Calls Tryd.prog 4 #[.string s, .int .i64 most] w fun e w' => e = .returned (.bool true) ∧ Below w.heap.size w w' := by
  obtain ⟨k, hk1, hk2, hmin⟩ : ∃ k : Nat, k ≤ s.size ∧ k ≤ 1000 ∧ min (s.size : Int) 1000 = (k : Int) := ⟨min s.size 1000, by omega, by omega, by omega⟩
  have htz := ext_zeroT s hk1
  obtain ⟨t, ht0⟩ : ∃ t, s.extract 0 k = t := ⟨_, rfl⟩
  rw [ht0] at htz
  have i1 : (0 : Int) ≤ (k : Int) := by omega
  have i2 : (k : Int) ≤ (s.size : Int) := by omega
  have hts : t.size < 4294967281 := by omega
  have htl : t.data.toList.length ≤ 1000 := by rw [← Lib.size_eq]; omega
  have hl1 := lnL_len htl
  have hl2 := wdL_len htl
  obtain ⟨E, hE⟩ : ∃ E, lnE t.data.toList = E := ⟨_, rfl⟩
  obtain ⟨LL, hLL⟩ : ∃ LL, lnL t.data.toList = LL := ⟨_, rfl⟩
  obtain ⟨q, hq⟩ : ∃ q, wdO t.data.toList = q := ⟨_, rfl⟩
  obtain ⟨WW, hWW⟩ : ∃ WW, wdL t.data.toList = WW := ⟨_, rfl⟩
  obtain ⟨O, hO⟩ : ∃ O, numV (numO t.data.toList most) = O := ⟨_, rfl⟩
  obtain ⟨p, hp⟩ : ∃ p, (numO t.data.toList most).isSome = p := ⟨_, rfl⟩
  rw [hLL] at hl1
  rw [hWW] at hl2
  have HE := Lib.hid hE
  have HLL := Lib.hid hLL
  have HQ := Lib.hid hq
  have HWW := Lib.hid hWW
  have HO := Lib.hid hO
  have HP := Lib.hid hp
  have k1 : (E == E) = true := by simp
  have k2 : (q == q) = true := by simp
  have k3 : (O == O) = true := by simp
  have k4 : (p == p) = true := by simp
  have HTS := Lib.hid hts
  have HM := Lib.hid hm
  have HT := Lib.hid ht
  clear hm ht hE hLL hq hWW hO hp hts htl htz
  go_enter Tryd.func4, Tryd.ntmps4
  go_wp2_with fail
  clear hmin ht0 i1 i2
  refine (lexLines_any HTS.out HM.out).mono ?_
  rw [HE.out, HLL.out]
  rintro e w1 ⟨V1, rfl, S1, B1⟩
  have HS1 := Lib.hid S1
  have HM1 := Lib.hid (cell_later B1 HM.out)
  have HT1 := Lib.hid (tab_later HT.out B1)
  have HB1 := Lib.hid B1
  clear S1 B1 HM HT
  go_wp2_with fail
  refine (refLines_any t HTS.out).mono ?_
  rw [HE.out, HLL.out]
  rintro e w2 ⟨V2, rfl, S2, B2⟩
  have HS1 := Lib.hid (HS1.out.later B2)
  have HS2 := Lib.hid S2
  have HM2 := Lib.hid (cell_later B2 HM1.out)
  have HT2 := Lib.hid (tab_later HT1.out B2)
  have HB2 := Lib.hid (below_then HB1.out HB1.out.size B2)
  clear S2 B2 HM1 HT1 HB1
  go_wp2_with fail
  refine (lexWords_any HTS.out HM2.out).mono ?_
  rw [HQ.out, HWW.out]
  rintro e w3 ⟨V3, rfl, S3, B3⟩
  have HS1 := Lib.hid (HS1.out.later B3)
  have HS2 := Lib.hid (HS2.out.later B3)
  have HS3 := Lib.hid S3
  have HM3 := Lib.hid (cell_later B3 HM2.out)
  have HT3 := Lib.hid (tab_later HT2.out B3)
  have HB3 := Lib.hid (below_then HB2.out HB2.out.size B3)
  clear S3 B3 HM2 HT2 HB2
  go_wp2_with fail
  refine (refWords_any t HTS.out).mono ?_
  rw [HQ.out, HWW.out]
  rintro e w4 ⟨V4, rfl, S4, B4⟩
  have HS1 := Lib.hid (HS1.out.later B4)
  have HS2 := Lib.hid (HS2.out.later B4)
  have HS3 := Lib.hid (HS3.out.later B4)
  have HS4 := Lib.hid S4
  have HM4 := Lib.hid (cell_later B4 HM3.out)
  have HT4 := Lib.hid (tab_later HT3.out B4)
  have HB4 := Lib.hid (below_then HB3.out HB3.out.size B4)
  clear S4 B4 HM3 HT3 HB3
  go_wp2_with fail
  refine (lexNumber_any t most).mono ?_
  rw [HO.out, HP.out]
  rintro e w5 ⟨rfl, B5⟩
  have HS1 := Lib.hid (HS1.out.later B5)
  have HS2 := Lib.hid (HS2.out.later B5)
  have HS3 := Lib.hid (HS3.out.later B5)
  have HS4 := Lib.hid (HS4.out.later B5)
  have HM5 := Lib.hid (cell_later B5 HM4.out)
  have HT5 := Lib.hid (tab_later HT4.out B5)
  have HB5 := Lib.hid (below_then HB4.out HB4.out.size B5)
  clear B5 HM4 HT4 HB4
  go_wp2_with fail
  refine (refNumber_any t most).mono ?_
  rw [HO.out, HP.out]
  rintro e w6 ⟨rfl, B6⟩
  have HS1 := Lib.hid (HS1.out.later B6)
  have HS2 := Lib.hid (HS2.out.later B6)
  have HS3 := Lib.hid (HS3.out.later B6)
  have HS4 := Lib.hid (HS4.out.later B6)
  have HM6 := Lib.hid (cell_later B6 HM5.out)
  have HT6 := Lib.hid (tab_later HT5.out B6)
  have HB6 := Lib.hid (below_then HB5.out HB5.out.size B6)
  clear B6 HM5 HT5 HB5
  go_wp2_with fail
  refine (lexWakes_ok HM6.out HT6.out).mono ?_
  rintro e w7 ⟨rfl, B7⟩
  have HS1 := Lib.hid (HS1.out.later B7)
  have HS2 := Lib.hid (HS2.out.later B7)
  have HS3 := Lib.hid (HS3.out.later B7)
  have HS4 := Lib.hid (HS4.out.later B7)
  have HB7 := Lib.hid (below_then HB6.out HB6.out.size B7)
  clear B7 HM6 HT6 HB6
  go_wp2_with fail
  refine (equalS_any HS1.out HS2.out (by omega)).mono ?_
  rw [show decide (LL = LL) = true by simp]
  rintro e w8 ⟨rfl, B8⟩
  have HS3 := Lib.hid (HS3.out.later B8)
  have HS4 := Lib.hid (HS4.out.later B8)
  have HB8 := Lib.hid (below_then HB7.out HB7.out.size B8)
  clear B8 HS1 HS2 HB7
  go_wp2_with fail
  refine (equalS_any HS3.out HS4.out (by omega)).mono ?_
  rw [show decide (WW = WW) = true by simp]
  rintro e w9 ⟨rfl, B9⟩
  have HB9 := Lib.hid (below_then HB8.out HB8.out.size B9)
  clear B9 HS3 HS4 HB8
  go_wp2_with fail
  go_ret
  exact ⟨rfl, HB9.out⟩
end Go.Proofs.YtkpgjgmlhcipeaaDoor
