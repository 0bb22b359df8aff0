/- PageBack: what any text is parsed to is printed as that text. -/
import Derived.Test.YtkpgjgmlhcipeaaDoorPgT
namespace Go.Proofs.YtkpgjgmlhcipeaaDoor
open Go.RowKit
theorem bytes_same {x y : ByteArray} (h : x = y) : (x.toList == y.toList) = true := by
  rw [bytes_eq]; simpa using h
set_option maxRecDepth 100000 in
set_option maxHeartbeats 2000000 in
theorem pback_core {w : World} (s : ByteArray) {m0 : Int} (hs : s.size ≤ 140737488351232) (hm : w.cell? ⟨0, 0, none⟩ = some (.int .i64 m0)) (ht : Tab w) :
    Calls Tryd.prog 9 #[.string s] w fun e w' => e = .returned (.bool true) ∧ Below w.heap.size w w' := by
  obtain ⟨k, hk1, hk2, hmin⟩ : ∃ k : Nat, k ≤ s.size ∧ k ≤ 1500 ∧ min (s.size : Int) 1500 = (k : Int) := ⟨min s.size 1500, by omega, by omega, by omega⟩
  have htz := ext_zeroP s hk1
  obtain ⟨t, ht0⟩ : ∃ t, s.extract 0 k = t := ⟨_, rfl⟩
  rw [ht0] at htz
  have i1 : (0 : Int) ≤ (k : Int) := by omega
  have i2 : (k : Int) ≤ (s.size : Int) := by omega
  have hts : t.size ≤ 400000000 := by omega
  have HTL : Hid (t.data.toList.length ≤ 1500) := Lib.hid (by rw [← Lib.size_eq]; omega)
  have HMD := Lib.hid (manyD_bd (parseP_many t.data.toList))
  have HPB := Lib.hid (parse_back (l := t.data.toList))
  have HPE := Lib.hid (parse_err (s := t))
  obtain ⟨pr, hpr⟩ : ∃ pr, parseP t.data.toList = pr := ⟨_, rfl⟩
  obtain ⟨D, LN, ER⟩ := pr
  rw [hpr] at HMD HPB HPE
  have HPR := Lib.hid hpr
  have HM := Lib.hid hm
  have HT := Lib.hid ht
  clear hm ht hpr htz
  go_enter Tryd.func9, Tryd.ntmps9
  go_wp2_with fail
  clear hmin ht0 i1 i2
  refine (parse_any t hts HM.out).mono ?_
  rw [HPR.out]
  rintro e w1 ⟨B, R, rfl, hD, B1⟩
  obtain ⟨AB, cB, AR, cR, rfl, rfl⟩ := drw_shape hD
  have hb1 : Below w1.heap.size w1 (w1.alloc (.cells #[.slice AB D.1.length cB, .slice AR D.2.length cR] 45)) := (Below.refl _ _).alloc (Nat.le_refl _) _
  have HD1 := Lib.hid (Drw.later hD hb1)
  have HG1 : Hid ((w1.alloc (.cells #[.slice AB D.1.length cB, .slice AR D.2.length cR] 45)).heap[w1.heap.size]? = some (.cells #[.slice AB D.1.length cB, .slice AR D.2.length cR] 45)) := Lib.hid (heap_at rfl)
  have HM1 := Lib.hid (cell_later hb1 (cell_later B1 HM.out))
  have HT1 := Lib.hid (tab_later (tab_later HT.out B1) hb1)
  have HB1 := Lib.hid (below_then B1 B1.size hb1)
  clear hD B1 HM HT hb1
  by_cases hE : ER = 0
  · have hne : (ER != 0) = false := by simpa using hE
    have HPP := Lib.hid (HPB.out hE)
    clear hE
    go_wp2_with fail
    refine (print_any HD1.out (by have h : D.1.length ≤ 4096 := HMD.out.1; omega) (by have h : D.2.length ≤ 4096 := HMD.out.2.1; omega) (by have h : totP D.2 ≤ 12288 := HMD.out.2.2; omega) HT1.out).mono ?_
    rw [HPP.out]
    simp only [toB_data]
    rintro e w2 ⟨rfl, B2⟩
    have HM2 := Lib.hid (cell_later B2 HM1.out)
    have HT2 := Lib.hid (tab_later HT1.out B2)
    have HB2 := Lib.hid (below_then HB1.out HB1.out.size B2)
    clear B2 HM1 HT1 HB1
    go_wp2_with fail
    refine (pwakes_ok HM2.out HT2.out).mono ?_
    rintro e w3 ⟨rfl, B3⟩
    have HB3 := Lib.hid (below_then HB2.out HB2.out.size B3)
    have hts2 : (t.toList == t.toList) = true := by simp
    clear B3
    go_wp2_with fail
    go_ret
    exact ⟨rfl, HB3.out⟩
  · have hne : (ER != 0) = true := by simpa using hE
    obtain ⟨hDn, hl0, hl1⟩ := HPE.out hE
    have hDn2 : D = ([], []) := hDn
    have hl02 : 0 ≤ LN := hl0
    have hl12 : LN ≤ (Lib.countB t ⟨#[10]⟩ : Int) + 1 := hl1
    subst hDn2
    clear hDn hl0 hl1 hE
    go_wp2_with fail
    refine (pwakes_ok HM1.out HT1.out).mono ?_
    rintro e w3 ⟨rfl, B3⟩
    have g1 := block_later B3 HG1.out
    have q0 := (Cl.of_block g1 (j := 0) rfl).cell
    have q1 := (Cl.of_block g1 (j := 1) rfl).cell
    have HD3 := Lib.hid (HD1.out.later B3)
    have HM3 := Lib.hid (cell_later B3 HM1.out)
    have HB3 := Lib.hid (below_then HB1.out HB1.out.size B3)
    clear B3 g1 HM1 HT1 HG1 HD1 HB1
    go_wp2_with fail
    refine (same_any HD3.out (Drw.nil _) (by simp) (by simp) (fun r hr => by cases hr)).mono ?_
    rw [show decide ((([], []) : Dr) = ([], [])) = true by decide]
    rintro e w4 ⟨rfl, B4⟩
    have HB4 := Lib.hid (below_then HB3.out HB3.out.size B4)
    have HM4 := Lib.hid (cell_later B4 HM3.out)
    have hd0 : decide (0 ≤ LN) = true := by simpa using hl02
    clear B4 HB3 HM3 q0 q1
    go_wp2_with fail
    refine (Tryd.strings_Count_any t ⟨#[10]⟩ _ _ (by omega) HM4.out (by decide)).mono ?_
    obtain ⟨C, hC⟩ : ∃ C : Nat, Lib.countB t ⟨#[10]⟩ = C := ⟨_, rfl⟩
    have hCl : C ≤ 1500 := by
      have h1 := piece_len 10 t
      rw [List.length_map] at h1
      have h2 := cut_len_le 10 t.data.toList
      have h3 := HTL.out
      omega
    rw [hC] at hl12 ⊢
    clear hC
    have hd1 : decide (LN ≤ (C : Int) + 1) = true := by simpa using hl12
    rintro e w5 ⟨rfl, rfl⟩
    go_wp2_with fail
    go_ret
    exact ⟨rfl, HB4.out⟩
end Go.Proofs.YtkpgjgmlhcipeaaDoor
