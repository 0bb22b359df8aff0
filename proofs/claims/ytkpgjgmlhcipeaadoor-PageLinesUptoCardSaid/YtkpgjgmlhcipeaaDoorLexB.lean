/- lex.Number. -/
import Derived.Test.YtkpgjgmlhcipeaaDoorLexA
namespace Go.Proofs.YtkpgjgmlhcipeaaDoor
open Go.RowKit
theorem digit_any (x : Nat) (w : World) : Calls Tryd.prog 40 #[.int .i32 (x : Int)] w fun e w' => e = .returned (.bool (decide (48 ≤ x) && decide (x ≤ 57))) ∧ Below w.heap.size w w' := by
  go_enter Tryd.func40, Tryd.ntmps40
  by_cases h : 48 ≤ x
  · have hd : decide ((48 : Int) ≤ (x : Int)) = true := by simp; omega
    by_cases h2 : x ≤ 57
    · have hd2 : decide ((x : Int) ≤ 57) = true := by simp; omega
      go_wp2_with fail
      go_ret
      exact ⟨ret_bool (by simp [h, h2]), Below.refl _ _⟩
    · have hd2 : decide ((x : Int) ≤ 57) = false := by simp; omega
      go_wp2_with fail
      go_ret
      exact ⟨ret_bool (by simp [h2]), Below.refl _ _⟩
  · have hd : decide ((48 : Int) ≤ (x : Int)) = false := by simp; omega
    go_wp2_with fail
    go_ret
    exact ⟨ret_bool (by simp [h]), Below.refl _ _⟩
theorem enterND : ∀ (args : Array Value) (w : World), (callFunc 39 args).run Tryd.prog w = .ok (.enter 39 args) w := by
  intro args w; kernel_rfl
theorem nd_any (x : Nat) (w : World) : Calls Tryd.prog 39 #[.int .i32 (x : Int)] w fun e w' => e = .returned (.bool (nonD x)) ∧ Below w.heap.size w w' := by
  obtain ⟨q, hq⟩ : ∃ q, (decide (48 ≤ x) && decide (x ≤ 57)) = q := ⟨_, rfl⟩
  have HQ := Lib.hid hq
  have hn : nonD x = !q := by unfold nonD; rw [hq]
  rw [hn]
  clear hn hq
  go_enter Tryd.func39, Tryd.ntmps39
  go_wp2_with fail
  refine (digit_any x w).mono ?_
  rw [HQ.out]
  rintro e w1 ⟨rfl, B1⟩
  have HB := Lib.hid B1
  clear B1
  go_wp2_with fail
  go_ret
  exact ⟨rfl, HB.out⟩
theorem predND (w : World) : PredGrows Tryd.prog 39 #[] nonD w := by
  intro W x _ _
  exact nd_any x W
def numV (o : Option Nat) : Int := match o with
  | some m => (m : Int)
  | none => 0
set_option maxRecDepth 100000 in
set_option maxHeartbeats 1000000 in
theorem lexNumber_any {w : World} (s : ByteArray) (most : Int) :
    Calls Tryd.prog 13 #[.string s, .int .i64 most] w fun e w' => e = .returned (.tuple #[.int .i64 (numV (numO s.data.toList most)), .bool (numO s.data.toList most).isSome]) ∧ Below w.heap.size w w' := by
  have HSZ := Lib.hid (Lib.size_eq s)
  obtain ⟨O, hO⟩ : ∃ O, numO s.data.toList most = O := ⟨_, rfl⟩
  rw [hO]
  have HO := Lib.hid hO
  obtain ⟨q, hq⟩ : ∃ q, (s.data.toList.any fun b => nonD b.toNat) = q := ⟨_, rfl⟩
  have HQ := Lib.hid hq
  have HP := Lib.hid (idx_plain s)
  have HN : Hid (s.toList.isEmpty = decide (s.data.toList = [])) := Lib.hid str_nil
  clear hO hq
  go_enter Tryd.func13, Tryd.ntmps13
  go_wp2_with fail
  refine (Tryd.strings_ContainsFunc_grows 39 #[] enterND nonD s w (predND w)).mono ?_
  rw [HP.out, HQ.out]
  rintro e w1 ⟨rfl, B1⟩
  have HB := Lib.hid B1
  clear B1
  cases q with
  | true =>
    go_wp2_with fail
    go_ret2
    obtain rfl := HO.out.symm.trans (numO_bad (dec_bad _ 0 HQ.out))
    exact ⟨rfl, HB.out⟩
  | false =>
    obtain ⟨v, hv⟩ := dec_some _ 0 HQ.out
    have HV := Lib.hid hv
    clear hv
    by_cases h0 : s.data.toList = []
    · have hn : s.toList.isEmpty = true := by rw [HN.out, decide_eq_true h0]
      have H0 := Lib.hid h0
      clear h0
      go_wp2_with fail
      go_ret2
      obtain rfl := HO.out.symm.trans (numO_shape (fun h => by have := h.1; rw [H0.out] at this; simp at this))
      exact ⟨rfl, HB.out⟩
    · have hn : s.toList.isEmpty = false := by rw [HN.out, decide_eq_false h0]
      have hpos : 0 < s.size := by
        rw [HSZ.out]
        exact List.length_pos_iff.2 h0
      clear h0
      by_cases h7 : 7 < s.size
      · have hd : decide ((7 : Int) < (s.size : Int)) = true := by simp; omega
        have H7 := Lib.hid h7
        clear h7
        go_wp2_with fail
        go_ret2
        obtain rfl := HO.out.symm.trans (numO_shape (fun h => by have := h.2.1; have := HSZ.out; have := H7.out; omega))
        exact ⟨rfl, HB.out⟩
      · have hd : decide ((7 : Int) < (s.size : Int)) = false := by simp; omega
        obtain ⟨b, hb⟩ : ∃ b, s[0]'hpos = b := ⟨_, rfl⟩
        have hb0 : s.data.toList[0]? = some b := by
          have h1 := Lib.getD_at s 0 hpos
          rw [hb] at h1
          have hp : 0 < s.data.toList.length := by rw [← HSZ.out]; exact hpos
          rw [List.getElem?_eq_getElem hp]
          rw [h1, List.getD_eq_getElem?_getD, List.getElem?_eq_getElem hp]
          rfl
        have HB0 := Lib.hid hb0
        clear hb0
        have h7' := Lib.hid h7
        clear h7
        have hmain : ∀ (hsh : ¬(1 < s.data.toList.length ∧ s.data.toList[0]? = some 48)), O = if (v : Int) ≤ most then some v else none := fun hsh => by
          rw [← HO.out]
          exact numO_of ⟨by have := HSZ.out; omega, by have := HSZ.out; have := h7'.out; omega, hsh⟩ HV.out
        have HMAIN := Lib.hid hmain
        have HAT := Lib.hid (dec_atoi HV.out (by have := HSZ.out; omega))
        clear hmain
        by_cases h1 : 1 < s.size
        · have hd1 : decide ((1 : Int) < (s.size : Int)) = true := by simp; omega
          have H1 := Lib.hid h1
          clear h1
          by_cases h48 : b = 48
          · have he : (((b.toNat : Nat) : Int) == 48) = true := by rw [h48]; rfl
            have H48 := Lib.hid h48
            clear h48
            go_wp2_with fail
            go_ret2
            obtain rfl := HO.out.symm.trans (numO_shape (fun h => h.2.2 ⟨by have := HSZ.out; have := H1.out; omega, by rw [HB0.out, H48.out]⟩))
            exact ⟨rfl, HB.out⟩
          · have he : (((b.toNat : Nat) : Int) == 48) = false := by
              rw [beq_eq_false_iff_ne]
              intro h
              apply h48
              have : b.toNat = 48 := by omega
              exact UInt8.toNat_inj.1 this
            have hO := HMAIN.out (fun h => h48 (by have := h.2; rw [HB0.out] at this; simpa using this))
            have HO2 := Lib.hid hO
            clear h48 hO
            go_wp2_with fail
            refine (Tryd.strconv_Atoi s v (by have := h7'.out; omega) HAT.out w1).mono ?_
            rintro e w2 ⟨rfl, t, hw2⟩
            have B2 : Below w1.heap.size w1 w2 := by rw [hw2]; exact Lib.bytesWorld_below _ _ _
            have HB2 := Lib.hid (below_then HB.out HB.out.size B2)
            clear B2 hw2
            by_cases hm : (v : Int) ≤ most
            · have hd2 : decide (most < (v : Int)) = false := by simp; omega
              obtain rfl := HO2.out.trans (if_pos hm)
              clear hm
              go_wp2_with fail
              go_ret2
              exact ⟨rfl, HB2.out⟩
            · have hd2 : decide (most < (v : Int)) = true := by simp; omega
              obtain rfl := HO2.out.trans (if_neg hm)
              clear hm
              go_wp2_with fail
              go_ret2
              exact ⟨rfl, HB2.out⟩
        · have hd1 : decide ((1 : Int) < (s.size : Int)) = false := by simp; omega
          have hO := HMAIN.out (fun h => h1 (by have := HSZ.out; have := h.1; omega))
          have HO2 := Lib.hid hO
          clear h1 hO
          go_wp2_with fail
          refine (Tryd.strconv_Atoi s v (by have := h7'.out; omega) HAT.out w1).mono ?_
          rintro e w2 ⟨rfl, t, hw2⟩
          have B2 : Below w1.heap.size w1 w2 := by rw [hw2]; exact Lib.bytesWorld_below _ _ _
          have HB2 := Lib.hid (below_then HB.out HB.out.size B2)
          clear B2 hw2
          by_cases hm : (v : Int) ≤ most
          · have hd2 : decide (most < (v : Int)) = false := by simp; omega
            obtain rfl := HO2.out.trans (if_pos hm)
            clear hm
            go_wp2_with fail
            go_ret2
            exact ⟨rfl, HB2.out⟩
          · have hd2 : decide (most < (v : Int)) = true := by simp; omega
            obtain rfl := HO2.out.trans (if_neg hm)
            clear hm
            go_wp2_with fail
            go_ret2
            exact ⟨rfl, HB2.out⟩
end Go.Proofs.YtkpgjgmlhcipeaaDoor
