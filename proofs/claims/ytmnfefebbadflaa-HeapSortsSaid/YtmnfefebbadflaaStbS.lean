/- slices.SortStableFunc: a row put in stable order. -/
import Derived.Test.YtmnfefebbadflaaStbG
namespace Go.Proofs.Ytmnfefebbadflaa
open Go.RowKit
theorem sts_of {L M : List One} (h : Stb.Same kO L M) (k : Stb.Srt kO M) : Stb.Sts kO L M := ⟨k, h⟩
theorem same_mid {L M T1 T2 M1 : List One} (h : Stb.Same kO L (M ++ (T1 ++ T2))) (k : Stb.Sts kO T1 M1) : Stb.Same kO L ((M ++ M1) ++ T2) := by
  refine h.trans ?_
  have := (Stb.Same.refl (key := kO) M).app (k.same.app (Stb.Same.refl T2))
  simpa using this
set_option maxRecDepth 100000 in
set_option maxHeartbeats 4000000 in
theorem stable_any {w : World} {base g n cap cf : Nat} {L : List One} (h : RowP w base g n cap L) (hc : Cmp cf) (hs : ∀ x ∈ L, Sm x) (hn : n ≤ 1000000000) :
    Calls Try.prog 58 #[.slice (some ⟨g, 0, none⟩) n cap, .int .i64 n, .func (.func cf) #[] #[]] w fun e w' => e = .returned (.tuple #[]) ∧ (∃ M, Stb.Sts kO L M ∧ RowP w' base g n cap M) ∧ w.grownBy w' (some g) := by
  have HL := Lib.hid (RowP.len h)
  have HH := Lib.hid h
  have HC := Lib.hid hc
  have HS := Lib.hid hs
  clear h hc hs
  go_enter Try.func58, Try.ntmps58
  go_wp2_with fail
  go_loopw [7, 8] (fun qa qb wr => ∃ (a b : Nat) (M T : List One), qa = .int .i64 a ∧ qb = .int .i64 b ∧ b = a + 20 ∧ a ≤ n ∧ M.length = a ∧ Stb.BlkF kO 20 M ∧ Stb.Same kO L (M ++ T) ∧ RowP wr base g n cap (M ++ T) ∧ w.grownBy wr (some g)) (fun qa _ _ => n + 20 - (intOf qa).toNat)
  case atStart => exact ⟨0, 20, [], L, rfl, rfl, rfl, Nat.zero_le _, rfl, .nil, Stb.Same.refl _, HH.out, grown_refl _ _⟩
  case round => as_aux_lemma =>
    obtain ⟨a, b, M, T, rfl, rfl, hb, han, hM, hbf, hsame, hrow, hg⟩ := hrel
    obtain ⟨wo, rfl⟩ : ∃ q : World, q = wr := ⟨_, rfl⟩
    have hl := RowP.len hrow
    rw [List.length_append, hM] at hl
    have HTL : Hid (a + T.length = n) := Lib.hid hl
    have HM := Lib.hid hM
    have HBF := Lib.hid hbf
    have HSAME := Lib.hid hsame
    have HR := Lib.hid hrow
    have HG := Lib.hid hg
    have HB := Lib.hid hb
    have hbb : b ≤ 1000000020 := by omega
    have hbn : b ≤ n ↔ a + 20 ≤ n := by omega
    clear hl hM hbf hsame hrow hg hb
    by_cases hle : b ≤ n
    · have hd1 : decide ((b : Int) ≤ (n : Int)) = true := by simp only [decide_eq_true_eq]; omega
      have hd2 : decide (b ≤ n) = true := by simp only [decide_eq_true_eq]; exact hle
      obtain ⟨T1, hT1⟩ : ∃ x, T.take 20 = x := ⟨_, rfl⟩
      obtain ⟨T2, hT2⟩ : ∃ x, T.drop 20 = x := ⟨_, rfl⟩
      have hTT : T1 ++ T2 = T := by rw [← hT1, ← hT2, List.take_append_drop]
      have hl1 : T1.length = 20 := by rw [← hT1, List.length_take]; have := HTL.out; have := hbn.1 hle; omega
      have hsame := HSAME.out
      have hrow := HR.out
      rw [← hTT] at hsame hrow
      have HSA := Lib.hid hsame
      have HRO : Hid (RowP wo base g n cap (M ++ T1 ++ T2)) := Lib.hid (by rw [List.append_assoc]; exact hrow)
      have HL1 := Lib.hid hl1
      have HST1 : Hid (∀ x ∈ T1, Sm x) := Lib.hid (fun x hx => HS.out x (hsame.symm.mem (by simp [hx])))
      clear hbn hT1 hT2 hTT hl1 hsame hrow
      go_wp2_with fail
      refine (insertion_any (P := M) (A := T1) (S := T2) HRO.out HC.out HST1.out (by rw [HM.out]) (by rw [HM.out, HL1.out]; have := HB.out; omega) hn).mono ?_
      rintro e w1 ⟨rfl, ⟨M1, hst, hr⟩, hg2⟩
      have HX1 : Hid ((M ++ M1).length = b) := Lib.hid (by rw [List.length_append, HM.out, hst.len, HL1.out]; exact HB.out.symm)
      have HX2 : Hid (Stb.BlkF kO 20 (M ++ M1)) := Lib.hid (.snoc HBF.out (by rw [hst.len, HL1.out]) hst.srt)
      have HX3 := Lib.hid (same_mid HSA.out hst)
      have HX4 := Lib.hid hr
      have HX5 := Lib.hid (grownBy_trans HG.out hg2)
      have HAB := HB.out
      have HAB2 := Lib.hid HAB
      clear hst hr hg2 HAB
      go_wp2_with fail
      go_roundw
      case rel => exact ⟨b, b + 20, M ++ M1, T2, rfl, by go_num, rfl, hle, HX1.out, HX2.out, HX3.out, HX4.out, HX5.out⟩
      case measure => have := HAB2.out; simp [intOf]; omega
    · have hd1 : decide ((b : Int) ≤ (n : Int)) = false := by simp only [decide_eq_false_iff_not]; omega
      have hd2 : decide (b ≤ n) = false := by simp only [decide_eq_false_iff_not]; exact hle
      have HT20 : Hid (T.length ≤ 20) := Lib.hid (by have := HTL.out; have := HB.out; omega)
      have HST1 : Hid (∀ x ∈ T, Sm x) := Lib.hid (fun x hx => HS.out x (HSAME.out.symm.mem (by simp [hx])))
      have HRO : Hid (RowP wo base g n cap (M ++ T ++ [])) := Lib.hid (by rw [List.append_nil]; exact HR.out)
      clear hle hbn
      go_wp2_with fail
      refine (insertion_any (P := M) (A := T) (S := []) HRO.out HC.out HST1.out (by rw [HM.out]) (by rw [HM.out, HTL.out]) hn).mono ?_
      rintro e w1 ⟨rfl, ⟨M1, hst, hr⟩, hg2⟩
      have HK1 : Hid (Stb.Blk kO 20 (M ++ M1)) := Lib.hid (HBF.out.app (.short (by rw [hst.len]; exact HT20.out) hst.srt))
      have HK2 : Hid (Stb.Same kO L (M ++ M1)) := Lib.hid (HSAME.out.trans ((Stb.Same.refl M).app hst.same))
      have HK3 : Hid (RowP w1 base g n cap (M ++ M1)) := Lib.hid (by simpa using hr)
      have HK4 := Lib.hid (grownBy_trans HG.out hg2)
      clear hst hr hg2 HR HG HSAME HRO HBF hd1 hd2
      go_wp2_with fail
      go_loopw [6] (fun qb wr => ∃ (bs : Nat) (K : List One), qb = .int .i64 bs ∧ 20 ≤ bs ∧ bs ≤ 2000000000 ∧ Stb.Blk kO bs K ∧ Stb.Same kO L K ∧ RowP wr base g n cap K ∧ w.grownBy wr (some g)) (fun qb _ => n - (intOf qb).toNat)
      case atStart => exact ⟨20, M ++ M1, rfl, by omega, by omega, HK1.out, HK2.out, HK3.out, HK4.out⟩
      case round => as_aux_lemma =>
        clear HK1 HK2 HK3 HK4
        obtain ⟨bs, K, rfl, hb20, hb2, hblk, hsame, hrow, hg⟩ := hrel
        obtain ⟨wp, rfl⟩ : ∃ q : World, q = wr := ⟨_, rfl⟩
        have HBK := Lib.hid hblk
        have HSAME := Lib.hid hsame
        have HR := Lib.hid hrow
        have HG := Lib.hid hg
        clear hblk hsame hrow hg
        by_cases hbn : bs < n
        · have hd1 : decide ((bs : Int) < (n : Int)) = true := by simp only [decide_eq_true_eq]; omega
          have hd2 : decide (bs < n) = true := by simp only [decide_eq_true_eq]; exact hbn
          go_wp2_with fail
          go_loopw [7, 8] (fun qa qb wr => ∃ (a b : Nat) (M T : List One), qa = .int .i64 a ∧ qb = .int .i64 b ∧ b = a + 2 * bs ∧ a ≤ n ∧ M.length = a ∧ Stb.BlkF kO (2 * bs) M ∧ Stb.Blk kO bs T ∧ Stb.Same kO L (M ++ T) ∧ RowP wr base g n cap (M ++ T) ∧ w.grownBy wr (some g)) (fun qa _ _ => n + 2 * bs - (intOf qa).toNat)
          case atStart => exact ⟨0, 2 * bs, [], K, rfl, by first | go_num | (congr 1; omega), by omega, Nat.zero_le _, rfl, .nil, HBK.out, HSAME.out, HR.out, HG.out⟩
          case round => as_aux_lemma =>
            clear HBK HSAME HR HG
            obtain ⟨a, b, M, T, rfl, rfl, hb, han, hM, hbf, hbt, hsame, hrow, hg⟩ := hrel
            obtain ⟨wq, rfl⟩ : ∃ q : World, q = wr := ⟨_, rfl⟩
            have hl := RowP.len hrow
            rw [List.length_append, hM] at hl
            have HTL : Hid (a + T.length = n) := Lib.hid hl
            have HM := Lib.hid hM
            have HBF := Lib.hid hbf
            have HBT := Lib.hid hbt
            have HSAME := Lib.hid hsame
            have HR := Lib.hid hrow
            have HG := Lib.hid hg
            have HB := Lib.hid hb
            have hbb : b ≤ 5000000000 := by omega
            have HBN : Hid (b ≤ n ↔ a + 2 * bs ≤ n) := Lib.hid (by omega)
            clear hl hM hbf hbt hsame hrow hg hb
            by_cases hle : b ≤ n
            · have hd3 : decide ((b : Int) ≤ (n : Int)) = true := by simp only [decide_eq_true_eq]; omega
              have hd4 : decide (b ≤ n) = true := by simp only [decide_eq_true_eq]; exact hle
              obtain ⟨T1, Tr, hT1, hl1, hs1, hb1⟩ := HBT.out.split (by have := HTL.out; have := HBN.out.1 hle; omega)
              subst hT1
              have hlr := HTL.out
              rw [List.length_append, hl1] at hlr
              obtain ⟨T2, T3, hT2, hl2, hs2, hb2'⟩ := hb1.split (by have := HBN.out.1 hle; omega)
              subst hT2
              have HS1 := Lib.hid hs1
              have HS2 := Lib.hid hs2
              have HB3 := Lib.hid hb2'
              have HL1 := Lib.hid hl1
              have HL2 := Lib.hid hl2
              have HSM1 : Hid (∀ x ∈ T1, Sm x) := Lib.hid (fun x hx => HS.out x (HSAME.out.symm.mem (by simp [hx])))
              have HSM2 : Hid (∀ x ∈ T2, Sm x) := Lib.hid (fun x hx => HS.out x (HSAME.out.symm.mem (by simp [hx])))
              have HRO : Hid (RowP wq base g n cap (M ++ T1 ++ T2 ++ T3)) := Lib.hid (by
                have e : M ++ T1 ++ T2 ++ T3 = M ++ (T1 ++ (T2 ++ T3)) := by simp
                rw [e]; exact HR.out)
              obtain ⟨m, hm⟩ : ∃ m, m = a + bs := ⟨_, rfl⟩
              have hmI : (a : Int) + (bs : Int) = (m : Int) := by omega
              have HMM : Hid (m = a + T1.length) := Lib.hid (by rw [HL1.out]; exact hm)
              have HQQ : Hid (b = m + T2.length) := Lib.hid (by rw [HL2.out, HB.out]; omega)
              have hmn : m ≤ n := by have := HBN.out.1 hle; omega
              have h0 : 0 < T1.length := by rw [hl1]; omega
              have h0' : 0 < T2.length := by rw [hl2]; omega
              have H0 := Lib.hid h0
              have H0' := Lib.hid h0'
              clear hl1 hl2 hs1 hs2 hb1 hb2' hlr hm h0 h0'
              go_wp2_with fail
              refine (sym_all HC.out hn _ wq M T1 T2 T3 a m b HRO.out HSM1.out HSM2.out HS1.out HS2.out HM.out HMM.out HQQ.out H0.out H0'.out (Nat.le_refl _)).mono ?_
              rintro e w1 ⟨rfl, ⟨U, hst, hr⟩, hg2⟩
              have HX1 : Hid ((M ++ U).length = b) := Lib.hid (by rw [List.length_append, HM.out, hst.len, List.length_append, HL1.out, HL2.out, HB.out]; omega)
              have HX2 : Hid (Stb.BlkF kO (2 * bs) (M ++ U)) := Lib.hid (.snoc HBF.out (by rw [hst.len, List.length_append, HL1.out, HL2.out]; omega) hst.srt)
              have HX3 : Hid (Stb.Same kO L ((M ++ U) ++ T3)) := Lib.hid (same_mid (T1 := T1 ++ T2) (by simpa using HSAME.out) hst)
              have HX4 := Lib.hid hr
              have HX5 := Lib.hid (grownBy_trans HG.out hg2)
              have HAB := HB.out
              have HAB2 := Lib.hid HAB
              clear hst hr hg2 HAB hmI
              go_wp2_with fail
              go_roundw
              case rel => exact ⟨b, b + 2 * bs, M ++ U, T3, rfl, by first | go_num | (congr 1; omega), rfl, hle, HX1.out, HX2.out, HB3.out, HX3.out, HX4.out, HX5.out⟩
              case measure => have := HAB2.out; simp [intOf]; omega
            · have hd3 : decide ((b : Int) ≤ (n : Int)) = false := by simp only [decide_eq_false_iff_not]; omega
              have hd4 : decide (b ≤ n) = false := by simp only [decide_eq_false_iff_not]; exact hle
              obtain ⟨m, hm⟩ : ∃ m, m = a + bs := ⟨_, rfl⟩
              have hmI : (a : Int) + (bs : Int) = (m : Int) := by omega
              have hm5 : m ≤ 5000000000 := by omega
              have hTb : T.length < 2 * bs := by have := HTL.out; have := HB.out; omega
              have HMB := Lib.hid hm
              by_cases hmn : m < n
              · have hd5 : decide ((m : Int) < (n : Int)) = true := by simp only [decide_eq_true_eq]; omega
                have hd6 : decide (m < n) = true := by simp only [decide_eq_true_eq]; exact hmn
                obtain ⟨T1, T2, hT1, hl1, hs1, hb1⟩ := HBT.out.split (by have := HTL.out; omega)
                subst hT1
                have hlr := HTL.out
                rw [List.length_append, hl1] at hlr hTb
                have hs2 := hb1.small (by omega)
                have HS1 := Lib.hid hs1
                have HS2 := Lib.hid hs2
                have HL1 := Lib.hid hl1
                have HLR := Lib.hid hlr
                have HSM1 : Hid (∀ x ∈ T1, Sm x) := Lib.hid (fun x hx => HS.out x (HSAME.out.symm.mem (by simp [hx])))
                have HSM2 : Hid (∀ x ∈ T2, Sm x) := Lib.hid (fun x hx => HS.out x (HSAME.out.symm.mem (by simp [hx])))
                have HRO : Hid (RowP wq base g n cap (M ++ T1 ++ T2 ++ [])) := Lib.hid (by
                  have e : M ++ T1 ++ T2 ++ [] = M ++ (T1 ++ T2) := by simp
                  rw [e]; exact HR.out)
                have HMM : Hid (m = a + T1.length) := Lib.hid (by rw [HL1.out]; exact hm)
                have HQQ : Hid (n = m + T2.length) := Lib.hid (by omega)
                have h0 : 0 < T1.length := by rw [hl1]; omega
                have h0' : 0 < T2.length := by omega
                have H0 := Lib.hid h0
                have H0' := Lib.hid h0'
                have HTB := Lib.hid hTb
                clear hl1 hs1 hs2 hb1 hlr hm h0 h0' hTb
                go_wp2_with fail
                refine (sym_all HC.out hn _ wq M T1 T2 [] a m n HRO.out HSM1.out HSM2.out HS1.out HS2.out HM.out HMM.out HQQ.out H0.out H0'.out (Nat.le_refl _)).mono ?_
                rintro e w1 ⟨rfl, ⟨U, hst, hr⟩, hg2⟩
                have HX2 : Hid (Stb.Blk kO (2 * bs) (M ++ U)) := Lib.hid (HBF.out.app (.short (by rw [hst.len, List.length_append, HL1.out]; have := HTB.out; omega) hst.srt))
                have HX3 : Hid (Stb.Same kO L (M ++ U)) := Lib.hid (HSAME.out.trans ((Stb.Same.refl M).app hst.same))
                have HX4 : Hid (RowP w1 base g n cap (M ++ U)) := Lib.hid (by simpa using hr)
                have HX5 := Lib.hid (grownBy_trans HG.out hg2)
                clear hst hr hg2 hmI
                go_wp2_with fail
                go_roundw
                case rel => exact ⟨2 * bs, M ++ U, by first | go_num | (congr 1; omega), by omega, by omega, HX2.out, HX3.out, HX4.out, HX5.out⟩
                case measure => simp [intOf]; omega
              · have hd5 : decide ((m : Int) < (n : Int)) = false := by simp only [decide_eq_false_iff_not]; omega
                have hd6 : decide (m < n) = false := by simp only [decide_eq_false_iff_not]; exact hmn
                have HX2 : Hid (Stb.Blk kO (2 * bs) (M ++ T)) := Lib.hid (HBF.out.app (.short (by omega) (HBT.out.small (by have := HTL.out; omega))))
                clear hm hTb
                go_wp2_with fail
                go_roundw
                case rel => exact ⟨2 * bs, M ++ T, by first | go_num | (congr 1; omega), by omega, by omega, HX2.out, HSAME.out, HR.out, HG.out⟩
                case measure => simp [intOf]; omega
        · have hd1 : decide ((bs : Int) < (n : Int)) = false := by simp only [decide_eq_false_iff_not]; omega
          have hd2 : decide (bs < n) = false := by simp only [decide_eq_false_iff_not]; exact hbn
          have HSRT : Hid (Stb.Srt kO K) := Lib.hid (HBK.out.small (by rw [RowP.len HR.out]; omega))
          go_wp2_with fail
          go_end0
          exact ⟨rfl, ⟨K, sts_of HSAME.out HSRT.out, HR.out⟩, HG.out⟩
end Go.Proofs.Ytmnfefebbadflaa
