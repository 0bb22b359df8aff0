/- LexBack: lines and words put together again are the text; digits of any number are read as it, if they may be. -/
import Derived.Test.YtkpgjgmlhcipeaaDoorLTel
import Derived.Test.YtkpgjgmlhcipeaaDoorLexD
namespace Go.Proofs.YtkpgjgmlhcipeaaDoor
open Go.RowKit
theorem cut_flat (c : UInt8) : ∀ l : List UInt8, ((cut c l).flatMap fun p => p ++ [c]) = l ++ [c]
  | [] => by simp [cut]
  | x :: r => by
    have ih := cut_flat c r
    by_cases h : x = c
    · rw [cut_hit h, List.flatMap_cons, ih, h]; rfl
    · cases hr : cut c r with
      | nil => exact absurd hr (cut_ne c r)
      | cons a t =>
        rw [hr, List.flatMap_cons] at ih
        rw [cut_miss h hr, List.flatMap_cons]
        simp only [List.cons_append] at ih ⊢
        rw [ih]
theorem cut_piece_len (c : UInt8) : ∀ (l : List UInt8), ∀ p ∈ cut c l, p.length ≤ l.length
  | [], p, hp => by simp [cut] at hp; subst hp; simp
  | x :: r, p, hp => by
    have ih := cut_piece_len c r
    by_cases h : x = c
    · rw [cut_hit h] at hp
      rcases List.mem_cons.1 hp with rfl | hp
      · simp
      · have := ih p hp; simp; omega
    · cases hr : cut c r with
      | nil => exact absurd hr (cut_ne c r)
      | cons a t =>
        rw [cut_miss h hr] at hp
        rw [hr] at ih
        rcases List.mem_cons.1 hp with rfl | hp
        · have := ih a (by simp); simp; omega
        · have := ih p (by simp [hp]); simp; omega
theorem idx_free {l : List UInt8} {c : UInt8} (h : c ∉ l) : decide (0 ≤ Lib.indexByte l c) = false := by
  rw [decide_eq_false_iff_not]
  intro h0
  obtain ⟨o, ho⟩ : ∃ o : Nat, Lib.indexByte l c = o := ⟨(Lib.indexByte l c).toNat, by omega⟩
  exact h (List.mem_of_getElem? (Lib.indexByte_some ho).1)
/-- What is put together again. -/
def putL (L : List ByteArray) : List UInt8 := L.flatMap fun p => p.data.toList ++ [10]
theorem put_all {l : List UInt8} (h : lnE l = 0) : putL (lnL l) = l ∧ ∀ p ∈ lnL l, (10 : UInt8) ∉ p.data.toList ∧ p.data.toList.length ≤ l.length := by
  by_cases h0 : l = []
  · have e : lnL l = [] := by unfold lnL; rw [if_neg (fun h => h.2 h0)]
    rw [e, h0]
    exact ⟨rfl, fun p hp => by cases hp⟩
  · have e : lnL l = (cut 10 l.dropLast).map toB := by unfold lnL; rw [if_pos ⟨h, h0⟩]
    have hs : Lib.hasSuffix l [10] = true := by
      cases hh : Lib.hasSuffix l [10] with
      | true => rfl
      | false =>
        unfold lnE at h
        rw [hh] at h
        simp [h0] at h
        split at h <;> omega
    rw [e]
    constructor
    · unfold putL
      rw [List.flatMap_map]
      have e2 : (fun p => (toB p).data.toList ++ [10]) = (fun p : List UInt8 => p ++ [10]) := by funext p; rw [data_toB]
      rw [e2, cut_flat]
      exact (suf_one hs).symm
    · intro p hp
      obtain ⟨q, hq, rfl⟩ := List.mem_map.1 hp
      rw [data_toB]
      refine ⟨cut_free 10 _ q hq, ?_⟩
      have := cut_piece_len 10 _ q hq
      rw [List.length_dropLast] at this
      omega
theorem put_snoc {L : List ByteArray} {i : Nat} (h : i < L.length) : putL (L.take (i + 1)) = putL (L.take i) ++ (L[i].data.toList ++ [10]) := by
  unfold putL
  rw [List.take_succ_eq_append_getElem h, List.flatMap_append]
  simp
theorem word_join {l : List UInt8} (h : wdO l = true) : 0 < (wdL l).length ∧ Lib.join ((wdL l).map (·.data.toList)) [32] = l := by
  have e : wdL l = (cut 32 l).map toB := by unfold wdL; rw [if_pos h]
  rw [e]
  constructor
  · rw [List.length_map]
    exact List.length_pos_iff.2 (cut_ne 32 l)
  · rw [List.map_map]
    have e2 : ((fun x : ByteArray => x.data.toList) ∘ toB) = id := by funext p; exact data_toB p
    rw [e2, List.map_id]
    exact cut_join 32 l
set_option maxRecDepth 100000 in
set_option maxHeartbeats 2000000 in
theorem back_core {w : World} (s : ByteArray) (n : Int) {m0 : Int} (hs : s.size ≤ 140737488351232) (h0 : -9223372036854775808 ≤ n) (h1 : n ≤ 9223372036854775807) (hm : w.cell? ⟨0, 0, none⟩ = some (.int .i64 m0)) (ht : Tab w) :
    Calls Tryd.prog 5 #[.string s, .int .i64 n] w fun e w' => e = .returned (.bool true) ∧ Below w.heap.size w w' := by
  obtain ⟨k, hk1, hk2, hmin⟩ : ∃ k : Nat, k ≤ s.size ∧ k ≤ 1000 ∧ min (s.size : Int) 1000 = (k : Int) := ⟨min s.size 1000, by omega, by omega, by omega⟩
  have htz := ext_zeroT s hk1
  obtain ⟨t, ht0⟩ : ∃ t, s.extract 0 k = t := ⟨_, rfl⟩
  rw [ht0] at htz
  have i1 : (0 : Int) ≤ (k : Int) := by omega
  have i2 : (k : Int) ≤ (s.size : Int) := by omega
  have hts : t.size < 4294967281 := by omega
  have htl : t.data.toList.length ≤ 1000 := by rw [← Lib.size_eq]; omega
  have hl1 := lnL_len htl
  have hl2 := wdL_len htl
  have HPUT := Lib.hid (fun h => put_all (l := t.data.toList) h)
  have HWJ0 := Lib.hid (fun h => word_join (l := t.data.toList) h)
  obtain ⟨E, hE⟩ : ∃ E, lnE t.data.toList = E := ⟨_, rfl⟩
  obtain ⟨LL, hLL⟩ : ∃ LL, lnL t.data.toList = LL := ⟨_, rfl⟩
  obtain ⟨q, hq⟩ : ∃ q, wdO t.data.toList = q := ⟨_, rfl⟩
  obtain ⟨WW, hWW⟩ : ∃ WW, wdL t.data.toList = WW := ⟨_, rfl⟩
  obtain ⟨D, hD⟩ : ∃ D, toB (Lib.itoa n) = D := ⟨_, rfl⟩
  have HDL : Hid (D.data.toList = Lib.itoa n) := Lib.hid (by rw [← hD, data_toB])
  have HD := Lib.hid hD
  rw [hLL] at hl1
  rw [hWW] at hl2
  have HWJ : Hid (q = true → 0 < WW.length ∧ Lib.join (WW.map (·.data.toList)) [32] = t.data.toList) := Lib.hid (fun e => by
    have := HWJ0.out (by rw [hq]; exact e)
    rw [hWW] at this
    exact this)
  have HPT : Hid (E = 0 → putL LL = t.data.toList ∧ ∀ p ∈ LL, (10 : UInt8) ∉ p.data.toList ∧ p.data.toList.length ≤ 1000) := Lib.hid (fun e => by
    have := HPUT.out (by rw [hE]; exact e)
    rw [hLL] at this
    exact ⟨this.1, fun p hp => ⟨(this.2 p hp).1, Nat.le_trans (this.2 p hp).2 htl⟩⟩)
  have HE := Lib.hid hE
  have HLL := Lib.hid hLL
  have HQ := Lib.hid hq
  have HWW := Lib.hid hWW
  have HTS := Lib.hid hts
  have HM := Lib.hid hm
  have HT := Lib.hid ht
  clear hm ht hE hLL hq hWW hts htl hD HPUT HWJ0
  go_enter Tryd.func5, Tryd.ntmps5
  go_wp2_with fail
  clear hmin ht0 i1 i2
  refine (lexLines_any HTS.out HM.out).mono ?_
  rw [HE.out, HLL.out]
  rintro e w1 ⟨V1, rfl, S1, B1⟩
  obtain ⟨A1, c1, hV1, -, -, hA1⟩ := Strs.at_ S1
  subst hV1
  have HA1 := Lib.hid hA1
  have HM1 := Lib.hid (cell_later B1 HM.out)
  have HT1 := Lib.hid (tab_later HT.out B1)
  have HB1 := Lib.hid B1
  clear S1 B1 HM HT hA1
  by_cases hE0 : E = 0
  · subst hE0
    obtain ⟨hput, hpc⟩ := HPT.out rfl
    have HPU := Lib.hid hput
    have HPC := Lib.hid hpc
    clear hput hpc
    go_wp2_with fail
    go_loopw [7, 29] (fun qs qi wr => ∃ (i : Nat) (T : ByteArray), i ≤ LL.length ∧ qs = .string T ∧ qi = .int .i64 i ∧ Hid (T.data.toList = putL (LL.take i)) ∧ T.size ≤ i * 1001 ∧ Below w1.heap.size w1 wr) (fun _ q _ => LL.length - (intOf q).toNat)
    case atStart => exact ⟨0, ⟨#[]⟩, by omega, rfl, rfl, Lib.hid rfl, by decide, Below.refl _ _⟩
    case round =>
      obtain ⟨i, T, hi, rfl, rfl, HTD, hTz, B⟩ := hrel
      obtain ⟨wo, rfl⟩ : ∃ x : World, x = wr := ⟨_, rfl⟩
      have HBo := Lib.hid B
      clear B
      by_cases hil : i < LL.length
      · have hdi : decide ((i : Int) < LL.length) = true := by simp only [decide_eq_true_eq]; omega
        obtain ⟨ba, oa, rfl, hcA⟩ := HA1.out (by omega)
        have c0 := cell_later HBo.out (hcA i _ (List.getElem?_eq_getElem hil))
        obtain ⟨hx1, hx2⟩ := HPC.out _ (List.getElem_mem hil)
        have HSN := Lib.hid (put_snoc hil)
        have j1 : (0 : Int) ≤ (i : Int) := by omega
        have j2 : (i : Int) < (LL.length : Int) := by omega
        clear hcA
        generalize LL[i] = x at *
        have hxz : x.size ≤ 1000 := by rw [Lib.size_eq]; exact hx2
        have HNI := Lib.hid (idx_free hx1)
        obtain ⟨Y, hY⟩ : ∃ Y, x ++ (⟨#[10]⟩ : ByteArray) = Y := ⟨_, rfl⟩
        have hYd : Y.data.toList = x.data.toList ++ [10] := by rw [← hY, cat_data]
        have hYz : Y.size = x.size + 1 := by rw [Lib.size_eq, hYd, List.length_append, ← Lib.size_eq]; rfl
        have HYD := Lib.hid hYd
        have HTY := Lib.hid (cat_data T Y)
        have g1 : ¬9223372036854775807 < x.size + 1 := by omega
        have g2 : ¬9223372036854775807 < T.size + Y.size := by omega
        have hTYz : (T ++ Y).size = T.size + Y.size := by rw [Lib.size_eq, cat_data, List.length_append, ← Lib.size_eq, ← Lib.size_eq]
        have HTYZ := Lib.hid hTYz
        clear hx1 hx2 hYd hTYz
        go_wp2_with fail
        refine (Tryd.strings_Contains_one x 10 wo).mono ?_
        rw [HNI.out]
        rintro e wq ⟨rfl, hwq⟩
        subst hwq
        go_wp2_with fail
        exact ⟨⟨i + 1, T ++ Y, by omega, rfl, by go_num, Lib.hid (by rw [HTY.out, HYD.out, HSN.out, HTD.out]), by rw [HTYZ.out]; omega, HBo.out⟩, by simp [intOf]; omega⟩
      · have e : i = LL.length := by omega
        subst e
        have hdi : decide ((LL.length : Int) < LL.length) = false := by simp
        have HTE : Hid (T = t) := Lib.hid (by
          have h := HTD.out
          rw [List.take_of_length_le (Nat.le_refl _), HPU.out] at h
          rw [← toB_data T, h, toB_data])
        have hte := HTE.out
        subst hte
        have hss : (T.toList == T.toList) = true := by simp
        have HMa := Lib.hid (cell_later HBo.out HM1.out)
        have HTa := Lib.hid (tab_later HT1.out HBo.out)
        have HBa := Lib.hid (below_then HB1.out HB1.out.size HBo.out)
        clear HM1 HT1 HB1 HBo HTD HTE
        obtain ⟨t, rfl⟩ : ∃ t : ByteArray, t = T := ⟨_, rfl⟩
        go_wp2_with fail
        clear hss
        refine (lexWords_any HTS.out HMa.out).mono ?_
        rw [HQ.out, HWW.out]
        rintro e wb ⟨Vb, rfl, Sb, Bb⟩
        have HMb := Lib.hid (cell_later Bb HMa.out)
        have HTb := Lib.hid (tab_later HTa.out Bb)
        have HBb := Lib.hid (below_then HBa.out HBa.out.size Bb)
        have HSb := Lib.hid Sb
        clear Sb Bb HMa HTa HBa
        obtain ⟨Ab, cb, hVb, hcb, -, hb⟩ := Strs.at_ HSb.out
        subst hVb
        cases q with
        | true =>
          obtain ⟨hw0, hwj⟩ := HWJ.out rfl
          obtain ⟨bb, ob, rfl, hcc⟩ := hb hw0
          have hbk : bb < wb.heap.size := World.block_lt_of_cell? _ _ (hcc 0 _ (List.getElem?_eq_getElem hw0))
          have HJ := Lib.hid (Tryd.strings_Join bb ob cb WW bSp wb (fun j x hj => hcc j x hj) hbk (by omega) hcb (by rw [show bSp.data.toList = [32] from rfl, hwj, ← Lib.size_eq]; omega))
          have HJE : Hid ((⟨(Lib.join (WW.map (·.data.toList)) bSp.data.toList).toArray⟩ : ByteArray) = t) := Lib.hid (by rw [show bSp.data.toList = [32] from rfl, hwj])
          clear hcc hbk hw0 hwj hb
          go_wp2_with fail
          refine HJ.out.mono ?_
          rw [HJE.out]
          rintro e wc ⟨rfl, Bc⟩
          have HMc := Lib.hid (cell_later Bc HMb.out)
          have HTc := Lib.hid (tab_later HTb.out Bc)
          have HBc := Lib.hid (below_then HBb.out HBb.out.size Bc)
          have hss : (t.toList == t.toList) = true := by simp
          clear Bc HMb HTb HBb HJ HJE
          go_wp2_with fail
          clear hss
          refine (digits_any n h0 h1 HTc.out).mono ?_
          rw [HD.out]
          rintro e wd ⟨rfl, Bd⟩
          have HMd := Lib.hid (cell_later Bd HMc.out)
          have HTd := Lib.hid (tab_later HTc.out Bd)
          have HBd := Lib.hid (below_then HBc.out HBc.out.size Bd)
          have hdd : (D.toList == D.toList) = true := by simp
          clear Bd HMc HTc HBc
          by_cases hr : 0 ≤ n ∧ n ≤ 9999999
          · obtain ⟨u, rfl⟩ : ∃ u : Nat, n = u := ⟨n.toNat, by omega⟩
            have hn2 : decide ((u : Int) ≤ 9999999) = true := by simp only [decide_eq_true_eq]; omega
            have huu : ((u : Int) == (u : Int)) = true := by simp
            have HNU : Hid (numO D.data.toList 9999999 = some u) := Lib.hid (by
              rw [HDL.out, itoa_numO _ _ (by omega), if_pos hr]
              simp)
            clear hr
            go_wp2_with fail
            refine (lexNumber_some HNU.out).mono ?_
            rintro e we ⟨rfl, Be⟩
            have HMe := Lib.hid (cell_later Be HMd.out)
            have HTe := Lib.hid (tab_later HTd.out Be)
            have HBe := Lib.hid (below_then HBd.out HBd.out.size Be)
            clear Be HMd HTd HBd
            go_wp2_with fail
            refine (lexWakes_ok HMe.out HTe.out).mono ?_
            rintro e wf ⟨rfl, Bf⟩
            have HBf := Lib.hid (below_then HBe.out HBe.out.size Bf)
            clear Bf HMe HTe HBe
            go_wp2_with fail
            refine (refDigits_any (u : Int) (by omega) (by omega)).mono ?_
            rw [HD.out]
            rintro e wg ⟨rfl, Bg⟩
            have HBg := Lib.hid (below_then HBf.out HBf.out.size Bg)
            clear Bg HBf
            go_wp2_with fail
            go_ret
            exact ⟨rfl, HBg.out⟩
          · have HNU : Hid (numO D.data.toList 9999999 = none) := Lib.hid (by rw [HDL.out, itoa_numO _ _ (by omega), if_neg hr])
            go_wp2_with fail
            refine (lexNumber_none HNU.out).mono ?_
            rintro e we ⟨rfl, Be⟩
            have HMe := Lib.hid (cell_later Be HMd.out)
            have HTe := Lib.hid (tab_later HTd.out Be)
            have HBe := Lib.hid (below_then HBd.out HBd.out.size Be)
            clear Be HMd HTd HBd
            go_wp2_with fail
            refine (lexWakes_ok HMe.out HTe.out).mono ?_
            rintro e wf ⟨rfl, Bf⟩
            have HBf := Lib.hid (below_then HBe.out HBe.out.size Bf)
            clear Bf HMe HTe HBe
            by_cases hn0 : 0 ≤ n
            · have hd0 : decide (0 ≤ n) = true := by simpa using hn0
              have hd9 : decide (n ≤ 9999999) = false := by simp only [decide_eq_false_iff_not]; omega
              clear hr hn0
              go_wp2_with fail
              refine (refDigits_any n h0 h1).mono ?_
              rw [HD.out]
              rintro e wg ⟨rfl, Bg⟩
              have HBg := Lib.hid (below_then HBf.out HBf.out.size Bg)
              clear Bg HBf
              go_wp2_with fail
              go_ret
              exact ⟨rfl, HBg.out⟩
            · have hd0 : decide (0 ≤ n) = false := by simpa using hn0
              clear hr hn0
              go_wp2_with fail
              refine (refDigits_any n h0 h1).mono ?_
              rw [HD.out]
              rintro e wg ⟨rfl, Bg⟩
              have HBg := Lib.hid (below_then HBf.out HBf.out.size Bg)
              clear Bg HBf
              go_wp2_with fail
              go_ret
              exact ⟨rfl, HBg.out⟩
        | false =>
          clear hb
          obtain ⟨wc, rfl⟩ : ∃ x : World, x = wb := ⟨_, rfl⟩
          have HMc := HMb
          have HTc := HTb
          have HBc := HBb
          clear HMb HTb HBb
          go_wp2_with fail
          refine (digits_any n h0 h1 HTc.out).mono ?_
          rw [HD.out]
          rintro e wd ⟨rfl, Bd⟩
          have HMd := Lib.hid (cell_later Bd HMc.out)
          have HTd := Lib.hid (tab_later HTc.out Bd)
          have HBd := Lib.hid (below_then HBc.out HBc.out.size Bd)
          have hdd : (D.toList == D.toList) = true := by simp
          clear Bd HMc HTc HBc
          by_cases hr : 0 ≤ n ∧ n ≤ 9999999
          · obtain ⟨u, rfl⟩ : ∃ u : Nat, n = u := ⟨n.toNat, by omega⟩
            have hn2 : decide ((u : Int) ≤ 9999999) = true := by simp only [decide_eq_true_eq]; omega
            have huu : ((u : Int) == (u : Int)) = true := by simp
            have HNU : Hid (numO D.data.toList 9999999 = some u) := Lib.hid (by
              rw [HDL.out, itoa_numO _ _ (by omega), if_pos hr]
              simp)
            clear hr
            go_wp2_with fail
            refine (lexNumber_some HNU.out).mono ?_
            rintro e we ⟨rfl, Be⟩
            have HMe := Lib.hid (cell_later Be HMd.out)
            have HTe := Lib.hid (tab_later HTd.out Be)
            have HBe := Lib.hid (below_then HBd.out HBd.out.size Be)
            clear Be HMd HTd HBd
            go_wp2_with fail
            refine (lexWakes_ok HMe.out HTe.out).mono ?_
            rintro e wf ⟨rfl, Bf⟩
            have HBf := Lib.hid (below_then HBe.out HBe.out.size Bf)
            clear Bf HMe HTe HBe
            go_wp2_with fail
            refine (refDigits_any (u : Int) (by omega) (by omega)).mono ?_
            rw [HD.out]
            rintro e wg ⟨rfl, Bg⟩
            have HBg := Lib.hid (below_then HBf.out HBf.out.size Bg)
            clear Bg HBf
            go_wp2_with fail
            go_ret
            exact ⟨rfl, HBg.out⟩
          · have HNU : Hid (numO D.data.toList 9999999 = none) := Lib.hid (by rw [HDL.out, itoa_numO _ _ (by omega), if_neg hr])
            go_wp2_with fail
            refine (lexNumber_none HNU.out).mono ?_
            rintro e we ⟨rfl, Be⟩
            have HMe := Lib.hid (cell_later Be HMd.out)
            have HTe := Lib.hid (tab_later HTd.out Be)
            have HBe := Lib.hid (below_then HBd.out HBd.out.size Be)
            clear Be HMd HTd HBd
            go_wp2_with fail
            refine (lexWakes_ok HMe.out HTe.out).mono ?_
            rintro e wf ⟨rfl, Bf⟩
            have HBf := Lib.hid (below_then HBe.out HBe.out.size Bf)
            clear Bf HMe HTe HBe
            by_cases hn0 : 0 ≤ n
            · have hd0 : decide (0 ≤ n) = true := by simpa using hn0
              have hd9 : decide (n ≤ 9999999) = false := by simp only [decide_eq_false_iff_not]; omega
              clear hr hn0
              go_wp2_with fail
              refine (refDigits_any n h0 h1).mono ?_
              rw [HD.out]
              rintro e wg ⟨rfl, Bg⟩
              have HBg := Lib.hid (below_then HBf.out HBf.out.size Bg)
              clear Bg HBf
              go_wp2_with fail
              go_ret
              exact ⟨rfl, HBg.out⟩
            · have hd0 : decide (0 ≤ n) = false := by simpa using hn0
              clear hr hn0
              go_wp2_with fail
              refine (refDigits_any n h0 h1).mono ?_
              rw [HD.out]
              rintro e wg ⟨rfl, Bg⟩
              have HBg := Lib.hid (below_then HBf.out HBf.out.size Bg)
              clear Bg HBf
              go_wp2_with fail
              go_ret
              exact ⟨rfl, HBg.out⟩
  · have hne : (E == 0) = false := by simpa using hE0
    have HMa := HM1
    have HTa := HT1
    have HBa := HB1
    obtain ⟨wo, rfl⟩ : ∃ x : World, x = w1 := ⟨_, rfl⟩
    clear HM1 HT1 HB1 hE0
    go_wp2_with fail
    refine (lexWords_any HTS.out HMa.out).mono ?_
    rw [HQ.out, HWW.out]
    rintro e wb ⟨Vb, rfl, Sb, Bb⟩
    have HMb := Lib.hid (cell_later Bb HMa.out)
    have HTb := Lib.hid (tab_later HTa.out Bb)
    have HBb := Lib.hid (below_then HBa.out HBa.out.size Bb)
    have HSb := Lib.hid Sb
    clear Sb Bb HMa HTa HBa
    obtain ⟨Ab, cb, hVb, hcb, -, hb⟩ := Strs.at_ HSb.out
    subst hVb
    cases q with
    | true =>
      obtain ⟨hw0, hwj⟩ := HWJ.out rfl
      obtain ⟨bb, ob, rfl, hcc⟩ := hb hw0
      have hbk : bb < wb.heap.size := World.block_lt_of_cell? _ _ (hcc 0 _ (List.getElem?_eq_getElem hw0))
      have HJ := Lib.hid (Tryd.strings_Join bb ob cb WW bSp wb (fun j x hj => hcc j x hj) hbk (by omega) hcb (by rw [show bSp.data.toList = [32] from rfl, hwj, ← Lib.size_eq]; omega))
      have HJE : Hid ((⟨(Lib.join (WW.map (·.data.toList)) bSp.data.toList).toArray⟩ : ByteArray) = t) := Lib.hid (by rw [show bSp.data.toList = [32] from rfl, hwj])
      clear hcc hbk hw0 hwj hb
      go_wp2_with fail
      refine HJ.out.mono ?_
      rw [HJE.out]
      rintro e wc ⟨rfl, Bc⟩
      have HMc := Lib.hid (cell_later Bc HMb.out)
      have HTc := Lib.hid (tab_later HTb.out Bc)
      have HBc := Lib.hid (below_then HBb.out HBb.out.size Bc)
      have hss : (t.toList == t.toList) = true := by simp
      clear Bc HMb HTb HBb HJ HJE
      go_wp2_with fail
      clear hss
      refine (digits_any n h0 h1 HTc.out).mono ?_
      rw [HD.out]
      rintro e wd ⟨rfl, Bd⟩
      have HMd := Lib.hid (cell_later Bd HMc.out)
      have HTd := Lib.hid (tab_later HTc.out Bd)
      have HBd := Lib.hid (below_then HBc.out HBc.out.size Bd)
      have hdd : (D.toList == D.toList) = true := by simp
      clear Bd HMc HTc HBc
      by_cases hr : 0 ≤ n ∧ n ≤ 9999999
      · obtain ⟨u, rfl⟩ : ∃ u : Nat, n = u := ⟨n.toNat, by omega⟩
        have hn2 : decide ((u : Int) ≤ 9999999) = true := by simp only [decide_eq_true_eq]; omega
        have huu : ((u : Int) == (u : Int)) = true := by simp
        have HNU : Hid (numO D.data.toList 9999999 = some u) := Lib.hid (by
          rw [HDL.out, itoa_numO _ _ (by omega), if_pos hr]
          simp)
        clear hr
        go_wp2_with fail
        refine (lexNumber_some HNU.out).mono ?_
        rintro e we ⟨rfl, Be⟩
        have HMe := Lib.hid (cell_later Be HMd.out)
        have HTe := Lib.hid (tab_later HTd.out Be)
        have HBe := Lib.hid (below_then HBd.out HBd.out.size Be)
        clear Be HMd HTd HBd
        go_wp2_with fail
        refine (lexWakes_ok HMe.out HTe.out).mono ?_
        rintro e wf ⟨rfl, Bf⟩
        have HBf := Lib.hid (below_then HBe.out HBe.out.size Bf)
        clear Bf HMe HTe HBe
        go_wp2_with fail
        refine (refDigits_any (u : Int) (by omega) (by omega)).mono ?_
        rw [HD.out]
        rintro e wg ⟨rfl, Bg⟩
        have HBg := Lib.hid (below_then HBf.out HBf.out.size Bg)
        clear Bg HBf
        go_wp2_with fail
        go_ret
        exact ⟨rfl, HBg.out⟩
      · have HNU : Hid (numO D.data.toList 9999999 = none) := Lib.hid (by rw [HDL.out, itoa_numO _ _ (by omega), if_neg hr])
        go_wp2_with fail
        refine (lexNumber_none HNU.out).mono ?_
        rintro e we ⟨rfl, Be⟩
        have HMe := Lib.hid (cell_later Be HMd.out)
        have HTe := Lib.hid (tab_later HTd.out Be)
        have HBe := Lib.hid (below_then HBd.out HBd.out.size Be)
        clear Be HMd HTd HBd
        go_wp2_with fail
        refine (lexWakes_ok HMe.out HTe.out).mono ?_
        rintro e wf ⟨rfl, Bf⟩
        have HBf := Lib.hid (below_then HBe.out HBe.out.size Bf)
        clear Bf HMe HTe HBe
        by_cases hn0 : 0 ≤ n
        · have hd0 : decide (0 ≤ n) = true := by simpa using hn0
          have hd9 : decide (n ≤ 9999999) = false := by simp only [decide_eq_false_iff_not]; omega
          clear hr hn0
          go_wp2_with fail
          refine (refDigits_any n h0 h1).mono ?_
          rw [HD.out]
          rintro e wg ⟨rfl, Bg⟩
          have HBg := Lib.hid (below_then HBf.out HBf.out.size Bg)
          clear Bg HBf
          go_wp2_with fail
          go_ret
          exact ⟨rfl, HBg.out⟩
        · have hd0 : decide (0 ≤ n) = false := by simpa using hn0
          clear hr hn0
          go_wp2_with fail
          refine (refDigits_any n h0 h1).mono ?_
          rw [HD.out]
          rintro e wg ⟨rfl, Bg⟩
          have HBg := Lib.hid (below_then HBf.out HBf.out.size Bg)
          clear Bg HBf
          go_wp2_with fail
          go_ret
          exact ⟨rfl, HBg.out⟩
    | false =>
      clear hb
      obtain ⟨wc, rfl⟩ : ∃ x : World, x = wb := ⟨_, rfl⟩
      have HMc := HMb
      have HTc := HTb
      have HBc := HBb
      clear HMb HTb HBb
      go_wp2_with fail
      refine (digits_any n h0 h1 HTc.out).mono ?_
      rw [HD.out]
      rintro e wd ⟨rfl, Bd⟩
      have HMd := Lib.hid (cell_later Bd HMc.out)
      have HTd := Lib.hid (tab_later HTc.out Bd)
      have HBd := Lib.hid (below_then HBc.out HBc.out.size Bd)
      have hdd : (D.toList == D.toList) = true := by simp
      clear Bd HMc HTc HBc
      by_cases hr : 0 ≤ n ∧ n ≤ 9999999
      · obtain ⟨u, rfl⟩ : ∃ u : Nat, n = u := ⟨n.toNat, by omega⟩
        have hn2 : decide ((u : Int) ≤ 9999999) = true := by simp only [decide_eq_true_eq]; omega
        have huu : ((u : Int) == (u : Int)) = true := by simp
        have HNU : Hid (numO D.data.toList 9999999 = some u) := Lib.hid (by
          rw [HDL.out, itoa_numO _ _ (by omega), if_pos hr]
          simp)
        clear hr
        go_wp2_with fail
        refine (lexNumber_some HNU.out).mono ?_
        rintro e we ⟨rfl, Be⟩
        have HMe := Lib.hid (cell_later Be HMd.out)
        have HTe := Lib.hid (tab_later HTd.out Be)
        have HBe := Lib.hid (below_then HBd.out HBd.out.size Be)
        clear Be HMd HTd HBd
        go_wp2_with fail
        refine (lexWakes_ok HMe.out HTe.out).mono ?_
        rintro e wf ⟨rfl, Bf⟩
        have HBf := Lib.hid (below_then HBe.out HBe.out.size Bf)
        clear Bf HMe HTe HBe
        go_wp2_with fail
        refine (refDigits_any (u : Int) (by omega) (by omega)).mono ?_
        rw [HD.out]
        rintro e wg ⟨rfl, Bg⟩
        have HBg := Lib.hid (below_then HBf.out HBf.out.size Bg)
        clear Bg HBf
        go_wp2_with fail
        go_ret
        exact ⟨rfl, HBg.out⟩
      · have HNU : Hid (numO D.data.toList 9999999 = none) := Lib.hid (by rw [HDL.out, itoa_numO _ _ (by omega), if_neg hr])
        go_wp2_with fail
        refine (lexNumber_none HNU.out).mono ?_
        rintro e we ⟨rfl, Be⟩
        have HMe := Lib.hid (cell_later Be HMd.out)
        have HTe := Lib.hid (tab_later HTd.out Be)
        have HBe := Lib.hid (below_then HBd.out HBd.out.size Be)
        clear Be HMd HTd HBd
        go_wp2_with fail
        refine (lexWakes_ok HMe.out HTe.out).mono ?_
        rintro e wf ⟨rfl, Bf⟩
        have HBf := Lib.hid (below_then HBe.out HBe.out.size Bf)
        clear Bf HMe HTe HBe
        by_cases hn0 : 0 ≤ n
        · have hd0 : decide (0 ≤ n) = true := by simpa using hn0
          have hd9 : decide (n ≤ 9999999) = false := by simp only [decide_eq_false_iff_not]; omega
          clear hr hn0
          go_wp2_with fail
          refine (refDigits_any n h0 h1).mono ?_
          rw [HD.out]
          rintro e wg ⟨rfl, Bg⟩
          have HBg := Lib.hid (below_then HBf.out HBf.out.size Bg)
          clear Bg HBf
          go_wp2_with fail
          go_ret
          exact ⟨rfl, HBg.out⟩
        · have hd0 : decide (0 ≤ n) = false := by simpa using hn0
          clear hr hn0
          go_wp2_with fail
          refine (refDigits_any n h0 h1).mono ?_
          rw [HD.out]
          rintro e wg ⟨rfl, Bg⟩
          have HBg := Lib.hid (below_then HBf.out HBf.out.size Bg)
          clear Bg HBf
          go_wp2_with fail
          go_ret
          exact ⟨rfl, HBg.out⟩
end Go.Proofs.YtkpgjgmlhcipeaaDoor
