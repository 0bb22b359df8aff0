/- DagCosts: what any coordinates cost is the document's answer. -/
import Derived.Test.YtimffpnfhkobkaaLMovA
namespace Go.Proofs.Ytimffpnfhkobkaa
open Go.RowKit
set_option maxRecDepth 100000 in
set_option maxHeartbeats 4000000 in
theorem costs_core {w : World} {V VX : Value} {T : List Tri} {xs : List Int} (N : Nat) (hN : N ≤ 255) (h : Tris w V T) (hs : Small T) (hl : T.length ≤ 1000000000000000) (hx : Ints w VX xs) (hxl : xs.length ≤ 1000000000000000) :
    Calls Try.prog 4 #[.agg #[.int .u8 (N : Int), V], VX] w fun e w' => e = .returned (.bool true) ∧ Below w.heap.size w w' := by
  have HX := Lib.hid hx
  obtain ⟨AX, cpX, rfl, -, -, hAX⟩ := hx.at_
  have HAX := Lib.hid hAX
  clear hAX
  obtain ⟨A, cap, rfl, -, -⟩ := h.at_
  have hb : Below w.heap.size w (w.alloc (.cells #[.int .u8 (N : Int), .slice A T.length cap] 38)) := (Below.refl _ _).alloc (Nat.le_refl _) _
  have HH := Lib.hid (Sl.later h hb)
  clear h hx
  go_enter Try.func4, Try.ntmps4
  go_wp2_with fail
  refine (make_any (T := T) N 10 hN (by omega) (by omega) HH.out hs hl).mono ?_
  rintro e w1 ⟨V1, rfl, R1, B1⟩
  have HL := Lib.hid (Sl.of_own encA_length R1)
  have HB1 := Lib.hid (hb.trans (B1.mono (by simp)))
  have HLL := makeL_length N 10 T
  have HIN := Lib.hid (makeL_in N 10 T)
  have HW := Lib.hid (makeL_w N 10 T)
  have HD := Lib.hid (makeL_dag N 10 (by omega) (by omega) T)
  obtain ⟨n, hn⟩ : ∃ n, mkN N 10 = n := ⟨_, rfl⟩
  have hn1 : 1 ≤ n ∧ n ≤ 10 := by rw [← hn]; unfold mkN; omega
  rw [hn] at HD HIN ⊢
  obtain ⟨L, hL⟩ : ∃ L, makeL N 10 T = L := ⟨_, rfl⟩
  rw [hL] at HD HIN HW HL HLL
  obtain ⟨A1, cap1, rfl, -, -⟩ := Arcs.at_ HL.out
  clear hb R1 B1 HH hs hl hL hn
  go_wp2_with fail
  obtain ⟨w2, hw2⟩ : ∃ w2, w1.alloc (.cells #[.bool true, .bool false] 4) = w2 := ⟨_, rfl⟩
  have b12 : Below w1.heap.size w1 w2 := by rw [← hw2]; exact (Below.refl _ _).alloc (Nat.le_refl _) _
  have HB2 := Lib.hid (below_then HB1.out HB1.out.size b12)
  have HL2 := Lib.hid (HL.out.later b12)
  have HG : Hid (w2.heap[w1.heap.size]? = some (.cells #[.bool true, .bool false] 4)) := Lib.hid (by rw [← hw2]; exact heap_at rfl)
  have hs2 : w1.heap.size + 1 ≤ w2.heap.size := by rw [← hw2]; simp
  rw [hw2]
  clear hw2 b12 HL HB1
  go_loopw [24] (fun q wr => ∃ i : Nat, i ≤ 2 ∧ q = .int .i64 i ∧ Below w2.heap.size w2 wr) (fun q _ => 2 - (intOf q).toNat)
  case atStart => exact ⟨0, by omega, rfl, Below.refl _ _⟩
  case round => as_aux_lemma =>
    obtain ⟨i, hi, rfl, B⟩ := hrel
    obtain ⟨wo, rfl⟩ : ∃ x : World, x = wr := ⟨_, rfl⟩
    have HB := Lib.hid B
    have hG := (HB.out.block w1.heap.size (by omega)).trans HG.out
    clear B
    by_cases hi2 : i < 2
    · have hd : decide ((i : Int) < 2) = true := by simp; omega
      obtain ⟨big, c0⟩ : ∃ big, wo.cell? ⟨w1.heap.size, i, none⟩ = some (.bool big) := by
        have : i = 0 ∨ i = 1 := by omega
        rcases this with rfl | rfl
        · exact ⟨true, (Cl.of_block hG (j := 0) rfl).cell⟩
        · exact ⟨false, (Cl.of_block hG (j := 1) rfl).cell⟩
      have i1 : (0 : Int) ≤ (i : Int) := by omega
      have i2 : (i : Int) < 2 := by omega
      clear hG
      go_wp2_with fail
      have HBo := Lib.hid (below_then HB2.out HB2.out.size HB.out)
      go_loopw [9, 29] (fun Vl q wr => ∃ k : Nat, k ≤ n ∧ q = .int .i64 k ∧ wr.ownsRow wo.heap.size 3 1 Vl k (flat encI (valsC big xs k)) ∧ Below wo.heap.size wo wr) (fun _ q _ => n - (intOf q).toNat)
      case atStart => exact ⟨0, by omega, rfl, World.ownsRow_nil _ _ _ _, Below.refl _ _⟩
      case round => as_aux_lemma =>
        obtain ⟨k, hk, rfl, R, B⟩ := hrel
        obtain ⟨Vl, rfl⟩ : ∃ x : Value, x = u9 := ⟨_, rfl⟩
        obtain ⟨wi, rfl⟩ : ∃ x : World, x = wr := ⟨_, rfl⟩
        obtain ⟨AV, cV, rfl, -⟩ := own_shape R
        have HR := Lib.hid R
        have HBi := Lib.hid B
        clear R B
        by_cases hkn : k < n
        · have hd3 : decide ((k : Int) < n) = true := by simp; omega
          have hvs := Lib.hid (valsC_succ big xs k)
          have ek : (k : Int) % 50 = (k : Int) := by omega
          have tk : Hid ((k : Int).tmod 50 = (k : Int)) := Lib.hid (by rw [Int.tmod_eq_emod_of_nonneg (by omega)]; omega)
          have k1 : (0 : Int) ≤ (k : Int) := by omega
          by_cases hkx : k < xs.length
          · have hd4 : decide ((k : Int) < xs.length) = true := by simp; omega
            have k2 : (k : Int) < (xs.length : Int) := by omega
            obtain ⟨x, hx⟩ : ∃ x, xs[k]? = some x := ⟨_, List.getElem?_eq_getElem hkx⟩
            obtain ⟨b, off, rfl, hcx⟩ := HAX.out (by omega)
            have cx := cell_later HBi.out (cell_later HBo.out (hcx k x hx))
            have HHX := Lib.hid hx
            clear hcx hx
            cases big
            · obtain ⟨r, hr⟩ : ∃ r, x.tmod 50 = r := ⟨_, rfl⟩
              have hr1 : -50 < r ∧ r < 50 := by rw [← hr]; exact tmod_bounds x 50 (by omega)
              obtain ⟨p, hp⟩ : ∃ p, x.tmod 2 = p := ⟨_, rfl⟩
              by_cases hp0 : p = 0
              · have hv : Hid (valC false xs k = r + 100 * (k : Int)) := Lib.hid (by rw [valC_yes HHX.out (.inr (by rw [hp, hp0]))]; simp [hr])
                have dp : (p == 0) = true := by simp [hp0]
                clear hp0
                go_upto_region 14 with fail
                obtain ⟨i0, hi0, hz0, hz1, hz2⟩ := info_parts infoInt
                go_wp2_with (refine wpList_append_lies _ rfl (.tmp 59) (.tmp 61) 26 rfl wo.heap.size 3 i0 (.int .i64 0) 1 8 Try.underlying26 hi0 hz0 hz1 hz2 rfl (by decide) (.slice AV k cV) k (flat encI (valsC false xs k)) rfl (own_later HR.out ((Below.refl _ _).alloc (Nat.le_refl _) _)) ⟨wi.heap.size, 0, none⟩ 1 1 (encI (r + 100 * (k : Int))) rfl rfl (World.news_of_block (heap_at rfl)) (by intro u hu; simp [encI] at hu; subst hu; rfl) (by omega) (by simp only [maxLen]; omega) (by omega) (by have := HBi.out.size; simp; omega) _ rfl ?_; intro g cq w3 hown hgrow hat hlt)
                have HB4 := (HBi.out.alloc HBi.out.size (.cells (encI (r + 100 * (k : Int))).toArray 3)).grown hgrow (by have := HBi.out.size; simp; omega) (fun q hq => by have := own_ge HR.out hq; omega)
                refine ⟨⟨k + 1, by omega, by go_num, ?_, HB4⟩, by simp [intOf]; omega⟩
                rw [hvs.out, hv.out, flat_append]
                simpa [flat] using hown
              · have hv : Hid (valC false xs k = (k : Int) + 100 * (k : Int)) := Lib.hid (by rw [valC_odd HHX.out (by rw [hp]; exact hp0), tk.out])
                have dp : (p == 0) = false := by simp [hp0]
                clear hp0
                go_upto_region 14 with fail
                obtain ⟨i0, hi0, hz0, hz1, hz2⟩ := info_parts infoInt
                go_wp2_with (refine wpList_append_lies _ rfl (.tmp 59) (.tmp 61) 26 rfl wo.heap.size 3 i0 (.int .i64 0) 1 8 Try.underlying26 hi0 hz0 hz1 hz2 rfl (by decide) (.slice AV k cV) k (flat encI (valsC false xs k)) rfl (own_later HR.out ((Below.refl _ _).alloc (Nat.le_refl _) _)) ⟨wi.heap.size, 0, none⟩ 1 1 (encI ((k : Int) + 100 * (k : Int))) rfl rfl (World.news_of_block (heap_at rfl)) (by intro u hu; simp [encI] at hu; subst hu; rfl) (by omega) (by simp only [maxLen]; omega) (by omega) (by have := HBi.out.size; simp; omega) _ rfl ?_; intro g cq w3 hown hgrow hat hlt)
                have HB4 := (HBi.out.alloc HBi.out.size (.cells (encI ((k : Int) + 100 * (k : Int))).toArray 3)).grown hgrow (by have := HBi.out.size; simp; omega) (fun q hq => by have := own_ge HR.out hq; omega)
                refine ⟨⟨k + 1, by omega, by go_num, ?_, HB4⟩, by simp [intOf]; omega⟩
                rw [hvs.out, hv.out, flat_append]
                simpa [flat] using hown
            · have hv : Hid (valC true xs k = x) := Lib.hid (by rw [valC_yes HHX.out (.inl rfl)]; rfl)
              go_upto_region 14 with fail
              obtain ⟨i0, hi0, hz0, hz1, hz2⟩ := info_parts infoInt
              go_wp2_with (refine wpList_append_lies _ rfl (.tmp 59) (.tmp 61) 26 rfl wo.heap.size 3 i0 (.int .i64 0) 1 8 Try.underlying26 hi0 hz0 hz1 hz2 rfl (by decide) (.slice AV k cV) k (flat encI (valsC true xs k)) rfl (own_later HR.out ((Below.refl _ _).alloc (Nat.le_refl _) _)) ⟨wi.heap.size, 0, none⟩ 1 1 (encI (x)) rfl rfl (World.news_of_block (heap_at rfl)) (by intro u hu; simp [encI] at hu; subst hu; rfl) (by omega) (by simp only [maxLen]; omega) (by omega) (by have := HBi.out.size; simp; omega) _ rfl ?_; intro g cq w3 hown hgrow hat hlt)
              have HB4 := (HBi.out.alloc HBi.out.size (.cells (encI (x)).toArray 3)).grown hgrow (by have := HBi.out.size; simp; omega) (fun q hq => by have := own_ge HR.out hq; omega)
              refine ⟨⟨k + 1, by omega, by go_num, ?_, HB4⟩, by simp [intOf]; omega⟩
              rw [hvs.out, hv.out, flat_append]
              simpa [flat] using hown
          · have hd4 : decide ((k : Int) < xs.length) = false := by simp; omega
            cases big
            · have hv : Hid (valC false xs k = (k : Int) + 100 * (k : Int)) := Lib.hid (by rw [valC_no hkx]; simp [tk.out])
              go_upto_region 14 with fail
              obtain ⟨i0, hi0, hz0, hz1, hz2⟩ := info_parts infoInt
              go_wp2_with (refine wpList_append_lies _ rfl (.tmp 59) (.tmp 61) 26 rfl wo.heap.size 3 i0 (.int .i64 0) 1 8 Try.underlying26 hi0 hz0 hz1 hz2 rfl (by decide) (.slice AV k cV) k (flat encI (valsC false xs k)) rfl (own_later HR.out ((Below.refl _ _).alloc (Nat.le_refl _) _)) ⟨wi.heap.size, 0, none⟩ 1 1 (encI ((k : Int) + 100 * (k : Int))) rfl rfl (World.news_of_block (heap_at rfl)) (by intro u hu; simp [encI] at hu; subst hu; rfl) (by omega) (by simp only [maxLen]; omega) (by omega) (by have := HBi.out.size; simp; omega) _ rfl ?_; intro g cq w3 hown hgrow hat hlt)
              have HB4 := (HBi.out.alloc HBi.out.size (.cells (encI ((k : Int) + 100 * (k : Int))).toArray 3)).grown hgrow (by have := HBi.out.size; simp; omega) (fun q hq => by have := own_ge HR.out hq; omega)
              refine ⟨⟨k + 1, by omega, by go_num, ?_, HB4⟩, by simp [intOf]; omega⟩
              rw [hvs.out, hv.out, flat_append]
              simpa [flat] using hown
            · have hv : Hid (valC true xs k = (k : Int)) := Lib.hid (by rw [valC_no hkx]; rfl)
              go_upto_region 14 with fail
              obtain ⟨i0, hi0, hz0, hz1, hz2⟩ := info_parts infoInt
              go_wp2_with (refine wpList_append_lies _ rfl (.tmp 59) (.tmp 61) 26 rfl wo.heap.size 3 i0 (.int .i64 0) 1 8 Try.underlying26 hi0 hz0 hz1 hz2 rfl (by decide) (.slice AV k cV) k (flat encI (valsC true xs k)) rfl (own_later HR.out ((Below.refl _ _).alloc (Nat.le_refl _) _)) ⟨wi.heap.size, 0, none⟩ 1 1 (encI ((k : Int))) rfl rfl (World.news_of_block (heap_at rfl)) (by intro u hu; simp [encI] at hu; subst hu; rfl) (by omega) (by simp only [maxLen]; omega) (by omega) (by have := HBi.out.size; simp; omega) _ rfl ?_; intro g cq w3 hown hgrow hat hlt)
              have HB4 := (HBi.out.alloc HBi.out.size (.cells (encI ((k : Int))).toArray 3)).grown hgrow (by have := HBi.out.size; simp; omega) (fun q hq => by have := own_ge HR.out hq; omega)
              refine ⟨⟨k + 1, by omega, by go_num, ?_, HB4⟩, by simp [intOf]; omega⟩
              rw [hvs.out, hv.out, flat_append]
              simpa [flat] using hown
        · obtain rfl : k = n := by omega
          have hd3 : decide ((k : Int) < k) = false := by simp
          obtain ⟨l, hl⟩ : ∃ l, valsC big xs k = l := ⟨_, rfl⟩
          have hll : l.length = k := by rw [← hl]; exact valsC_length big xs k
          have R := HR.out
          rw [hl] at R
          have HI : Hid (Ints wi (.slice AV k cV) l) := Lib.hid (Sl.of_own encI_length (by rw [hll]; exact R))
          have HLi := Lib.hid ((HL2.out.later HB.out).later (HBi.out.mono (Nat.le_refl _)))
          have hfm := R.form (by omega)
          obtain ⟨g, cap2, hV2, -⟩ := hfm
          have hcp := own_shape R
          obtain ⟨_, _, hV3, hcp2⟩ := hcp
          cases hV3
          cases hV2
          clear hl R HR
          have HLEN := Lib.hid hll
          clear hll
          go_wp2_with fail
          refine (cost_any _ HLi.out HI.out (by have := HLEN.out; omega)).mono ?_
          rintro e w3 ⟨rfl, B3⟩
          have HB3 := Lib.hid (below_then HBi.out HBi.out.size B3)
          have HL3 := Lib.hid (HLi.out.later B3)
          have HI3 := Lib.hid (HI.out.later B3)
          clear B3
          obtain ⟨ce, hce⟩ : ∃ ce, costE k L l = ce := ⟨_, rfl⟩
          obtain ⟨cv, hcv⟩ : ∃ cv, costV k L l = cv := ⟨_, rfl⟩
          rw [hce, hcv]
          have HCE := Lib.hid hce
          have HCV := Lib.hid hcv
          clear hce hcv
          go_wp2_with fail
          refine (anyInts_any HI3.out (predG _) (fun _ _ => trivial) (by have := HLEN.out; omega)).mono ?_
          obtain ⟨fa, hfa⟩ : ∃ fa, l.any farB = fa := ⟨_, rfl⟩
          have HFA := Lib.hid hfa
          rw [hfa]
          clear hfa
          rintro e w4 ⟨rfl, B4⟩
          have HB4 := Lib.hid (below_then HB3.out HB3.out.size B4)
          have HL4 := Lib.hid (HL3.out.later B4)
          have HI4 := Lib.hid (HI3.out.later B4)
          clear B4 HB3 HL3 HI3
          cases fa
          · have hE := costE_fit HD.out (by have := HLEN.out; omega) HFA.out
            have HV := Lib.hid (fun h => costV_ok (n := k) (L := L) (xs := l) h)
            have HN := Lib.hid (near_of HFA.out)
            go_wp2_with fail
            refine (fit_any HL4.out HI4.out (by rw [HLEN.out]; exact HIN.out) (by omega) (by have := HLEN.out; omega)).mono ?_
            obtain ⟨ft, hft⟩ : ∃ ft, L.all (fitA l) = ft := ⟨_, rfl⟩
            rw [hft] at hE ⊢
            clear hft
            rintro e w5 ⟨rfl, B5⟩
            have HB5 := Lib.hid (below_then HB4.out HB4.out.size B5)
            have HL5 := Lib.hid (HL4.out.later B5)
            have HI5 := Lib.hid (HI4.out.later B5)
            clear B5 HB4 HL4 HI4
            cases ft
            · obtain rfl : ce = 15 := by rw [← HCE.out, hE]; rfl
              clear hE
              have HC2 := Lib.hid (costE_len (n := k) (xs := l.tail) HD.out (by rw [List.length_tail, HLEN.out]; omega))
              have HD1 := Lib.hid (Ints.drop1 HI5.out (by omega))
              go_wp2_with fail
              all_goals
                refine (cost_any _ HL5.out (by first | exact HD1.out.1 | exact HD1.out.2 (by assumption)) (by rw [List.length_tail, HLEN.out]; omega)).mono ?_
                rw [HC2.out]
                generalize costV (k : Int) L l.tail = v7
                rintro e w7 ⟨rfl, B7⟩
                have HB7 := Lib.hid (HB.out.trans ((below_then HB5.out HB5.out.size B7).mono HB.out.size))
                clear B7
                go_wp2_with fail
                exact ⟨⟨i + 1, by omega, by go_num, HB7.out⟩, by simp [intOf]; omega⟩
            · obtain rfl : ce = 0 := by rw [← HCE.out, hE]; rfl
              obtain rfl : cv = costL l L := by rw [← HCV.out]; exact HV.out (by rw [HCE.out])
              clear hE
              go_wp2_with fail
              refine (refCost_any HL5.out HI5.out (by rw [HLEN.out]; exact HIN.out) (by omega) (by have := HLEN.out; omega) (fun a ha => by have := HW.out a ha; omega) HN.out).mono ?_
              rintro e w6 ⟨rfl, B6⟩
              have HB6 := Lib.hid (below_then HB5.out HB5.out.size B6)
              have HL6 := Lib.hid (HL5.out.later B6)
              have HI6 := Lib.hid (HI5.out.later B6)
              clear B6 HB5 HL5 HI5
              have HC2 := Lib.hid (costE_len (n := k) (xs := l.tail) HD.out (by rw [List.length_tail, HLEN.out]; omega))
              have HD1 := Lib.hid (Ints.drop1 HI6.out (by omega))
              go_wp2_with fail
              all_goals
                refine (cost_any _ HL6.out (by first | exact HD1.out.1 | exact HD1.out.2 (by assumption)) (by rw [List.length_tail, HLEN.out]; omega)).mono ?_
                rw [HC2.out]
                generalize costV (k : Int) L l.tail = v7
                rintro e w7 ⟨rfl, B7⟩
                have HB7 := Lib.hid (HB.out.trans ((below_then HB6.out HB6.out.size B7).mono HB.out.size))
                clear B7
                go_wp2_with fail
                exact ⟨⟨i + 1, by omega, by go_num, HB7.out⟩, by simp [intOf]; omega⟩
          · obtain rfl : ce = 2 := by rw [← HCE.out]; exact costE_far HD.out HFA.out
            have HC2 := Lib.hid (costE_len (n := k) (xs := l.tail) HD.out (by rw [List.length_tail, HLEN.out]; omega))
            have HD1 := Lib.hid (Ints.drop1 HI4.out (by omega))
            go_wp2_with fail
            all_goals
              refine (cost_any _ HL4.out (by first | exact HD1.out.1 | exact HD1.out.2 (by assumption)) (by rw [List.length_tail, HLEN.out]; omega)).mono ?_
              rw [HC2.out]
              generalize costV (k : Int) L l.tail = v7
              rintro e w7 ⟨rfl, B7⟩
              have HB7 := Lib.hid (HB.out.trans ((below_then HB4.out HB4.out.size B7).mono HB.out.size))
              clear B7
              go_wp2_with fail
              exact ⟨⟨i + 1, by omega, by go_num, HB7.out⟩, by simp [intOf]; omega⟩
    · obtain rfl : i = 2 := by omega
      clear hG
      go_wp2_with fail
      refine (dwakes_any _).mono ?_
      rintro e w5 ⟨rfl, B5⟩
      have HB5 := Lib.hid (below_then HB2.out HB2.out.size (HB.out.trans (B5.mono HB.out.size)))
      clear B5
      go_wp2_with fail
      go_ret
      exact ⟨rfl, HB5.out⟩
end Go.Proofs.Ytimffpnfhkobkaa
