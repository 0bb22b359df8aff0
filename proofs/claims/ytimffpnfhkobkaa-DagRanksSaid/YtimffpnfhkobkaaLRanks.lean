/- DagRanks: the ranks of any numbers are the document's; ranks of coordinates that fit fit, and cost no more. -/
import Derived.Test.YtimffpnfhkobkaaRefK
import Derived.Test.YtimffpnfhkobkaaOpn
namespace Go.Proofs.Ytimffpnfhkobkaa
open Go.RowKit
set_option maxRecDepth 100000 in
set_option maxHeartbeats 4000000 in
theorem ranks_core {w : World} {V VX : Value} {T : List Tri} {xs : List Int} (N : Nat) (hN : N ≤ 255) (h : Tris w V T) (hs : Small T) (hl : T.length ≤ 1000000000000000) (hx : Ints w VX xs) (hxl : xs.length ≤ 1000000000000000) :
    Calls Try.prog 5 #[.agg #[.int .u8 (N : Int), V], VX] w fun e w' => e = .returned (.bool true) ∧ Below w.heap.size w w' := by
  obtain ⟨m, hm, hm40, hme⟩ : ∃ m, m ≤ xs.length ∧ m ≤ 40 ∧ min (xs.length : Int) 40 = (m : Nat) := ⟨min xs.length 40, by omega, by omega, by omega⟩
  obtain ⟨AX, cpX, rfl, hcp, hnil, -⟩ := hx.at_
  have HXM := Lib.hid (Sl.take hx rfl m hm)
  obtain ⟨A, cap, rfl, -, -⟩ := h.at_
  obtain ⟨w0, hw0⟩ : ∃ w0, w.alloc (.cells #[.int .u8 (N : Int), .slice A T.length cap] 38) = w0 := ⟨_, rfl⟩
  have hb : Below w.heap.size w w0 := by rw [← hw0]; exact (Below.refl _ _).alloc (Nat.le_refl _) _
  have HB0 := Lib.hid hb
  have HH := Lib.hid (Sl.later h hb)
  have HX0 := Lib.hid (HXM.out.later hb)
  have HG : Hid (w0.heap[w.heap.size]? = some (.cells #[.int .u8 (N : Int), .slice A T.length cap] 38)) := Lib.hid (by rw [← hw0]; exact heap_at rfl)
  obtain ⟨x, hxx⟩ : ∃ x, xs.take m = x := ⟨_, rfl⟩
  rw [hxx] at HX0
  have hxlen : x.length = m := by rw [← hxx, List.length_take]; omega
  have HXL := Lib.hid hxlen
  clear h hx HXM hb hxx hxlen
  go_enter Try.func5, Try.ntmps5
  go_wp2_with fail
  clear hw0
  refine (ranks_any HX0.out (by have := HXL.out; omega)).mono ?_
  rintro e w1 ⟨V1, rfl, I1, B1⟩
  have HX1 := Lib.hid (HX0.out.later B1)
  have HI1 := Lib.hid I1
  have HB1 := Lib.hid B1
  have hw1 := B1.size
  clear I1 B1
  go_wp2_with fail
  refine (refRanks_any HX1.out (by have := HXL.out; omega)).mono ?_
  rintro e w2 ⟨V2, rfl, I2, B2⟩
  have HX2 := Lib.hid (HX1.out.later B2)
  have HI2 := Lib.hid I2
  have HI1 := Lib.hid (HI1.out.later B2)
  have HB2 := Lib.hid (below_then HB1.out hw1 B2)
  clear I2 B2 HB1 hw1 HX1
  go_wp2_with fail
  refine (equalI_any HI1.out HI2.out (by have := HXL.out; simp; omega)).mono ?_
  rw [show decide (x.map (rkOf x) = x.map (rkOf x)) = true by simp]
  rintro e w3 ⟨rfl, B3⟩
  have HX3 := Lib.hid (HX2.out.later B3)
  have HB3 := Lib.hid (below_then HB2.out HB2.out.size B3)
  have hs3 := HB3.out.size
  have hG := block_later HB3.out HG.out
  have g0 : w3.cell? ⟨w.heap.size, 0, none⟩ = some (.int .u8 (N : Int)) := (Cl.of_block hG (j := 0) rfl).cell
  have g1 : w3.cell? ⟨w.heap.size, 1, none⟩ = some (.slice A T.length cap) := (Cl.of_block hG (j := 1) rfl).cell
  have HH3 := Lib.hid (HH.out.later HB3.out)
  clear hG B3 HX2 HX0 HI1 HI2 HB2 HG HH
  go_wp2_with fail
  refine (make_any (T := T) N 10 hN (by omega) (by omega) HH3.out hs hl).mono ?_
  rintro e w4 ⟨V4, rfl, R4, B4⟩
  have HX4 := Lib.hid (HX3.out.later B4)
  have HL := Lib.hid (Sl.of_own encA_length R4)
  have HB4 := Lib.hid (below_then HB3.out hs3 B4)
  have HLL := makeL_length N 10 T
  have HIN := Lib.hid (makeL_in N 10 T)
  have HW := Lib.hid (makeL_w N 10 T)
  obtain ⟨n, hn⟩ : ∃ n, mkN N 10 = n := ⟨_, rfl⟩
  have hn1 : 1 ≤ n ∧ n ≤ 10 := by rw [← hn]; unfold mkN; omega
  rw [hn] at HIN ⊢
  obtain ⟨L, hL⟩ : ∃ L, makeL N 10 T = L := ⟨_, rfl⟩
  rw [hL] at HIN HW HL HLL
  obtain ⟨AL, capL, rfl, -, -, -⟩ := Arcs.at_ HL.out
  obtain ⟨_, _, e, -, -, hAX⟩ := Ints.at_ HX4.out
  cases e
  have HAX := Lib.hid hAX
  have HBF := Lib.hid (HB0.out.trans (HB4.out.mono HB0.out.size))
  clear R4 B4 hs hl hL hn hAX g0 g1 HH3 HX3 HB3 hs3 HB4
  obtain ⟨i0, hi0, hz0, hz1, hz2⟩ := info_parts infoInt
  clear HXL
  go_wp2_with fail
  go_loopw [7, 28] (fun Vl q wr => ∃ k : Nat, k ≤ n ∧ q = .int .i64 k ∧ wr.ownsRow w4.heap.size 3 1 Vl k (flat encI (valsG 10 10 x k)) ∧ Below w4.heap.size w4 wr) (fun _ q _ => n - (intOf q).toNat)
  case atStart => exact ⟨0, by omega, rfl, World.ownsRow_nil _ _ _ _, Below.refl _ _⟩
  case round => as_aux_lemma =>
    obtain ⟨k, hk, rfl, R, B⟩ := hrel
    obtain ⟨Vl, rfl⟩ : ∃ x : Value, x = u7 := ⟨_, rfl⟩
    obtain ⟨wi, rfl⟩ : ∃ x : World, x = wr := ⟨_, rfl⟩
    obtain ⟨AV, cV, rfl, -⟩ := own_shape R
    have HR := Lib.hid R
    have HBi := Lib.hid B
    have hwi := B.size
    clear R B
    by_cases hkn : k < n
    · have hd3 : decide ((k : Int) < n) = true := by simp; omega
      have hvs := Lib.hid (valsG_succ 10 10 x k)
      have k1 : (0 : Int) ≤ (k : Int) := by omega
      by_cases hkx : k < x.length
      · have hd4 : decide ((k : Int) < x.length) = true := by simp; omega
        have k2 : (k : Int) < (x.length : Int) := by omega
        obtain ⟨y, hy⟩ : ∃ y, x[k]? = some y := ⟨_, List.getElem?_eq_getElem hkx⟩
        obtain ⟨bx, off, rfl, hcx⟩ := HAX.out (by omega)
        have cx := cell_later HBi.out (hcx k y hy)
        have hvv := valG_yes (s := 10) (m := 10) hy
        clear hcx hy
        obtain ⟨r, hr⟩ : ∃ r, y.tmod 10 = r := ⟨_, rfl⟩
        have hr1 : -10 < r ∧ r < 10 := by rw [← hr]; exact tmod_bounds y 10 (by omega)
        rw [hr] at hvv
        have hv : Hid (valG 10 10 x k = 10 * (k : Int) + r) := Lib.hid hvv
        clear hvv
        go_wp2_with (refine wpList_append_lies _ rfl (.tmp 44) (.tmp 46) 26 rfl w4.heap.size 3 i0 (.int .i64 0) 1 8 Try.underlying26 hi0 hz0 hz1 hz2 rfl (by decide) (.slice AV k cV) k (flat encI (valsG 10 10 x k)) rfl (own_later HR.out ((Below.refl _ _).alloc (Nat.le_refl _) _)) ⟨wi.heap.size, 0, none⟩ 1 1 (encI (10 * (k : Int) + r)) rfl rfl (World.news_of_block (heap_at rfl)) (by intro u hu; simp [encI] at hu; subst hu; rfl) (by omega) (by simp only [maxLen]; omega) (by omega) (by simp; omega) _ rfl ?_; intro g cq w5 hown hgrow hat hlt)
        have HB4 := (HBi.out.alloc (by omega) (.cells (encI (10 * (k : Int) + r)).toArray 3)).grown hgrow (by simp; omega) (fun q hq => own_ge HR.out hq)
        refine ⟨⟨k + 1, by omega, by go_num, ?_, HB4⟩, by simp [intOf]; omega⟩
        rw [hvs.out, hv.out, flat_append]
        simpa [flat] using hown
      · have hd4 : decide ((k : Int) < x.length) = false := by simp; omega
        have hv : Hid (valG 10 10 x k = 10 * (k : Int)) := Lib.hid (valG_no hkx)
        go_wp2_with (refine wpList_append_lies _ rfl (.tmp 44) (.tmp 46) 26 rfl w4.heap.size 3 i0 (.int .i64 0) 1 8 Try.underlying26 hi0 hz0 hz1 hz2 rfl (by decide) (.slice AV k cV) k (flat encI (valsG 10 10 x k)) rfl (own_later HR.out ((Below.refl _ _).alloc (Nat.le_refl _) _)) ⟨wi.heap.size, 0, none⟩ 1 1 (encI (10 * (k : Int))) rfl rfl (World.news_of_block (heap_at rfl)) (by intro u hu; simp [encI] at hu; subst hu; rfl) (by omega) (by simp only [maxLen]; omega) (by omega) (by simp; omega) _ rfl ?_; intro g cq w5 hown hgrow hat hlt)
        have HB4 := (HBi.out.alloc (by omega) (.cells (encI (10 * (k : Int))).toArray 3)).grown hgrow (by simp; omega) (fun q hq => own_ge HR.out hq)
        refine ⟨⟨k + 1, by omega, by go_num, ?_, HB4⟩, by simp [intOf]; omega⟩
        rw [hvs.out, hv.out, flat_append]
        simpa [flat] using hown
    · obtain rfl : k = n := by omega
      have hd3 : decide ((k : Int) < k) = false := by simp
      obtain ⟨l, hl⟩ : ∃ l, valsG 10 10 x k = l := ⟨_, rfl⟩
      have hll : l.length = k := by rw [← hl]; exact valsG_length 10 10 x k
      have hbd : ∀ v ∈ l, -1000 ≤ v ∧ v ≤ 11000 := by rw [← hl]; exact valsG_bd (by omega) (by omega) (by omega) (by omega) x (by omega)
      have R := HR.out
      rw [hl] at R
      have HI := Lib.hid (Sl.of_own encI_length (by rw [hll]; exact R) : Ints wi (.slice AV k cV) l)
      have HLi := Lib.hid (HL.out.later HBi.out)
      have HBo := Lib.hid (below_then HBF.out HBF.out.size HBi.out)
      have HLEN := Lib.hid hll
      have HBD := Lib.hid hbd
      have HIN2 : Hid (InX L l.length) := Lib.hid (by rw [hll]; exact HIN.out)
      have HRF := Lib.hid (fun h => rk_fit (l := l) HIN2.out h)
      have HRC := Lib.hid (fun h => rk_cost (l := l) HIN2.out (fun a ha => (HW.out a ha).1) h)
      clear R HR hl hll hbd
      go_wp2_with fail
      refine (fit_any HLi.out HI.out HIN2.out (by omega) (by have := HLEN.out; omega)).mono ?_
      obtain ⟨ft, hft⟩ : ∃ ft, L.all (fitA l) = ft := ⟨_, rfl⟩
      rw [hft]
      have HFT := Lib.hid hft
      clear hft
      rintro e w5 ⟨rfl, B5⟩
      have HB5 := Lib.hid (below_then HBo.out HBo.out.size B5)
      have HL5 := Lib.hid (HLi.out.later B5)
      have HI5 := Lib.hid (HI.out.later B5)
      clear B5 HI HLi HBo
      cases ft
      · go_wp2_with fail
        refine (dwakes_any _).mono ?_
        rintro e w6 ⟨rfl, B6⟩
        have HB6 := Lib.hid (below_then HB5.out HB5.out.size B6)
        clear B6
        go_wp2_with fail
        go_ret
        exact ⟨rfl, HB6.out⟩
      · go_wp2_with fail
        refine (ranks_any HI5.out (by have := HLEN.out; omega)).mono ?_
        rintro e w6 ⟨V6, rfl, I6, B6⟩
        have HB6 := Lib.hid (below_then HB5.out HB5.out.size B6)
        have HL6 := Lib.hid (HL5.out.later B6)
        have HI6 := Lib.hid (HI5.out.later B6)
        have HV6 := Lib.hid I6
        obtain ⟨A6, cap6, rfl, -, -, -⟩ := Ints.at_ I6
        have el : (l.map (rkOf l)).length = k := by rw [List.length_map]; exact HLEN.out
        rw [el] at HV6 ⊢
        clear B6 I6 HB5 HL5 HI5 el
        go_wp2_with fail
        refine (dwakes_any _).mono ?_
        rintro e w7 ⟨rfl, B7⟩
        have HB7 := Lib.hid (below_then HB6.out HB6.out.size B7)
        have HL7 := Lib.hid (HL6.out.later B7)
        have HI7 := Lib.hid (HI6.out.later B7)
        have HV7 := Lib.hid (HV6.out.later B7)
        clear B7 HB6 HL6 HI6 HV6
        go_wp2_with fail
        refine (fit_any HL7.out HV7.out (by rw [List.length_map]; exact HIN2.out) (by omega) (by rw [List.length_map]; have := HLEN.out; omega)).mono ?_
        rw [HRF.out HFT.out]
        rintro e w8 ⟨rfl, B8⟩
        have HB8 := Lib.hid (below_then HB7.out HB7.out.size B8)
        have HL8 := Lib.hid (HL7.out.later B8)
        have HI8 := Lib.hid (HI7.out.later B8)
        have HV8 := Lib.hid (HV7.out.later B8)
        clear B8 HB7 HL7 HI7 HV7
        go_wp2_with fail
        refine (refCost_any HL8.out HV8.out (by rw [List.length_map]; exact HIN2.out) (by omega) (by rw [List.length_map]; have := HLEN.out; omega) (fun a ha => by have := HW.out a ha; omega) (fun v hv => by
          obtain ⟨z, _, rfl⟩ := List.mem_map.1 hv
          have h1 := rk_nonneg l z
          have h2 := rk_le l z
          have := HLEN.out
          omega)).mono ?_
        rintro e w9 ⟨rfl, B9⟩
        have HB9 := Lib.hid (below_then HB8.out HB8.out.size B9)
        have HL9 := Lib.hid (HL8.out.later B9)
        have HI9 := Lib.hid (HI8.out.later B9)
        clear B9 HB8 HL8 HI8 HV8
        go_wp2_with fail
        refine (refCost_any HL9.out HI9.out HIN2.out (by omega) (by have := HLEN.out; omega) (fun a ha => by have := HW.out a ha; omega) (fun v hv => by have := HBD.out v hv; omega)).mono ?_
        rintro e w10 ⟨rfl, B10⟩
        have HB10 := Lib.hid (below_then HB9.out HB9.out.size B10)
        have hle := HRC.out HFT.out
        clear B10
        go_wp2_with fail
        go_ret
        refine ⟨?_, HB10.out⟩
        first | rfl | (exact ret_bool (by simp; omega))
end Go.Proofs.Ytimffpnfhkobkaa
