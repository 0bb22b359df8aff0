/- The law HeapSorts, walked. -/
import Derived.Test.YtmnfefebbadflaaSrtB
import Derived.Test.YtmnfefebbadflaaMrgC
namespace Go.Proofs.Ytmnfefebbadflaa
open Go.RowKit
set_option maxRecDepth 100000 in
set_option maxHeartbeats 4000000 in
theorem sorts_walk (A B : Option Addr) (la ca lb cb : Nat) (w : World) (ra : la ≤ ca) (rb : lb ≤ cb) (qa : ca ≤ 140737488351232) (qb : cb ≤ 140737488351232)
    (hA : 0 < la → ∃ b off, A = some ⟨b, off, none⟩ ∧ ∀ i, i < la → ∃ k : Int, -128 ≤ k ∧ k ≤ 127 ∧ w.cell? ⟨b, off + i, none⟩ = some (.int .i8 k))
    (hB : 0 < lb → ∃ b off, B = some ⟨b, off, none⟩ ∧ ∀ i, i < lb → ∃ s : ByteArray, w.cell? ⟨b, off + i, none⟩ = some (.string s)) :
    Calls Try.prog 10 #[.slice A la ca, .slice B lb cb] w fun e w' => e = .returned (.bool true) ∧ Below w.heap.size w w' := by
  go_enter Try.func10, Try.ntmps10
  go_wp2_with fail
  refine (HOne.new_any 12 _).mono ?_
  rintro e w1 ⟨rfl, hw⟩
  have R0 := HOne.new_rep (.func (.func 12) #[] #[]) w w.heap.size
  rw [← hw] at R0
  have B0 : Below w.heap.size w w1 := by rw [hw]; exact (Below.refl _ _).alloc (Nat.le_refl _) _
  have HR0' := Lib.hid R0
  have HB1 := Lib.hid B0
  have hh1 := R0.lt
  have hs1 := B0.size
  clear hw R0 B0
  obtain ⟨N, hNe⟩ : ∃ N : Nat, N = min la 200 := ⟨min la 200, rfl⟩
  have hN1 : N ≤ la := by omega
  have hN2 : N ≤ 200 := by omega
  go_upto_region 3 with fail
  go_cut [26, 27, 28, 29] (fun q s n c wx => s = .slice A N ca ∧ n = .int .i64 N ∧ c = .int .i64 0 ∧ w1 = wx)
  case first =>
    go_wp2_with fail
    go_meet
    exact ⟨by rw [show (min (la : Int) 200).toNat = N by omega], congrArg (Value.int .i64) (by omega), rfl, rfl⟩
  case rest =>
    obtain ⟨rfl, rfl, rfl, rfl⟩ := hcut
    clear hNe
    go_wp2_with fail
    go_loopw [6, 29] (fun o c wr => ∃ (k : Nat) (l : List One), k ≤ N ∧ c = .int .i64 k ∧ LI w1 w.heap.size wr k o l) (fun _ c _ => N - (intOf c).toNat)
    case atStart => exact ⟨0, [], by omega, rfl, li_nil HR0'.out⟩
    case round =>
      obtain ⟨k, l, hk, rfl, I⟩ := hrel
      obtain ⟨wo, rfl⟩ : ∃ q : World, q = wr := ⟨_, rfl⟩
      by_cases hlt : k < N
      · obtain ⟨b, off, rfl, hcells⟩ := hA (by omega)
        obtain ⟨ky, hky0, hky1, c0⟩ := hcells k (by omega)
        have c0 := cell_later (HB1.out.trans (I.below (Nat.le_refl _) HB1.out.size)) c0
        obtain ⟨V, t, hl, s, R, S, O, rfl, hlk, hsm, C⟩ := I
        have HR := Lib.hid R
        have HS := Lib.hid S
        have HO := Lib.hid O
        have HC := Lib.hid C
        have HSM := Lib.hid hsm
        have HLK := Lib.hid hlk
        clear R S O C hsm hlk hcells hA hB HR0' HB1
        go_wp2_with fail
        have BXB : Below wo.heap.size wo (wo.alloc (.cells #[.int .i64 ky, .int .i64 k] 26)) := (Below.refl _ _).alloc (Nat.le_refl _) _
        refine (HOne.push_any lessO (x := (ky, (k : Int))) (HR.out.later BXB) (by rw [HS.out.len, HLK.out]; omega) (by omega) (by omega) (by have := HC.out.size; have := BXB.size; omega)).mono ?_
        rintro e w3 ⟨rfl, ⟨V2, _, R2⟩, C2⟩
        have HO2 := Lib.hid (row_pushed HR.out HO.out C2)
        have y0c := cell_pushed HR.out C2 (j := 0) (v := .int .i64 ky) rfl
        have y1c := cell_pushed HR.out C2 (j := 1) (v := .int .i64 k) rfl
        have hs3 : w1.heap.size ≤ w3.heap.size := by have h1 := HC.out.size; have h2 := BXB.size; have h3 := C2.size; omega
        have HR2 := Lib.hid R2
        have HC2 := Lib.hid C2
        have hl60 : l.length ≤ 200 := by rw [HLK.out]; omega
        obtain ⟨i0, hi, hz0, hz1, hz2⟩ := info_parts info_one
        clear R2 C2 BXB c0
        go_wp2_with (refine wpList_append_lies _ rfl (.tmp 41) (.tmp 43) 28 rfl w1.heap.size 26 i0 (.agg #[.int .i64 0, .int .i64 0]) 2 16 Try.underlying28 hi hz0 hz1 hz2 rfl (by decide) _ l.length (flat encO l) rfl (HO2.out.alloc _) ⟨w3.heap.size, 0, none⟩ 1 1 (encO (ky, (k : Int))) rfl rfl (World.news_of_block (heap_at rfl)) (by intro u hu; simp [encO] at hu; rcases hu with rfl | rfl <;> rfl) (by omega) (by simp only [maxLen]; omega) (by omega) (by simp; omega) _ rfl ?_; intro g' cap' w' hown' hgrow hat hlt')
        have HLI := Lib.hid (li_round HR.out HS.out HO.out HLK.out HSM.out HC.out (x := (ky, (k : Int))) (by simp [Sm]; omega) HR2.out HC2.out hgrow hown')
        clear hown' hgrow hat
        go_wp2_with fail
        exact ⟨⟨k + 1, _, by omega, by go_num, HLI.out⟩, by simp [intOf]; omega⟩
      · obtain rfl : k = N := by omega
        have HB2 := Lib.hid (HB1.out.trans (I.below (Nat.le_refl _) HB1.out.size))
        obtain ⟨V, t, hl, s, R, S, O, rfl, hlk, hsm, C⟩ := I
        have HR := Lib.hid (rep_base R hs1)
        have HS := Lib.hid S
        have HO := Lib.hid (row_base O hs1)
        have HSM := Lib.hid hsm
        have hll : l.length ≤ 200 := by omega
        obtain ⟨A7, c7, rfl⟩ := row_shape' HO.out
        clear R S O hlk hsm C HR0' HB1 hA hlt
        go_wp2_with fail
        refine (sortStable_any HO.out cmp36 HSM.out (by omega)).mono ?_
        rintro e w3 ⟨rfl, ⟨L2, hst, hr⟩, hg⟩
        have HO3 := Lib.hid hr
        have HR3 := Lib.hid (rep_grown HR.out HO.out hg)
        have HB3 := Lib.hid (HB2.out.trans (below_grown HB2.out.size HO.out hg))
        have HST := Lib.hid hst
        have HLL : Hid (L2.length = l.length) := Lib.hid hst.len
        clear hst hr hg HO HR HB2 HSM
        obtain ⟨th', hth⟩ : ∃ z : Int, z = (k : Int) := ⟨_, rfl⟩
        rw [← hth] at HR3 HS
        clear hth
        go_wp2_with fail
        go_loopw [50] (fun c wr => ∃ (i : Nat) (Vx : Value) (lx : List (One × Int)) (mx : List One) (sx : List (One × Int)), c = .int .i64 i ∧ i ≤ l.length ∧ HOne.Rep wr w.heap.size lf Vx th' w.heap.size lx ∧ Sim lx th' mx sx ∧ Stb.Sts kO mx (L2.drop i) ∧ wr.ownsRow w.heap.size 26 2 (.slice A7 l.length c7) l.length (flat encO L2) ∧ Below w.heap.size w wr) (fun c _ => l.length - (intOf c).toNat)
        case atStart => exact ⟨0, _, _, _, _, rfl, Nat.zero_le _, HR3.out, HS.out, HST.out, HO3.out, HB3.out⟩
        case round =>
          obtain ⟨i, Vx, lx, mx, sx, rfl, hi, Rx, Sx, Tx, Ox, Bx⟩ := hrel
          obtain ⟨wo, rfl⟩ : ∃ q : World, q = wr := ⟨_, rfl⟩
          have HRx := Lib.hid Rx
          have HSx := Lib.hid Sx
          have HTx := Lib.hid Tx
          have HOx := Lib.hid Ox
          have HBx := Lib.hid Bx
          clear Rx Sx Tx Ox Bx HR3 HS HST HO3 HB3
          by_cases hlt : i < l.length
          · obtain ⟨g9, c9', hv9, hg9, hgl9⟩ := HOx.out.form (by omega)
            cases hv9
            obtain ⟨y, hy⟩ : ∃ y, L2[i]? = some y := ⟨L2[i]'(by rw [HLL.out]; exact hlt), List.getElem?_eq_getElem _⟩
            have hdrop : L2.drop i = y :: L2.drop (i + 1) := by
              have h := List.getElem?_eq_some_iff.1 hy
              rw [List.drop_eq_getElem_cons h.1, h.2]
            have HT2 : Hid (Stb.Sts kO mx (y :: L2.drop (i + 1))) := Lib.hid (by rw [← hdrop]; exact HTx.out)
            have q0 : wo.cell? ⟨g9, i * 2, none⟩ = some (.int .i64 y.1) := by
              rw [HOx.out.cellAt (i * 2) (by omega)]
              have := flat_get (enc := encO) (sz := 2) (fun _ => rfl) L2 i 0 (by omega) y hy
              simpa [encO] using this
            have q1 : wo.cell? ⟨g9, i * 2 + 1, none⟩ = some (.int .i64 y.2) := by
              rw [HOx.out.cellAt (i * 2 + 1) (by omega)]
              have := flat_get (enc := encO) (sz := 2) (fun _ => rfl) L2 i 1 (by omega) y hy
              simpa [encO] using this
            have hmx : mx.length ≤ 200 := by
              have h1 := HT2.out.len
              have h2 := HLL.out
              rw [← hdrop, List.length_drop] at h1
              omega
            obtain ⟨wB, hwB⟩ : ∃ wB, wo.alloc (.cells #[.int .i64 y.1, .int .i64 y.2] 26) = wB := ⟨_, rfl⟩
            have BB : Below wo.heap.size wo wB := by rw [← hwB]; exact (Below.refl _ _).alloc (Nat.le_refl _) _
            have hnb : wB.heap[wo.heap.size]? = some (.cells #[.int .i64 y.1, .int .i64 y.2] 26) := by rw [← hwB]; exact heap_at rfl
            have HNB := Lib.hid hnb
            have HBB := Lib.hid BB
            clear hy hdrop BB hnb
            go_wp2_with fail
            refine (pop2_any (HRx.out.later HBB.out) HSx.out (by omega) HT2.out).mono ?_
            rintro e wC ⟨rfl, VC, lC, mC, sC, hvc, RC, SC, TC, CC⟩
            have hnC := chg_block HNB.out CC (blk_apart (HRx.out.later HBB.out) HNB.out)
            obtain ⟨wD, hwD⟩ : ∃ wD, wC.alloc (.cells #[.int .i64 y.1, .int .i64 y.2] 26) = wD := ⟨_, rfl⟩
            have BD : Below wC.heap.size wC wD := by rw [← hwD]; exact (Below.refl _ _).alloc (Nat.le_refl _) _
            have hnD : wD.heap[wC.heap.size]? = some (.cells #[.int .i64 y.1, .int .i64 y.2] 26) := by rw [← hwD]; exact heap_at rfl
            have hnX := block_later BD hnC
            have z0 : wD.cell? ⟨wo.heap.size, 0, none⟩ = some (.int .i64 y.1) := (Cl.of_block hnX (j := 0) rfl).cell
            have z1 : wD.cell? ⟨wo.heap.size, 1, none⟩ = some (.int .i64 y.2) := (Cl.of_block hnX (j := 1) rfl).cell
            have z2 : wD.cell? ⟨wC.heap.size, 0, none⟩ = some (.int .i64 y.1) := (Cl.of_block hnD (j := 0) rfl).cell
            have z3 : wD.cell? ⟨wC.heap.size, 1, none⟩ = some (.int .i64 y.2) := (Cl.of_block hnD (j := 1) rfl).cell
            have OC := row_chg (row_later HOx.out HBB.out) CC (fun g hg => apart_row (HRx.out.later HBB.out) (row_later HOx.out HBB.out) g hg)
            have BC : Below w.heap.size w wC := HBx.out.trans ((HBB.out.mono HBx.out.size).trans (CC.below (by have h1 := HBx.out.size; have h2 := HBB.out.size; omega) (fun k h => by
              rcases h with h | h
              · omega
              · exact own_ge HRx.out.row h)))
            have HK1 := Lib.hid (RC.later BD)
            have HK2 := Lib.hid SC
            have HK3 := Lib.hid TC
            have HK4 := Lib.hid (row_later OC BD)
            have HK5 := Lib.hid (BC.trans (BD.mono BC.size))
            clear hvc RC SC TC CC hnC hnD hnX OC BC BD HT2 HTx HRx HSx HOx HBx q0 q1
            go_wp2_with fail
            exact ⟨⟨i + 1, VC, lC, mC, sC, by go_num, by omega, HK1.out, HK2.out, HK3.out, HK4.out, HK5.out⟩, by simp [intOf]; omega⟩
          · obtain rfl : i = l.length := by omega
            have hm0 : mx = [] := by
              have h := HTx.out.len
              rw [List.drop_eq_nil_of_le (by rw [HLL.out]; exact Nat.le_refl _)] at h
              exact List.eq_nil_of_length_eq_zero h.symm
            subst hm0
            have hl0 : lx = [] := List.eq_nil_of_length_eq_zero HSx.out.len
            subst hl0
            clear HTx HOx HLL
            go_wp2_with fail
            refine (HStr.new_any 38 _).mono ?_
            rintro e w4 ⟨rfl, hw⟩
            have R0 := HStr.new_rep (.func (.func 38) #[] #[]) wo w.heap.size
            rw [← hw] at R0
            have B0 : Below wo.heap.size wo w4 := by rw [hw]; exact (Below.refl _ _).alloc (Nat.le_refl _) _
            have HG4 := Lib.hid R0
            have HH4 := Lib.hid (HRx.out.later B0)
            have HB4 := Lib.hid (HBx.out.trans (B0.mono HBx.out.size))
            obtain ⟨gb, hgb⟩ : ∃ gb, gb = wo.heap.size := ⟨_, rfl⟩
            have hgb2 : w.heap.size ≤ gb := by rw [hgb]; exact HBx.out.size
            clear hw R0 B0
            obtain ⟨N', hNe'⟩ : ∃ N' : Nat, N' = min lb 50 := ⟨min lb 50, rfl⟩
            have hN1' : N' ≤ lb := by omega
            have hN2' : N' ≤ 50 := by omega
            have hmin : (min (lb : Int) 50).toNat = N' := by omega
            have HMIN := Lib.hid hmin
            clear hmin hNe'
            rw [← hgb] at HG4 ⊢
            clear hgb HRx HSx HBx
            go_wp2_with fail
            rw [HMIN.out]
            refine (cloneS_any (n := N') (fun h => by
              obtain ⟨b, off, e, hc⟩ := hB (by omega)
              refine ⟨b, off, e, fun i hi => ?_⟩
              obtain ⟨s, hs⟩ := hc i (by omega)
              exact ⟨s, cell_later HB4.out hs⟩) hN2').mono ?_
            rintro e w5 ⟨v5, zs, rfl, hz, O5, B5⟩
            obtain ⟨A5, c5, hv5, -⟩ := own_shape O5
            subst hv5
            have hzl : zs.length ≤ 50 := by omega
            have hgt := HG4.out.lt
            have hs4 := HB4.out.size
            have HO5 := Lib.hid (row_base O5 hs4)
            have HG5 : Hid (HStr.Rep w5 gb gf (.slice none 0 0) 0 w.heap.size []) := Lib.hid (HG4.out.later B5)
            have HH5 := Lib.hid (HH4.out.later B5)
            have HB5 := Lib.hid (HB4.out.trans (B5.mono hs4))
            clear hz O5 B5 HG4 HH4 HB4 HMIN hB
            go_wp2_with fail
            go_loopw [76] (fun c wr => ∃ (i : Nat) (V : Value) (hl : List (ByteArray × Int)), c = .int .i64 i ∧ i ≤ zs.length ∧ HStr.Rep wr gb gf V (i : Int) w.heap.size hl ∧ SimS hl (zs.take i) ∧ wr.ownsRow w.heap.size 9 1 (.slice A5 zs.length c5) zs.length (zs.map Value.string) ∧ HOne.Rep wr w.heap.size lf Vx th' w.heap.size [] ∧ Below w.heap.size w wr) (fun c _ => zs.length - (intOf c).toNat)
            case atStart => exact ⟨0, _, _, rfl, Nat.zero_le _, HG5.out, SimS.nil, HO5.out, HH5.out, HB5.out⟩
            case round =>
              clear HG5 HO5 HH5 HB5
              obtain ⟨i, V, hl, rfl, hi, RG, SG, OG, RH, BG⟩ := hrel
              obtain ⟨wp, rfl⟩ : ∃ q : World, q = wr := ⟨_, rfl⟩
              have HRG := Lib.hid RG
              have HSG := Lib.hid SG
              have HOG := Lib.hid OG
              have HRH := Lib.hid RH
              have HBG := Lib.hid BG
              clear RG SG OG RH BG
              by_cases hlt : i < zs.length
              · obtain ⟨g9, c9', hv9, hg9, hgl9⟩ := HOG.out.form (by omega)
                cases hv9
                obtain ⟨y, hy⟩ : ∃ y, zs[i]? = some y := ⟨zs[i], List.getElem?_eq_getElem _⟩
                have q0 : wp.cell? ⟨g9, i, none⟩ = some (.string y) := by
                  rw [HOG.out.cellAt i (by omega), List.getElem?_map, hy]; rfl
                have htk : zs.take (i + 1) = zs.take i ++ [y] := by
                  rw [List.take_add_one, hy]; rfl
                have HTK := Lib.hid htk
                have HY := Lib.hid hy
                clear hy htk
                go_wp2_with fail
                refine (HStr.push_any less38 HRG.out (by rw [HSG.out.len, List.length_take]; omega) (by omega) (by omega) HBG.out.size).mono ?_
                rintro e wq ⟨rfl, ⟨V2, _, R2⟩, C2⟩
                have K1 := Lib.hid R2
                have K2 : Hid (SimS (pushL ltG hl y ((i : Int) + 1)) (zs.take (i + 1))) := Lib.hid (by rw [HTK.out]; exact HSG.out.push y _)
                have K3 := Lib.hid (rowS_keep HOG.out HRG.out C2)
                have K4 := Lib.hid (rep1_keep HRH.out HRG.out C2)
                have K5 := Lib.hid (HBG.out.trans (belowS_rep HBG.out.size hgb2 (Nat.le_refl _) HRG.out C2))
                clear R2 C2 q0
                go_wp2_with fail
                exact ⟨⟨i + 1, V2, _, by go_num, by omega, by push_cast; exact K1.out, K2.out, K3.out, K4.out, K5.out⟩, by simp [intOf]; omega⟩
              · obtain rfl : i = zs.length := by omega
                obtain ⟨D, hf, hp, hD⟩ := sort_fall zs
                have HF := Lib.hid hf
                have HD := Lib.hid hD
                have HSD : Hid (SimS hl D) := Lib.hid (by
                  have h := HSG.out
                  rw [List.take_of_length_le (Nat.le_refl _)] at h
                  exact h.perm hp)
                have HDL : Hid (D.length = zs.length) := Lib.hid hp.length_eq.symm
                have O1 : wp.ownsRow w.heap.size 9 1 (.slice A5 zs.length c5) (zs.map (fun x => x.data.toList)).length ((zs.map (fun x => x.data.toList)).map Go.Proofs.encStr) := row_same HOG.out (by simp) (strs_enc zs).symm
                have HO1 := Lib.hid O1
                clear hf hp hD O1 HSG
                go_wp2_with fail
                refine (sortS_own HO1.out (by simp; omega)).mono ?_
                rintro e w6 ⟨rfl, O6, g6⟩
                have HO6 := Lib.hid (row_same (m := ((zs.map (fun x => x.data.toList)).mergeSort fun x y => decide (x ≤ y)).length) O6 (by simp) rfl)
                have HG6 := Lib.hid (repS_grown HRG.out HO1.out g6)
                have HH6 := Lib.hid (rep1_grown HRH.out HO1.out g6)
                have HB6 := Lib.hid (HBG.out.trans (belowS_grown HBG.out.size HO1.out g6))
                clear O6 g6 HO1 HRG HRH HBG HOG
                go_wp2_with fail
                refine (revS_own (ss := (zs.map (fun x => x.data.toList)).mergeSort fun x y => decide (x ≤ y)) HO6.out (by simp; omega)).mono ?_
                rintro e w7 ⟨rfl, O7, g7⟩
                have HO7 : Hid (w7.ownsRow w.heap.size 9 1 (.slice A5 zs.length c5) zs.length (D.map Value.string)) := Lib.hid (row_same O7 (by simp) HD.out)
                have HG7 := Lib.hid (repS_grown HG6.out HO6.out g7)
                have HH7 := Lib.hid (rep1_grown HH6.out HO6.out g7)
                have HB7 := Lib.hid (HB6.out.trans (belowS_grown HB6.out.size HO6.out g7))
                clear O7 g7 HO6 HG6 HH6 HB6 HD
                obtain ⟨tz, htz⟩ : ∃ tz : Int, tz = (zs.length : Int) := ⟨_, rfl⟩
                rw [← htz] at HG7
                clear htz
                go_wp2_with fail
                go_loopw [90] (fun c wr => ∃ (i : Nat) (V : Value) (hl : List (ByteArray × Int)), c = .int .i64 i ∧ i ≤ zs.length ∧ HStr.Rep wr gb gf V tz w.heap.size hl ∧ SimS hl (D.drop i) ∧ wr.ownsRow w.heap.size 9 1 (.slice A5 zs.length c5) zs.length (D.map Value.string) ∧ HOne.Rep wr w.heap.size lf Vx th' w.heap.size [] ∧ Below w.heap.size w wr) (fun c _ => zs.length - (intOf c).toNat)
                case atStart => exact ⟨0, _, _, rfl, Nat.zero_le _, HG7.out, HSD.out, HO7.out, HH7.out, HB7.out⟩
                case round =>
                  clear HG7 HSD HO7 HH7 HB7
                  obtain ⟨i, V, hl, rfl, hi, RG, SG, OG, RH, BG⟩ := hrel
                  obtain ⟨wp, rfl⟩ : ∃ q : World, q = wr := ⟨_, rfl⟩
                  have HRG := Lib.hid RG
                  have HSG := Lib.hid SG
                  have HOG := Lib.hid OG
                  have HRH := Lib.hid RH
                  have HBG := Lib.hid BG
                  clear RG SG OG RH BG
                  by_cases hlt : i < zs.length
                  · obtain ⟨g9, c9', hv9, hg9, hgl9⟩ := HOG.out.form (by omega)
                    cases hv9
                    obtain ⟨y, hy⟩ : ∃ y, D[i]? = some y := ⟨D[i]'(by rw [HDL.out]; exact hlt), List.getElem?_eq_getElem _⟩
                    have q0 : wp.cell? ⟨g9, i, none⟩ = some (.string y) := by
                      rw [HOG.out.cellAt i (by omega), List.getElem?_map, hy]; rfl
                    have hdrop : D.drop i = y :: D.drop (i + 1) := by
                      have h := List.getElem?_eq_some_iff.1 hy
                      rw [List.drop_eq_getElem_cons h.1, h.2]
                    have HS2 : Hid (SimS hl (y :: D.drop (i + 1))) := Lib.hid (by rw [← hdrop]; exact HSG.out)
                    have HLE : Hid (∀ x ∈ D.drop (i + 1), ltG x y = false) := Lib.hid (by
                      have h : Fall (D.drop i) := List.Pairwise.drop HF.out
                      rw [hdrop] at h
                      exact (List.pairwise_cons.1 h).1)
                    have hhl : hl.length ≤ 1000 := by
                      have h1 := HSG.out.len
                      have h2 := HDL.out
                      rw [List.length_drop] at h1
                      omega
                    clear hy hdrop
                    go_wp2_with fail
                    refine (popS_any HRG.out HS2.out HLE.out hhl).mono ?_
                    rintro e wq ⟨rfl, V2, hl2, R2, S2, C2⟩
                    have K1 := Lib.hid R2
                    have K2 := Lib.hid S2
                    have K3 := Lib.hid (rowS_keep HOG.out HRG.out C2)
                    have K4 := Lib.hid (rep1_keep HRH.out HRG.out C2)
                    have K5 := Lib.hid (HBG.out.trans (belowS_rep HBG.out.size hgb2 (Nat.le_refl _) HRG.out C2))
                    clear R2 S2 C2 q0
                    go_wp2_with fail
                    exact ⟨⟨i + 1, V2, hl2, by go_num, by omega, K1.out, K2.out, K3.out, K4.out, K5.out⟩, by simp [intOf]; omega⟩
                  · obtain rfl : i = zs.length := by omega
                    have hl0 : hl = [] := by
                      have h1 := HSG.out.len
                      have h2 := HDL.out
                      rw [List.length_drop] at h1
                      exact List.eq_nil_of_length_eq_zero (by omega)
                    subst hl0
                    clear HSG HOG HDL HF
                    go_wp2_with fail
                    refine (wakes_any _).mono ?_
                    rintro e w8 ⟨rfl, b8⟩
                    have HR8 := Lib.hid (HRG.out.later b8)
                    have HH8 := Lib.hid (HRH.out.later b8)
                    have HB8 := Lib.hid (HBG.out.trans (b8.mono HBG.out.size))
                    clear b8 HRG HRH HBG
                    go_wp2_with fail
                    refine (HOne.len_any HH8.out).mono ?_
                    rintro e wq ⟨rfl, rfl⟩
                    rw [show (([] : List (One × Int)).length : Int) = 0 from rfl]
                    go_wp2_with fail
                    refine (HStr.len_any HR8.out).mono ?_
                    rintro e wq ⟨rfl, rfl⟩
                    rw [show (([] : List (ByteArray × Int)).length : Int) = 0 from rfl]
                    go_wp2_with fail
                    go_ret
                    exact ⟨rfl, HB8.out⟩
end Go.Proofs.Ytmnfefebbadflaa
