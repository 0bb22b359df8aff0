/- FlowBest: no coordinates that fit cost less. -/
import Derived.Test.YtimffpnfhkobkaaMgG17
import Derived.Test.YtimffpnfhkobkaaMgG18
namespace Go.Proofs.Ytimffpnfhkobkaa
open Go.RowKit
/-- Of what Make makes each arc leads up. -/
theorem makeL_rise (N most : Nat) (T : List Tri) : ∀ i, i < (makeL N most T).length → frL (makeL N most T) i < ttL (makeL N most T) i := by
  intro i hi
  have e : (makeL N most T)[i]? = some (makeL N most T)[i] := List.getElem?_eq_getElem hi
  obtain ⟨f, t, x, h1, h2, h3, h4⟩ := mkL_mem (n := mkN N most) (T := T.take 40) (a := (makeL N most T)[i]) (by unfold mkN; omega) (List.getElem_mem hi)
  unfold frL ttL
  rw [e, h1]
  simpa using h2
def addY (Y : List Int) (xs : List Int) (k v : Nat) : Int := if v < k ∧ v < Y.length then ff xs v + (ff Y v).tmod 7 else ff xs v
theorem addY_bd {Y xs : List Int} {n : Nat} (hx : ∀ a ∈ xs, 0 ≤ a ∧ a ≤ n) (k v : Nat) : -6 ≤ addY Y xs k v ∧ addY Y xs k v ≤ n + 6 := by
  have h1 : 0 ≤ ff xs v ∧ ff xs v ≤ n := by
    unfold ff
    cases e : xs[v]? with
    | none => simp
    | some a => simpa using hx a (List.mem_of_getElem? e)
  have h2 := tmod_bounds (ff Y v) 7 (by omega)
  unfold addY
  split <;> omega
theorem addY_next {Y xs : List Int} {k : Nat} (h : k < Y.length) (v : Nat) : upd (addY Y xs k) k (ff xs k + (ff Y k).tmod 7) v = addY Y xs (k + 1) v := by
  unfold upd addY
  by_cases e : v = k
  · subst e; rw [if_pos rfl, if_pos ⟨by omega, h⟩]
  · rw [if_neg e]
    by_cases h1 : v < k ∧ v < Y.length
    · rw [if_pos h1, if_pos ⟨by omega, h1.2⟩]
    · rw [if_neg h1, if_neg (fun h2 => h1 ⟨by omega, h2.2⟩)]
theorem addY_same {Y xs : List Int} {k : Nat} (h : ¬ k < Y.length) (v : Nat) : addY Y xs k v = addY Y xs (k + 1) v := by
  unfold addY
  by_cases h1 : v < k ∧ v < Y.length
  · rw [if_pos h1, if_pos ⟨by omega, h1.2⟩]
  · rw [if_neg h1, if_neg (fun h2 => h1 ⟨by omega, h2.2⟩)]
set_option maxRecDepth 100000 in
set_option maxHeartbeats 4000000 in
theorem best_core {w : World} {V VY : Value} {T : List Tri} {Y : List Int} (N : Nat) (hN : N ≤ 255) (h : Tris w V T) (hs : Small T) (hl : T.length ≤ 1000000000000000) (hy : Ints w VY Y) (hyl : Y.length ≤ 1000000000000000) :
    Calls Try.prog 10 #[.agg #[.int .u8 (N : Int), V], VY] w fun e w' => e = .returned (.bool true) ∧ Below w.heap.size w w' := by
  obtain ⟨A, cap, rfl, -, -⟩ := h.at_
  obtain ⟨AY, cY, rfl, -, -, hAY⟩ := hy.at_
  obtain ⟨w0, hw0⟩ : ∃ w0, w.alloc (.cells #[.int .u8 (N : Int), .slice A T.length cap] 38) = w0 := ⟨_, rfl⟩
  have B0 : Below w.heap.size w w0 := by rw [← hw0]; exact (Below.refl _ _).alloc (Nat.le_refl _) _
  have hG0 : w0.heap[w.heap.size]? = some (.cells #[.int .u8 (N : Int), .slice A T.length cap] 38) := by rw [← hw0]; exact heap_at rfl
  have p0 : w0.cell? ⟨w.heap.size, 0, none⟩ = some (.int .u8 (N : Int)) := (Cl.of_block hG0 (j := 0) rfl).cell
  have p1 : w0.cell? ⟨w.heap.size, 1, none⟩ = some (.slice A T.length cap) := (Cl.of_block hG0 (j := 1) rfl).cell
  have HB0 := Lib.hid B0
  have HH := Lib.hid (h.later B0)
  have HAY := Lib.hid hAY
  clear h B0 hG0 hy hAY
  go_enter Try.func10, Try.ntmps10
  go_wp2_with fail
  clear hw0 p0 p1
  refine (make_any (T := T) N 14 hN (by omega) (by omega) HH.out hs hl).mono ?_
  have HR := Lib.hid (makeL_right N 14 (by omega) (by omega) T)
  have HE := Lib.hid (makeL_dag N 14 (by omega) (by omega) T)
  have HUP := Lib.hid (makeL_rise N 14 T)
  have hn1 : 1 ≤ mkN N 14 := by unfold mkN; omega
  have hn2 : mkN N 14 ≤ 14 := by unfold mkN; omega
  generalize mkN N 14 = n at *
  generalize makeL N 14 T = L at *
  rintro e w1 ⟨V1, rfl, R1, B1⟩
  obtain ⟨A1, c1, rfl, -⟩ := own_shape R1
  have HK := Lib.hid (okg_of HR.out hn1)
  have hm1 := HK.out.m1
  have HA1 := Lib.hid (Sl.of_own encA_length R1)
  have HB1 := Lib.hid (below_then HB0.out HB0.out.size B1)
  clear R1 B1 HB0 HH hs
  go_wp2_with fail
  refine (solve_any n HA1.out HK.out HE.out).mono ?_
  rintro e w2 h2
  obtain ⟨AX, cX, AF, cF, xs, fs, ways, rfl, IX, IF, S, B2⟩ := h2.at_
  obtain ⟨w3, hw3⟩ : ∃ w3, w2.alloc (.cells #[.slice AX n cX, .slice AF L.length cF, .int .i64 (ways : Int)] 58) = w3 := ⟨_, rfl⟩
  have B3 : Below w2.heap.size w2 w3 := by rw [← hw3]; exact (Below.refl _ _).alloc (Nat.le_refl _) _
  have hr3 : w3.heap[w2.heap.size]? = some (.cells #[.slice AX n cX, .slice AF L.length cF, .int .i64 (ways : Int)] 58) := by rw [← hw3]; exact heap_at rfl
  have B23 := below_then B2 B2.size B3
  have HA3 := Lib.hid (HA1.out.later B23)
  have HB3 := Lib.hid (below_then HB1.out HB1.out.size B23)
  have HX3 := Lib.hid (IX.later B3)
  have HS := Lib.hid S
  have HRR := Lib.hid hr3
  have hxl := S.lx
  have HXL := Lib.hid hxl
  have hne : ((n : Int) != n) = false := by simp
  clear h2 IX IF S B2 HA1 HB1 B3 B23 hr3 hxl
  go_wp2_with fail
  clear hw3
  refine (fwakes_any _).mono ?_
  rintro e w4 ⟨rfl, B4⟩
  have HA4 := Lib.hid (HA3.out.later B4)
  have HB4 := Lib.hid (below_then HB3.out HB3.out.size B4)
  have HX4 := Lib.hid (HX3.out.later B4)
  have hr4 := block_later B4 HRR.out
  have HR4 := Lib.hid hr4
  have g0 : w4.cell? ⟨w2.heap.size, 0, none⟩ = some (.slice AX n cX) := (Cl.of_block hr4 (j := 0) rfl).cell
  clear B4 HA3 HB3 HX3 HRR hr4
  go_wp2_with fail
  refine (fit_any HA4.out HX4.out (by rw [HXL.out]; exact HK.out.inX) (by omega) (by rw [HXL.out]; omega)).mono ?_
  rw [HS.out.fit]
  rintro e w5 ⟨rfl, B5⟩
  have HA5 := Lib.hid (HA4.out.later B5)
  have HB5 := Lib.hid (below_then HB4.out HB4.out.size B5)
  have HX5 := Lib.hid (HX4.out.later B5)
  have g1 := cell_later B5 g0
  have HR5 := Lib.hid (block_later B5 HR4.out)
  clear B5 HA4 HB4 HX4 g0 HR4
  go_wp2_with fail
  obtain ⟨C, hC⟩ : ∃ C, costL xs L = C := ⟨_, rfl⟩
  refine (refCost_any HA5.out HX5.out (by rw [HXL.out]; exact HK.out.inX) (by omega) (by rw [HXL.out]; omega) (okg_w HK.out) (sol_lo HS.out (by omega))).mono ?_
  rw [hC]
  have HC := Lib.hid hC
  clear hC
  rintro e w6 ⟨rfl, B6⟩
  have HA6 := Lib.hid (HA5.out.later B6)
  have HB6 := Lib.hid (below_then HB5.out HB5.out.size B6)
  have HX6 := Lib.hid (HX5.out.later B6)
  have g2 := cell_later B6 g1
  clear B6 HA5 HB5 HX5 g1 HR5
  go_wp2_with fail
  refine (cloneI_any HX6.out (by rw [HXL.out]; omega)).mono ?_
  rintro e w7 ⟨V7, rfl, R7, B7⟩
  obtain ⟨b, cb, rfl, hcb, hb, LR⟩ := LRow.of_own R7 (by rw [HXL.out]; omega)
  rw [HXL.out] at LR hcb
  rw [HXL.out]
  have HLR := Lib.hid LR
  have HB7 := Lib.hid B7
  clear g2 R7 B7 LR
  go_wp2_with fail
  go_loopw [54] (fun q wr => ∃ i : Nat, i ≤ n ∧ q = .int .i64 i ∧ LRow wr b n (addY Y xs i) ∧ Below w6.heap.size w6 wr) (fun q _ => n - (intOf q).toNat)
  case atStart => exact ⟨0, by omega, rfl, HLR.out.congr (fun j hj => by unfold addY; rw [if_neg (by omega)]), HB7.out⟩
  case round =>
    obtain ⟨i, hi, rfl, R, B⟩ := hrel
    obtain ⟨wo, rfl⟩ : ∃ q : World, q = wr := ⟨_, rfl⟩
    have HR := Lib.hid R
    have HB := Lib.hid B
    have hwo := B.size
    clear R B HLR HB7
    by_cases hin : i < n
    · have hd : decide ((i : Int) < n) = true := by simp; omega
      have i1 : (0 : Int) ≤ (i : Int) := by omega
      have i2 : (i : Int) < (n : Int) := by omega
      by_cases hiy : i < Y.length
      · have hdy : decide ((i : Int) < Y.length) = true := by simp; omega
        have i3 : (i : Int) < (Y.length : Int) := by omega
        obtain ⟨by_, oy, rfl, hcy⟩ := HAY.out (by omega)
        have c0 := cell_later HB.out (cell_later HB6.out (hcy i _ (List.getElem?_eq_getElem hiy)))
        have hfy : ff Y i = Y[i] := by unfold ff; simp [hiy]
        have HADD := Lib.hid (fun v => addY_next (xs := xs) hiy v)
        have hx0 : addY Y xs i i = ff xs i := by unfold addY; rw [if_neg (by omega)]
        have hx1 := addY_bd (Y := Y) HS.out.lo i i
        rw [hx0] at hx1
        have RA := HR.out
        have c1 := RA.cell hin
        rw [hx0] at c1
        have hz := tmod_bounds Y[i] 7 (by omega)
        rw [hfy] at HADD
        clear hcy hfy hx0 RA
        generalize ff xs i = x at *
        generalize Y[i] = y at *
        obtain ⟨z, hz0⟩ : ∃ z, y.tmod 7 = z := ⟨_, rfl⟩
        rw [hz0] at hz HADD
        have e1 : IntKind.i64.wrap z = z := IntWalk.i64_in _ (by omega)
        have e2 : IntKind.i64.wrap (x + z) = x + z := IntWalk.i64_in _ (by omega)
        go_upto_region 11 with fail
        go_still_tail 10, (by kernel_rfl)
        change wpList _ _ _ _ _ wo.drew
        have BD : Below wo.heap.size wo wo.drew := (Below.refl _ _).drew
        have RD := HR.out.later BD
        have f1 := RD.frozen i
        have f2 := RD.cell hin
        have HRD := Lib.hid RD
        have HBD := Lib.hid (HB.out.trans (BD.mono hwo))
        clear RD BD
        generalize wo.drew = wd at *
        clear c0 c1 hz0
        go_wp2_with fail
        exact ⟨⟨i + 1, by omega, by go_num, (HRD.out.set i (x + z)).congr (fun v _ => HADD.out v), HBD.out.setCell (p := ⟨b, i, none⟩) hb _⟩, by simp [intOf]; omega⟩
      · have hdy : decide ((i : Int) < Y.length) = false := by simp; omega
        have HADD := Lib.hid (fun v => addY_same (xs := xs) hiy v)
        go_wp2_with fail
        exact ⟨⟨i + 1, by omega, by go_num, HR.out.congr (fun v _ => HADD.out v), HB.out⟩, by simp [intOf]; omega⟩
    · have e : i = n := by omega
      subst e
      have hd : decide ((i : Int) < i) = false := by simp
      obtain ⟨F0, hF0⟩ : ∃ F0, addY Y xs i = F0 := ⟨_, rfl⟩
      have HF0 : Hid (∀ v, -6 ≤ F0 v ∧ F0 v ≤ i + 6) := Lib.hid (fun v => by rw [← hF0]; exact addY_bd HS.out.lo i v)
      have HR0 : Hid (LRow wo b i F0) := Lib.hid (by rw [← hF0]; exact HR.out)
      have HI0 := Lib.hid (HR0.out.ints hcb)
      have HA0 := Lib.hid (HA6.out.later HB.out)
      have HW0 := Lib.hid (below_then HB6.out HB6.out.size HB.out)
      have hlr := HR0.out.lt
      clear hF0 HR
      go_upto_region 13 with fail
      go_cut [82] (fun p wx => p = .bool false ∧ Below w6.heap.size w6 wx ∧ LRow wx b i F0)
      case first =>
        obtain ⟨fb, hfb⟩ : ∃ fb, L.all (fitA ((List.range i).map F0)) = fb := ⟨_, rfl⟩
        obtain ⟨C2, hC2⟩ : ∃ C2, costL ((List.range i).map F0) L = C2 := ⟨_, rfl⟩
        have HFB := Lib.hid hfb
        have HC2 := Lib.hid hC2
        clear hfb hC2
        go_wp2_with fail
        refine (fit_any HA0.out HI0.out (by simpa using HK.out.inX) (by omega) (by simp; omega)).mono ?_
        rw [HFB.out]
        rintro e w8 ⟨rfl, B8⟩
        have HA8 := Lib.hid (HA0.out.later B8)
        have HI8 := Lib.hid (HI0.out.later B8)
        have HR8 := Lib.hid (HR0.out.later B8)
        have HB8 := Lib.hid (below_then HB.out hwo B8)
        clear B8 HA0 HI0 HR0 HW0
        cases fb with
        | false =>
          go_wp2_with fail
          go_meet
          exact ⟨rfl, HB8.out, HR8.out⟩
        | true =>
          have hle : decide (C2 < C) = false := by
            have := HS.out.best HK.out HFB.out
            rw [HC.out, HC2.out] at this
            simpa using this
          go_wp2_with fail
          refine (refCost_any HA8.out HI8.out (by simpa using HK.out.inX) (by omega) (by simp; omega) (okg_w HK.out) (fun v hv => by
            obtain ⟨u, -, rfl⟩ := List.mem_map.1 hv
            have := HF0.out u
            omega)).mono ?_
          rw [HC2.out]
          rintro e w9 ⟨rfl, B9⟩
          have HB9 := Lib.hid (below_then HB8.out HB8.out.size B9)
          have HR9 := Lib.hid (HR8.out.later B9)
          clear B9
          go_wp2_with fail
          go_meet
          exact ⟨rfl, HB9.out, HR9.out⟩
      obtain ⟨rfl, B8, R8⟩ := hcut
      obtain ⟨w8, rfl⟩ : ∃ q : World, q = wc := ⟨_, rfl⟩
      have HB8 := Lib.hid B8
      have HR8 := Lib.hid R8
      clear B8 R8 hlr HB hwo HR0 HI0 HA0 HW0
      go_wp2_with fail
      go_loopw [84] (fun q wr => ∃ (k : Nat) (F : Nat → Int), k ≤ i ∧ q = .int .i64 k ∧ LRow wr b i F ∧ Hid (Rai L F k 0) ∧ Hid (∀ v, v < i → -5000 ≤ F v ∧ F v ≤ 5000 + k * 16384) ∧ Below w6.heap.size w6 wr) (fun q _ => i - (intOf q).toNat)
      case atStart => exact ⟨0, F0, by omega, rfl, HR8.out, Lib.hid ⟨fun q hq h => absurd h (by omega), fun q hq => by omega⟩, Lib.hid (fun v _ => by have := HF0.out v; omega), HB8.out⟩
      case round =>
        obtain ⟨k, F, hk, rfl, R, HRai, HBd, B⟩ := hrel
        obtain ⟨wk, rfl⟩ : ∃ q : World, q = wr := ⟨_, rfl⟩
        have HR := Lib.hid R
        have HB := Lib.hid B
        have hwk := B.size
        clear R B HR8 HB8
        by_cases hki : k < i
        · have hd : decide ((k : Int) < i) = true := by simp; omega
          go_wp2_with fail
          go_loopw [88] (fun q wj => ∃ (j : Nat) (G : Nat → Int), j ≤ L.length ∧ q = .int .i64 j ∧ LRow wj b i G ∧ Hid (Rai L G k j) ∧ Hid (∀ v, v < i → -5000 ≤ G v ∧ G v ≤ 5000 + k * 16384 + j) ∧ Below w6.heap.size w6 wj) (fun q _ => L.length - (intOf q).toNat)
          case atStart => exact ⟨0, F, by omega, rfl, HR.out, HRai, Lib.hid (fun v hv => by have := HBd.out v hv; omega), HB.out⟩
          case round =>
            obtain ⟨j, G, hj, rfl, R, HRaj, HBj, B⟩ := hrel
            obtain ⟨wj, rfl⟩ : ∃ q : World, q = wr := ⟨_, rfl⟩
            have HRj := Lib.hid R
            have HBw := Lib.hid B
            have hwj := B.size
            clear R B HR HB
            by_cases hjl : j < L.length
            · have hd2 : decide ((j : Int) < L.length) = true := by simp; omega
              obtain ⟨A', cap', e1, -, -, hA⟩ := Arcs.at_ HA6.out
              injection e1 with e1 e2 e3
              subst e1
              obtain ⟨ba, off, rfl, hc⟩ := hA (by omega)
              obtain ⟨hat, hf, ht, -, -⟩ := HK.out.at_ hjl
              obtain ⟨c0, c1', c2⟩ := hc j _ hat
              have c0 := cell_later HBw.out c0
              have c1' := cell_later HBw.out c1'
              have c2 := cell_later HBw.out c2
              have HST := Lib.hid (HRaj.out.step HUP.out hjl)
              have bf := HBj.out _ hf
              have bt := HBj.out _ ht
              clear hc hat e3
              generalize frL L j = f at *
              generalize ttL L j = t at *
              generalize wtL L j = x at *
              simp only at c0 c1' c2
              obtain ⟨wA, hwA⟩ : ∃ wA, wj.alloc (.cells #[.int .i64 (f : Nat), .int .i64 (t : Nat), .int .i64 x] 52) = wA := ⟨_, rfl⟩
              have BA : Below wj.heap.size wj wA := by rw [← hwA]; exact (Below.refl _ _).alloc (Nat.le_refl _) _
              have hGA : wA.heap[wj.heap.size]? = some (.cells #[.int .i64 (f : Nat), .int .i64 (t : Nat), .int .i64 x] 52) := by rw [← hwA]; exact heap_at rfl
              have g0 : wA.cell? ⟨wj.heap.size, 0, none⟩ = some (.int .i64 (f : Nat)) := (Cl.of_block hGA (j := 0) rfl).cell
              have g1 : wA.cell? ⟨wj.heap.size, 1, none⟩ = some (.int .i64 (t : Nat)) := (Cl.of_block hGA (j := 1) rfl).cell
              have RA := HRj.out.later BA
              have r0 := RA.cell hf
              have r1 := RA.cell ht
              have HRA := Lib.hid RA
              have HBA := Lib.hid (HBw.out.trans (BA.mono hwj))
              have i1 : (0 : Int) ≤ (j : Int) := by omega
              have i2 : (j : Int) < (L.length : Int) := by omega
              have i3 : (0 : Int) ≤ (f : Int) := by omega
              have i4 : (f : Int) < (i : Int) := by omega
              have i5 : (0 : Int) ≤ (t : Int) := by omega
              have i6 : (t : Int) < (i : Int) := by omega
              have ew : IntKind.i64.wrap (G f + 1) = G f + 1 := IntWalk.i64_in _ (by omega)
              obtain ⟨M, hM⟩ : ∃ M, max (G t) (G f + 1) = M := ⟨_, rfl⟩
              rw [hM] at HST
              have hbA := HBA.out.size
              clear BA hGA RA
              go_upto_region 20 with fail
              clear hwA c0 c1' c2
              go_still_tail 15, (by kernel_rfl)
              change wpList _ _ _ _ _ wA.drew
              have BD : Below wA.heap.size wA wA.drew := (Below.refl _ _).drew
              generalize wA.drew = wd at *
              have RD := HRA.out.later BD
              have f3 := RD.frozen t
              have f4 := RD.cell ht
              have HRD := Lib.hid RD
              have HCD := Lib.hid (HBA.out.trans (BD.mono hbA))
              clear BD RD r0 r1 g0 g1
              go_wp2_with fail
              all_goals
                refine ⟨⟨j + 1, upd G t M, by omega, by go_num, ?_, HST, Lib.hid (fun v hv => by have := HBj.out v hv; unfold upd; split <;> omega), HCD.out.setCell (p := ⟨b, t, none⟩) hb _⟩, by simp [intOf]; omega⟩
                first
                  | exact HRD.out.set t M
                  | (have e : G t = M := by omega
                     rw [← e]; exact HRD.out.set t (G t))
                  | (have e : G f + 1 = M := by omega
                     rw [← e]; exact HRD.out.set t (G f + 1))
            · have e : j = L.length := by omega
              subst e
              have hd2 : decide ((L.length : Int) < L.length) = false := by simp
              have HN := Lib.hid HRaj.out.next
              go_wp2_with fail
              exact ⟨⟨k + 1, G, by omega, by go_num, HRj.out, HN, Lib.hid (fun v hv => by have := HBj.out v hv; omega), HBw.out⟩, by simp [intOf]; omega⟩
        · have e : k = i := by omega
          subst e
          have hd : decide ((k : Int) < k) = false := by simp
          have HFT := Lib.hid (HRai.out.fit HK.out)
          have HIZ := Lib.hid (HR.out.ints hcb)
          have HAZ := Lib.hid (HA6.out.later HB.out)
          obtain ⟨C3, hC3⟩ : ∃ C3, costL ((List.range k).map F) L = C3 := ⟨_, rfl⟩
          have hle : decide (C ≤ C3) = true := by
            have := HS.out.best HK.out HFT.out
            rw [HC.out, hC3] at this
            simpa using this
          have HC3 := Lib.hid hC3
          clear hC3
          go_wp2_with fail
          refine (refCost_any HAZ.out HIZ.out (by simpa using HK.out.inX) (by omega) (by simp; omega) (okg_w HK.out) (fun v hv => by
            obtain ⟨u, hu, rfl⟩ := List.mem_map.1 hv
            have := HBd.out u (List.mem_range.1 hu)
            omega)).mono ?_
          rw [HC3.out]
          rintro e w9 ⟨rfl, B9⟩
          have HB9 := Lib.hid (below_then HB6.out HB6.out.size (below_then HB.out hwk B9))
          clear B9
          go_wp2_with fail
          go_ret
          exact ⟨rfl, HB9.out⟩
end Go.Proofs.Ytimffpnfhkobkaa
