/- CertProves: wherever a proof is OK no coordinates that fit cost less. -/
import Derived.Test.YtjgloineooadoaaGreatDoorMgZ13
import Derived.Test.YtjgloineooadoaaGreatDoorMgZ14
import Derived.Test.YtjgloineooadoaaGreatDoorZSolA
import Derived.Test.YtjgloineooadoaaGreatDoorMgZ19
namespace Go.Proofs.YtjgloineooadoaaGreatDoor
open Go.RowKit
set_option maxRecDepth 100000 in
set_option maxHeartbeats 4000000 in
theorem certProves_core {w : World} {V VX VF VY : Value} {T : List Tri} {xs0 fs0 Y : List Int} {m0 : Int} (N : Nat) (hN : N ≤ 255) (h : Tris w V T) (hs : Small T) (hl : T.length ≤ 1000000000000000) (hX : Ints w VX xs0) (hF : Ints w VF fs0) (hY : Ints w VY Y) (hxl : xs0.length ≤ 17592186043904) (hfl : fs0.length ≤ 17592186043904) (hyl : Y.length ≤ 17592186043904) (hM : w.cell? ⟨0, 0, none⟩ = some (.int .i64 m0)) :
    Calls Tryz.prog 6 #[.agg #[.int .u8 (N : Int), V, VX, VF, VY]] w fun e w' => e = .returned (.bool true) ∧ Below w.heap.size w w' := by
  obtain ⟨A, cap, rfl, -, -⟩ := h.at_
  obtain ⟨AX0, cX0, rfl, -, -, -⟩ := hX.at_
  obtain ⟨AF0, cF0, rfl, -, -, -⟩ := hF.at_
  obtain ⟨AY, cY, rfl, -, -, hAY⟩ := hY.at_
  obtain ⟨w0, hw0⟩ : ∃ w0, w.alloc (.cells #[.int .u8 (N : Int), .slice A T.length cap, .slice AX0 xs0.length cX0, .slice AF0 fs0.length cF0, .slice AY Y.length cY] 50) = w0 := ⟨_, rfl⟩
  have B0 : Below w.heap.size w w0 := by rw [← hw0]; exact (Below.refl _ _).alloc (Nat.le_refl _) _
  have hG0 : w0.heap[w.heap.size]? = some (.cells #[.int .u8 (N : Int), .slice A T.length cap, .slice AX0 xs0.length cX0, .slice AF0 fs0.length cF0, .slice AY Y.length cY] 50) := by rw [← hw0]; exact heap_at rfl
  have p0 : w0.cell? ⟨w.heap.size, 0, none⟩ = some (.int .u8 (N : Int)) := (Cl.of_block hG0 (j := 0) rfl).cell
  have p1 : w0.cell? ⟨w.heap.size, 1, none⟩ = some (.slice A T.length cap) := (Cl.of_block hG0 (j := 1) rfl).cell
  have p2 : w0.cell? ⟨w.heap.size, 2, none⟩ = some (.slice AX0 xs0.length cX0) := (Cl.of_block hG0 (j := 2) rfl).cell
  have p3 : w0.cell? ⟨w.heap.size, 3, none⟩ = some (.slice AF0 fs0.length cF0) := (Cl.of_block hG0 (j := 3) rfl).cell
  have p4 : w0.cell? ⟨w.heap.size, 4, none⟩ = some (.slice AY Y.length cY) := (Cl.of_block hG0 (j := 4) rfl).cell
  have HB0 := Lib.hid B0
  have HH := Lib.hid (h.later B0)
  have HX0 := Lib.hid (hX.later B0)
  have HF0 := Lib.hid (hF.later B0)
  have HM0 := Lib.hid (cell_later B0 hM)
  have HAY : Hid (0 < Y.length → ∃ b off, AY = some ⟨b, off, none⟩ ∧ ∀ i x, Y[i]? = some x → w0.cell? ⟨b, off + i, none⟩ = some (.int .i64 x)) := Lib.hid (fun h => by
    obtain ⟨b, off, e, hc⟩ := hAY h
    exact ⟨b, off, e, fun i x hx => cell_later B0 (hc i x hx)⟩)
  clear h hX hF hY B0 hG0 hM hAY
  go_enter Tryz.func6, Tryz.ntmps6
  go_upto_region 1 with fail
  go_quiet (fail)
  go_wp2_with fail
  clear hw0 p0 p1 p2 p3 p4
  refine (make_any (T := T) N 10 hN (by omega) (by omega) (HH.out.later (below_drewN (Below.refl _ _) _)) hs hl).mono ?_
  have HR0 := Lib.hid (makeL_right N 10 (by omega) (by omega) T)
  have HE := Lib.hid (makeL_dag N 10 (by omega) (by omega) T)
  have hn1 : 1 ≤ mkN N 10 := by unfold mkN; omega
  have hn2 : mkN N 10 ≤ 10 := by unfold mkN; omega
  have hlen : (makeL N 10 T).length ≤ 40 := makeL_length N 10 T
  generalize mkN N 10 = n at *
  generalize makeL N 10 T = L at *
  rintro e w1 ⟨V1, rfl, R1, B1⟩
  have BD := below_then (below_drewN (Below.refl w0.heap.size w0) _) (below_drewN (Below.refl w0.heap.size w0) _).size B1
  obtain ⟨A1, c1, rfl, -⟩ := own_shape R1
  have HK := Lib.hid (okg_of HR0.out hn1)
  have HA1 : Hid (Arcs w1 (.slice A1 L.length c1) L) := Lib.hid (Sl.of_own (enc := encA) (fun _ => rfl) R1)
  have HB1 := Lib.hid (below_then HB0.out HB0.out.size BD)
  have HX1 := Lib.hid (HX0.out.later BD)
  have HF1 := Lib.hid (HF0.out.later BD)
  have HM1 := Lib.hid (cell_later BD HM0.out)
  have HY1 : Hid (0 < Y.length → ∃ b off, AY = some ⟨b, off, none⟩ ∧ ∀ i x, Y[i]? = some x → w1.cell? ⟨b, off + i, none⟩ = some (.int .i64 x)) := Lib.hid (fun h => by
    obtain ⟨b, off, e, hc⟩ := HAY.out h
    exact ⟨b, off, e, fun i x hx => cell_later BD (hc i x hx)⟩)
  clear R1 B1 BD HB0 HH hs HM0 HAY HX0 HF0
  go_wp2_with fail
  refine (solve_any n HA1.out HK.out HE.out).mono ?_
  rintro e w3 hh
  obtain ⟨AX, cX, AF, cF, xs, fs, ways, rfl, IX, IF, SS, B1⟩ := solW_at hh
  obtain ⟨w4, hw⟩ : ∃ w4, w3.alloc (.cells #[.slice AX n cX, .slice AF L.length cF, .int .i64 (ways : Int)] 31) = w4 := ⟨_, rfl⟩
  have B2 : Below w3.heap.size w3 w4 := by rw [← hw]; exact (Below.refl _ _).alloc (Nat.le_refl _) _
  have hr : w4.heap[w3.heap.size]? = some (.cells #[.slice AX n cX, .slice AF L.length cF, .int .i64 (ways : Int)] 31) := by rw [← hw]; exact heap_at rfl
  have B3 := below_then B1 B1.size B2
  obtain ⟨w6, hw6⟩ : ∃ w6, w4.alloc (.cells #[.slice AX0 xs0.length cX0, .slice AF0 fs0.length cF0, .slice AX n cX, .slice AF L.length cF] 51) = w6 := ⟨_, rfl⟩
  have B6 : Below w4.heap.size w4 w6 := by rw [← hw6]; exact (Below.refl _ _).alloc (Nat.le_refl _) _
  have B36 := below_then B3 B3.size B6
  have HG6 : Hid (w6.heap[w4.heap.size]? = some (.cells #[.slice AX0 xs0.length cX0, .slice AF0 fs0.length cF0, .slice AX n cX, .slice AF L.length cF] 51)) := Lib.hid (by rw [← hw6]; exact heap_at rfl)
  have HA6 := Lib.hid (HA1.out.later B36)
  have HM6 := Lib.hid (cell_later B36 HM1.out)
  have HB6 := Lib.hid (below_then HB1.out HB1.out.size B36)
  have HX06 := Lib.hid (HX1.out.later B36)
  have HF06 := Lib.hid (HF1.out.later B36)
  have HX6 := Lib.hid (IX.later (below_then B2 B2.size B6))
  have HF6 := Lib.hid (IF.later (below_then B2 B2.size B6))
  have HY6 : Hid (0 < Y.length → ∃ b off, AY = some ⟨b, off, none⟩ ∧ ∀ i x, Y[i]? = some x → w6.cell? ⟨b, off + i, none⟩ = some (.int .i64 x)) := Lib.hid (fun h => by
    obtain ⟨b, off, e, hc⟩ := HY1.out h
    exact ⟨b, off, e, fun i x hx => cell_later B36 (hc i x hx)⟩)
  have HLX := Lib.hid SS.lx
  have HLF := Lib.hid SS.lf
  have r0 : w4.cell? ⟨w3.heap.size, 0, none⟩ = some (.slice AX n cX) := (Cl.of_block hr (j := 0) rfl).cell
  have r1 : w4.cell? ⟨w3.heap.size, 1, none⟩ = some (.slice AF L.length cF) := (Cl.of_block hr (j := 1) rfl).cell
  clear hh IX IF SS B1 B2 B3 hr HA1 HM1 HB1 HX1 HF1 HY1 B36 B6
  go_wp2_with fail
  clear r0 r1
  clear hw hw6
  generalize w4.heap.size = gL at *
  go_loopw [46] (fun q wr => ∃ c : Nat, c ≤ 2 ∧ q = .int .i64 c ∧ Below w6.heap.size w6 wr) (fun q _ => 2 - (intOf q).toNat)
  case atStart => exact ⟨0, by omega, rfl, Below.refl _ _⟩
  case round =>
    obtain ⟨c, hc, rfl, B⟩ := hrel
    obtain ⟨wo, rfl⟩ : ∃ x : World, x = wr := ⟨_, rfl⟩
    have HB := Lib.hid B
    have hwo := B.size
    clear B
    by_cases hc2 : c < 2
    · have hd : decide ((c : Int) < 2) = true := by simp; omega
      obtain ⟨us, vs, AU, cU, AV, cV, d0, d1, IU, IV, hul, hvl, hcu⟩ : ∃ (us vs : List Int) (AU : Option Addr) (cU : Nat) (AV : Option Addr) (cV : Nat), wo.cell? ⟨gL, c * 2, none⟩ = some (.slice AU us.length cU) ∧ wo.cell? ⟨gL, c * 2 + 1, none⟩ = some (.slice AV vs.length cV) ∧ Ints wo (.slice AU us.length cU) us ∧ Ints wo (.slice AV vs.length cV) vs ∧ us.length ≤ 17592186043904 ∧ vs.length ≤ 17592186043904 ∧ us.length ≤ cU := by
        have hb := block_later HB.out HG6.out
        have hc01 : c = 0 ∨ c = 1 := by omega
        rcases hc01 with rfl | rfl
        · have h := HX06.out.later HB.out
          refine ⟨xs0, fs0, AX0, cX0, AF0, cF0, (Cl.of_block hb (j := 0) rfl).cell, (Cl.of_block hb (j := 1) rfl).cell, h, HF06.out.later HB.out, hxl, hfl, ?_⟩
          obtain ⟨_, _, e, h1, -, -⟩ := Ints.at_ h
          cases e
          exact h1
        · have h := HX6.out.later HB.out
          have h' := HF6.out.later HB.out
          rw [← HLX.out] at h
          rw [← HLF.out] at h'
          refine ⟨xs, fs, AX, cX, AF, cF, by rw [HLX.out]; exact (Cl.of_block hb (j := 2) rfl).cell, by rw [HLF.out]; exact (Cl.of_block hb (j := 3) rfl).cell, h, h', by rw [HLX.out]; omega, by rw [HLF.out]; omega, ?_⟩
          obtain ⟨_, _, e, h1, -, -⟩ := Ints.at_ h
          cases e
          exact h1
      obtain ⟨k, hk1, hk2, hmin⟩ : ∃ k : Nat, k ≤ us.length ∧ k ≤ n ∧ min (us.length : Int) (n : Int) = (k : Int) := ⟨min us.length n, by omega, by omega, by omega⟩
      have HUT := Lib.hid (Sl.take IU rfl k hk1)
      have HV := Lib.hid IV
      have HD0 := Lib.hid d0
      have i1 : (0 : Int) ≤ (c : Int) := by omega
      have i2 : (c : Int) < 2 := by omega
      have ik1 : (0 : Int) ≤ (k : Int) := by omega
      have ik2 : (k : Int) ≤ (cU : Int) := by omega
      clear IU IV
      go_wp2_with fail
      obtain ⟨wA, hwA⟩ : ∃ x, x = wo.alloc (.cells #[.slice AU us.length cU, .slice AV vs.length cV] 51) := ⟨_, rfl⟩
      rw [← hwA]
      have BA : Below wo.heap.size wo wA := by rw [hwA]; exact (Below.refl _ _).alloc (Nat.le_refl _) _
      have HGA : Hid (wA.heap[wo.heap.size]? = some (.cells #[.slice AU us.length cU, .slice AV vs.length cV] 51)) := Lib.hid (by rw [hwA]; exact heap_at rfl)
      have HUA := Lib.hid (HUT.out.later BA)
      have HVA := Lib.hid (HV.out.later BA)
      have HBA := Lib.hid (below_then HB.out HB.out.size BA)
      have hpl : (us.take k).length = k := by rw [List.length_take]; omega
      clear hwA BA HUT HV d0 d1 HD0 hmin hcu ik1 ik2
      generalize us.take k = ps at *
      subst hpl
      refine (cloneI_any HUA.out (by omega)).mono ?_
      rintro e w8 ⟨V8, rfl, R8, B8⟩
      obtain ⟨A8, c8, rfl, -⟩ := own_shape R8
      have HP8 := Lib.hid (Sl.of_own encI_length R8)
      have g8 := block_later B8 HGA.out
      have g1 : w8.cell? ⟨wo.heap.size, 1, none⟩ = some (.slice AV vs.length cV) := (Cl.of_block g8 (j := 1) rfl).cell
      have HV8 := Lib.hid (HVA.out.later B8)
      have HB8 := Lib.hid (below_then HBA.out HBA.out.size B8)
      have HA8 := Lib.hid (HA6.out.later HB8.out)
      clear R8 B8 g8 HGA HUA HVA HBA
      obtain ⟨C, hC⟩ : ∃ C, checkC n L ps vs = C := ⟨_, rfl⟩
      have HC := Lib.hid hC
      clear hC
      go_wp2_with fail
      clear g1
      refine (certCheck_any n hn1 HA8.out HP8.out HV8.out (by omega) (by omega)).mono ?_
      rw [HC.out]
      rintro e w9 ⟨rfl, B9⟩
      have HP9 := Lib.hid (HP8.out.later B9)
      have HB9 := Lib.hid (below_then HB8.out HB8.out.size B9)
      have HA9 := Lib.hid (HA8.out.later B9)
      clear B9 HP8 HV8 HB8 HA8
      by_cases hC0 : C = 0
      · subst hC0
        obtain ⟨z0, -, -, -⟩ := check_zero HC.out
        obtain ⟨-, z1, z2, z3⟩ := costE_zero z0
        have hpn : ps.length = n := by omega
        have HZ2 := Lib.hid (far_bd z2)
        have HZ3 := Lib.hid z3
        clear z0 z1 z2 z3
        subst hpn
        have hne : ((ps.length : Int) != ps.length) = false := by simp
        go_wp2_with fail
        refine (fit_any HA9.out HP9.out HK.out.inX (by omega) (by omega)).mono ?_
        rw [HZ3.out]
        rintro e w10 ⟨rfl, B10⟩
        have HP10 := Lib.hid (HP9.out.later B10)
        have HB10 := Lib.hid (below_then HB9.out HB9.out.size B10)
        have HA10 := Lib.hid (HA9.out.later B10)
        clear B10 HP9 HB9 HA9
        obtain ⟨D, hD⟩ : ∃ D, costL ps L = D := ⟨_, rfl⟩
        have HD := Lib.hid hD
        clear hD
        go_wp2_with fail
        refine (refCost_any HA10.out HP10.out HK.out.inX (by omega) (by omega) (okg_w HK.out) HZ2.out).mono ?_
        rw [HD.out]
        rintro e w11 ⟨rfl, B11⟩
        obtain ⟨w12, hw12⟩ : ∃ x, x = w11.alloc (.cells #[.int .i64 3, .int .i64 1000] 3) := ⟨_, rfl⟩
        have BA : Below w11.heap.size w11 w12 := by rw [hw12]; exact (Below.refl _ _).alloc (Nat.le_refl _) _
        have HG12 : Hid (w12.heap[w11.heap.size]? = some (.cells #[.int .i64 3, .int .i64 1000] 3)) := Lib.hid (by rw [hw12]; exact heap_at rfl)
        have BB := below_then B11 B11.size BA
        have HP12 := Lib.hid (HP10.out.later BB)
        have HB12 := Lib.hid (below_then HB10.out HB10.out.size BB)
        have HA12 := Lib.hid (HA10.out.later BB)
        clear B11 BA BB HP10 HB10 HA10
        go_wp2_with fail
        try rw [← hw12]
        clear hw12
        generalize w11.heap.size = gW at *
        go_loopw [81] (fun q wr => ∃ d : Nat, d ≤ 2 ∧ q = .int .i64 d ∧ Below w12.heap.size w12 wr) (fun q _ => 2 - (intOf q).toNat)
        case atStart => exact ⟨0, by omega, rfl, Below.refl _ _⟩
        case round =>
          obtain ⟨d, hd0, rfl, B⟩ := hrel
          obtain ⟨wp, rfl⟩ : ∃ x : World, x = wr := ⟨_, rfl⟩
          have HBp := Lib.hid B
          have hwp := B.size
          clear B
          by_cases hd2 : d < 2
          · have hdd : decide ((d : Int) < 2) = true := by simp; omega
            obtain ⟨W, hW0, hW1, cW⟩ : ∃ W : Int, 0 < W ∧ W ≤ 1000 ∧ wp.cell? ⟨gW, d, none⟩ = some (.int .i64 W) := by
              have hb := block_later HBp.out HG12.out
              have hd01 : d = 0 ∨ d = 1 := by omega
              rcases hd01 with rfl | rfl
              · exact ⟨3, by omega, by omega, (Cl.of_block hb (j := 0) rfl).cell⟩
              · exact ⟨1000, by omega, by omega, (Cl.of_block hb (j := 1) rfl).cell⟩
            have j1 : (0 : Int) ≤ (d : Int) := by omega
            have j2 : (d : Int) < 2 := by omega
            have HPp := Lib.hid (HP12.out.later HBp.out)
            have HAp := Lib.hid (HA12.out.later HBp.out)
            have HB6p := Lib.hid (below_then HB12.out HB12.out.size HBp.out)
            go_wp2_with fail
            clear cW
            refine (cloneI_any HPp.out (by omega)).mono ?_
            rintro e w13 ⟨V13, rfl, R13, B13⟩
            obtain ⟨b, cb, rfl, hcb, hb, LR⟩ := LRow.of_own R13 (by omega)
            have HLR := Lib.hid LR
            have HB13 := Lib.hid B13
            clear R13 B13 LR
            go_wp2_with fail
            go_loopw [89] (fun q wr => ∃ (i : Nat) (F : Nat → Int), i ≤ ps.length ∧ q = .int .i64 i ∧ LRow wr b ps.length F ∧ Hid (∀ v, v < ps.length → (i ≤ v → F v = ff ps v) ∧ -1001000 ≤ F v ∧ F v ≤ 1001000) ∧ Below wp.heap.size wp wr) (fun q _ => ps.length - (intOf q).toNat)
            case atStart =>
              refine ⟨0, ff ps, by omega, rfl, HLR.out, Lib.hid (fun v hv => ⟨fun _ => rfl, ?_⟩), HB13.out⟩
              have e : ff ps v = ps[v] := by unfold ff; simp [hv]
              have := HZ2.out _ (List.getElem_mem hv)
              rw [e]; omega
            case round =>
              obtain ⟨i, F, hi, rfl, R, HFF, B⟩ := hrel
              obtain ⟨wi, rfl⟩ : ∃ x : World, x = wr := ⟨_, rfl⟩
              have HR := Lib.hid R
              have HBi := Lib.hid B
              have hwi := B.size
              clear R B HLR HB13
              by_cases hin : i < ps.length
              · have hdi : decide ((i : Int) < ps.length) = true := by simp; omega
                have i3 : (0 : Int) ≤ (i : Int) := by omega
                have i4 : (i : Int) < (ps.length : Int) := by omega
                by_cases hiy : i < Y.length
                · have hdy : decide ((i : Int) < Y.length) = true := by simp; omega
                  have i5 : (i : Int) < (Y.length : Int) := by omega
                  obtain ⟨by_, oy, rfl, hcy⟩ := HY6.out (by omega)
                  have c0 := cell_later HBi.out (cell_later HB6p.out (hcy i _ (List.getElem?_eq_getElem hiy)))
                  have RA := HR.out
                  have c1 := RA.cell hin
                  obtain ⟨hx1, hx2⟩ := HFF.out i hin
                  have hx3 := hx1 (Nat.le_refl _)
                  have hx4 : ff ps i = ps[i] := by unfold ff; simp [hin]
                  have hx5 := HZ2.out _ (List.getElem_mem hin)
                  have hz := tmod_bounds Y[i] W hW0
                  rw [hx3, hx4] at c1
                  clear hcy RA hx1 hx2 hx3 hx4
                  generalize ps[i] = x at *
                  generalize Y[i] = y at *
                  obtain ⟨z, hz0⟩ : ∃ z, y.tmod W = z := ⟨_, rfl⟩
                  rw [hz0] at hz
                  have e1 : IntKind.i64.wrap z = z := IntWalk.i64_in _ (by omega)
                  have e2 : IntKind.i64.wrap (x + z) = x + z := IntWalk.i64_in _ (by omega)
                  have hWz : ¬ (W = 0) := by omega
                  go_upto_region 20 with fail
                  go_still_tail 11, (by kernel_rfl)
                  change wpList _ _ _ _ _ wi.drew
                  have BD : Below wi.heap.size wi wi.drew := (Below.refl _ _).drew
                  have RD := HR.out.later BD
                  have f1 := RD.frozen i
                  have f2 := RD.cell hin
                  have HRD := Lib.hid RD
                  have HBD := Lib.hid (HBi.out.trans (BD.mono hwi))
                  clear RD BD
                  generalize wi.drew = wd at *
                  clear c0 c1 hz0
                  go_wp2_with fail
                  refine ⟨⟨i + 1, upd F i (x + z), by omega, by go_num, HRD.out.set i (x + z), Lib.hid (fun v hv => ?_), HBD.out.setCell (p := ⟨b, i, none⟩) (by omega) _⟩, by simp [intOf]; omega⟩
                  unfold upd
                  by_cases ev : v = i
                  · rw [if_pos ev]
                    exact ⟨fun h => absurd h (by omega), by omega, by omega⟩
                  · rw [if_neg ev]
                    obtain ⟨k1, k2⟩ := HFF.out v hv
                    exact ⟨fun h => k1 (by omega), k2⟩
                · have hdy : decide ((i : Int) < Y.length) = false := by simp; omega
                  go_wp2_with fail
                  exact ⟨⟨i + 1, F, by omega, by go_num, HR.out, Lib.hid (fun v hv => ⟨fun h => (HFF.out v hv).1 (by omega), (HFF.out v hv).2⟩), HBi.out⟩, by simp [intOf]; omega⟩
              · have e : i = ps.length := by omega
                subst e
                have hdi : decide ((ps.length : Int) < ps.length) = false := by simp
                have HI := Lib.hid (HR.out.ints hcb)
                have hll : ((List.range ps.length).map F).length = ps.length := by simp
                have HBW : Hid (∀ v ∈ (List.range ps.length).map F, -2000000 ≤ v ∧ v ≤ 2000000) := Lib.hid (fun v hv => by
                  obtain ⟨q, hq, rfl⟩ := List.mem_map.1 hv
                  have := HFF.out q (List.mem_range.1 hq)
                  omega)
                have HAi := Lib.hid (HAp.out.later HBi.out)
                have HB6i := Lib.hid (below_then HBp.out HBp.out.size HBi.out)
                obtain ⟨ls, hls⟩ : ∃ ls, (List.range ps.length).map F = ls := ⟨_, rfl⟩
                rw [hls] at HI hll HBW
                have HLL := Lib.hid hll
                obtain ⟨fb, hfb⟩ : ∃ fb, L.all (fitA ls) = fb := ⟨_, rfl⟩
                have HFB := Lib.hid hfb
                clear hls hll hfb HR HFF
                go_wp2_with fail
                refine (fit_any HAi.out HI.out (by rw [HLL.out]; exact HK.out.inX) (by omega) (by rw [HLL.out]; omega)).mono ?_
                rw [HFB.out]
                rintro e w14 ⟨rfl, B14⟩
                have HI14 := Lib.hid (HI.out.later B14)
                have HA14 := Lib.hid (HAi.out.later B14)
                have HB14 := Lib.hid (below_then HB6i.out HB6i.out.size B14)
                clear B14 HI HAi HB6i
                cases fb with
                | false =>
                  go_wp2_with fail
                  exact ⟨⟨d + 1, by omega, by go_num, HB14.out⟩, by simp [intOf]; omega⟩
                | true =>
                  have hbest := check_best hn1 HC.out HFB.out
                  rw [HD.out] at hbest
                  obtain ⟨E, hE⟩ : ∃ E, costL ls L = E := ⟨_, rfl⟩
                  rw [hE] at hbest
                  have HE2 := Lib.hid hE
                  have hlt : decide (E < D) = false := by simp; omega
                  clear hE
                  go_wp2_with fail
                  refine (refCost_wide HA14.out HI14.out (by rw [HLL.out]; exact HK.out.inX) (by omega) (by rw [HLL.out]; omega) (okg_w HK.out) HBW.out).mono ?_
                  rw [HE2.out]
                  rintro e w15 ⟨rfl, B15⟩
                  have HB15 := Lib.hid (below_then HB14.out HB14.out.size B15)
                  clear B15 HB14 HI14 HA14
                  go_wp2_with fail
                  exact ⟨⟨d + 1, by omega, by go_num, HB15.out⟩, by simp [intOf]; omega⟩
          · have e : d = 2 := by omega
            subst e
            have hdd : decide (((2 : Nat) : Int) < 2) = false := by simp
            have HB6p := Lib.hid (below_then HB12.out HB12.out.size HBp.out)
            go_wp2_with fail
            exact ⟨⟨c + 1, by omega, by go_num, HB6p.out⟩, by simp [intOf]; omega⟩
      · have hne : (C != 0) = true := by simp [hC0]
        go_wp2_with fail
        exact ⟨⟨c + 1, by omega, by go_num, HB9.out⟩, by simp [intOf]; omega⟩
    · have e : c = 2 := by omega
      subst e
      have hd : decide (((2 : Nat) : Int) < 2) = false := by simp
      have HMo := Lib.hid (cell_later HB.out HM6.out)
      have HBo := Lib.hid (below_then HB6.out HB6.out.size HB.out)
      go_wp2_with fail
      refine (wakes_ok HMo.out).mono ?_
      rintro e w16 ⟨rfl, B16⟩
      have HB16 := Lib.hid (below_then HBo.out HBo.out.size B16)
      clear B16
      go_wp2_with fail
      go_ret
      exact ⟨rfl, HB16.out⟩
end Go.Proofs.YtjgloineooadoaaGreatDoor
