/- FlowFlows: no right flow has a greater sum. -/
import Derived.Test.YtimffpnfhkobkaaMgG17
import Derived.Test.YtimffpnfhkobkaaMgG18
import Derived.Test.YtimffpnfhkobkaaGFflP
namespace Go.Proofs.Ytimffpnfhkobkaa
open Go.RowKit
def wtI (L : List Arc) (k v : Nat) : Int := if v < k then wtL L v else 0
theorem wtI_next (L : List Arc) (k v : Nat) : upd (wtI L k) k (wtL L k) v = wtI L (k + 1) v := by
  unfold upd wtI
  by_cases e : v = k
  · subst e; rw [if_pos rfl, if_pos (by omega)]
  · rw [if_neg e]
    by_cases h : v < k
    · rw [if_pos h, if_pos (by omega)]
    · rw [if_neg h, if_neg (by omega)]
set_option maxRecDepth 100000 in
set_option maxHeartbeats 4000000 in
theorem flows_core {w : World} {V VY : Value} {T : List Tri} {Y : List Duo} (N : Nat) (hN : N ≤ 255) (h : Tris w V T) (hs : Small T) (hl : T.length ≤ 1000000000000000) (hy : Duos w VY Y) (hsy : SmallD Y) (hyl : Y.length ≤ 1000000000000000) :
    Calls Try.prog 8 #[.agg #[.int .u8 (N : Int), V], VY] w fun e w' => e = .returned (.bool true) ∧ Below w.heap.size w w' := by
  obtain ⟨q, hq, hq30, hqe⟩ : ∃ q, q ≤ Y.length ∧ q ≤ 30 ∧ min (Y.length : Int) 30 = (q : Nat) := ⟨min Y.length 30, by omega, by omega, by omega⟩
  obtain ⟨A, cap, rfl, -, -⟩ := h.at_
  obtain ⟨AY, cY, rfl, hcY, -, -⟩ := hy.cells
  have HYQ := Lib.hid (Sl.take hy rfl q hq)
  have HSY : Hid (SmallD (Y.take q)) := Lib.hid (fun t ht => hsy t (List.mem_of_mem_take ht))
  have HQL : Hid ((Y.take q).length = q) := Lib.hid (by rw [List.length_take]; omega)
  obtain ⟨Z, hZ⟩ : ∃ Z, Y.take q = Z := ⟨_, rfl⟩
  rw [hZ] at HYQ HSY HQL
  obtain ⟨w0, hw0⟩ : ∃ w0, w.alloc (.cells #[.int .u8 (N : Int), .slice A T.length cap] 38) = w0 := ⟨_, rfl⟩
  have B0 : Below w.heap.size w w0 := by rw [← hw0]; exact (Below.refl _ _).alloc (Nat.le_refl _) _
  have hG0 : w0.heap[w.heap.size]? = some (.cells #[.int .u8 (N : Int), .slice A T.length cap] 38) := by rw [← hw0]; exact heap_at rfl
  have p0 : w0.cell? ⟨w.heap.size, 0, none⟩ = some (.int .u8 (N : Int)) := (Cl.of_block hG0 (j := 0) rfl).cell
  have p1 : w0.cell? ⟨w.heap.size, 1, none⟩ = some (.slice A T.length cap) := (Cl.of_block hG0 (j := 1) rfl).cell
  have HB0 := Lib.hid B0
  have HH := Lib.hid (h.later B0)
  clear h B0 hG0 hy hsy hZ
  go_enter Try.func8, Try.ntmps8
  go_wp2_with fail
  clear hw0 p0 p1
  refine (make_any (T := T) N 14 hN (by omega) (by omega) HH.out hs hl).mono ?_
  have HR := Lib.hid (makeL_right N 14 (by omega) (by omega) T)
  have HE := Lib.hid (makeL_dag N 14 (by omega) (by omega) T)
  have HUP0 := Lib.hid (makeL_up N 14 T)
  have hn1 : 1 ≤ mkN N 14 := by unfold mkN; omega
  have hn2 : mkN N 14 ≤ 14 := by unfold mkN; omega
  have hlen : (makeL N 14 T).length ≤ 40 := makeL_length N 14 T
  generalize mkN N 14 = n at *
  generalize makeL N 14 T = L at *
  rintro e w1 ⟨V1, rfl, R1, B1⟩
  obtain ⟨A1, c1, rfl, -⟩ := own_shape R1
  have HK := Lib.hid (okg_of HR.out hn1)
  have hm1 := HK.out.m1
  have HUP : Hid (∀ i, i < L.length → frL L i < ttL L i) := Lib.hid (fun i hi => by
    have h1 := HUP0.out _ (List.mem_of_getElem? (HK.out.at_ hi).1)
    simpa using h1)
  have HA1 := Lib.hid (Sl.of_own encA_length R1)
  have HB1 := Lib.hid (below_then HB0.out HB0.out.size B1)
  clear R1 B1 HB0 HH hs HUP0
  go_wp2_with fail
  refine (solve_any n HA1.out HK.out HE.out).mono ?_
  rintro e w2 h2
  obtain ⟨AX, cX, AF, cF, xs, fs, ways, rfl, -, IF, S, B2⟩ := h2.at_
  obtain ⟨w3, hw3⟩ : ∃ w3, w2.alloc (.cells #[.slice AX n cX, .slice AF L.length cF, .int .i64 (ways : Int)] 58) = w3 := ⟨_, rfl⟩
  have B3 : Below w2.heap.size w2 w3 := by rw [← hw3]; exact (Below.refl _ _).alloc (Nat.le_refl _) _
  have hr3 : w3.heap[w2.heap.size]? = some (.cells #[.slice AX n cX, .slice AF L.length cF, .int .i64 (ways : Int)] 58) := by rw [← hw3]; exact heap_at rfl
  have B23 := below_then B2 B2.size B3
  have HA3 := Lib.hid (HA1.out.later B23)
  have HB3 := Lib.hid (below_then HB1.out HB1.out.size B23)
  have HF3 := Lib.hid (IF.later B3)
  have HS := Lib.hid S
  have HRR := Lib.hid hr3
  have HFL := Lib.hid S.lf
  clear h2 IF S B2 HA1 HB1 B3 B23 hr3
  go_wp2_with fail
  clear hw3
  refine (fwakes_any _).mono ?_
  rintro e w4 ⟨rfl, B4⟩
  have HA4 := Lib.hid (HA3.out.later B4)
  have HB4 := Lib.hid (below_then HB3.out HB3.out.size B4)
  have HF4 := Lib.hid (HF3.out.later B4)
  have hr4 := block_later B4 HRR.out
  have HR4 := Lib.hid hr4
  have g0 : w4.cell? ⟨w2.heap.size, 1, none⟩ = some (.slice AF L.length cF) := (Cl.of_block hr4 (j := 1) rfl).cell
  clear B4 HA3 HB3 HF3 HRR hr4
  go_wp2_with fail
  refine (flowRight_any n HA4.out HF4.out HK.out (fun y hy => (sol_small HS.out y hy).2) (by have := HFL.out; omega)).mono ?_
  rw [HS.out.right]
  rintro e w5 ⟨rfl, B5⟩
  have HA5 := Lib.hid (HA4.out.later B5)
  have HB5 := Lib.hid (below_then HB4.out HB4.out.size B5)
  have HF5 := Lib.hid (HF4.out.later B5)
  have g1 := cell_later B5 g0
  clear B5 HA4 HB4 HF4 g0 HR4
  obtain ⟨C, hC⟩ : ∃ C, costL xs L = C := ⟨_, rfl⟩
  have HSU : Hid (sumN (ff fs) fs.length = C) := Lib.hid (by rw [HFL.out, HS.out.sum HK.out, hC])
  have HC := Lib.hid hC
  clear hC
  go_wp2_with fail
  refine (sum_any HF5.out (by have := HFL.out; omega) (sol_small HS.out)).mono ?_
  rw [HSU.out]
  rintro e w6 ⟨rfl, B6⟩
  have HA6 := Lib.hid (HA5.out.later B6)
  have HB6 := Lib.hid (below_then HB5.out HB5.out.size B6)
  clear B6 HA5 HB5 HF5 g1
  have hmk3 := run_make_row' (P := Try.prog) 26 3 (.int .i64 0) 8 Try.underlying26 info_int rfl .i64 .i64 L.length (by omega) (by omega)
  go_wp2_with fail
  clear hmk3
  have R0 : LRow (w6.alloc (.cells (madeCells #[.int .i64 0] L.length) 3)) w6.heap.size L.length (wtI L 0) := LRow.of_row ((World.rowIs_made w6 (.int .i64 0) L.length 3).congr (fun v _ => by simp [wtI]))
  have HR0 := Lib.hid R0
  have HBM : Hid (Below w6.heap.size w6 (w6.alloc (.cells (madeCells #[.int .i64 0] L.length) 3))) := Lib.hid ((Below.refl _ _).alloc (Nat.le_refl _) _)
  clear R0
  go_loopw [52] (fun q wr => ∃ i : Nat, i ≤ L.length ∧ q = .int .i64 i ∧ LRow wr w6.heap.size L.length (wtI L i) ∧ Below w6.heap.size w6 wr) (fun q _ => L.length - (intOf q).toNat)
  case atStart => exact ⟨0, by omega, rfl, HR0.out, HBM.out⟩
  case round =>
    clear HR0 HBM
    obtain ⟨i, hi, rfl, R, B⟩ := hrel
    obtain ⟨wo, rfl⟩ : ∃ q : World, q = wr := ⟨_, rfl⟩
    have HRo := Lib.hid R
    have HBo := Lib.hid B
    have hwo := B.size
    have hrl := R.lt
    clear R B
    by_cases hil : i < L.length
    · have hd : decide ((i : Int) < L.length) = true := by simp; omega
      obtain ⟨A', cap', e1, -, -, hA⟩ := Arcs.at_ HA6.out
      injection e1 with e1 e2 e3
      subst e1
      obtain ⟨ba, off, rfl, hc⟩ := hA (by omega)
      obtain ⟨hat, hf, ht, -, -⟩ := HK.out.at_ hil
      obtain ⟨c0, c1', c2⟩ := hc i _ hat
      have c0 := cell_later HBo.out c0
      have c1' := cell_later HBo.out c1'
      have c2 := cell_later HBo.out c2
      have HST := Lib.hid (wtI_next L i)
      have HW : Hid (wtL L i = wtL L i) := Lib.hid rfl
      clear hc hat e3 HW
      generalize frL L i = f at *
      generalize ttL L i = t at *
      generalize wtL L i = x at *
      simp only at c0 c1' c2
      have i1 : (0 : Int) ≤ (i : Int) := by omega
      have i2 : (i : Int) < (L.length : Int) := by omega
      obtain ⟨wA, hwA⟩ : ∃ wA, wo.alloc (.cells #[.int .i64 (f : Nat), .int .i64 (t : Nat), .int .i64 x] 52) = wA := ⟨_, rfl⟩
      have BA : Below wo.heap.size wo wA := by rw [← hwA]; exact (Below.refl _ _).alloc (Nat.le_refl _) _
      have hGA : wA.heap[wo.heap.size]? = some (.cells #[.int .i64 (f : Nat), .int .i64 (t : Nat), .int .i64 x] 52) := by rw [← hwA]; exact heap_at rfl
      have g2 : wA.cell? ⟨wo.heap.size, 2, none⟩ = some (.int .i64 x) := (Cl.of_block hGA (j := 2) rfl).cell
      have RA := HRo.out.later BA
      have f0 := RA.frozen i
      have f1 := RA.cell hil
      have HRA := Lib.hid RA
      have HBA := Lib.hid (HBo.out.trans (BA.mono hwo))
      clear BA hGA RA
      go_upto_region 10 with fail
      clear hwA c0 c1' c2
      go_wp2_with fail
      exact ⟨⟨i + 1, by omega, by go_num, (HRA.out.set i x).congr (fun v _ => HST.out v), HBA.out.setCell (p := ⟨w6.heap.size, i, none⟩) (Nat.le_refl _) _⟩, by simp [intOf]; omega⟩
    · have e : i = L.length := by omega
      subst e
      have hd : decide ((L.length : Int) < L.length) = false := by simp
      have HR1 : Hid (LRow wo w6.heap.size L.length (wtL L)) := Lib.hid (HRo.out.congr (fun v hv => by unfold wtI; rw [if_pos hv]))
      have HFF := Lib.hid (Ffl.begin HK.out)
      have HBn : Hid (∃ B : Int, Ffl n L (wtL L) B ∧ B ≤ 1000000 + 0 * 16384) := Lib.hid ⟨1000000, HFF.out, by omega⟩
      clear HRo HFF
      go_wp2_with fail
      go_loopw [69] (fun v wr => ∃ (s : Nat) (F : Nat → Int), s ≤ q ∧ v = .int .i64 s ∧ LRow wr w6.heap.size L.length F ∧ Hid (Ffl n L F (1000000 + s * 16384)) ∧ Below w6.heap.size w6 wr) (fun v _ => q - (intOf v).toNat)
      case atStart => exact ⟨0, wtL L, by omega, rfl, HR1.out, Lib.hid (Ffl.begin HK.out |>.more (by omega)), HBo.out⟩
      case round =>
        clear HR1 HBn
        obtain ⟨s, F, hsq, rfl, R, HFf, B⟩ := hrel
        obtain ⟨ws, rfl⟩ : ∃ q : World, q = wr := ⟨_, rfl⟩
        have HRs := Lib.hid R
        have HBs := Lib.hid B
        have hws := B.size
        clear R B HBo
        by_cases hsl : s < q
        · have hd2 : decide ((s : Int) < q) = true := by simp; omega
          obtain ⟨AY', cY', e1, -, -, hY0⟩ := Sl.cells HYQ.out
          injection e1 with e1 e2 e3
          subst e1
          obtain ⟨bY, oY, rfl, hYc⟩ := hY0 (by have := HQL.out; omega)
          have hsz : s < Z.length := by have := HQL.out; omega
          obtain ⟨d0, d1⟩ : ∃ a b : Value, True := ⟨default, default, trivial⟩
          have k0 := hYc s _ (List.getElem?_eq_getElem hsz) 0 _ rfl
          have k1 := hYc s _ (List.getElem?_eq_getElem hsz) 1 _ rfl
          have hsm := HSY.out _ (List.getElem_mem hsz)
          obtain ⟨⟨y0, y1⟩, hyy⟩ : ∃ p, Z[s] = p := ⟨_, rfl⟩
          rw [hyy] at k0 k1 hsm
          simp only [Nat.add_zero] at k0 k1 hsm
          have hWs := HB6.out.trans (HBs.out.mono HB6.out.size)
          have k0 := cell_later hWs k0
          have k1 := cell_later hWs k1
          have i1 : (0 : Int) ≤ (s : Int) := by omega
          have i2 : (s : Int) < (q : Int) := by omega
          clear hYc hY0 hyy e2 e3 d0 d1 hWs
          obtain ⟨wA, hwA⟩ : ∃ wA, ws.alloc (.cells #[.int .u8 (y0 : Nat), .int .u8 (y1 : Nat)] 63) = wA := ⟨_, rfl⟩
          have BA : Below ws.heap.size ws wA := by rw [← hwA]; exact (Below.refl _ _).alloc (Nat.le_refl _) _
          have hGA : wA.heap[ws.heap.size]? = some (.cells #[.int .u8 (y0 : Nat), .int .u8 (y1 : Nat)] 63) := by rw [← hwA]; exact heap_at rfl
          have HR2A : Hid (R2 ws.heap.size (.int .u8 (y0 : Int)) (.int .u8 (y1 : Int)) wA.drew) := Lib.hid ⟨(Cl.of_block (w := wA.drew) hGA (j := 0) rfl).cell, (Cl.of_block (w := wA.drew) hGA (j := 1) rfl).cell⟩
          have HRA := Lib.hid (HRs.out.later (BA.trans ((Below.refl wA.heap.size wA).drew.mono BA.size)))
          have HBA := Lib.hid (HBs.out.trans ((BA.trans ((Below.refl wA.heap.size wA).drew.mono BA.size)).mono hws))
          have HBA0 := Lib.hid (HBs.out.trans (BA.mono hws))
          clear BA hGA HRs
          by_cases hl2 : L.length < 2
          · have hd3 : decide ((L.length : Int) < 2) = true := by simp; omega
            go_wp2_with fail
            clear hwA
            go_ret
            exact ⟨rfl, below_then HB6.out HB6.out.size HBA0.out⟩
          · have hd3 : decide ((L.length : Int) < 2) = false := by simp; omega
            have z2 : ¬ (L = []) := fun e => by subst e; simp at hl2
            have z0 : ¬ (L.length = 0) := by omega
            have z3 : IntKind.i64.wrap (y0 : Int) = y0 := IntWalk.i64_in _ (by omega)
            have z4 : IntKind.i64.wrap (y1 : Int) = y1 := IntWalk.i64_in _ (by omega)
            have q0 : (IntKind.i64.wrap (y0 : Int)).tmod (L.length : Int) = ((y0 % L.length : Nat) : Int) := by rw [z3, Int.tmod_eq_emod_of_nonneg (by omega)]; simp
            have q1 : (IntKind.i64.wrap (y1 : Int)).tmod (L.length : Int) = ((y1 % L.length : Nat) : Int) := by rw [z4, Int.tmod_eq_emod_of_nonneg (by omega)]; simp
            have q2 : y0 % L.length < L.length := Nat.mod_lt _ (by omega)
            have q3 : y1 % L.length < L.length := Nat.mod_lt _ (by omega)
            clear z3 z4
            generalize y0 % L.length = i at *
            generalize y1 % L.length = k at *
            go_upto_region 16 with fail
            clear hwA k0 k1
            refine wp_region_headsV [(0, true), (1, true), (2, true), (3, true), (4, true), (5, true), (6, true), (7, true), (8, true), (9, true), (10, true), (11, true), (12, true), (13, true)] [] (R2 ws.heap.size (.int .u8 (y0 : Int)) (.int .u8 (y1 : Int))) (fun _ => True) (by kernel_rfl) (by kernel_rfl) HR2A.out trivial ?_
            iterate 14 (first | (refine wpHv_skip rfl (by rfl) ?_) | (refine wpHv_cons (v := ?_) rfl (by rfl) (fun wS hwS => ?_) ?_; rotate_left 1; (focus (have hwA := And.left hwS; clear hwS; (try dsimp only [R2] at hwA); go_simp; (try with_reducible rfl); (try (trace_state; fail))))); (try simp only [List.getElem_toArray, List.getElem_cons_zero, List.getElem_cons_succ]); (try simp only [Act.put, List.setIfInBounds_toArray, List.set_cons_zero, List.set_cons_succ]))
            refine wpHv_nil ?_
            refine wpV_done (by kernel_rfl) (NoPanic.normal ?_)
            clear q0 q1 z2 z0 HR2A HBA0
            generalize wA.drew = wd at *
            have hwd := HBA.out.size
            go_wp2_with fail
            go_loopw [90] (fun v wr => ∃ (j : Nat) (G : Nat → Int), j ≤ L.length ∧ v = .int .i64 j ∧ LRow wr w6.heap.size L.length G ∧ Hid (Ffl n L G (1000000 + s * 16384 + j)) ∧ Below w6.heap.size w6 wr) (fun v _ => L.length - (intOf v).toNat)
            case atStart => exact ⟨0, F, by omega, rfl, HRA.out, Lib.hid (HFf.out.more (by omega)), HBA.out⟩
            case round =>
              clear HRA HBA
              obtain ⟨j, G, hj, rfl, R, HFg, B⟩ := hrel
              obtain ⟨wj, rfl⟩ : ∃ q : World, q = wr := ⟨_, rfl⟩
              have HRj := Lib.hid R
              have HBj := Lib.hid B
              have hwj := B.size
              clear R B
              by_cases hjl : j < L.length
              · have hd4 : decide ((j : Int) < L.length) = true := by simp; omega
                obtain ⟨A', cap', e1, -, -, hA0⟩ := Arcs.at_ HA6.out
                injection e1 with e1 e2 e3
                subst e1
                obtain ⟨ba, off, rfl, hc⟩ := hA0 (by omega)
                obtain ⟨hat, hf, ht, -, -⟩ := HK.out.at_ hjl
                obtain ⟨hai, hfi, hti, -, -⟩ := HK.out.at_ q2
                obtain ⟨hak, hfk, htk, -, -⟩ := HK.out.at_ q3
                obtain ⟨c0, c1', c2⟩ := hc j _ hat
                obtain ⟨ci0, ci1, -⟩ := hc i _ hai
                obtain ⟨ck0, ck1, -⟩ := hc k _ hak
                have c0 := cell_later HBj.out c0
                have c1' := cell_later HBj.out c1'
                have c2 := cell_later HBj.out c2
                have HST := Lib.hid (fun h1 h2 h3 h4 h5 => Ffl.step HFg.out q2 q3 hjl HUP.out h1 h2 h3 h4 h5)
                clear hc hat hai hak e3 hA0
                obtain ⟨fi, efi⟩ : ∃ v, frL L i = v := ⟨_, rfl⟩
                obtain ⟨ti, eti⟩ : ∃ v, ttL L i = v := ⟨_, rfl⟩
                obtain ⟨fk, efk⟩ : ∃ v, frL L k = v := ⟨_, rfl⟩
                obtain ⟨tk, etk⟩ : ∃ v, ttL L k = v := ⟨_, rfl⟩
                obtain ⟨f, ef⟩ : ∃ v, frL L j = v := ⟨_, rfl⟩
                obtain ⟨t, et⟩ : ∃ v, ttL L j = v := ⟨_, rfl⟩
                rw [efi] at ci0
                rw [eti] at ci1
                rw [efk] at ck0
                rw [etk] at ck1
                rw [ef] at c0
                rw [et] at c1'
                have HST2 : Hid (0 < G j → fi = f → tk = t → ti = fk → j ≠ k → Ffl n L (via G i k j) (1000000 + s * 16384 + j + 1)) := Lib.hid (fun h1 h2 h3 h4 h5 => HST.out h1 (by rw [efi, ef]; exact h2) (by rw [etk, et]; exact h3) (by rw [eti, efk]; exact h4) h5)
                clear efi eti efk etk ef et hf ht hfi hti hfk htk HST
                generalize wtL L j = x at *
                simp only at c0 c1' c2 ci0 ci1 ck0 ck1
                obtain ⟨wB, hwB⟩ : ∃ wB, wj.alloc (.cells #[.int .i64 (f : Nat), .int .i64 (t : Nat), .int .i64 x] 52) = wB := ⟨_, rfl⟩
                have BB : Below wj.heap.size wj wB := by rw [← hwB]; exact (Below.refl _ _).alloc (Nat.le_refl _) _
                have hGB : wB.heap[wj.heap.size]? = some (.cells #[.int .i64 (f : Nat), .int .i64 (t : Nat), .int .i64 x] 52) := by rw [← hwB]; exact heap_at rfl
                have g0 : wB.cell? ⟨wj.heap.size, 0, none⟩ = some (.int .i64 (f : Nat)) := (Cl.of_block hGB (j := 0) rfl).cell
                have g1 : wB.cell? ⟨wj.heap.size, 1, none⟩ = some (.int .i64 (t : Nat)) := (Cl.of_block hGB (j := 1) rfl).cell
                have BW := HBj.out.trans (BB.mono hwj)
                have ci0 := cell_later BW ci0
                have ci1 := cell_later BW ci1
                have ck0 := cell_later BW ck0
                have ck1 := cell_later BW ck1
                have RB := HRj.out.later BB
                have r0 := RB.cell hjl
                have hbn := HFg.out.nn
                have HBN := Lib.hid hbn
                have HRB := Lib.hid RB
                have HBB := Lib.hid BW
                have i1 : (0 : Int) ≤ (j : Int) := by omega
                have i2 : (j : Int) < (L.length : Int) := by omega
                have i3 : (0 : Int) ≤ (i : Int) := by omega
                have i4 : (i : Int) < (L.length : Int) := by omega
                have i5 : (0 : Int) ≤ (k : Int) := by omega
                have i6 : (k : Int) < (L.length : Int) := by omega
                obtain ⟨y, hy⟩ : ∃ y, G j = y := ⟨_, rfl⟩
                rw [hy] at r0
                obtain ⟨b1, hb1⟩ : ∃ b, decide (0 < y) = b := ⟨_, rfl⟩
                obtain ⟨b2, hb2⟩ : ∃ b, ((fi : Int) == (f : Int)) = b := ⟨_, rfl⟩
                obtain ⟨b3, hb3⟩ : ∃ b, ((tk : Int) == (t : Int)) = b := ⟨_, rfl⟩
                obtain ⟨b4, hb4⟩ : ∃ b, ((ti : Int) == (fk : Int)) = b := ⟨_, rfl⟩
                obtain ⟨b5, hb5⟩ : ∃ b, ((j : Int) != (i : Int)) = b := ⟨_, rfl⟩
                obtain ⟨b6, hb6⟩ : ∃ b, ((j : Int) != (k : Int)) = b := ⟨_, rfl⟩
                have hwB2 := BW.size
                have HYJ := Lib.hid hy
                clear BB hGB BW RB hbn hy
                go_upto_region 20 with fail
                clear hwB c0 c1' c2
                go_cut [142] (fun p wx => p = .bool (b1 && b2 && b3 && b4 && b5 && b6) ∧ Below wB.heap.size wB wx)
                case first =>
                  cases b1 with
                  | false => go_quiet (fail); go_wp2_with fail; go_meet; exact ⟨rfl, below_drewN (Below.refl _ _) _⟩
                  | true =>
                  cases b2 with
                  | false => go_quiet (fail); go_wp2_with fail; go_meet; exact ⟨rfl, below_drewN (Below.refl _ _) _⟩
                  | true =>
                  cases b3 with
                  | false => go_quiet (fail); go_wp2_with fail; go_meet; exact ⟨rfl, below_drewN (Below.refl _ _) _⟩
                  | true =>
                  cases b4 with
                  | false => go_quiet (fail); go_wp2_with fail; go_meet; exact ⟨rfl, below_drewN (Below.refl _ _) _⟩
                  | true =>
                  cases b5 with
                  | false => go_quiet (fail); go_wp2_with fail; go_meet; exact ⟨rfl, below_drewN (Below.refl _ _) _⟩
                  | true =>
                  cases b6 with
                  | false => go_quiet (fail); go_wp2_with fail; go_meet; exact ⟨rfl, below_drewN (Below.refl _ _) _⟩
                  | true => go_quiet (fail); go_wp2_with fail; go_meet; exact ⟨rfl, below_drewN (Below.refl _ _) _⟩
                obtain ⟨rfl, BC⟩ := hcut
                obtain ⟨wq, rfl⟩ : ∃ q : World, q = wc := ⟨_, rfl⟩
                obtain ⟨cd, hcd⟩ : ∃ cd, (b1 && b2 && b3 && b4 && b5 && b6) = cd := ⟨_, rfl⟩
                rw [hcd]
                have HRq := Lib.hid (HRB.out.later BC)
                have HBq := Lib.hid (below_then HBB.out hwB2 BC)
                clear g0 g1 ci0 ci1 ck0 ck1 r0 BC
                cases cd with
                | false =>
                  clear hcd hb1 hb2 hb3 hb4 hb5 hb6
                  go_wp2_with fail
                  exact ⟨⟨j + 1, G, by omega, by go_num, HRq.out, Lib.hid (HFg.out.more (by omega)), HBq.out⟩, by simp [intOf]; omega⟩
                | true =>
                  simp only [Bool.and_eq_true] at hcd
                  obtain ⟨⟨⟨⟨⟨rfl, rfl⟩, rfl⟩, rfl⟩, rfl⟩, rfl⟩ := hcd
                  have t1 : 0 < y := by simpa using hb1
                  have t2 : fi = f := by simp at hb2; omega
                  have t3 : tk = t := by simp at hb3; omega
                  have t4 : ti = fk := by simp at hb4; omega
                  have t5 : j ≠ i := by simp at hb5; omega
                  have t6 : j ≠ k := by simp at hb6; omega
                  have HSTP := Lib.hid (HST2.out (by rw [HYJ.out]; exact t1) t2 t3 t4 t6)
                  have bj := HBN.out j hjl
                  have bi := HBN.out i q2
                  have bk := HBN.out k q3
                  have R0 := HRq.out
                  have m0 := R0.cell hjl
                  have m1 := R0.frozen j
                  rw [HYJ.out] at m0 bj
                  have R1 := R0.set j (y - 1)
                  obtain ⟨v1, hv1⟩ : ∃ v, wq.setCell ⟨w6.heap.size, j, none⟩ (.int .i64 (y - 1)) = v := ⟨_, rfl⟩
                  rw [hv1] at R1
                  have m2 := R1.cell q2
                  have m3 := R1.frozen i
                  obtain ⟨a, ha⟩ : ∃ a, upd G j (y - 1) i = a := ⟨_, rfl⟩
                  rw [ha] at m2
                  have ba2 : 0 ≤ a ∧ a ≤ 2000000 := by rw [← ha]; unfold upd; split <;> omega
                  have R2' := R1.set i (a + 1)
                  obtain ⟨v2, hv2⟩ : ∃ v, v1.setCell ⟨w6.heap.size, i, none⟩ (.int .i64 (a + 1)) = v := ⟨_, rfl⟩
                  rw [hv2] at R2'
                  have m4 := R2'.cell q3
                  have m5 := R2'.frozen k
                  obtain ⟨b, hb⟩ : ∃ b, upd (upd G j (y - 1)) i (a + 1) k = b := ⟨_, rfl⟩
                  rw [hb] at m4
                  have bb2 : 0 ≤ b ∧ b ≤ 3000000 := by
                    rw [← hb]
                    unfold upd
                    repeat' split
                    all_goals omega
                  have R3' := R2'.set k (b + 1)
                  have HR3 := Lib.hid R3'
                  have HVIA : Hid (upd (upd (upd G j (y - 1)) i (a + 1)) k (b + 1) = via G i k j) := Lib.hid (by unfold via; rw [HYJ.out, ha, hb])
                  have HB3 : Hid (Below w6.heap.size w6 (v2.setCell ⟨w6.heap.size, k, none⟩ (.int .i64 (b + 1)))) := Lib.hid (by
                    rw [← hv2, ← hv1]
                    exact ((HBq.out.setCell (p := ⟨w6.heap.size, j, none⟩) (Nat.le_refl _) _).setCell (p := ⟨w6.heap.size, i, none⟩) (Nat.le_refl _) _).setCell (p := ⟨w6.heap.size, k, none⟩) (Nat.le_refl _) _)
                  have e1 : IntKind.i64.wrap (y - 1) = y - 1 := IntWalk.i64_in _ (by omega)
                  have e2 : IntKind.i64.wrap (a + 1) = a + 1 := IntWalk.i64_in _ (by omega)
                  have e3 : IntKind.i64.wrap (b + 1) = b + 1 := IntWalk.i64_in _ (by omega)
                  clear R0 R1 R2' R3' hb1 hb2 hb3 hb4 hb5 hb6 t1 t2 t3 t4 t5 t6 ha hb HBN
                  go_wp2_with fail
                  refine ⟨⟨j + 1, via G i k j, by omega, by go_num, ?_, Lib.hid (HSTP.out.more (by omega)), HB3.out⟩, by simp [intOf]; omega⟩
                  have h := HR3.out
                  rw [HVIA.out] at h
                  exact h
              · have e : j = L.length := by omega
                subst e
                have hd4 : decide ((L.length : Int) < L.length) = false := by simp
                obtain ⟨C2, hC2⟩ : ∃ C2, sumN (ff ((List.range L.length).map G)) ((List.range L.length).map G).length = C2 := ⟨_, rfl⟩
                have hle : decide (C < C2) = false := by
                  have h1 := HFg.out.sum HK.out HS.out
                  rw [hC2, HC.out] at h1
                  simpa using h1
                have HC2 := Lib.hid hC2
                have HAj := Lib.hid (HA6.out.later HBj.out)
                have HIj := Lib.hid (HRj.out.ints (Nat.le_refl _))
                have HBG : Hid (∀ y ∈ (List.range L.length).map G, 0 ≤ y ∧ y ≤ 2000000) := Lib.hid (fun y hy => by
                  obtain ⟨v, hv, rfl⟩ := List.mem_map.1 hy
                  have := HFg.out.nn v (List.mem_range.1 hv)
                  omega)
                clear hC2
                go_wp2_with fail
                refine (flowRight_any n HAj.out HIj.out HK.out (fun y hy => by have := HBG.out y hy; omega) (by simp; omega)).mono ?_
                rw [HFg.out.right]
                rintro e w8 ⟨rfl, B8⟩
                have HI8 := Lib.hid (HIj.out.later B8)
                have HR8 := Lib.hid (HRj.out.later B8)
                have HB8 := Lib.hid (below_then HBj.out hwj B8)
                clear B8
                go_wp2_with fail
                refine (sum_any HI8.out (by simp; omega) (fun y hy => by have := HBG.out y hy; omega)).mono ?_
                rw [HC2.out]
                rintro e w9 ⟨rfl, B9⟩
                have HR9 := Lib.hid (HR8.out.later B9)
                have HB9 := Lib.hid (below_then HB8.out HB8.out.size B9)
                clear B9
                go_wp2_with fail
                exact ⟨⟨s + 1, G, by omega, by go_num, HR9.out, Lib.hid (HFg.out.more (by omega)), HB9.out⟩, by simp [intOf]; omega⟩
        · have e : s = q := by omega
          subst e
          have hd2 : decide ((s : Int) < s) = false := by simp
          go_wp2_with fail
          go_ret
          exact ⟨rfl, below_then HB6.out HB6.out.size HBs.out⟩
end Go.Proofs.Ytimffpnfhkobkaa
