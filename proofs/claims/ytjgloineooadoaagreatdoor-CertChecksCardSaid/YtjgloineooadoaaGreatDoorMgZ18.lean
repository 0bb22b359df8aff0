/- A solver is made: its rows, in any order. -/
import Derived.Test.YtjgloineooadoaaGreatDoorMgZ17
import Derived.Test.YtjgloineooadoaaGreatDoorMgZ8
import Derived.Test.YtjgloineooadoaaGreatDoorMgZ12
import Derived.Laws.ResultCell
namespace Go.Proofs.YtjgloineooadoaaGreatDoor
open Go.RowKit
theorem info_step : (Tryz.prog.info? 91).map (fun i => (i.zero, i.size, i.bytes)) = some (some (.agg #[.int .i64 0, .bool false]), 2, 16) := by kernel_rfl
theorem make_step (n : Nat) (hn : n ≤ 4096) (w : World) : (Instr.makeSlice 62 (.int .i64 (n : Int)) (.int .i64 (n : Int))).run Tryz.prog w = .ok (.slice (some ⟨w.heap.size, 0, none⟩) n n) (w.alloc (.cells (madeCells #[.int .i64 0, .bool false] (n * 2)) 91)) := by
  obtain ⟨i0, hi, hzz⟩ := Option.map_eq_some_iff.1 info_step
  simp only [Prod.mk.injEq] at hzz
  obtain ⟨hz, hs, hb⟩ := hzz
  have h := run_make (P := Tryz.prog) w 62 91 i0 _ Tryz.underlying62 hi hz .i64 .i64 n n (by omega) (by omega) (by rw [hb]; omega) (by omega)
  rw [hs] at h
  exact h
/-- What Solve answers for a dag. -/
def SolW (n : Nat) (L : List Arc) (w : World) (e : Ending) (w' : World) : Prop := ∃ (VX VF : Value) (xs fs : List Int) (ways : Nat), e = .returned (.tuple #[.agg #[VX, VF, .int .i64 (ways : Int)], .int .i64 0]) ∧ Ints w' VX xs ∧ Ints w' VF fs ∧ Sol n L xs fs ways ∧ Below w.heap.size w w'
set_option maxRecDepth 100000 in
set_option maxHeartbeats 1000000 in
theorem solve_any {w : World} {V : Value} {L : List Arc} (n : Nat) (h : Arcs w V L) (k : Okg n L) (he : ordE n L = 0) :
    Calls Tryz.prog 8 #[.int .i64 (n : Int), V] w (SolW n L w) := by
  have hn0 := k.n0
  have hn1 := k.n1
  have hm1 := k.m1
  have HK := Lib.hid k
  have HE := Lib.hid he
  obtain ⟨A, cap, rfl, -, -, hA⟩ := h.at_
  have HA := Lib.hid hA
  obtain ⟨wr0, hwr0⟩ : ∃ wr0, w.alloc (.cells #[.slice none 0 0, .slice none 0 0, .int .i64 0] 31) = wr0 := ⟨_, rfl⟩
  have BR : Below w.heap.size w wr0 := by rw [← hwr0]; exact (Below.refl _ _).alloc (Nat.le_refl _) _
  have HH := Lib.hid (h.later BR)
  have HBR := Lib.hid BR
  have HRC : Hid (wr0.heap[w.heap.size]? = some (.cells #[.slice none 0 0, .slice none 0 0, .int .i64 0] 31)) := Lib.hid (by rw [← hwr0]; exact heap_at rfl)
  have hr0 : w.heap.size + 1 ≤ wr0.heap.size := by rw [← hwr0]; simp
  clear h hA k he BR
  go_enter Tryz.func8, Tryz.ntmps8
  go_wp2_with fail
  clear hwr0
  refine (layers_any n HH.out HK.out HE.out).mono ?_
  rintro e w1 ⟨bx, X, rfl, hbx, RX, hX0, hX1, B1⟩
  have h10 : w1.heap[w.heap.size]? = some (.cells #[.slice none 0 0, .slice none 0 0, .int .i64 0] 31) := (B1.block _ (by omega)).trans HRC.out
  have HRC1 := Lib.hid h10
  have hbx1 : w.heap.size + 1 ≤ bx := by omega
  have hs1 : w.heap.size + 1 ≤ w1.heap.size := by have := B1.size; omega
  clear h10 hr0
  have HRX := Lib.hid RX
  have HX0 := Lib.hid hX0
  have HX1 := Lib.hid hX1
  have HB1 := Lib.hid (HBR.out.trans (B1.mono HBR.out.size))
  have HH1 := Lib.hid (HH.out.later B1)
  clear RX hX0 hX1 B1
  go_upto_region 4 with fail
  go_cut [8] (fun p wx => ∃ sb bo bi bl bf br bm bc : Nat, p = .pointer (some ⟨sb, 0, none⟩) ∧ Made n L w1 wx A cap bx sb bo bi bl bf br bm bc)
  case first =>
    have hmk1 := run_make_row' (P := Tryz.prog) 60 29 (.slice none 0 0) 24 Tryz.underlying60 info_ints rfl .i64 .i64 n (by omega) (by omega)
    have hmk2 := run_make_row' (P := Tryz.prog) 29 3 (.int .i64 0) 8 Tryz.underlying29 info_int rfl .i64 .i64 n (by omega) (by omega)
    have hmk3 := run_make_row' (P := Tryz.prog) 29 3 (.int .i64 0) 8 Tryz.underlying29 info_int rfl .i64 .i64 L.length (by omega) (by omega)
    have hmk4 := make_step n hn1
    have hmk5 := run_make_row' (P := Tryz.prog) 63 4 (.bool false) 1 Tryz.underlying63 info_bool rfl .i64 .i64 n (by omega) (by omega)
    have HM1 := Lib.hid hmk1
    have HM2 := Lib.hid hmk2
    have HM3 := Lib.hid hmk3
    have HM4 := Lib.hid hmk4
    have HM5 := Lib.hid hmk5
    clear hmk1 hmk2 hmk3 hmk4 hmk5
    refine wp_region_heads [0, 1, 2, 4, 6, 7, 9, 10, 12, 14, 16] (fun _ => True) (by kernel_rfl) (by kernel_rfl) trivial ?_
    iterate 11 (refine wpHi_cons (v := ?_) rfl (by rfl) (fun wS hwS => ?_) ?_; rotate_left 1; (focus (go_simp; try with_reducible rfl)); (try simp only [List.getElem_toArray, List.getElem_cons_zero, List.getElem_cons_succ]); (try simp only [Act.put, List.setIfInBounds_toArray, List.set_cons_zero, List.set_cons_succ]))
    refine wpHi_nil ?_
    change wpAnyH _ _ _ _ _ (7 + 3) (bagMk [3, 5, 8, 11, 13, 15, 17] (marksi [0, 1, 2, 4, 6, 7, 9, 10, 12, 14, 16] (Array.replicate 21 false)) [false, false, false, false, false, false, false]) _ _
    refine wpAnyH_bag [3, 5, 8, 11, 13, 15, 17] _ (by kernel_rfl) (fun bs a wx => ∃ U : Nat → Value, a = ⟨#[.int .i64 (n : Int), .slice A L.length cap, undef, undef, .pointer (some ⟨w.heap.size, 0, none⟩), .int .i64 0, .slice (some ⟨bx, 0, none⟩) n n, .int .i64 0, undef, undef, undef, undef, undef, .tuple #[.slice (some ⟨bx, 0, none⟩) n n, .int .i64 0], .int .i64 (n : Int), .slice A L.length cap, .tuple #[.slice (some ⟨bx, 0, none⟩) n n, .int .i64 0], .slice (some ⟨bx, 0, none⟩) n n, .int .i64 0, .int .i64 0, .bool false, undef, undef, .slice A L.length cap, .slice (some ⟨bx, 0, none⟩) n n, .int .i64 (n : Int), U 0, .int .i64 (n : Int), U 1, .int .i64 (n : Int), .slice A L.length cap, U 2, .slice A L.length cap, .int .i64 (L.length : Int), U 3, .int .i64 (n : Int), U 4, .int .i64 (n : Int), U 5, .int .i64 (n : Int), U 6, undef, undef, undef, undef, undef, undef, undef, undef, undef, undef, undef, undef, undef, undef, undef, undef, undef, undef, undef, undef, undef, undef, undef, undef, undef, undef, undef, undef, undef, undef, undef, undef, undef, undef, undef, undef, undef, undef, undef, undef, undef, undef, undef, undef, undef, undef, undef, undef, undef, undef, undef, undef, undef, undef, undef, undef, undef, undef, undef, undef, undef, undef, undef, undef, undef, undef, undef, undef, undef, undef, undef, undef, undef, undef, undef, undef, undef], []⟩ ∧ KB n L.length (fun v => nf (gfL n L) (wtL L) v L.length) w1 wx bs U) 3 ?_ ?_ 7 _ _ _ rfl rfl ?_
    · intro bs j i a w2 hl hT hb ⟨U, ha, K⟩
      subst ha
      have HKB := Lib.hid K
      clear K
      have hj : j = 0 ∨ j = 1 ∨ j = 2 ∨ j = 3 ∨ j = 4 ∨ j = 5 ∨ j = 6 := by
        have := (List.getElem?_eq_some_iff.1 hT).1
        simp at this
        omega
      rcases hj with rfl | rfl | rfl | rfl | rfl | rfl | rfl
      · have hi : i = 3 := by simpa using hT.symm
        subst hi
        refine wpOp_step rfl (fun K' hK => ?_)
        have HKK := Lib.hid hK
        have hmk := HM1.out
        clear hK
        go_simp
        exact HKK.out _ _ ⟨trivial, _, rfl, HKB.out.add (j := 0) ((Below.refl _ _).alloc (Nat.le_refl _) _) (Nat.le_refl _) (World.rowIs_made _ _ _ _)⟩
      · have hi : i = 5 := by simpa using hT.symm
        subst hi
        refine wpOp_step rfl (fun K' hK => ?_)
        have HKK := Lib.hid hK
        have hmk := HM1.out
        clear hK
        go_simp
        exact HKK.out _ _ ⟨trivial, _, rfl, HKB.out.add (j := 1) ((Below.refl _ _).alloc (Nat.le_refl _) _) (Nat.le_refl _) (World.rowIs_made _ _ _ _)⟩
      · have hi : i = 8 := by simpa using hT.symm
        subst hi
        refine wpOp_step rfl (fun K' hK => ?_)
        have HKK := Lib.hid hK
        clear hK
        go_simp
        refine (supply_any n (HH1.out.later HKB.out.bel) HK.out (by have := HE.out; omega)).mono ?_
        rintro e w3 ⟨b, rfl, hb2, R, B⟩
        exact HKK.out _ _ ⟨trivial, _, rfl, HKB.out.add (j := 2) B hb2 R⟩
      · have hi : i = 11 := by simpa using hT.symm
        subst hi
        refine wpOp_step rfl (fun K' hK => ?_)
        have HKK := Lib.hid hK
        have hmk := HM3.out
        clear hK
        go_simp
        exact HKK.out _ _ ⟨trivial, _, rfl, HKB.out.add (j := 3) ((Below.refl _ _).alloc (Nat.le_refl _) _) (Nat.le_refl _) (World.rowIs_made _ _ _ _)⟩
      · have hi : i = 13 := by simpa using hT.symm
        subst hi
        refine wpOp_step rfl (fun K' hK => ?_)
        have HKK := Lib.hid hK
        have hmk := HM2.out
        clear hK
        go_simp
        exact HKK.out _ _ ⟨trivial, _, rfl, HKB.out.add (j := 4) ((Below.refl _ _).alloc (Nat.le_refl _) _) (Nat.le_refl _) (World.rowIs_made _ _ _ _)⟩
      · have hi : i = 15 := by simpa using hT.symm
        subst hi
        refine wpOp_step rfl (fun K' hK => ?_)
        have HKK := Lib.hid hK
        have hmk := HM4.out
        clear hK
        go_simp
        exact HKK.out _ _ ⟨trivial, _, rfl, HKB.out.add (j := 5) ((Below.refl _ _).alloc (Nat.le_refl _) _) (Nat.le_refl _) (row_came _ _ _)⟩
      · have hi : i = 17 := by simpa using hT.symm
        subst hi
        refine wpOp_step rfl (fun K' hK => ?_)
        have HKK := Lib.hid hK
        have hmk := HM5.out
        clear hK
        go_simp
        exact HKK.out _ _ ⟨trivial, _, rfl, HKB.out.add (j := 6) ((Below.refl _ _).alloc (Nat.le_refl _) _) (Nat.le_refl _) (World.rowIs_made _ _ _ _)⟩
    · intro bs a wx hl hall ⟨U, ha, K⟩
      subst ha
      have hbs : bs = [true, true, true, true, true, true, true] := (List.eq_replicate_iff (n := 7)).2 ⟨by simpa using hl, fun b hb => by simpa using List.all_eq_true.1 hall b hb⟩
      subst hbs
      obtain ⟨bo, bi, bl, bf, br, bm, bc, e0, e1, e2, e3, e4, e5, e6, HMd⟩ := K.all
      have HMD := Lib.hid HMd
      clear K HMd hl hall
      refine wpAnyH_ready (rs := [18]) (by kernel_rfl) (by simp) (AllReadyH.cons rfl (fun K hK => ?_) AllReadyH.nil)
      rw [e0, e1, e2, e3, e4, e5, e6]
      clear e0 e1 e2 e3 e4 e5 e6
      go_simp
      refine hK.out _ _ trivial (fun hHeld => ?_)
      clear hK K hHeld
      refine wpAnyH_ready (rs := [19]) (by kernel_rfl) (by simp) (AllReadyH.cons rfl (fun K hK => ?_) AllReadyH.nil)
      go_simp
      refine hK.out _ _ trivial (fun hHeld => ?_)
      clear hK K hHeld
      refine wpAnyH_ready (rs := [20]) (by kernel_rfl) (by simp) (AllReadyH.cons rfl (fun K hK => ?_) AllReadyH.nil)
      go_simp
      refine hK.out _ _ trivial (fun hHeld => ?_)
      clear hK K hHeld
      refine wpAnyH_done (by kernel_rfl) (NoPanic.normal ?_) _
      go_wp2_with fail
      go_meet
      exact ⟨_, bo, bi, bl, bf, br, bm, bc, rfl, HMD.out _ _ _⟩
    · refine ⟨fun _ => undef, rfl, (Below.refl _ _).drew, fun j h => ?_, fun j k _ h => ?_⟩ <;> (rcases j with _ | _ | _ | _ | _ | _ | _ | j <;> simp at h)
  obtain ⟨sb, bo, bi, bl, bf, br, bm, bc, rfl, HMd⟩ := hcut
  have HMD := Lib.hid HMd
  clear HMd
  go_wp2_with fail
  obtain ⟨wM, rfl⟩ : ∃ q : World, q = wc := ⟨_, rfl⟩
  obtain ⟨i0, hi0, hz0, hz1, hz2⟩ := info_parts info_int
  go_loopw [45] (fun q wr => ∃ (j : Nat) (VV : Nat → Value), j ≤ L.length ∧ q = .int .i64 (j : Int) ∧ Pt n L wM bo bi j wr VV) (fun q _ => L.length - (intOf q).toNat)
  case atStart => exact ⟨0, _, by omega, rfl, Pt.begin HMD.out⟩
  case round =>
    obtain ⟨j, VV, hj, rfl, HPj⟩ := hrel
    obtain ⟨wo, rfl⟩ : ∃ q : World, q = wr := ⟨_, rfl⟩
    by_cases hjl : j < L.length
    · have hd : decide ((j : Int) < L.length) = true := by simp; omega
      obtain ⟨ba, off, rfl, hc⟩ := HA.out (by omega)
      obtain ⟨hat0, hf, ht, -⟩ := HK.out.at_ hjl
      obtain ⟨c0', c1', c2'⟩ := hc j _ hat0
      have hM := HMD.out
      have hsM := hM.bel.size
      have hge := hM.ge
      have lo := hM.o.lt
      have li := hM.i.lt
      have ls : sb < wM.heap.size := (Array.getElem?_eq_some_iff.1 hM.top).1
      obtain ⟨n1, n2, n3, n4, hoi, hso, hsi⟩ := nodup_get hM.nd hM.ge (HRX.out.lt)
      have hba : ba < w1.heap.size := Nat.lt_of_lt_of_le (World.block_lt_of_cell? _ _ c0') (by have := HB1.out.size; omega)
      have go := hge bo (by simp)
      have gi := hge bi (by simp)
      have hnb : ¬ (ba = bo ∨ ba = bi) := by omega
      have c0 := cell_chg HPj.chg (cell_later hM.bel (cell_later HB1.out c0')) hnb
      have c1 := cell_chg HPj.chg (cell_later hM.bel (cell_later HB1.out c1')) hnb
      have c2 := cell_chg HPj.chg (cell_later hM.bel (cell_later HB1.out c2')) hnb
      have ts := (HPj.chg.block sb ls (by omega)).trans hM.top
      have hnl1 := rws_len n L j (frL L j)
      have hnl2 := rws_len n L j (n + ttL L j)
      have hft : frL L j ≠ n + ttL L j := by omega
      obtain ⟨f, hff⟩ : ∃ f, frL L j = f := ⟨_, rfl⟩
      obtain ⟨t, htt⟩ : ∃ t, ttL L j = t := ⟨_, rfl⟩
      obtain ⟨x, hxx⟩ : ∃ x, wtL L j = x := ⟨_, rfl⟩
      rw [hff] at hf c0 hnl1 hft
      rw [htt] at ht c1 hnl2 hft
      rw [hxx] at c2
      have HF := Lib.hid hff
      have HT := Lib.hid htt
      try simp only at c0
      try simp only at c1
      try simp only at c2
      clear c0' c1' c2' hc hat0 hff htt hxx n1 n2 n3 n4 hge hM
      obtain ⟨wA, hwA⟩ : ∃ wA, wo.alloc (.cells #[.int .i64 (f : Nat), .int .i64 (t : Nat), .int .i64 x] 40) = wA := ⟨_, rfl⟩
      have BA : Below wo.heap.size wo wA := by rw [← hwA]; exact (Below.refl _ _).alloc (Nat.le_refl _) _
      have hG : wA.heap[wo.heap.size]? = some (.cells #[.int .i64 (f : Nat), .int .i64 (t : Nat), .int .i64 x] 40) := by rw [← hwA]; exact heap_at rfl
      have g0 : wA.cell? ⟨wo.heap.size, 0, none⟩ = some (.int .i64 (f : Nat)) := (Cl.of_block hG (j := 0) rfl).cell
      have g1 : wA.cell? ⟨wo.heap.size, 1, none⟩ = some (.int .i64 (t : Nat)) := (Cl.of_block hG (j := 1) rfl).cell
      have ts2 := (BA.block sb (by have := HPj.chg.size; omega)).trans ts
      have s1 : wA.cell? ⟨sb, 1, none⟩ = some (.slice (some ⟨bo, 0, none⟩) n n) := (Cl.of_block ts2 (j := 1) rfl).cell
      have s2 : wA.cell? ⟨sb, 2, none⟩ = some (.slice (some ⟨bi, 0, none⟩) n n) := (Cl.of_block ts2 (j := 2) rfl).cell
      have PA := HPj.later BA
      obtain ⟨AV1, cV1, hV1, -⟩ := own_shape (PA.rs.rows f (by omega))
      obtain ⟨AV2, cV2, hV2, -⟩ := own_shape (PA.rs.rows (n + t) (by omega))
      have r0 := PA.o.cell hf
      have r1 := PA.i.cell ht
      try simp only at hV1
      try simp only at hV2
      try simp only at r1
      rw [hV1] at r0
      rw [hV2] at r1
      have HPA := Lib.hid PA
      have HO1 : Hid (∀ g, (VV f).ownBlock = some g → wM.heap.size ≤ g ∧ g < wo.heap.size) := Lib.hid (fun g hg => (HPj.rs.rows f (by omega)).lt g hg)
      have HO2 : Hid (∀ g, (VV (n + t)).ownBlock = some g → wM.heap.size ≤ g ∧ g < wo.heap.size) := Lib.hid (fun g hg => (HPj.rs.rows (n + t) (by omega)).lt g hg)
      have HV1 := Lib.hid hV1
      have HV2 := Lib.hid hV2
      have HBA := Lib.hid BA
      have hwo : wM.heap.size ≤ wo.heap.size := HPj.chg.size
      have i1 : (0 : Int) ≤ (j : Int) := by omega
      have i2 : (j : Int) < (L.length : Int) := by omega
      have i3 : (0 : Int) ≤ (f : Int) := by omega
      have i4 : (f : Int) < (n : Int) := by omega
      have i5 : (0 : Int) ≤ (t : Int) := by omega
      have i6 : (t : Int) < (n : Int) := by omega
      clear hG BA PA hV1 hV2 HPj ts ts2
      go_upto_region 8 with fail
      clear hwA c0 c1 c2
      have HSIX : Hid (Six wo.heap.size sb bo bi f t n (.slice AV1 (rws n L j f).length cV1) (.slice AV2 (rws n L j (n + t)).length cV2) wA) := Lib.hid ⟨⟨g0, g1, s1, s2⟩, r0, r1⟩
      clear g0 g1 s1 s2 r0 r1
      refine wp_region_headsV [(0, true), (1, true), (2, true), (3, true), (4, true), (5, true), (6, true), (7, true), (8, true), (9, true), (10, false), (11, false), (12, true), (13, true), (14, true), (15, true), (16, true), (17, true), (18, true), (19, true), (20, true), (23, true), (24, true), (25, true), (26, true), (27, true), (28, true), (29, true), (30, true), (31, true)] [35, 37] (SixA wo.heap.size sb bo bi f t n) (SixS bo bi f t (.slice AV1 (rws n L j f).length cV1) (.slice AV2 (rws n L j (n + t)).length cV2)) (by kernel_rfl) (by kernel_rfl) HSIX.out.a HSIX.out.s ?_
      iterate 30 (refine wpHv_cons (v := ?_) rfl (by rfl) (fun wS hwS => ?_) ?_; rotate_left 1; (focus (have hwA := And.left hwS; (try have hwT := And.right hwS rfl); clear hwS; (try dsimp only [SixA] at hwA); (try dsimp only [SixS] at hwT); go_simp; try with_reducible rfl)); (try simp only [List.getElem_toArray, List.getElem_cons_zero, List.getElem_cons_succ]); (try simp only [Act.put, List.setIfInBounds_toArray, List.set_cons_zero, List.set_cons_succ]))
      refine wpHv_nil ?_
      change wpV _ _ _ _ _ _ _ (4 + 4) (bagMk [21, 22, 32, 33] (marksi [0, 1, 2, 3, 4, 5, 6, 7, 8, 9, 10, 11, 12, 13, 14, 15, 16, 17, 18, 19, 20, 23, 24, 25, 26, 27, 28, 29, 30, 31] (Array.replicate 38 false)) [false, false, false, false]) _ _
      refine wpV_bagp [21, 22, 32, 33] _ rcB (by kernel_rfl) (fun bs a wx => ∃ U : Nat → Value, a = ⟨#[.int .i64 (n : Int), .slice (some ⟨ba, off, none⟩) L.length cap, undef, undef, .pointer (some ⟨w.heap.size, 0, none⟩), .int .i64 0, .slice (some ⟨bx, 0, none⟩) n n, .int .i64 0, .pointer (some ⟨sb, 0, none⟩), .int .i64 (j : Int), .pointer (some ⟨wo.heap.size, 0, none⟩), undef, undef, u13, u14, u15, u16, u17, u18, u19, u20, u21, u22, u23, u24, u25, u26, u27, u28, u29, u30, u31, u32, u33, u34, u35, u36, u37, u38, u39, u40, u41, u42, .slice (some ⟨ba, off, none⟩) L.length cap, .int .i64 (L.length : Int), .int .i64 (j : Int), .bool true, .int .i64 (j : Int), .pointer (some ⟨ba, off + j * 3, none⟩), .agg #[.int .i64 (f : Int), .int .i64 (t : Int), .int .i64 x], .pointer (some ⟨sb, 0, none⟩), .pointer (some ⟨sb, 0, none⟩), .pointer (some ⟨sb, 1, none⟩), .slice (some ⟨bo, 0, none⟩) n n, .pointer (some ⟨wo.heap.size, 0, none⟩), .int .i64 (f : Int), .pointer (some ⟨sb, 0, none⟩), .pointer (some ⟨sb, 0, none⟩), .pointer (some ⟨sb, 2, none⟩), .slice (some ⟨bi, 0, none⟩) n n, .pointer (some ⟨wo.heap.size, 1, none⟩), .int .i64 (t : Int), .pointer (some ⟨sb, 0, none⟩), .pointer (some ⟨sb, 0, none⟩), .pointer (some ⟨sb, 1, none⟩), .slice (some ⟨bo, 0, none⟩) n n, .pointer (some ⟨wo.heap.size, 0, none⟩), .int .i64 (f : Int), .pointer (some ⟨bo, f, none⟩), .slice AV1 (rws n L j f).length cV1, .int .i64 (j : Int), U 0, U 1, .pointer (some ⟨sb, 0, none⟩), .pointer (some ⟨sb, 0, none⟩), .pointer (some ⟨sb, 2, none⟩), .slice (some ⟨bi, 0, none⟩) n n, .pointer (some ⟨wo.heap.size, 1, none⟩), .int .i64 (t : Int), .pointer (some ⟨bi, t, none⟩), .slice AV2 (rws n L j (n + t)).length cV2, .int .i64 (j : Int), U 2, U 3, u84, u85, u86, u87, u88, u89, u90, u91, u92, u93, u94, u95, u96, u97, u98, u99, u100, u101, u102, u103, u104, u105, u106, u107, u108, u109, u110, u111, u112, u113, u114, u115, u116, u117], []⟩ ∧ JB n L wM.heap.size j f (n + t) wA VV bs U wx ∧ Six wo.heap.size sb bo bi f t n (.slice AV1 (rws n L j f).length cV1) (.slice AV2 (rws n L j (n + t)).length cV2) wx) 4 (fun bs a wx ⟨U, _, h, _⟩ => h.rc) ?_ ?_ 4 _ _ _ rfl rfl ⟨fun k => if k = 0 then u71 else if k = 1 then u72 else if k = 2 then u82 else u83, rfl, JB.begin HPA.out _, HSIX.out.later (Below.refl _ _).drew⟩
      · intro bs k i a w2 hl hT hb hrdy ⟨U, ha, K, hsix⟩
        subst ha
        have HJB := Lib.hid K
        have HSX := Lib.hid hsix
        have hlo := K.lo
        have hbs := K.be.size
        have hrc := K.rc
        clear K hsix
        have hk : k = 0 ∨ k = 1 ∨ k = 2 ∨ k = 3 := by
          have := (List.getElem?_eq_some_iff.1 hT).1
          simp at this
          omega
        have hbl : bs.length = 4 := by simpa using hl
        rcases hk with rfl | rfl | rfl | rfl
        · have hi : i = 21 := by simpa using hT.symm
          subst hi
          clear hrdy
          refine wpOp_step rfl (fun K' hK => ?_)
          have HKK := Lib.hid hK
          clear hK
          go_simp
          have B : Below w2.heap.size w2 (w2.alloc (.cells #[.int .i64 (j : Int)] 3)) := (Below.refl _ _).alloc (Nat.le_refl _) _
          have S' := HSX.out.later B
          exact HKK.out _ _ ⟨⟨S'.a, fun _ _ => S'.s⟩, _, rfl, HJB.out.lay (k := 0) (.inl rfl) hb B (Nat.le_refl _) (heap_alloc_new _ _), S'⟩
        · have hi : i = 22 := by simpa using hT.symm
          subst hi
          have hb0 : bs[0]? = some true := bag_dep (T := [21, 22, 32, 33]) (j' := 0) (by kernel_rfl) hl hrc hrdy
          clear hrdy
          obtain ⟨e, hU, he1, he2, he3⟩ := HJB.out.p 0 (.inl rfl) hb0
          have hrow := HJB.out.row1 (by omega) hb
          refine wpOp_step rfl (fun K' hK => ?_)
          have HKK := Lib.hid hK
          clear hK
          refine step_append_lies _ (by rfl) (.tmp 69) (.tmp 71) 29 (by rfl) wM.heap.size 3 i0 (.int .i64 0) 1 8 Tryz.underlying29 hi0 hz0 hz1 hz2 rfl (by decide) (VV f) (rws n L j f).length (flat encN (rws n L j f)) (HV1.out.symm) hrow ⟨e, 0, none⟩ 1 1 (encN j) hU rfl (World.news_of_block he3) (by intro u hu; simp [encN] at hu; subst hu; rfl) (by omega) (by simp only [maxLen]; omega) (by omega) (by omega) _ rfl ?_
          intro q cq w3 hown hgrow hat hlt
          have S' := HSX.out.grown hgrow (fun g hg => by have := HO1.out g hg; omega)
          exact HKK.out _ _ ⟨⟨S'.a, fun _ _ => S'.s⟩, _, rfl, HJB.out.put1 hf hb0 hb (fun g hg => by have := HO1.out g hg; have := HBA.out.size; omega) hown hgrow (hat.imp id (fun e => by omega)) (fun g hg => (HO1.out g hg).1), S'⟩
        · have hi : i = 32 := by simpa using hT.symm
          subst hi
          clear hrdy
          refine wpOp_step rfl (fun K' hK => ?_)
          have HKK := Lib.hid hK
          clear hK
          go_simp
          have B : Below w2.heap.size w2 (w2.alloc (.cells #[.int .i64 (j : Int)] 3)) := (Below.refl _ _).alloc (Nat.le_refl _) _
          have S' := HSX.out.later B
          exact HKK.out _ _ ⟨⟨S'.a, fun _ _ => S'.s⟩, _, rfl, HJB.out.lay (k := 2) (.inr rfl) hb B (Nat.le_refl _) (heap_alloc_new _ _), S'⟩
        · have hi : i = 33 := by simpa using hT.symm
          subst hi
          have hb1 : bs[1]? = some true := bag_dep (T := [21, 22, 32, 33]) (j' := 1) (by kernel_rfl) hl hrc hrdy
          have hb2 : bs[2]? = some true := bag_dep (T := [21, 22, 32, 33]) (j' := 2) (by kernel_rfl) hl hrc hrdy
          clear hrdy
          obtain ⟨e, hU, he1, he2, he3⟩ := HJB.out.p 2 (.inr rfl) hb2
          have hrow := HJB.out.row3 (by omega) hft hb1 hb
          refine wpOp_step rfl (fun K' hK => ?_)
          have HKK := Lib.hid hK
          clear hK
          refine step_append_lies _ (by rfl) (.tmp 80) (.tmp 82) 29 (by rfl) wM.heap.size 3 i0 (.int .i64 0) 1 8 Tryz.underlying29 hi0 hz0 hz1 hz2 rfl (by decide) (VV (n + t)) (rws n L j (n + t)).length (flat encN (rws n L j (n + t))) (HV2.out.symm) hrow ⟨e, 0, none⟩ 1 1 (encN j) hU rfl (World.news_of_block he3) (by intro u hu; simp [encN] at hu; subst hu; rfl) (by omega) (by simp only [maxLen]; omega) (by omega) (by omega) _ rfl ?_
          intro q cq w3 hown hgrow hat hlt
          have S' := HSX.out.grown hgrow (fun g hg => by have := HO2.out g hg; omega)
          exact HKK.out _ _ ⟨⟨S'.a, fun _ _ => S'.s⟩, _, rfl, HJB.out.put3 (by omega) hft hb1 hb2 hb (fun g hg => by have := HO2.out g hg; have := HBA.out.size; omega) hown hgrow (hat.imp id (fun e => by omega)) (fun g hg => (HO2.out g hg).1), S'⟩
      · intro bs a wx hl hall ⟨U, ha, K, hsix⟩
        subst ha
        have hbs : bs = [true, true, true, true] := (List.eq_replicate_iff (n := 4)).2 ⟨by simpa using hl, fun b hb => by simpa using List.all_eq_true.1 hall b hb⟩
        subst hbs
        obtain ⟨q1, c1, q2, c2, e1, e2, r⟩ := K.all
        have HR := Lib.hid r
        have HBE := Lib.hid K.be
        have RO := HPA.out.o.of_block (K.be.block bo lo)
        have RI := HPA.out.i.of_block (K.be.block bi li)
        have sA := hsix.a
        have sS := hsix.s
        have k1 := RO.cell hf
        have k2 := RO.frozen f
        obtain ⟨wy, hwy⟩ : ∃ wy, wx.setCell ⟨bo, f, none⟩ (.slice (some ⟨q1, 0, none⟩) ((rws n L j f).length + 1) c1) = wy := ⟨_, rfl⟩
        have RI2 := row_set_ne RI (p := ⟨bo, f, none⟩) (v := .slice (some ⟨q1, 0, none⟩) ((rws n L j f).length + 1) c1) (Ne.symm hoi)
        rw [hwy] at RI2
        have k3 := RI2.cell ht
        have k4 := RI2.frozen t
        have lz := World.block_lt_of_cell? _ _ sA.1
        have lsb := World.block_lt_of_cell? _ _ sA.2.2.1
        have sA2 : SixA wo.heap.size sb bo bi f t n wy := by
          rw [← hwy]
          exact sA.of ((chg_set wx ⟨bo, f, none⟩ _).block _ lz (fun e : wo.heap.size = bo => by omega)) ((chg_set wx ⟨bo, f, none⟩ _).block _ lsb (fun e : sb = bo => by omega))
        obtain ⟨wz, hwz⟩ : ∃ wz, wy.setCell ⟨bi, t, none⟩ (.slice (some ⟨q2, 0, none⟩) ((rws n L j (n + t)).length + 1) c2) = wz := ⟨_, rfl⟩
        have sA3 : SixA wo.heap.size sb bo bi f t n wz := by
          rw [← hwz]
          exact sA2.of ((chg_set wy ⟨bi, t, none⟩ _).block _ (World.block_lt_of_cell? _ _ sA2.1) (fun e : wo.heap.size = bi => by omega)) ((chg_set wy ⟨bi, t, none⟩ _).block _ (World.block_lt_of_cell? _ _ sA2.2.2.1) (fun e : sb = bi => by omega))
        have HWY := Lib.hid hwy
        have HWZ := Lib.hid hwz
        have HSA := Lib.hid sA
        have HSS := Lib.hid sS
        have HSA2 := Lib.hid sA2
        have HSA3 := Lib.hid sA3
        clear K hsix r sA sS sA2 sA3 hl hall RO RI RI2 hwz
        rw [e1, e2]
        clear e1 e2
        refine wpV_one (k := 34) (by kernel_rfl) rfl (fun K hK => ?_)
        go_simp
        refine hK.out _ _ ⟨HSA.out, fun _ h => h⟩ ?_
        clear hK K
        refine wpV_one (k := 35) (by kernel_rfl) rfl (fun K hK => ?_)
        go_simp
        refine hK.out _ _ ⟨HSA2.out, fun h => absurd (by simp) h⟩ ?_
        clear hK K k1 k2 hwy
        refine wpV_one (k := 36) (by kernel_rfl) rfl (fun K hK => ?_)
        go_simp
        refine hK.out _ _ ⟨HSA2.out, fun _ h => h⟩ ?_
        clear hK K
        refine wpV_one (k := 37) (by kernel_rfl) rfl (fun K hK => ?_)
        go_simp
        rw [HWZ.out]
        refine hK.out _ _ ⟨HSA3.out, fun h => absurd (by simp) h⟩ ?_
        clear hK K k3 k4
        refine wpV_done (by kernel_rfl) (NoPanic.normal ?_)
        go_wp2_with fail
        have hP : Pt n L wM bo bi (j + 1) wz (upd (upd VV f (.slice (some ⟨q1, 0, none⟩) ((rws n L j f).length + 1) c1)) (n + t) (.slice (some ⟨q2, 0, none⟩) ((rws n L j (n + t)).length + 1) c2)) := by
          have ef := HF.out
          have et := HT.out
          have ew := HWZ.out
          have ey := HWY.out
          subst ef
          subst et
          rw [← ew, ← ey]
          exact Pt.next HPA.out hoi lo li hf HBE.out HR.out
        exact ⟨⟨j + 1, _, by omega, by go_num, hP⟩, by simp [intOf]; omega⟩
    · obtain rfl : j = L.length := by omega
      have hd : decide ((L.length : Int) < L.length) = false := by simp
      have HP := Lib.hid HPj
      clear HPj
      have hAA : 0 < L.length → ∃ b off, A = some ⟨b, off, none⟩ ∧ b < bx ∧ ∀ i a, L[i]? = some a → w1.cell? ⟨b, off + i * 3, none⟩ = some (.int .i64 a.1) ∧ w1.cell? ⟨b, off + i * 3 + 1, none⟩ = some (.int .i64 a.2.1) ∧ w1.cell? ⟨b, off + i * 3 + 2, none⟩ = some (.int .i64 a.2.2) := fun hl => by
        obtain ⟨b, off, e, hc⟩ := HA.out hl
        refine ⟨b, off, e, ?_, fun i a hi => ?_⟩
        · have h1 := World.block_lt_of_cell? _ _ (hc 0 _ (List.getElem?_eq_getElem hl)).1
          have h2 := HBR.out.size
          have h3 : b < w.heap.size := h1
          omega
        · obtain ⟨h1, h2, h3⟩ := hc i a hi
          exact ⟨cell_later HB1.out h1, cell_later HB1.out h2, cell_later HB1.out h3⟩
      obtain ⟨hok, hst⟩ := Pt.done HK.out HMD.out HP.out HRX.out hAA
      have hbg := Rnd.begin hok hst HX0.out HX1.out
      clear hst hAA
      go_wp2_with fail
      have hMd := HMD.out
      have hge := hMd.ge
      have g1 := hge bo (by simp)
      have g2 := hge bi (by simp)
      have hPc := HP.out.chg
      have hrc2 : wo.heap[w.heap.size]? = some (.cells #[.slice none 0 0, .slice none 0 0, .int .i64 0] 31) := (hPc.block _ (by have := hMd.bel.size; omega) (by omega)).trans ((hMd.bel.block _ (by omega)).trans HRC1.out)
      have hwo2 : Below w.heap.size w wo := (HB1.out.trans (hMd.bel.mono HB1.out.size)).trans (hPc.below (by have := hMd.bel.size; omega) (fun b hb => by omega))
      have hgs : ∀ b, (b = bl ∨ b = bf ∨ b = bx ∨ b = br ∨ b = bm ∨ b = bc) → w.heap.size + 1 ≤ b := fun b hb => by
        rcases hb with rfl | rfl | rfl | rfl | rfl | rfl
        · have := hge b (by simp); omega
        · have := hge b (by simp); omega
        · omega
        · have := hge b (by simp); omega
        · have := hge b (by simp); omega
        · have := hge b (by simp); omega
      have HRC2 := Lib.hid hrc2
      have HWO := Lib.hid hwo2
      clear hMd hge g1 g2 hPc hrc2 hwo2
      obtain ⟨s, hs, esb, en, eL, ebr, ebx, ebf, ebo, ebm, ebc⟩ : ∃ s, svOf n L A cap sb bo bi bl bf bx br bm bc wM.heap.size wo.heap.size = s ∧ s.sb = sb ∧ s.n = n ∧ s.L = L ∧ s.br = br ∧ s.bx = bx ∧ s.bf = bf ∧ s.bl = bl ∧ s.bm = bm ∧ s.bc = bc := ⟨_, rfl, rfl, rfl, rfl, rfl, rfl, rfl, rfl, rfl, rfl⟩
      rw [hs] at hok hbg
      subst ebm
      subst ebc
      subst esb
      subst en
      subst eL
      subst ebr
      subst ebx
      subst ebf
      subst ebo
      obtain ⟨hR, hS0⟩ := hbg
      obtain ⟨S0, hSe⟩ : ∃ S0, spN (fun v => nf s.G (wtL s.L) v s.L.length) s.n = S0 := ⟨_, rfl⟩
      rw [hSe] at hR hS0
      have HOK := Lib.hid hok
      have HRN := Lib.hid hR
      have HSV := Lib.hid hs
      have HGS := Lib.hid hgs
      clear hgs
      obtain ⟨far0, came0, cl0, hst0⟩ := hR.st
      have hbd := hR.bounds hn1 hS0
      refine (search_any hst0 hok hR.P hbd.2.1 hR.pos).mono ?_
      clear hst0 hok hR hbd hs far0 came0 cl0
      rintro e wr ⟨far, came, cl, hst, c1, hcase⟩
      have hstand : ∃ q, e = .returned q ∧ Stand s wo S0 (.int .i64 (0 : Int)) q wr := by
        rcases hcase with ⟨z, ord, D, e1, F⟩ | ⟨e1, F⟩
        · exact ⟨_, e1, 0, _, _, _, far, came, cl, wo, rfl, HRN.out, hst, c1, .inl ⟨z, ord, D, rfl, F⟩⟩
        · exact ⟨_, e1, 0, _, _, _, far, came, cl, wo, rfl, HRN.out, hst, c1, .inr ⟨rfl, F⟩⟩
      clear hst c1 hcase far came cl
      obtain ⟨q, rfl, hstand⟩ := hstand
      have HST := Lib.hid hstand
      clear hstand
      go_wp2_with fail
      obtain ⟨M, hM⟩ : ∃ M : Nat, (M : Int) = 20000000000 := ⟨20000000000, rfl⟩
      go_loopw [11, 12] (fun p q wr => Stand s wo S0 p q wr) (fun p _ _ => M - (intOf p).toNat)
      case atStart => exact HST.out
      case round =>
        clear HST
        obtain ⟨ways, left, fl, x, far, came, cl, wq, rfl, hR, hst, c1, hcase⟩ := hrel
        obtain ⟨wy, rfl⟩ : ∃ q : World, q = wr := ⟨_, rfl⟩
        have hbd := hR.bounds hn1 hS0
        have HRd := Lib.hid hR
        have HSt := Lib.hid hst
        have HC1 := Lib.hid c1
        have HBd := Lib.hid hbd
        have hw1 := hbd.1
        rcases hcase with ⟨z, ord, D, rfl, F⟩ | ⟨rfl, F⟩
        · have HF := Lib.hid F
          obtain ⟨-, -, -, -, -, -, d6, -, -⟩ := hst.ro.cells
          have dz := hst.far.cell F.toN
          have hD : far z = D := F.fto
          rw [hD] at dz
          have i1 : (0 : Int) ≤ (z : Int) := by omega
          have i2 : (z : Int) < (s.n : Int) := by have : z < s.n := F.toN; omega
          have hne : ¬ ((z : Int) = -1) := by omega
          have hD1 : 0 ≤ D ∧ D ≤ 1000000 := by
            have h1 := (F.fcl z F.toO)
            have h2 := F.dn
            have h3 := hR.xup z F.toN
            have h4 : s.G.n = s.n := rfl
            omega
          have hcl : ∀ v, v < s.n → cl v = true → 0 ≤ far v ∧ far v ≤ D := fun v hv h => F.fcl v ((F.cli v hv).1 h)
          have HTR := Lib.hid (turn_any D hst HOK.out hbd.2.1 hD1 hcl)
          clear hR hst c1 hbd F hD hD1 hcl
          go_wp2_with fail
          refine HTR.out.mono ?_
          rintro e w2 ⟨rfl, st2, c2⟩
          have HPU := Lib.hid (push_any z (wtL s.L) st2 HOK.out HF.out.path HF.out.toO HF.out.neg HBd.out.2.2.1 HBd.out.2.2.2 HRd.out.bal)
          have HC2 := Lib.hid c2
          clear st2 c2 HTR
          go_wp2_with fail
          refine HPU.out.mono ?_
          rintro e w3 ⟨rfl, N, v0, g, Q⟩
          have HR2 := Lib.hid (HRd.out.next hn1 HC1.out HF.out HC2.out Q)
          clear Q HPU
          have hw2 : (ways : Int) + 1 ≤ 20000000000 := by have := (HR2.out.bounds hn1 hS0).1; omega
          have hw3 : ways + 1 ≤ M := by omega
          go_wp2_with fail
          obtain ⟨far1, came1, cl1, st3⟩ := HR2.out.st
          refine (search_any st3 HOK.out HR2.out.P (HR2.out.bounds hn1 hS0).2.1 HR2.out.pos).mono ?_
          clear st3 far1 came1 cl1
          rintro e w4 ⟨far4, came4, cl4, hst4, c4, hcase⟩
          have hstand : ∃ q, e = .returned q ∧ Stand s wo S0 (.int .i64 ((ways : Int) + 1)) q w4 := by
            rcases hcase with ⟨z', ord', D', e1, F'⟩ | ⟨e1, F'⟩
            · exact ⟨_, e1, ways + 1, _, _, _, far4, came4, cl4, w3, by simp, HR2.out, hst4, c4, .inl ⟨z', ord', D', rfl, F'⟩⟩
            · exact ⟨_, e1, ways + 1, _, _, _, far4, came4, cl4, w3, by simp, HR2.out, hst4, c4, .inr ⟨rfl, F'⟩⟩
          clear hst4 c4 hcase far4 came4 cl4
          obtain ⟨q, rfl, hstand⟩ := hstand
          have HST2 := Lib.hid hstand
          clear hstand
          go_wp2_with fail
          refine ⟨HST2.out, ?_⟩
          clear hw2 hM
          simp [intOf]
          omega
        · have HF := Lib.hid F
          clear hR hst c1 hbd F
          go_wp2_with fail
          obtain ⟨-, -, -, -, d4, d5, -, -, -⟩ := HSt.out.ro.cells
          refine wp_region_headsV [(0, true), (1, true), (2, true), (3, true), (5, true), (6, true), (7, true), (8, true), (9, true)] [11] (fun _ => True) (fun w' => w'.cell? ⟨s.sb, 5, none⟩ = some (.slice (some ⟨s.bx, 0, none⟩) s.n s.n) ∧ w'.cell? ⟨s.sb, 4, none⟩ = some (.slice (some ⟨s.bf, 0, none⟩) s.L.length s.L.length)) (by kernel_rfl) (by kernel_rfl) trivial ⟨d5, d4⟩ ?_
          iterate 9 (refine wpHv_cons (v := ?_) rfl (by rfl) (fun wS hwS => ?_) ?_; rotate_left 1; (focus (have hwT := And.right hwS rfl; clear hwS; (try dsimp only at hwT); go_simp; try with_reducible rfl)); (try simp only [List.getElem_toArray, List.getElem_cons_zero, List.getElem_cons_succ]); (try simp only [Act.put, List.setIfInBounds_toArray, List.set_cons_zero, List.set_cons_succ]))
          refine wpHv_nil ?_
          change wpV _ _ _ _ _ _ _ 4 _ _ _
          clear d4 d5
          have BD : Below wy.heap.size wy wy.drew := (Below.refl _ _).drew
          have hst := HSt.out.later BD
          have hchg : Chg (fun b => b = s.bl ∨ b = s.bf ∨ b = s.bx ∨ b = s.br ∨ b = s.bm ∨ b = s.bc) wo wy := HRd.out.ch.trans HC1.out (fun b _ h => .inr (.inr (.inr h)))
          have hlo : w.heap.size < wo.heap.size := (Array.getElem?_eq_some_iff.1 HRC2.out).1
          have hrcy : wy.heap[w.heap.size]? = some (.cells #[.slice none 0 0, .slice none 0 0, .int .i64 0] 31) := (hchg.block _ hlo (fun hb => by have := HGS.out _ hb; omega)).trans HRC2.out
          have hby : Below w.heap.size w wy := HWO.out.trans (hchg.below (by omega) (fun b hb => by have := HGS.out b hb; omega))
          have hsol := HRd.out
          rw [← hSe] at hsol
          have hsol := hsol.sol HOK.out (by rw [hSe]; exact hS0) HF.out
          have hfl := Ints.of_row (Nat.le_refl _) hst.fl
          have HSOL := Lib.hid hsol
          have HX := Lib.hid (Ints.of_row (Nat.le_refl _) hst.x)
          have HFL := Lib.hid hfl
          have HRCY := Lib.hid hrcy
          have HBY := Lib.hid (hby.trans (BD.mono hby.size))
          have hlt2 : w.heap.size < wy.drew.heap.size := by have := hchg.size; have := BD.size; omega
          clear hst hchg hrcy hby hsol hfl BD
          have hrd : wy.drew.heap[w.heap.size]? = wy.heap[w.heap.size]? := rfl
          have HRD := Lib.hid (hrd.trans HRCY.out)
          clear hrd
          generalize hwd : wy.drew = wd at *
          clear hwd
          refine wpV_one (k := 4) (by kernel_rfl) rfl (fun K hK => ?_)
          go_simp
          refine (ranks_row HX.out (by simp; omega)).mono ?_
          obtain ⟨xs, hxs⟩ : ∃ xs, ((List.range s.n).map x).map (rkOf ((List.range s.n).map x)) = xs := ⟨_, rfl⟩
          rw [hxs]
          have HXS := Lib.hid hxs
          have hxl : ((List.range s.n).map x).length = s.n := by simp
          rw [hxl]
          clear hxs hxl
          rintro e w5 ⟨b5, rfl, hb5, IX, B5⟩
          have hr5 : w5.heap[w.heap.size]? = some (.cells #[.slice none 0 0, .slice none 0 0, .int .i64 0] 31) := (B5.block _ hlt2).trans HRD.out
          have HR5 := Lib.hid hr5
          have HIX := Lib.hid IX
          have HB5 := Lib.hid B5
          have HBW5 := Lib.hid (HBY.out.trans (B5.mono HBY.out.size))
          clear IX B5 hr5
          go_simp
          refine hK.out _ _ ⟨trivial, fun _ h => ⟨cell_later HB5.out h.1, cell_later HB5.out h.2⟩⟩ ?_
          clear hK K
          refine wpV_one (k := 10) (by kernel_rfl) rfl (fun K hK => ?_)
          go_simp
          refine hK.out _ _ ⟨trivial, fun _ h => h⟩ ?_
          clear hK K
          have p0 := (Cl.of_block HR5.out (j := 0) rfl)
          have p1 := (Cl.of_block HR5.out (j := 1) rfl)
          have p2 := (Cl.of_block HR5.out (j := 2) rfl)
          have q0 := p0.cell
          have q1 := p1.cell
          have q2 := p2.cell
          have r0 := p0.free
          have r1 := p1.free
          have r2 := p2.free
          clear p0 p1 p2
          refine wpV_one (k := 11) (by kernel_rfl) rfl (fun K hK => ?_)
          go_simp
          refine hK.out _ _ ⟨trivial, fun h => absurd (by simp) h⟩ ?_
          clear hK K
          refine wpV_one (k := 12) (by kernel_rfl) rfl (fun K hK => ?_)
          go_simp
          refine hK.out _ _ ⟨trivial, fun _ h => h⟩ ?_
          clear hK K
          refine wpV_done (by kernel_rfl) (NoPanic.normal ?_)
          go_wp2_with fail
          have hne : ∀ u v1 v2 v3, w5.cell? u = some v1 → u.block ≠ w.heap.size → (((w5.setCell ⟨w.heap.size, 0, none⟩ v2).setCell ⟨w.heap.size, 1, none⟩ v3).setCell ⟨w.heap.size, 2, none⟩ (.int .i64 (ways : Int))).cell? u = some v1 := fun u v1 v2 v3 h hn =>
            cell_chg (chg_set _ ⟨w.heap.size, 2, none⟩ _) (cell_chg (chg_set _ ⟨w.heap.size, 1, none⟩ _) (cell_chg (chg_set _ ⟨w.heap.size, 0, none⟩ _) h hn) hn) hn
          have HNE := Lib.hid hne
          clear hne
          refine bodyPost_ret (v := .tuple #[.agg #[.slice (some ⟨b5, 0, none⟩) s.n s.n, .slice (some ⟨s.bf, 0, none⟩) s.L.length s.L.length, .int .i64 (ways : Int)], .int .i64 0]) ?_ rfl ?_
          · rw [results_cell_tmp rfl]
            go_simp
          · refine ⟨_, _, xs, (List.range s.L.length).map fl, ways, rfl, ?_, ?_, ?_, ?_⟩
            · exact HIX.out.at_block (fun off v h => HNE.out _ _ _ _ h (by show b5 ≠ _; omega))
            · have h := HFL.out.later HB5.out
              exact h.at_block (fun off v h => HNE.out _ _ _ _ h (by show s.bf ≠ _; have := HGS.out s.bf (by simp); omega))
            · have h := HSOL.out
              rw [HXS.out] at h
              exact h
            · exact ((HBW5.out.setCell (p := ⟨w.heap.size, 0, none⟩) (Nat.le_refl _) _).setCell (p := ⟨w.heap.size, 1, none⟩) (Nat.le_refl _) _).setCell (p := ⟨w.heap.size, 2, none⟩) (Nat.le_refl _) _
end Go.Proofs.YtjgloineooadoaaGreatDoor
