/- CertChecks: what is told of any coordinates and any flow is the document's. -/
import Derived.Test.YtjgloineooadoaaGreatDoorMgZ13
import Derived.Test.YtjgloineooadoaaGreatDoorMgZ14
import Derived.Test.YtjgloineooadoaaGreatDoorZRefC
import Derived.Test.YtjgloineooadoaaGreatDoorZSolA
import Derived.Test.YtjgloineooadoaaGreatDoorMgZ19
namespace Go.Proofs.YtjgloineooadoaaGreatDoor
open Go.RowKit
def C6 (b : Nat) (v0 v1 v2 v3 v4 v5 : Value) (w : World) : Prop := w.cell? ⟨b, 0, none⟩ = some v0 ∧ w.cell? ⟨b, 1, none⟩ = some v1 ∧ w.cell? ⟨b, 2, none⟩ = some v2 ∧ w.cell? ⟨b, 3, none⟩ = some v3 ∧ w.cell? ⟨b, 4, none⟩ = some v4 ∧ w.cell? ⟨b, 5, none⟩ = some v5
theorem C6.later {b : Nat} {v0 v1 v2 v3 v4 v5 : Value} {w w' : World} (h : C6 b v0 v1 v2 v3 v4 v5 w) (B : Below w.heap.size w w') : C6 b v0 v1 v2 v3 v4 v5 w' := ⟨cell_later B h.1, cell_later B h.2.1, cell_later B h.2.2.1, cell_later B h.2.2.2.1, cell_later B h.2.2.2.2.1, cell_later B h.2.2.2.2.2⟩
theorem C6.of {b : Nat} {v0 v1 v2 v3 v4 v5 : Value} {t : TypeId} {w : World} (h : w.heap[b]? = some (.cells #[v0, v1, v2, v3, v4, v5] t)) : C6 b v0 v1 v2 v3 v4 v5 w := ⟨(Cl.of_block h (j := 0) rfl).cell, (Cl.of_block h (j := 1) rfl).cell, (Cl.of_block h (j := 2) rfl).cell, (Cl.of_block h (j := 3) rfl).cell, (Cl.of_block h (j := 4) rfl).cell, (Cl.of_block h (j := 5) rfl).cell⟩
theorem ints_of_rel {w : World} {A : Option Addr} {c m : Nat} {Z : Nat → Int} (hc : m ≤ c) (hn : A = none → m = 0 ∧ c = 0) (h : 0 < m → ∃ g, A = some ⟨g, 0, none⟩ ∧ LRow w g m Z) : Ints w (.slice A m c) ((List.range m).map Z) := by
  by_cases h0 : 0 < m
  · obtain ⟨g, rfl, R⟩ := h h0
    exact R.ints hc
  · have : m = 0 := by omega
    subst this
    exact ⟨A, c, rfl, by simp, fun e => ⟨rfl, (hn e).2⟩, fun h => absurd h (by simp)⟩
structure ChF (gR : Nat) (VR VW VU : Value) (m0 : Int) (VL VM VX VF VP VQ : Value) (L M : List Arc) (xs fs ps qs rs : List Int) (w0 w : World) : Prop where
  r : R3 gR VR VW VU w
  m : w.cell? ⟨0, 0, none⟩ = some (.int .i64 m0)
  l : Arcs w VL L
  mo : Arcs w VM M
  x : Ints w VX xs
  f : Ints w VF fs
  p : Ints w VP ps
  q : Ints w VQ qs
  rx : Ints w VR rs
  bel : Below w0.heap.size w0 w
theorem ChF.later {gR : Nat} {VR VW VU : Value} {m0 : Int} {VL VM VX VF VP VQ : Value} {L M : List Arc} {xs fs ps qs rs : List Int} {w0 w w' : World} (h : ChF gR VR VW VU m0 VL VM VX VF VP VQ L M xs fs ps qs rs w0 w) (B : Below w.heap.size w w') : ChF gR VR VW VU m0 VL VM VX VF VP VQ L M xs fs ps qs rs w0 w' :=
  ⟨h.r.later B, cell_later B h.m, h.l.later B, h.mo.later B, h.x.later B, h.f.later B, h.p.later B, h.q.later B, h.rx.later B, below_then h.bel h.bel.size B⟩
set_option maxRecDepth 100000 in
set_option maxHeartbeats 4000000 in
theorem certChecks_core {w : World} {V VX VF : Value} {T : List Tri} {xs0 fs0 : List Int} {m0 : Int} (N a b : Nat) (hN : N ≤ 255) (ha : a ≤ 255) (hb : b ≤ 255) (h : Tris w V T) (hs : Small T) (hl : T.length ≤ 1000000000000000) (hX : Ints w VX xs0) (hF : Ints w VF fs0) (hxl : xs0.length ≤ 17592186043904) (hfl : fs0.length ≤ 17592186043904) (hM : w.cell? ⟨0, 0, none⟩ = some (.int .i64 m0)) :
    Calls Tryz.prog 5 #[.agg #[.int .u8 (N : Int), V, VX, VF, .int .u8 (a : Int), .int .u8 (b : Int)]] w fun e w' => e = .returned (.bool true) ∧ Below w.heap.size w w' := by
  obtain ⟨A, cap, rfl, -, -⟩ := h.at_
  obtain ⟨AX0, cX0, rfl, -, -, hAX⟩ := hX.at_
  obtain ⟨AF0, cF0, rfl, -, -, hAF⟩ := hF.at_
  obtain ⟨w0, hw0⟩ : ∃ w0, w.alloc (.cells #[.int .u8 (N : Int), .slice A T.length cap, .slice AX0 xs0.length cX0, .slice AF0 fs0.length cF0, .int .u8 (a : Int), .int .u8 (b : Int)] 46) = w0 := ⟨_, rfl⟩
  have B0 : Below w.heap.size w w0 := by rw [← hw0]; exact (Below.refl _ _).alloc (Nat.le_refl _) _
  have hG0 : w0.heap[w.heap.size]? = some (.cells #[.int .u8 (N : Int), .slice A T.length cap, .slice AX0 xs0.length cX0, .slice AF0 fs0.length cF0, .int .u8 (a : Int), .int .u8 (b : Int)] 46) := by rw [← hw0]; exact heap_at rfl
  have HG0 := Lib.hid hG0
  have HB0 := Lib.hid B0
  have HC0 : Hid (C6 w.heap.size (.int .u8 (N : Int)) (.slice A T.length cap) (.slice AX0 xs0.length cX0) (.slice AF0 fs0.length cF0) (.int .u8 (a : Int)) (.int .u8 (b : Int)) w0.drew) := Lib.hid ((C6.of hG0).later (Below.refl _ _).drew)
  have HH := Lib.hid (h.later B0)
  have HX0 := Lib.hid (hX.later B0)
  have HF0 := Lib.hid (hF.later B0)
  have HM0 := Lib.hid (cell_later B0 hM)
  have HAX0 : Hid (0 < xs0.length → ∃ b off, AX0 = some ⟨b, off, none⟩ ∧ ∀ i x, xs0[i]? = some x → w0.cell? ⟨b, off + i, none⟩ = some (.int .i64 x)) := Lib.hid (fun h => by
    obtain ⟨b, off, e, hc⟩ := hAX h
    exact ⟨b, off, e, fun i x hx => cell_later B0 (hc i x hx)⟩)
  have HAF0 : Hid (0 < fs0.length → ∃ b off, AF0 = some ⟨b, off, none⟩ ∧ ∀ i x, fs0[i]? = some x → w0.cell? ⟨b, off + i, none⟩ = some (.int .i64 x)) := Lib.hid (fun h => by
    obtain ⟨b, off, e, hc⟩ := hAF h
    exact ⟨b, off, e, fun i x hx => cell_later B0 (hc i x hx)⟩)
  clear h hX hF B0 hG0 hM hAX hAF
  go_enter Tryz.func5, Tryz.ntmps5
  go_upto_region 1 with fail
  refine wp_region_headsV [(0, true), (1, true), (2, true), (3, true), (4, true), (5, true)] [] (C6 w.heap.size (.int .u8 (N : Int)) (.slice A T.length cap) (.slice AX0 xs0.length cX0) (.slice AF0 fs0.length cF0) (.int .u8 (a : Int)) (.int .u8 (b : Int))) (fun _ => True) (by kernel_rfl) (by kernel_rfl) HC0.out trivial ?_
  iterate 6 (first | (refine wpHv_skip rfl (by rfl) ?_) | (refine wpHv_cons (v := ?_) rfl (by rfl) (fun wS hwS => ?_) ?_; rotate_left 1; (focus (have hwA := And.left hwS; clear hwS; (try dsimp only [C6] at hwA); go_simp; (try with_reducible rfl); (try (trace_state; fail))))); (try simp only [List.getElem_toArray, List.getElem_cons_zero, List.getElem_cons_succ]); (try simp only [Act.put, List.setIfInBounds_toArray, List.set_cons_zero, List.set_cons_succ]))
  refine wpHv_nil ?_
  change wpV _ _ _ _ _ _ _ (3 + 1) _ _ _
  refine wpV_one (k := 6) (by kernel_rfl) rfl (fun K hK => ?_)
  have HKK := Lib.hid hK
  clear hK
  go_simp
  have HC1 : Hid (C6 w.heap.size (.int .u8 (N : Int)) (.slice A T.length cap) (.slice AX0 xs0.length cX0) (.slice AF0 fs0.length cF0) (.int .u8 (a : Int)) (.int .u8 (b : Int)) (w0.alloc (.cells #[.int .u8 0, .int .u8 0] 44)).drew) := Lib.hid ((C6.of HG0.out).later ((Below.refl _ _).alloc (Nat.le_refl _) _).drew)
  refine HKK.out _ _ ⟨HC1.out, fun _ h => h⟩ ?_
  clear HKK K
  change wpV _ _ _ _ _ _ _ (2 + 1) _ _ _
  refine wpV_heads HC1.out trivial (by kernel_rfl) (fun _ _ _ _ _ h => h) [(7, true), (8, true)] _ _ _ (by kernel_rfl) ?_
  iterate 2 (first | (refine wpHv_skip rfl (by rfl) ?_) | (refine wpHv_cons (v := ?_) rfl (by rfl) (fun wS hwS => ?_) ?_; rotate_left 1; (focus (have hwA := And.left hwS; clear hwS; (try dsimp only [C6] at hwA); go_simp; (try with_reducible rfl); (try (trace_state; fail))))); (try simp only [List.getElem_toArray, List.getElem_cons_zero, List.getElem_cons_succ]); (try simp only [Act.put, List.setIfInBounds_toArray, List.set_cons_zero, List.set_cons_succ]))
  refine wpHv_nil ?_
  change wpV _ _ _ _ _ _ _ (0 + 1) _ _ _
  refine wpV_one (k := 9) (by kernel_rfl) rfl (fun K hK => ?_)
  have HKK := Lib.hid hK
  clear hK
  go_simp
  obtain ⟨w1, hw1⟩ : ∃ x, x = (w0.alloc (.cells #[.int .u8 (a : Int), .int .u8 (b : Int)] 44)).drew := ⟨_, rfl⟩
  try rw [← hw1]
  have BA : Below w0.heap.size w0 w1 := by rw [hw1]; exact ((Below.refl _ _).alloc (Nat.le_refl _) _).drew
  have HC2 := Lib.hid ((C6.of HG0.out).later BA)
  have HBK : Hid (w1.heap[w0.heap.size]? = some (.cells #[.int .u8 (a : Int), .int .u8 (b : Int)] 44)) := Lib.hid (by rw [hw1]; exact heap_at rfl)
  have HBA := Lib.hid BA
  clear hw1 BA
  refine HKK.out _ _ ⟨HC2.out, fun _ h => h⟩ ?_
  clear HKK K
  refine wpV_done (by kernel_rfl) (NoPanic.normal ?_)
  have HH1 := Lib.hid (HH.out.later HBA.out)
  have HX1 := Lib.hid (HX0.out.later HBA.out)
  have HF1 := Lib.hid (HF0.out.later HBA.out)
  have HM1 := Lib.hid (cell_later HBA.out HM0.out)
  have HB1 := Lib.hid (below_then HB0.out HB0.out.size HBA.out)
  have p0 := HC2.out.1
  have p1 := HC2.out.2.1
  clear hw0 HC0 HC1 HG0 HH HX0 HF0 HM0
  go_wp2_with fail
  clear p0 p1
  refine (make_any (T := T) N 10 hN (by omega) (by omega) HH1.out hs hl).mono ?_
  have HR0 := Lib.hid (makeL_right N 10 (by omega) (by omega) T)
  have HE := Lib.hid (makeL_dag N 10 (by omega) (by omega) T)
  have hn1 : 1 ≤ mkN N 10 := by unfold mkN; omega
  have hn2 : mkN N 10 ≤ 10 := by unfold mkN; omega
  have hlen : (makeL N 10 T).length ≤ 40 := makeL_length N 10 T
  generalize mkN N 10 = n at *
  generalize makeL N 10 T = L at *
  rintro e w2 ⟨V1, rfl, R1, B1⟩
  obtain ⟨A1, c1, rfl, -⟩ := own_shape R1
  have HK := Lib.hid (okg_of HR0.out hn1)
  have HR2 := Lib.hid R1
  have HL2 := Lib.hid (Sl.of_own (enc := encA) (fun _ => rfl) R1)
  have HBK2 := Lib.hid (block_later B1 HBK.out)
  have HX2 := Lib.hid (HX1.out.later B1)
  have HF2 := Lib.hid (HF1.out.later B1)
  have HM2 := Lib.hid (cell_later B1 HM1.out)
  have HB2 := Lib.hid (below_then HB1.out HB1.out.size B1)
  have H02 := Lib.hid (below_then HBA.out HBA.out.size B1)
  clear R1 B1 HBK HX1 HF1 HM1 HB1 HH1 hs HC2
  go_wp2_with fail
  refine (solve_any n HL2.out HK.out HE.out).mono ?_
  rintro e w3 hh
  obtain ⟨AX, cX, AF, cF, xs, fs, ways, rfl, IX, IF, SS, B1⟩ := solW_at hh
  obtain ⟨w4, hw⟩ : ∃ w4, w3.alloc (.cells #[.slice AX n cX, .slice AF L.length cF, .int .i64 (ways : Int)] 31) = w4 := ⟨_, rfl⟩
  have B2 : Below w3.heap.size w3 w4 := by rw [← hw]; exact (Below.refl _ _).alloc (Nat.le_refl _) _
  have hr : w4.heap[w3.heap.size]? = some (.cells #[.slice AX n cX, .slice AF L.length cF, .int .i64 (ways : Int)] 31) := by rw [← hw]; exact heap_at rfl
  have B3 := below_then B1 B1.size B2
  have BD : Below w4.heap.size w4 w4.drew := (Below.refl _ _).drew
  have HRR : Hid (R3 w3.heap.size (.slice AX n cX) (.slice AF L.length cF) (.int .i64 (ways : Int)) w4) := Lib.hid ⟨(Cl.of_block hr (j := 0) rfl).cell, (Cl.of_block hr (j := 1) rfl).cell, (Cl.of_block hr (j := 2) rfl).cell⟩
  have HRD := Lib.hid (HRR.out.later BD)
  have HR4 := Lib.hid (own_later HR2.out B3)
  have HL4 := Lib.hid (HL2.out.later B3)
  have HBK4 := Lib.hid (block_later B3 HBK2.out)
  have HX4 := Lib.hid (HX2.out.later B3)
  have HF4 := Lib.hid (HF2.out.later B3)
  have HM4 := Lib.hid (cell_later B3 HM2.out)
  have HB4 := Lib.hid (below_then HB2.out HB2.out.size B3)
  have H04 := Lib.hid (below_then H02.out H02.out.size B3)
  have HRX4 := Lib.hid (IX.later B2)
  have HRF4 := Lib.hid (IF.later B2)
  have HRXD := Lib.hid (HRX4.out.later BD)
  have HRFD := Lib.hid (HRF4.out.later BD)
  have HSS := Lib.hid SS
  have HLX := Lib.hid SS.lx
  have HLF := Lib.hid SS.lf
  have HBD4 := Lib.hid BD
  clear hh IX IF SS B1 B2 B3 BD hr HR2 HL2 HBK2 HX2 HF2 HM2 HB2 H02
  go_upto_region 4 with fail
  clear hw
  generalize w3.heap.size = gR at *
  refine wp_region_headsV [(0, true), (1, true), (3, true), (4, true)] [] (R3 gR (.slice AX n cX) (.slice AF L.length cF) (.int .i64 (ways : Int))) (fun _ => True) (by kernel_rfl) (by kernel_rfl) HRD.out trivial ?_
  iterate 4 (first | (refine wpHv_skip rfl (by rfl) ?_) | (refine wpHv_cons (v := ?_) rfl (by rfl) (fun wS hwS => ?_) ?_; rotate_left 1; (focus (have hwA := And.left hwS; clear hwS; (try dsimp only [R3] at hwA); go_simp; (try with_reducible rfl); (try (trace_state; fail))))); (try simp only [List.getElem_toArray, List.getElem_cons_zero, List.getElem_cons_succ]); (try simp only [Act.put, List.setIfInBounds_toArray, List.set_cons_zero, List.set_cons_succ]))
  refine wpHv_nil ?_
  change wpV _ _ _ _ _ _ _ (3 + 1) _ _ _
  refine wpV_one (k := 2) (by kernel_rfl) rfl (fun K hK => ?_)
  have HKK := Lib.hid hK
  clear hK
  go_simp
  refine (cloneI_any HRXD.out (by rw [HLX.out]; omega)).mono ?_
  rintro e wa ⟨VP, rfl, RP, BB⟩
  have HRP := Lib.hid RP
  have HRa := Lib.hid (HRD.out.later BB)
  have HRFa := Lib.hid (HRFD.out.later BB)
  have HBa := Lib.hid (HBD4.out.trans (BB.mono (Nat.le_refl _)))
  have HBPa := Lib.hid BB
  clear RP BB
  go_simp
  refine HKK.out _ _ ⟨HRa.out, fun _ h => h⟩ ?_
  clear HKK K
  change wpV _ _ _ _ _ _ _ (2 + 1) _ _ _
  refine wpV_one (k := 5) (by kernel_rfl) rfl (fun K hK => ?_)
  have HKK := Lib.hid hK
  clear hK
  go_simp
  refine (cloneI_any HRFa.out (by rw [HLF.out]; omega)).mono ?_
  rintro e wb ⟨VQ, rfl, RQ, BB⟩
  have HRQ := Lib.hid RQ
  have HRb := Lib.hid (HRa.out.later BB)
  have HBb := Lib.hid (below_then HBa.out HBa.out.size BB)
  have HRPb := Lib.hid (own_later HRP.out BB)
  clear BB RQ
  go_simp
  refine HKK.out _ _ ⟨HRb.out, fun _ h => h⟩ ?_
  clear HKK K
  change wpV _ _ _ _ _ _ _ (2 + 0) _ _ _
  refine wpV_heads HRb.out trivial (by kernel_rfl) (fun _ _ _ _ _ h => h) [(6, true), (7, true)] _ _ _ (by kernel_rfl) ?_
  iterate 2 (first | (refine wpHv_skip rfl (by rfl) ?_) | (refine wpHv_cons (v := ?_) rfl (by rfl) (fun wS hwS => ?_) ?_; rotate_left 1; (focus (have hwA := And.left hwS; clear hwS; (try dsimp only [R3] at hwA); go_simp; (try with_reducible rfl); (try (trace_state; fail))))); (try simp only [List.getElem_toArray, List.getElem_cons_zero, List.getElem_cons_succ]); (try simp only [Act.put, List.setIfInBounds_toArray, List.set_cons_zero, List.set_cons_succ]))
  refine wpHv_nil ?_
  refine wpV_done (by kernel_rfl) (NoPanic.normal ?_)
  obtain ⟨gp, cp, hVP, hcp, hgp, LP⟩ := LRow.of_own HRPb.out (by rw [HLX.out]; omega)
  have HLP0 := Lib.hid LP
  have hgpa : gp < wa.heap.size := by
    refine (HRP.out.lt gp ?_).2
    rw [hVP]
    rfl
  have hgp4 : w4.heap.size ≤ gp := hgp
  rw [HLX.out] at hVP hcp HLP0
  subst hVP
  have HQ0 : Hid (0 < L.length → ∃ g c, VQ = .slice (some ⟨g, 0, none⟩) L.length c ∧ wa.heap.size ≤ g ∧ LRow wb g L.length (ff fs)) := Lib.hid (fun h => by
    obtain ⟨g, c, e, h1, h2, h3⟩ := LRow.of_own HRQ.out (by rw [HLF.out]; exact h)
    rw [HLF.out] at e h3
    exact ⟨g, c, e, h2, h3⟩)
  have HQI := Sl.of_own (enc := encI) encI_length HRQ.out
  obtain ⟨AQ, cQ, hVQ, hQc, hQn, -⟩ := Ints.at_ HQI
  rw [HLF.out] at hVQ hQc hQn
  subst hVQ
  have HQ1 : Hid (0 < L.length → ∃ g, AQ = some ⟨g, 0, none⟩ ∧ wa.heap.size ≤ g ∧ LRow wb g L.length (ff fs)) := Lib.hid (fun h => by
    obtain ⟨g, c, e, h2, h3⟩ := HQ0.out h
    injection e with e1 e2 e3
    exact ⟨g, e1, h2, h3⟩)
  have HQN := Lib.hid hQn
  have HQC := Lib.hid hQc
  clear HQI hQn hQc HQ0 LP HRPb HRQ HRP HRFa HRXD HRFD HRD HRa HBPa hgp
  go_wp2_with fail
  go_loopw [41] (fun q wr => ∃ (i : Nat) (F : Nat → Int), i ≤ n ∧ q = .int .i64 i ∧ LRow wr gp n F ∧ (0 < L.length → ∃ g, AQ = some ⟨g, 0, none⟩ ∧ wa.heap.size ≤ g ∧ LRow wr g L.length (ff fs)) ∧ Hid (∀ v, v < n → (i ≤ v → F v = ff xs v) ∧ -2000 ≤ F v ∧ F v ≤ 2000) ∧ Below w4.heap.size w4 wr) (fun q _ => n - (intOf q).toNat)
  case atStart =>
    refine ⟨0, ff xs, by omega, rfl, HLP0.out, HQ1.out, Lib.hid (fun v hv => ⟨fun _ => rfl, ?_⟩), HBb.out⟩
    have hv' : v < xs.length := by rw [HLX.out]; exact hv
    have e : ff xs v = xs[v] := by unfold ff; simp [hv']
    have := HSS.out.lo _ (List.getElem_mem hv')
    rw [e]; omega
  case round =>
    obtain ⟨i, F, hi, rfl, R, Q, HFF, B⟩ := hrel
    obtain ⟨wo, rfl⟩ : ∃ x : World, x = wr := ⟨_, rfl⟩
    have HR := Lib.hid R
    have HQ := Lib.hid Q
    have HBo := Lib.hid B
    have hwo := B.size
    clear R Q B HLP0 HQ1 HBb HRb
    by_cases hin : i < n
    · have hdi : decide ((i : Int) < n) = true := by simp; omega
      have i3 : (0 : Int) ≤ (i : Int) := by omega
      have i4 : (i : Int) < (n : Int) := by omega
      by_cases hiy : i < xs0.length
      · have hdy : decide ((i : Int) < xs0.length) = true := by simp; omega
        have i5 : (i : Int) < (xs0.length : Int) := by omega
        obtain ⟨by_, oy, rfl, hcy⟩ := HAX0.out (by omega)
        have c0 := cell_later HBo.out (cell_later H04.out (hcy i _ (List.getElem?_eq_getElem hiy)))
        have RA := HR.out
        have c1 := RA.cell hin
        obtain ⟨hx1, hx2⟩ := HFF.out i hin
        have hx3 := hx1 (Nat.le_refl _)
        have hin' : i < xs.length := by rw [HLX.out]; exact hin
        have hx4 : ff xs i = xs[i] := by unfold ff; simp [hin']
        have hx5 := HSS.out.lo _ (List.getElem_mem hin')
        have hz := tmod_bounds xs0[i] 3 (by omega)
        rw [hx3, hx4] at c1
        clear hcy RA hx1 hx2 hx3 hx4
        generalize xs[i] = x at *
        generalize xs0[i] = y at *
        obtain ⟨z, hz0⟩ : ∃ z, y.tmod 3 = z := ⟨_, rfl⟩
        rw [hz0] at hz
        have e1 : IntKind.i64.wrap z = z := IntWalk.i64_in _ (by omega)
        have e2 : IntKind.i64.wrap (x + z) = x + z := IntWalk.i64_in _ (by omega)
        go_upto_region 9 with fail
        go_still_tail 10, (by kernel_rfl)
        change wpList _ _ _ _ _ wo.drew
        have BD : Below wo.heap.size wo wo.drew := (Below.refl _ _).drew
        have RD := HR.out.later BD
        have f1 := RD.frozen i
        have f2 := RD.cell hin
        have HRD := Lib.hid RD
        have HBD := Lib.hid (HBo.out.trans (BD.mono hwo))
        have HQD : Hid (0 < L.length → ∃ g, AQ = some ⟨g, 0, none⟩ ∧ wa.heap.size ≤ g ∧ LRow wo.drew g L.length (ff fs)) := Lib.hid (fun h => by
          obtain ⟨g, e, h1, h2⟩ := HQ.out h
          exact ⟨g, e, h1, h2.later BD⟩)
        clear RD BD HQ
        generalize wo.drew = wd at *
        clear c0 c1 hz0
        go_wp2_with fail
        refine ⟨⟨i + 1, upd F i (x + z), by omega, by go_num, HRD.out.set i (x + z), fun h => ?_, Lib.hid (fun v hv => ?_), HBD.out.setCell (p := ⟨gp, i, none⟩) hgp4 _⟩, by simp [intOf]; omega⟩
        · obtain ⟨g, e, h1, h2⟩ := HQD.out h
          exact ⟨g, e, h1, h2.of_block ((chg_set wd ⟨gp, i, none⟩ _).block g h2.lt (fun e : g = gp => by omega))⟩
        · unfold upd
          by_cases ev : v = i
          · rw [if_pos ev]
            exact ⟨fun h => absurd h (by omega), by omega, by omega⟩
          · rw [if_neg ev]
            obtain ⟨k1, k2⟩ := HFF.out v hv
            exact ⟨fun h => k1 (by omega), k2⟩
      · have hdy : decide ((i : Int) < xs0.length) = false := by simp; omega
        go_wp2_with fail
        exact ⟨⟨i + 1, F, by omega, by go_num, HR.out, HQ.out, Lib.hid (fun v hv => ⟨fun h => (HFF.out v hv).1 (by omega), (HFF.out v hv).2⟩), HBo.out⟩, by simp [intOf]; omega⟩
    · have e : i = n := by omega
      subst e
      have hdi : decide ((i : Int) < i) = false := by simp
      clear HFF
      go_wp2_with fail
      go_loopw [62] (fun q wr => ∃ (j : Nat) (G : Nat → Int), j ≤ L.length ∧ q = .int .i64 j ∧ LRow wr gp i F ∧ (0 < L.length → ∃ g, AQ = some ⟨g, 0, none⟩ ∧ wa.heap.size ≤ g ∧ LRow wr g L.length G) ∧ Hid (∀ v, v < L.length → (j ≤ v → G v = ff fs v)) ∧ Below w4.heap.size w4 wr) (fun q _ => L.length - (intOf q).toNat)
      case atStart => exact ⟨0, ff fs, by omega, rfl, HR.out, HQ.out, Lib.hid (fun v hv _ => rfl), HBo.out⟩
      case round =>
        obtain ⟨j, G, hj, rfl, R, Q, HGG, B⟩ := hrel
        obtain ⟨wp, rfl⟩ : ∃ x : World, x = wr := ⟨_, rfl⟩
        have HRp := Lib.hid R
        have HQp := Lib.hid Q
        have HBp := Lib.hid B
        have hwp := B.size
        clear R Q B HR HQ HBo hwo
        by_cases hjn : j < L.length
        · have hdj : decide ((j : Int) < L.length) = true := by simp; omega
          have i3 : (0 : Int) ≤ (j : Int) := by omega
          have i4 : (j : Int) < (L.length : Int) := by omega
          by_cases hjy : j < fs0.length
          · have hdy : decide ((j : Int) < fs0.length) = true := by simp; omega
            have i5 : (j : Int) < (fs0.length : Int) := by omega
            obtain ⟨by_, oy, rfl, hcy⟩ := HAF0.out (by omega)
            have c0 := cell_later HBp.out (cell_later H04.out (hcy j _ (List.getElem?_eq_getElem hjy)))
            obtain ⟨gq, rfl, hgq, LQ⟩ := HQp.out (by omega)
            have c1 := LQ.cell hjn
            rw [HGG.out j hjn (Nat.le_refl _)] at c1
            have hx5 := HSS.out.nn j hjn
            have hz := tmod_bounds fs0[j] 7 (by omega)
            have hz5 := tmod_bounds fs0[j] 5 (by omega)
            have HLQ := Lib.hid LQ
            clear hcy LQ
            generalize ff fs j = x at *
            generalize fs0[j] = y at *
            obtain ⟨z, hz0⟩ : ∃ z, y.tmod 7 = z := ⟨_, rfl⟩
            obtain ⟨z5, hz50⟩ : ∃ z, y.tmod 5 = z := ⟨_, rfl⟩
            rw [hz0] at hz
            rw [hz50] at hz5
            have e1 : IntKind.i64.wrap z = z := IntWalk.i64_in _ (by omega)
            have e5 : IntKind.i64.wrap z5 = z5 := IntWalk.i64_in _ (by omega)
            have e2 : IntKind.i64.wrap (x + z) = x + z := IntWalk.i64_in _ (by omega)
            by_cases h5 : z5 = 0
            · have hd5 : (z5 == 0) = true := by simp [h5]
              clear h5
              go_upto_region 15 with fail
              clear hz50 e5 hd5
              go_still_tail 10, (by kernel_rfl)
              change wpList _ _ _ _ _ wp.drew
              have BD : Below wp.heap.size wp wp.drew := (Below.refl _ _).drew
              have RD := HLQ.out.later BD
              have f1 := RD.frozen j
              have f2 := RD.cell hjn
              have HRD := Lib.hid RD
              have HPD := Lib.hid (HRp.out.later BD)
              have HBD := Lib.hid (HBp.out.trans (BD.mono hwp))
              have hwa4 := HBa.out.size
              clear RD BD HQp
              generalize wp.drew = wd at *
              clear c0 c1 hz0
              go_wp2_with fail
              refine ⟨⟨j + 1, upd G j (x + z), by omega, by go_num, ?_, fun h => ⟨gq, rfl, hgq, HRD.out.set j (x + z)⟩, Lib.hid (fun v hv h => ?_), HBD.out.setCell (p := ⟨gq, j, none⟩) (Nat.le_trans hwa4 hgq) _⟩, by simp [intOf]; omega⟩
              · exact HPD.out.of_block ((chg_set wd ⟨gq, j, none⟩ _).block gp HPD.out.lt (fun e : gp = gq => by omega))
              · unfold upd
                rw [if_neg (by omega)]
                exact HGG.out v hv (by omega)
            · have hd5 : (z5 == 0) = false := by simp [h5]
              clear h5
              go_wp2_with fail
              exact ⟨⟨j + 1, G, by omega, by go_num, HRp.out, HQp.out, Lib.hid (fun v hv h => HGG.out v hv (by omega)), HBp.out⟩, by simp [intOf]; omega⟩
          · have hdy : decide ((j : Int) < fs0.length) = false := by simp; omega
            go_wp2_with fail
            exact ⟨⟨j + 1, G, by omega, by go_num, HRp.out, HQp.out, Lib.hid (fun v hv h => HGG.out v hv (by omega)), HBp.out⟩, by simp [intOf]; omega⟩
        · have e : j = L.length := by omega
          subst e
          have hdj : decide ((L.length : Int) < L.length) = false := by simp
          clear HGG
          obtain ⟨wg, rfl⟩ : ∃ x : World, x = wp := ⟨_, rfl⟩
          have HIP := Lib.hid (HRp.out.ints hcp)
          have HIQ : Hid (Ints wg (.slice AQ L.length cQ) ((List.range L.length).map G)) := Lib.hid (ints_of_rel HQC.out HQN.out (fun h => by
            obtain ⟨g, e, _, r⟩ := HQp.out h
            exact ⟨g, e, r⟩))
          have hpl : ((List.range i).map F).length = i := by simp
          have hql : ((List.range L.length).map G).length = L.length := by simp
          generalize (List.range i).map F = ps at *
          generalize (List.range L.length).map G = qs at *
          have HPL := Lib.hid hpl
          have HQL := Lib.hid hql
          have HRg := Lib.hid (own_later HR4.out HBp.out)
          have HGg := Lib.hid (block_later HBp.out HBK4.out)
          have HLg := Lib.hid (HL4.out.later HBp.out)
          have HXg := Lib.hid (HX4.out.later HBp.out)
          have HFg := Lib.hid (HF4.out.later HBp.out)
          have HMg := Lib.hid (cell_later HBp.out HM4.out)
          have HRXg := Lib.hid (HRX4.out.later HBp.out)
          have HRRg := Lib.hid (HRR.out.later HBp.out)
          have HWg := Lib.hid (below_then HB4.out HB4.out.size HBp.out)
          clear hpl hql HRp HQp HBp hwp HR4 HL4 HBK4 HX4 HF4 HM4 HB4 H04 HRX4 HRF4 HRR HBD4 HBa HQN HQC
          have z1 : IntKind.i64.wrap ((i : Int) + 1) = (i : Int) + 1 := IntWalk.i64_in _ (by omega)
          have z2 : ¬ (IntKind.i64.wrap ((i : Int) + 1) = 0) := by rw [z1]; omega
          have z3 : IntKind.i64.wrap (a : Int) = a := IntWalk.i64_in _ (by omega)
          have z4 : IntKind.i64.wrap (b : Int) = b := IntWalk.i64_in _ (by omega)
          have q0 : (IntKind.i64.wrap (a : Int)).tmod (IntKind.i64.wrap ((i : Int) + 1)) = ((a % (i + 1) : Nat) : Int) := by rw [z1, z3, Int.tmod_eq_emod_of_nonneg (by omega)]; simp
          have q1 : (IntKind.i64.wrap (b : Int)).tmod (IntKind.i64.wrap ((i : Int) + 1)) = ((b % (i + 1) : Nat) : Int) := by rw [z1, z4, Int.tmod_eq_emod_of_nonneg (by omega)]; simp
          clear z1 z3 z4
          generalize a % (i + 1) = f at *
          generalize b % (i + 1) = t at *
          have HR2g : Hid (R2 w0.heap.size (.int .u8 (a : Int)) (.int .u8 (b : Int)) wg.drew) := Lib.hid ⟨(Cl.of_block (w := wg.drew) HGg.out (j := 0) rfl).cell, (Cl.of_block (w := wg.drew) HGg.out (j := 1) rfl).cell⟩
          have HOg : Hid (wg.drew.ownsRow (w1.heap.size + 1) 40 3 (.slice A1 L.length c1) L.length (flat encA L)) := Lib.hid (own_later HRg.out (Below.refl _ _).drew)
          obtain ⟨j0, hj0, hy0, hy1, hy2⟩ := info_parts info_arcM
          go_upto_region 17 with fail
          refine wp_region_headsV [(0, true), (2, true), (3, true), (4, true), (5, true), (6, true), (7, true), (8, true), (9, true), (10, true), (11, true), (12, true), (13, true), (14, true)] [] (R2 w0.heap.size (.int .u8 (a : Int)) (.int .u8 (b : Int))) (fun _ => True) (by kernel_rfl) (by kernel_rfl) HR2g.out trivial ?_
          iterate 14 (first | (refine wpHv_skip rfl (by rfl) ?_) | (refine wpHv_cons (v := ?_) rfl (by rfl) (fun wS hwS => ?_) ?_; rotate_left 1; (focus (have hwA := And.left hwS; clear hwS; (try dsimp only [R2] at hwA); go_simp; (try with_reducible rfl); (try (trace_state; fail))))); (try simp only [List.getElem_toArray, List.getElem_cons_zero, List.getElem_cons_succ]); (try simp only [Act.put, List.setIfInBounds_toArray, List.set_cons_zero, List.set_cons_succ]))
          refine wpHv_nil ?_
          change wpV _ _ _ _ _ _ _ (2 + 2) _ _ _
          refine wpV_two (i := 1) (j := 15) (by kernel_rfl) (by kernel_rfl) (by kernel_rfl) rfl rfl (by decide) (fun v v' w' => ∃ (AC : Option Addr) (cC g : Nat), v = .slice AC L.length cC ∧ v' = .slice (some ⟨g, 0, none⟩) 1 1 ∧ w'.ownsRow wg.heap.size 40 3 v L.length (flat encA L) ∧ w'.heap[g]? = some (.cells #[.int .i64 (f : Int), .int .i64 (t : Int), .int .i64 0] 40) ∧ Below wg.drew.heap.size wg.drew w') (fun v v' => by rfl) (fun K hK => ?_) (fun K hK => ?_) (fun vi vj wx hA hF => ?_)
          · have HKK := Lib.hid hK
            clear hK
            go_simp
            refine (cloneA_own HOg.out (by omega)).mono ?_
            rintro e wc ⟨VC, rfl, RC, BC⟩
            obtain ⟨AC, cC, rfl, -⟩ := own_shape RC
            have HRC := Lib.hid RC
            have HBC := Lib.hid BC
            clear RC BC
            go_simp
            refine HKK.out _ _ _ rfl (HR2g.out.later HBC.out) (fun K2 hK2 => ?_)
            have HK2 := Lib.hid hK2
            clear hK2 HKK K
            go_simp
            have BB : Below wc.heap.size wc (wc.alloc (.cells #[.int .i64 (f : Int), .int .i64 (t : Int), .int .i64 0] 40)) := (Below.refl _ _).alloc (Nat.le_refl _) _
            exact HK2.out _ _ _ rfl ((HR2g.out.later HBC.out).later BB) ⟨AC, cC, _, rfl, rfl, own_later HRC.out BB, heap_at rfl, below_then HBC.out HBC.out.size BB⟩
          · have HKK := Lib.hid hK
            clear hK
            go_simp
            have BB : Below wg.drew.heap.size wg.drew (wg.drew.alloc (.cells #[.int .i64 (f : Int), .int .i64 (t : Int), .int .i64 0] 40)) := (Below.refl _ _).alloc (Nat.le_refl _) _
            refine HKK.out _ _ _ rfl (HR2g.out.later BB) (fun K2 hK2 => ?_)
            have HK2 := Lib.hid hK2
            have HBB := Lib.hid BB
            clear hK2 HKK K BB
            go_simp
            refine (cloneA_own (own_later HOg.out HBB.out) (by omega)).mono ?_
            rintro e wc ⟨VC, rfl, RC, BC⟩
            obtain ⟨AC, cC, rfl, -⟩ := own_shape RC
            have HRC := Lib.hid (row_rebase RC (base' := wg.heap.size) (by simp))
            have hgc := (BC.block wg.drew.heap.size (by simp)).trans (heap_at rfl)
            have HGC := Lib.hid hgc
            have HBC := Lib.hid BC
            clear RC BC hgc
            go_simp
            exact HK2.out _ _ _ rfl ((HR2g.out.later HBB.out).later HBC.out) ⟨AC, cC, _, rfl, rfl, HRC.out, HGC.out, below_then HBB.out HBB.out.size HBC.out⟩
          obtain ⟨AC, cC, g, rfl, rfl, RM, hgM, BM⟩ := hF
          have HRM := Lib.hid RM
          have HGM := Lib.hid hgM
          have HBM := Lib.hid BM
          have HAM := Lib.hid hA
          have hszM := BM.size
          clear RM hgM BM hA
          change wpV _ _ _ _ _ _ _ (1 + 1) _ _ _
          refine wpV_one (k := 16) (by kernel_rfl) rfl (fun K hK => ?_)
          have HKK := Lib.hid hK
          clear hK
          refine step_append_lies _ (by rfl) (.tmp 90) (.tmp 104) 26 (by rfl) wg.heap.size 40 j0 (.agg #[.int .i64 0, .int .i64 0, .int .i64 0]) 3 24 Tryz.underlying26 hj0 hy0 hy1 hy2 rfl (by decide) (.slice AC L.length cC) L.length (flat encA L) rfl HRM.out ⟨g, 0, none⟩ 1 1 (encA ((f : Int), (t : Int), 0)) rfl rfl (World.news_of_block HGM.out) (by intro u hu; simp [encA] at hu; rcases hu with rfl | rfl | rfl <;> rfl) (by omega) (by simp only [maxLen]; omega) (by omega) (by exact hszM) _ rfl ?_
          intro gM cM wM hown hgrow hat hltM
          have BG : Below wg.heap.size wx wM := (Below.refl wg.heap.size wx).grown hgrow (by exact hszM) (fun q hq => own_ge HRM.out hq)
          have RM := Lib.hid (HAM.out.below BG ((Array.getElem?_eq_some_iff.1 HGg.out).1))
          have HMM := Lib.hid (row_rebase hown (base' := wg.heap.size) (Nat.le_refl _))
          have HBM2 : Hid (Below wg.heap.size wg wM) := Lib.hid (((Below.refl wg.heap.size wg).drew.trans HBM.out).trans BG)
          clear hown hgrow hat hltM BG
          refine HKK.out _ _ ⟨RM.out, fun _ h => h⟩ ?_
          clear HKK K
          change wpV _ _ _ _ _ _ _ (1 + 0) _ _ _
          refine wpV_heads RM.out trivial (by kernel_rfl) (fun _ _ _ _ _ h => h) [(17, true)] _ _ _ (by kernel_rfl) ?_
          iterate 1 (first | (refine wpHv_skip rfl (by rfl) ?_) | (refine wpHv_cons (v := ?_) rfl (by rfl) (fun wS hwS => ?_) ?_; rotate_left 1; (focus (have hwA := And.left hwS; clear hwS; (try dsimp only [R2] at hwA); go_simp; (try with_reducible rfl); (try (trace_state; fail))))); (try simp only [List.getElem_toArray, List.getElem_cons_zero, List.getElem_cons_succ]); (try simp only [Act.put, List.setIfInBounds_toArray, List.set_cons_zero, List.set_cons_succ]))
          refine wpHv_nil ?_
          refine wpV_done (by kernel_rfl) (NoPanic.normal ?_)
          clear HRM HGM HBM HAM RM HR2g HOg q0 q1 z2
          obtain ⟨M, hM⟩ : ∃ M : List Arc, M = L ++ [((f : Int), (t : Int), 0)] := ⟨_, rfl⟩
          have hMl : M.length = L.length + 1 := by rw [hM]; simp
          have hma : Arcs wM (.slice (some ⟨gM, 0, none⟩) (L.length + 1) cM) M := by
            rw [← hMl]
            refine Sl.of_own encA_length (B := wg.heap.size) (E := 40) ?_
            have h := HMM.out
            rw [← hMl] at h
            have e : flat encA M = flat encA L ++ encA ((f : Int), (t : Int), 0) := by rw [hM, flat_append]; simp [flat]
            rw [e]
            exact h
          have BD : Below wM.heap.size wM wM.drew := (Below.refl _ _).drew
          have HT0 : ChF gR (.slice AX i cX) (.slice AF L.length cF) (.int .i64 (ways : Int)) m0 (.slice A1 L.length c1) (.slice (some ⟨gM, 0, none⟩) (L.length + 1) cM) (.slice AX0 xs0.length cX0) (.slice AF0 fs0.length cF0) (.slice (some ⟨gp, 0, none⟩) i cp) (.slice AQ L.length cQ) L M xs0 fs0 ps qs xs w wM :=
            ⟨HRRg.out.later HBM2.out, cell_later HBM2.out HMg.out, HLg.out.later HBM2.out, hma, HXg.out.later HBM2.out, HFg.out.later HBM2.out, HIP.out.later HBM2.out, HIQ.out.later HBM2.out, HRXg.out.later HBM2.out, below_then HWg.out HWg.out.size HBM2.out⟩
          have HTD := Lib.hid (HT0.later BD)
          obtain ⟨G1, hG1⟩ : ∃ G, checkC i L xs0 fs0 = G := ⟨_, rfl⟩
          obtain ⟨G2, hG2⟩ : ∃ G, checkC i L ps qs = G := ⟨_, rfl⟩
          obtain ⟨G3, hG3⟩ : ∃ G, checkC i L xs qs = G := ⟨_, rfl⟩
          obtain ⟨G4, hG4⟩ : ∃ G, checkC i M ps qs = G := ⟨_, rfl⟩
          have HG1 := Lib.hid hG1
          have HG2 := Lib.hid hG2
          have HG3 := Lib.hid hG3
          have HG4 := Lib.hid hG4
          have k1 : (G1 == G1) = true := by simp
          have k2 : (G2 == G2) = true := by simp
          have k3 : (G3 == G3) = true := by simp
          have k4 : (G4 == G4) = true := by simp
          clear HT0 BD hma hM hMl HMM HGg HWg HBM2 HRg HLg HXg HFg HMg HRXg HRRg HIP HIQ hG1 hG2 hG3 hG4
          go_upto_region 18 with fail
          refine wp_region_headsV [] [] (R3 gR (.slice AX i cX) (.slice AF L.length cF) (.int .i64 (ways : Int))) (fun _ => True) (by kernel_rfl) (by kernel_rfl) HTD.out.r trivial ?_
          refine wpHv_nil ?_
          change wpV _ _ _ _ _ _ _ (55 + 1) _ _ _
          refine wpV_one (k := 0) (by kernel_rfl) rfl (fun K hK => ?_)
          have HKK := Lib.hid hK
          clear hK
          go_simp
          refine (wakes_ok HTD.out.m).mono ?_
          rintro e wy ⟨rfl, BB⟩
          have HT := Lib.hid (HTD.out.later BB)
          clear BB
          go_simp
          refine HKK.out _ _ ⟨HT.out.r, fun _ h => h⟩ ?_
          clear HKK K
          change wpV _ _ _ _ _ _ _ (9 + 46) _ _ _
          refine wpV_heads HT.out.r trivial (by kernel_rfl) (fun _ _ _ _ _ h => h) [(1, true), (2, true), (3, true), (4, true), (5, true), (7, true), (8, true), (9, true), (10, true)] _ _ _ (by kernel_rfl) ?_
          iterate 9 (first | (refine wpHv_skip rfl (by rfl) ?_) | (refine wpHv_cons (v := ?_) rfl (by rfl) (fun wS hwS => ?_) ?_; rotate_left 1; (focus (have hwA := And.left hwS; clear hwS; (try dsimp only [R3] at hwA); go_simp; (try with_reducible rfl); (try (trace_state; fail))))); (try simp only [List.getElem_toArray, List.getElem_cons_zero, List.getElem_cons_succ]); (try simp only [Act.put, List.setIfInBounds_toArray, List.set_cons_zero, List.set_cons_succ]))
          refine wpHv_nil ?_
          change wpV _ _ _ _ _ _ _ (45 + 1) _ _ _
          refine wpV_one (k := 6) (by kernel_rfl) rfl (fun K hK => ?_)
          have HKK := Lib.hid hK
          clear hK
          go_simp
          refine (certCheck_any i hn1 HT.out.l HT.out.x HT.out.f (by have := HPL.out; have := HLX.out; omega) (by have := HQL.out; omega)).mono ?_
          rw [HG1.out]
          rintro e wn ⟨rfl, BB⟩
          have HT := Lib.hid (HT.out.later BB)
          clear BB
          obtain ⟨wy, rfl⟩ : ∃ x : World, x = wn := ⟨_, rfl⟩
          go_simp
          refine HKK.out _ _ ⟨HT.out.r, fun _ h => h⟩ ?_
          clear HKK K
          change wpV _ _ _ _ _ _ _ (44 + 1) _ _ _
          refine wpV_one (k := 11) (by kernel_rfl) rfl (fun K hK => ?_)
          have HKK := Lib.hid hK
          clear hK
          go_simp
          refine (refCheck_any i hn1 HT.out.l HT.out.x HT.out.f (by have := HPL.out; have := HLX.out; omega) (by have := HQL.out; omega)).mono ?_
          rw [HG1.out]
          rintro e wn ⟨rfl, BB⟩
          have HT := Lib.hid (HT.out.later BB)
          clear BB
          obtain ⟨wy, rfl⟩ : ∃ x : World, x = wn := ⟨_, rfl⟩
          go_simp
          refine HKK.out _ _ ⟨HT.out.r, fun _ h => h⟩ ?_
          clear HKK K
          change wpV _ _ _ _ _ _ _ (11 + 33) _ _ _
          refine wpV_heads HT.out.r trivial (by kernel_rfl) (fun _ _ _ _ _ h => h) [(12, true), (13, true), (14, true), (15, true), (16, true), (17, true), (18, true), (20, true), (21, true), (22, true), (23, true)] _ _ _ (by kernel_rfl) ?_
          iterate 11 (first | (refine wpHv_skip rfl (by rfl) ?_) | (refine wpHv_cons (v := ?_) rfl (by rfl) (fun wS hwS => ?_) ?_; rotate_left 1; (focus (have hwA := And.left hwS; clear hwS; (try dsimp only [R3] at hwA); go_simp; (try with_reducible rfl); (try (trace_state; fail))))); (try simp only [List.getElem_toArray, List.getElem_cons_zero, List.getElem_cons_succ]); (try simp only [Act.put, List.setIfInBounds_toArray, List.set_cons_zero, List.set_cons_succ]))
          refine wpHv_nil ?_
          change wpV _ _ _ _ _ _ _ (32 + 1) _ _ _
          refine wpV_one (k := 19) (by kernel_rfl) rfl (fun K hK => ?_)
          have HKK := Lib.hid hK
          clear hK
          go_simp
          refine (certCheck_any i hn1 HT.out.l HT.out.p HT.out.q (by have := HPL.out; have := HLX.out; omega) (by have := HQL.out; omega)).mono ?_
          rw [HG2.out]
          rintro e wn ⟨rfl, BB⟩
          have HT := Lib.hid (HT.out.later BB)
          clear BB
          obtain ⟨wy, rfl⟩ : ∃ x : World, x = wn := ⟨_, rfl⟩
          go_simp
          refine HKK.out _ _ ⟨HT.out.r, fun _ h => h⟩ ?_
          clear HKK K
          change wpV _ _ _ _ _ _ _ (31 + 1) _ _ _
          refine wpV_one (k := 24) (by kernel_rfl) rfl (fun K hK => ?_)
          have HKK := Lib.hid hK
          clear hK
          go_simp
          refine (refCheck_any i hn1 HT.out.l HT.out.p HT.out.q (by have := HPL.out; have := HLX.out; omega) (by have := HQL.out; omega)).mono ?_
          rw [HG2.out]
          rintro e wn ⟨rfl, BB⟩
          have HT := Lib.hid (HT.out.later BB)
          clear BB
          obtain ⟨wy, rfl⟩ : ∃ x : World, x = wn := ⟨_, rfl⟩
          go_simp
          refine HKK.out _ _ ⟨HT.out.r, fun _ h => h⟩ ?_
          clear HKK K
          change wpV _ _ _ _ _ _ _ (13 + 18) _ _ _
          refine wpV_heads HT.out.r trivial (by kernel_rfl) (fun _ _ _ _ _ h => h) [(25, true), (26, true), (27, true), (28, true), (29, true), (30, true), (31, true), (32, true), (34, true), (35, true), (36, true), (37, true), (38, true)] _ _ _ (by kernel_rfl) ?_
          iterate 13 (first | (refine wpHv_skip rfl (by rfl) ?_) | (refine wpHv_cons (v := ?_) rfl (by rfl) (fun wS hwS => ?_) ?_; rotate_left 1; (focus (have hwA := And.left hwS; clear hwS; (try dsimp only [R3] at hwA); go_simp; (try with_reducible rfl); (try (trace_state; fail))))); (try simp only [List.getElem_toArray, List.getElem_cons_zero, List.getElem_cons_succ]); (try simp only [Act.put, List.setIfInBounds_toArray, List.set_cons_zero, List.set_cons_succ]))
          refine wpHv_nil ?_
          change wpV _ _ _ _ _ _ _ (17 + 1) _ _ _
          refine wpV_one (k := 33) (by kernel_rfl) rfl (fun K hK => ?_)
          have HKK := Lib.hid hK
          clear hK
          go_simp
          refine (certCheck_any i hn1 HT.out.l HT.out.rx HT.out.q (by have := HPL.out; have := HLX.out; omega) (by have := HQL.out; omega)).mono ?_
          rw [HG3.out]
          rintro e wn ⟨rfl, BB⟩
          have HT := Lib.hid (HT.out.later BB)
          clear BB
          obtain ⟨wy, rfl⟩ : ∃ x : World, x = wn := ⟨_, rfl⟩
          go_simp
          refine HKK.out _ _ ⟨HT.out.r, fun _ h => h⟩ ?_
          clear HKK K
          change wpV _ _ _ _ _ _ _ (16 + 1) _ _ _
          refine wpV_one (k := 39) (by kernel_rfl) rfl (fun K hK => ?_)
          have HKK := Lib.hid hK
          clear hK
          go_simp
          refine (refCheck_any i hn1 HT.out.l HT.out.rx HT.out.q (by have := HPL.out; have := HLX.out; omega) (by have := HQL.out; omega)).mono ?_
          rw [HG3.out]
          rintro e wn ⟨rfl, BB⟩
          have HT := Lib.hid (HT.out.later BB)
          clear BB
          obtain ⟨wy, rfl⟩ : ∃ x : World, x = wn := ⟨_, rfl⟩
          go_simp
          refine HKK.out _ _ ⟨HT.out.r, fun _ h => h⟩ ?_
          clear HKK K
          change wpV _ _ _ _ _ _ _ (11 + 5) _ _ _
          refine wpV_heads HT.out.r trivial (by kernel_rfl) (fun _ _ _ _ _ h => h) [(40, true), (41, true), (42, true), (43, true), (44, true), (45, true), (46, true), (48, true), (49, true), (50, true), (51, true)] _ _ _ (by kernel_rfl) ?_
          iterate 11 (first | (refine wpHv_skip rfl (by rfl) ?_) | (refine wpHv_cons (v := ?_) rfl (by rfl) (fun wS hwS => ?_) ?_; rotate_left 1; (focus (have hwA := And.left hwS; clear hwS; (try dsimp only [R3] at hwA); go_simp; (try with_reducible rfl); (try (trace_state; fail))))); (try simp only [List.getElem_toArray, List.getElem_cons_zero, List.getElem_cons_succ]); (try simp only [Act.put, List.setIfInBounds_toArray, List.set_cons_zero, List.set_cons_succ]))
          refine wpHv_nil ?_
          change wpV _ _ _ _ _ _ _ (4 + 1) _ _ _
          refine wpV_one (k := 47) (by kernel_rfl) rfl (fun K hK => ?_)
          have HKK := Lib.hid hK
          clear hK
          go_simp
          refine (certCheck_any i hn1 HT.out.mo HT.out.p HT.out.q (by have := HPL.out; have := HLX.out; omega) (by have := HQL.out; omega)).mono ?_
          rw [HG4.out]
          rintro e wn ⟨rfl, BB⟩
          have HT := Lib.hid (HT.out.later BB)
          clear BB
          obtain ⟨wy, rfl⟩ : ∃ x : World, x = wn := ⟨_, rfl⟩
          go_simp
          refine HKK.out _ _ ⟨HT.out.r, fun _ h => h⟩ ?_
          clear HKK K
          change wpV _ _ _ _ _ _ _ (3 + 1) _ _ _
          refine wpV_one (k := 52) (by kernel_rfl) rfl (fun K hK => ?_)
          have HKK := Lib.hid hK
          clear hK
          go_simp
          refine (refCheck_any i hn1 HT.out.mo HT.out.p HT.out.q (by have := HPL.out; have := HLX.out; omega) (by have := HQL.out; omega)).mono ?_
          rw [HG4.out]
          rintro e wn ⟨rfl, BB⟩
          have HT := Lib.hid (HT.out.later BB)
          clear BB
          obtain ⟨wy, rfl⟩ : ∃ x : World, x = wn := ⟨_, rfl⟩
          go_simp
          refine HKK.out _ _ ⟨HT.out.r, fun _ h => h⟩ ?_
          clear HKK K
          change wpV _ _ _ _ _ _ _ (3 + 0) _ _ _
          refine wpV_heads HT.out.r trivial (by kernel_rfl) (fun _ _ _ _ _ h => h) [(53, true), (54, true), (55, true)] _ _ _ (by kernel_rfl) ?_
          iterate 3 (first | (refine wpHv_skip rfl (by rfl) ?_) | (refine wpHv_cons (v := ?_) rfl (by rfl) (fun wS hwS => ?_) ?_; rotate_left 1; (focus (have hwA := And.left hwS; clear hwS; (try dsimp only [R3] at hwA); go_simp; (try with_reducible rfl); (try (trace_state; fail))))); (try simp only [List.getElem_toArray, List.getElem_cons_zero, List.getElem_cons_succ]); (try simp only [Act.put, List.setIfInBounds_toArray, List.set_cons_zero, List.set_cons_succ]))
          refine wpHv_nil ?_
          refine wpV_done (by kernel_rfl) (NoPanic.normal ?_)
          go_wp2_with fail
          go_ret
          exact ⟨rfl, HT.out.bel⟩
end Go.Proofs.YtjgloineooadoaaGreatDoor
