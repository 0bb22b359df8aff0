/- FlowSolves: what Solve tells of any dag is right; of other graphs there is the document's error. -/
import Derived.Test.YtimffpnfhkobkaaMgF17
import Derived.Test.YtimffpnfhkobkaaMgF18
import Derived.Test.YtimffpnfhkobkaaMgF6
namespace Go.Proofs.Ytimffpnfhkobkaa
open Go.RowKit
/-- A struct of three cells. -/
def R3 (b : Nat) (v0 v1 v2 : Value) (w : World) : Prop := w.cell? ⟨b, 0, none⟩ = some v0 ∧ w.cell? ⟨b, 1, none⟩ = some v1 ∧ w.cell? ⟨b, 2, none⟩ = some v2
theorem R3.later {b : Nat} {v0 v1 v2 : Value} {w w' : World} (h : R3 b v0 v1 v2 w) (B : Below w.heap.size w w') : R3 b v0 v1 v2 w' := ⟨cell_later B h.1, cell_later B h.2.1, cell_later B h.2.2⟩
theorem R3.of_alloc (w : World) (v0 v1 v2 : Value) (t : TypeId) : R3 w.heap.size v0 v1 v2 (w.alloc (.cells #[v0, v1, v2] t)).drew :=
  ⟨(Cl.of_block (heap_at rfl) (j := 0) rfl).cell, (Cl.of_block (heap_at rfl) (j := 1) rfl).cell, (Cl.of_block (heap_at rfl) (j := 2) rfl).cell⟩
def R2 (b : Nat) (v0 v1 : Value) (w : World) : Prop := w.cell? ⟨b, 0, none⟩ = some v0 ∧ w.cell? ⟨b, 1, none⟩ = some v1
theorem R2.later {b : Nat} {v0 v1 : Value} {w w' : World} (h : R2 b v0 v1 w) (B : Below w.heap.size w w') : R2 b v0 v1 w' := ⟨cell_later B h.1, cell_later B h.2⟩
theorem R2.below {b n : Nat} {v0 v1 : Value} {w w' : World} (h : R2 b v0 v1 w) (B : Below n w w') (hb : b < n) : R2 b v0 v1 w' := ⟨(World.cell?_of_block (B.block b hb)).trans h.1, (World.cell?_of_block (B.block b hb)).trans h.2⟩
theorem okg_w {n : Nat} {L : List Arc} (k : Okg n L) : ∀ a ∈ L, 0 ≤ a.2.2 ∧ a.2.2 ≤ 1000000 := fun a ha => by
  obtain ⟨i, hi⟩ := List.getElem?_of_mem ha
  obtain ⟨f, t, x, rfl, h1, h2, h3⟩ := k.arc i a hi
  exact ⟨by show (0 : Int) ≤ x; omega, by show (x : Int) ≤ 1000000; omega⟩
theorem sol_lo {n : Nat} {L : List Arc} {xs fs : List Int} {ways : Nat} (S : Sol n L xs fs ways) (hn : n ≤ 4096) : ∀ v ∈ xs, -1000000 ≤ v ∧ v ≤ 1000000 := fun v hv => by
  have := S.lo v hv
  omega
theorem sol_small {n : Nat} {L : List Arc} {xs fs : List Int} {ways : Nat} (S : Sol n L xs fs ways) : ∀ y ∈ fs, -2000000000000 ≤ y ∧ y ≤ 2000000000000 := fun y hy => by
  obtain ⟨i, hi⟩ := List.getElem?_of_mem hy
  have h1 := S.nn i (by rw [← S.lf]; exact (List.getElem?_eq_some_iff.1 hi).1)
  unfold ff at h1
  rw [hi] at h1
  simp at h1
  omega
set_option maxRecDepth 100000 in
set_option maxHeartbeats 4000000 in
theorem solves_core {w : World} {V : Value} {T : List Tri} (N b0 b1 : Nat) (hN : N ≤ 255) (hb0 : b0 ≤ 255) (hb1 : b1 ≤ 255) (h : Tris w V T) (hs : Small T) (hl : T.length ≤ 1000000000000000) :
    Calls Try.prog 9 #[.agg #[.int .u8 (N : Int), V], .agg #[.int .u8 (b0 : Int), .int .u8 (b1 : Int)]] w fun e w' => e = .returned (.bool true) ∧ Below w.heap.size w w' := by
  obtain ⟨A, cap, rfl, -, -⟩ := h.at_
  obtain ⟨w0, hw0⟩ : ∃ w0, (w.alloc (.cells #[.int .u8 (N : Int), .slice A T.length cap] 38)).alloc (.cells #[.int .u8 (b0 : Int), .int .u8 (b1 : Int)] 63) = w0 := ⟨_, rfl⟩
  have B0 : Below w.heap.size w w0 := by rw [← hw0]; exact ((Below.refl _ _).alloc (Nat.le_refl _) _).alloc (by simp) _
  have hG : w0.heap[w.heap.size + 1]? = some (.cells #[.int .u8 (b0 : Int), .int .u8 (b1 : Int)] 63) := by rw [← hw0]; exact heap_at (by simp)
  have hG0 : w0.heap[w.heap.size]? = some (.cells #[.int .u8 (N : Int), .slice A T.length cap] 38) := by rw [← hw0]; exact heap_over rfl
  have p0 : w0.cell? ⟨w.heap.size, 0, none⟩ = some (.int .u8 (N : Int)) := (Cl.of_block hG0 (j := 0) rfl).cell
  have p1 : w0.cell? ⟨w.heap.size, 1, none⟩ = some (.slice A T.length cap) := (Cl.of_block hG0 (j := 1) rfl).cell
  have HG := Lib.hid hG
  have HB0 := Lib.hid B0
  have HH := Lib.hid (h.later B0)
  have hlt0 : w.heap.size + 1 < w0.heap.size := (Array.getElem?_eq_some_iff.1 hG).1
  clear h B0 hG hG0
  go_enter Try.func9, Try.ntmps9
  go_wp2_with fail
  clear hw0 p0 p1
  refine (make_any (T := T) N 30 hN (by omega) (by omega) HH.out hs hl).mono ?_
  have HR := Lib.hid (makeL_right N 30 (by omega) (by omega) T)
  have HE := Lib.hid (makeL_dag N 30 (by omega) (by omega) T)
  have hn1 : 1 ≤ mkN N 30 := by unfold mkN; omega
  have hn2 : mkN N 30 ≤ 30 := by unfold mkN; omega
  generalize mkN N 30 = n at *
  generalize makeL N 30 T = L at *
  rintro e w1 ⟨V1, rfl, R1, B1⟩
  obtain ⟨A1, c1, rfl, -⟩ := own_shape R1
  have HK := Lib.hid (okg_of HR.out hn1)
  have hm1 := HK.out.m1
  have HR1 := Lib.hid R1
  have HA1 := Lib.hid (Sl.of_own encA_length R1)
  have HG1 := Lib.hid (block_later B1 HG.out)
  have HB1 := Lib.hid (below_then HB0.out HB0.out.size B1)
  clear R1 B1 HB0 HG HH hs
  go_wp2_with fail
  refine (solve_any n HA1.out HK.out HE.out).mono ?_
  rintro e w2 h2
  obtain ⟨AX, cX, AF, cF, xs, fs, ways, rfl, IX, IF, S, B2⟩ := h2.at_
  have HR2 := Lib.hid (own_later HR1.out B2)
  have HA2 := Lib.hid (HA1.out.later B2)
  have HG2 := Lib.hid (block_later B2 HG1.out)
  have HB2 := Lib.hid (below_then HB1.out HB1.out.size B2)
  have HX2 := Lib.hid IX
  have HF2 := Lib.hid IF
  have HS := Lib.hid S
  clear h2 IX IF S B2 HR1 HA1 HG1 HB1
  obtain ⟨w3, hw3⟩ : ∃ w3, w2.alloc (.cells #[.slice AX n cX, .slice AF L.length cF, .int .i64 (ways : Int)] 58) = w3 := ⟨_, rfl⟩
  have B3 : Below w2.heap.size w2 w3 := by rw [← hw3]; exact (Below.refl _ _).alloc (Nat.le_refl _) _
  have BD := B3.trans ((Below.refl w3.heap.size w3).drew.mono B3.size)
  have hr3 : R3 w2.heap.size (.slice AX n cX) (.slice AF L.length cF) (.int .i64 (ways : Int)) w3.drew := by rw [← hw3]; exact R3.of_alloc _ _ _ _ _
  have HRR := Lib.hid hr3
  have HR3 := Lib.hid (own_later HR2.out BD)
  have HA3 := Lib.hid (HA2.out.later BD)
  have HG3 := Lib.hid (block_later BD HG2.out)
  have HB3 := Lib.hid (below_then HB2.out HB2.out.size BD)
  have HX3 := Lib.hid (HX2.out.later BD)
  have HF3 := Lib.hid (HF2.out.later BD)
  have HXL := Lib.hid HS.out.lx
  have HFL := Lib.hid HS.out.lf
  obtain ⟨C, hC⟩ : ∃ C, costL xs L = C := ⟨_, rfl⟩
  have HC := Lib.hid hC
  have HSU : Hid (sumN (ff fs) fs.length = C) := Lib.hid (by rw [HFL.out, HS.out.sum HK.out, hC])
  have hneC : (C != C) = false := by simp
  obtain ⟨su, hsu⟩ : ∃ su, (List.range n).map (fun v => nf (gfL n L) (wtL L) v L.length) = su := ⟨_, rfl⟩
  have HSP := Lib.hid hsu
  have HSL : Hid (su.length = n) := Lib.hid (by rw [← hsu]; simp)
  clear B3 BD HR2 HA2 HG2 HB2 HX2 HF2 hr3 hC hsu
  go_upto_region 3 with fail
  clear hw3
  refine wp_region_headsV [] [] (R3 w2.heap.size (.slice AX n cX) (.slice AF L.length cF) (.int .i64 (ways : Int))) (fun _ => True) (by kernel_rfl) (by kernel_rfl) HRR.out trivial ?_
  refine wpHv_nil ?_
  change wpV _ _ _ _ _ _ _ (32 + 1) _ _ _
  refine wpV_one (k := 0) (by kernel_rfl) rfl (fun K hK => ?_)
  have HKK := Lib.hid hK
  clear hK
  go_simp
  refine (fwakes_any _).mono ?_
  rintro e wa ⟨rfl, BA⟩
  have Ra := Lib.hid (HRR.out.later BA)
  have HBa := Lib.hid BA
  clear BA
  go_simp
  refine HKK.out _ _ ⟨Ra.out, fun _ h => h⟩ ?_
  clear HKK K
  change wpV _ _ _ _ _ _ _ (9 + 23) _ _ _
  refine wpV_heads Ra.out trivial (by kernel_rfl) (fun _ _ _ _ _ h => h) [(1, true), (2, true), (3, true), (4, true), (5, true), (6, true), (7, true), (8, true), (9, true)] _ _ _ (by kernel_rfl) ?_
  iterate 9 (first | (refine wpHv_skip rfl (by rfl) ?_) | (refine wpHv_cons (v := ?_) rfl (by rfl) (fun wS hwS => ?_) ?_; rotate_left 1; (focus (have hwA := And.left hwS; clear hwS; (try dsimp only [R3] at hwA); go_simp; (try with_reducible rfl); (try (trace_state; fail))))); (try simp only [List.getElem_toArray, List.getElem_cons_zero, List.getElem_cons_succ]); (try simp only [Act.put, List.setIfInBounds_toArray, List.set_cons_zero, List.set_cons_succ]))
  refine wpHv_nil ?_
  change wpV _ _ _ _ _ _ _ (22 + 1) _ _ _
  refine wpV_one (k := 10) (by kernel_rfl) rfl (fun K hK => ?_)
  have HKK := Lib.hid hK
  clear hK
  go_simp
  refine (lawRight_any (HA3.out.later HBa.out) HK.out HS.out (HX3.out.later HBa.out) (HF3.out.later HBa.out)).mono ?_
  rintro e wb ⟨rfl, BB⟩
  have Rb := Lib.hid (Ra.out.later BB)
  have HBb := Lib.hid (below_then HBa.out HBa.out.size BB)
  clear BB HBa Ra
  go_simp
  refine HKK.out _ _ ⟨Rb.out, fun _ h => h⟩ ?_
  clear HKK K
  change wpV _ _ _ _ _ _ _ (8 + 14) _ _ _
  refine wpV_heads Rb.out trivial (by kernel_rfl) (fun _ _ _ _ _ h => h) [(11, true), (12, true), (13, true), (14, true), (15, true), (17, true), (18, true), (19, true)] _ _ _ (by kernel_rfl) ?_
  iterate 8 (first | (refine wpHv_skip rfl (by rfl) ?_) | (refine wpHv_cons (v := ?_) rfl (by rfl) (fun wS hwS => ?_) ?_; rotate_left 1; (focus (have hwA := And.left hwS; clear hwS; (try dsimp only [R3] at hwA); go_simp; (try with_reducible rfl); (try (trace_state; fail))))); (try simp only [List.getElem_toArray, List.getElem_cons_zero, List.getElem_cons_succ]); (try simp only [Act.put, List.setIfInBounds_toArray, List.set_cons_zero, List.set_cons_succ]))
  refine wpHv_nil ?_
  change wpV _ _ _ _ _ _ _ (13 + 1) _ _ _
  refine wpV_one (k := 16) (by kernel_rfl) rfl (fun K hK => ?_)
  have HKK := Lib.hid hK
  clear hK
  go_simp
  refine (sum_any (HF3.out.later HBb.out) (by have := HFL.out; omega) (sol_small HS.out)).mono ?_
  rw [HSU.out]
  rintro e wc ⟨rfl, BC⟩
  have Rc := Lib.hid (Rb.out.later BC)
  have HBc := Lib.hid (below_then HBb.out HBb.out.size BC)
  clear BC HBb Rb
  go_simp
  refine HKK.out _ _ ⟨Rc.out, fun _ h => h⟩ ?_
  clear HKK K
  change wpV _ _ _ _ _ _ _ (12 + 1) _ _ _
  refine wpV_one (k := 20) (by kernel_rfl) rfl (fun K hK => ?_)
  have HKK := Lib.hid hK
  clear hK
  go_simp
  refine (refCost_any (HA3.out.later HBc.out) (HX3.out.later HBc.out) (by rw [HXL.out]; exact HK.out.inX) (by omega) (by rw [HXL.out]; omega) (okg_w HK.out) (sol_lo HS.out (by omega))).mono ?_
  rw [HC.out]
  rintro e wd ⟨rfl, BD⟩
  have Rd := Lib.hid (Rc.out.later BD)
  have HBd := Lib.hid (below_then HBc.out HBc.out.size BD)
  clear BD HBc Rc
  go_simp
  refine HKK.out _ _ ⟨Rd.out, fun _ h => h⟩ ?_
  clear HKK K
  change wpV _ _ _ _ _ _ _ (7 + 5) _ _ _
  refine wpV_heads Rd.out trivial (by kernel_rfl) (fun _ _ _ _ _ h => h) [(21, true), (22, true), (23, true), (24, true), (25, true), (27, true), (28, true)] _ _ _ (by kernel_rfl) ?_
  iterate 7 (first | (refine wpHv_skip rfl (by rfl) ?_) | (refine wpHv_cons (v := ?_) rfl (by rfl) (fun wS hwS => ?_) ?_; rotate_left 1; (focus (have hwA := And.left hwS; clear hwS; (try dsimp only [R3] at hwA); go_simp; (try with_reducible rfl); (try (trace_state; fail))))); (try simp only [List.getElem_toArray, List.getElem_cons_zero, List.getElem_cons_succ]); (try simp only [Act.put, List.setIfInBounds_toArray, List.set_cons_zero, List.set_cons_succ]))
  refine wpHv_nil ?_
  change wpV _ _ _ _ _ _ _ (4 + 1) _ _ _
  refine wpV_one (k := 26) (by kernel_rfl) rfl (fun K hK => ?_)
  have HKK := Lib.hid hK
  clear hK
  go_simp
  refine (supply_any n (HA3.out.later HBd.out) HK.out (by rw [HE.out]; decide)).mono ?_
  rintro e we ⟨be, rfl, hbe, Ie, BE⟩
  have Ie := Ints.of_row (Nat.le_refl n) Ie
  rw [HSP.out] at Ie
  have HIe := Lib.hid Ie
  have Re := Lib.hid (Rd.out.later BE)
  have HBe := Lib.hid (below_then HBd.out HBd.out.size BE)
  clear BE HBd Rd Ie
  go_simp
  refine HKK.out _ _ ⟨Re.out, fun _ h => h⟩ ?_
  clear HKK K
  change wpV _ _ _ _ _ _ _ (3 + 1) _ _ _
  refine wpV_one (k := 29) (by kernel_rfl) rfl (fun K hK => ?_)
  have HKK := Lib.hid hK
  clear hK
  go_simp
  refine (refSupply_any n (HA3.out.later HBe.out) HK.out).mono ?_
  rintro e wf ⟨bf, rfl, hbf, If, BF⟩
  have If := Ints.of_row (Nat.le_refl n) If
  rw [HSP.out] at If
  have HIf := Lib.hid If
  have HIe2 := Lib.hid (HIe.out.later BF)
  have Rf := Lib.hid (Re.out.later BF)
  have HBf := Lib.hid (below_then HBe.out HBe.out.size BF)
  clear BF HBe Re If HIe
  go_simp
  refine HKK.out _ _ ⟨Rf.out, fun _ h => h⟩ ?_
  clear HKK K
  change wpV _ _ _ _ _ _ _ (2 + 1) _ _ _
  refine wpV_one (k := 30) (by kernel_rfl) rfl (fun K hK => ?_)
  have HKK := Lib.hid hK
  clear hK
  go_simp
  refine (equalI_any HIe2.out HIf.out (by rw [HSL.out]; omega)).mono ?_
  rw [show decide (su = su) = true by simp]
  rintro e wg ⟨rfl, BG⟩
  have Rg := Lib.hid (Rf.out.later BG)
  have HBg := Lib.hid (below_then HBf.out HBf.out.size BG)
  clear BG HBf Rf HIf HIe2
  go_simp
  refine HKK.out _ _ ⟨Rg.out, fun _ h => h⟩ ?_
  clear HKK K
  change wpV _ _ _ _ _ _ _ (2 + 0) _ _ _
  refine wpV_heads Rg.out trivial (by kernel_rfl) (fun _ _ _ _ _ h => h) [(31, true), (32, true)] _ _ _ (by kernel_rfl) ?_
  iterate 2 (first | (refine wpHv_skip rfl (by rfl) ?_) | (refine wpHv_cons (v := ?_) rfl (by rfl) (fun wS hwS => ?_) ?_; rotate_left 1; (focus (have hwA := And.left hwS; clear hwS; (try dsimp only [R3] at hwA); go_simp; (try with_reducible rfl); (try (trace_state; fail))))); (try simp only [List.getElem_toArray, List.getElem_cons_zero, List.getElem_cons_succ]); (try simp only [Act.put, List.setIfInBounds_toArray, List.set_cons_zero, List.set_cons_succ]))
  refine wpHv_nil ?_
  refine wpV_done (by kernel_rfl) (NoPanic.normal ?_)
  have hsg := HBg.out.size
  have HRg := Lib.hid (own_later HR3.out HBg.out)
  have HGg := Lib.hid (block_later HBg.out HG3.out)
  have HWg := Lib.hid (below_then HB3.out HB3.out.size HBg.out)
  clear HRR HR3 HA3 HG3 HB3 HX3 HF3 Rg HBg HSU HC hneC HSP HSL HXL HFL HS hsg
  have z1 : IntKind.i64.wrap ((n : Int) + 1) = (n : Int) + 1 := IntWalk.i64_in _ (by omega)
  have z2 : ¬ (IntKind.i64.wrap ((n : Int) + 1) = 0) := by rw [z1]; omega
  have z3 : IntKind.i64.wrap (b0 : Int) = b0 := IntWalk.i64_in _ (by omega)
  have z4 : IntKind.i64.wrap (b1 : Int) = b1 := IntWalk.i64_in _ (by omega)
  have q0 : (IntKind.i64.wrap (b0 : Int)).tmod (IntKind.i64.wrap ((n : Int) + 1)) = ((b0 % (n + 1) : Nat) : Int) := by rw [z1, z3, Int.tmod_eq_emod_of_nonneg (by omega)]; simp
  have q1 : (IntKind.i64.wrap (b1 : Int)).tmod (IntKind.i64.wrap ((n : Int) + 1)) = ((b1 % (n + 1) : Nat) : Int) := by rw [z1, z4, Int.tmod_eq_emod_of_nonneg (by omega)]; simp
  clear z1 z3 z4
  have q2 : b0 % (n + 1) ≤ n := by have := Nat.mod_lt b0 (show 0 < n + 1 by omega); omega
  have q3 : b1 % (n + 1) ≤ n := by have := Nat.mod_lt b1 (show 0 < n + 1 by omega); omega
  generalize b0 % (n + 1) = f at *
  generalize b1 % (n + 1) = t at *
  have HR2g : Hid (R2 (w.heap.size + 1) (.int .u8 (b0 : Int)) (.int .u8 (b1 : Int)) wg.drew) := Lib.hid ⟨(Cl.of_block (w := wg.drew) HGg.out (j := 0) rfl).cell, (Cl.of_block (w := wg.drew) HGg.out (j := 1) rfl).cell⟩
  have HOg : Hid (wg.drew.ownsRow (w0.heap.size + 1) 52 3 (.slice A1 L.length c1) L.length (flat encA L)) := Lib.hid (own_later HRg.out (Below.refl _ _).drew)
  obtain ⟨j0, hj0, hy0, hy1, hy2⟩ := info_parts info_arcM
  go_upto_region 5 with fail
  refine wp_region_headsV [(0, true), (2, true), (3, true), (4, true), (5, true), (6, true), (7, true), (8, true), (9, true), (10, true), (11, true), (12, true), (13, true), (14, true)] [] (R2 (w.heap.size + 1) (.int .u8 (b0 : Int)) (.int .u8 (b1 : Int))) (fun _ => True) (by kernel_rfl) (by kernel_rfl) HR2g.out trivial ?_
  iterate 14 (first | (refine wpHv_skip rfl (by rfl) ?_) | (refine wpHv_cons (v := ?_) rfl (by rfl) (fun wS hwS => ?_) ?_; rotate_left 1; (focus (have hwA := And.left hwS; clear hwS; (try dsimp only [R2] at hwA); go_simp; (try with_reducible rfl); (try (trace_state; fail))))); (try simp only [List.getElem_toArray, List.getElem_cons_zero, List.getElem_cons_succ]); (try simp only [Act.put, List.setIfInBounds_toArray, List.set_cons_zero, List.set_cons_succ]))
  refine wpHv_nil ?_
  change wpV _ _ _ _ _ _ _ (2 + 2) _ _ _
  refine wpV_two (i := 1) (j := 15) (by kernel_rfl) (by kernel_rfl) (by kernel_rfl) rfl rfl (by decide) (fun v v' w' => ∃ (AC : Option Addr) (cC g : Nat), v = .slice AC L.length cC ∧ v' = .slice (some ⟨g, 0, none⟩) 1 1 ∧ w'.ownsRow wg.heap.size 52 3 v L.length (flat encA L) ∧ w'.heap[g]? = some (.cells #[.int .i64 (f : Int), .int .i64 (t : Int), .int .i64 0] 52) ∧ Below wg.drew.heap.size wg.drew w') (fun v v' => by rfl) (fun K hK => ?_) (fun K hK => ?_) (fun vi vj wx hA hF => ?_)
  · have HKK := Lib.hid hK
    clear hK
    go_simp
    refine (cloneA_own HOg.out (by omega)).mono ?_
    rintro e wc ⟨VC, rfl, RC, BC⟩
    obtain ⟨AC, cC, rfl, -⟩ := own_shape RC
    have HRC := Lib.hid RC
    have HBC := Lib.hid BC
    clear RC BC
    go_simp
    refine HKK.out _ _ _ rfl (HR2g.out.later HBC.out) (fun K2 hK2 => ?_)
    have HK2 := Lib.hid hK2
    clear hK2 HKK K
    go_simp
    have BB : Below wc.heap.size wc (wc.alloc (.cells #[.int .i64 (f : Int), .int .i64 (t : Int), .int .i64 0] 52)) := (Below.refl _ _).alloc (Nat.le_refl _) _
    exact HK2.out _ _ _ rfl ((HR2g.out.later HBC.out).later BB) ⟨AC, cC, _, rfl, rfl, own_later HRC.out BB, heap_at rfl, below_then HBC.out HBC.out.size BB⟩
  · have HKK := Lib.hid hK
    clear hK
    go_simp
    have BB : Below wg.drew.heap.size wg.drew (wg.drew.alloc (.cells #[.int .i64 (f : Int), .int .i64 (t : Int), .int .i64 0] 52)) := (Below.refl _ _).alloc (Nat.le_refl _) _
    refine HKK.out _ _ _ rfl (HR2g.out.later BB) (fun K2 hK2 => ?_)
    have HK2 := Lib.hid hK2
    have HBB := Lib.hid BB
    clear hK2 HKK K BB
    go_simp
    refine (cloneA_own (own_later HOg.out HBB.out) (by omega)).mono ?_
    rintro e wc ⟨VC, rfl, RC, BC⟩
    obtain ⟨AC, cC, rfl, -⟩ := own_shape RC
    have HRC := Lib.hid (row_rebase RC (base' := wg.heap.size) (by simp))
    have hgc := (BC.block wg.drew.heap.size (by simp)).trans (heap_at rfl)
    have HGC := Lib.hid hgc
    have HBC := Lib.hid BC
    clear RC BC hgc
    go_simp
    exact HK2.out _ _ _ rfl ((HR2g.out.later HBB.out).later HBC.out) ⟨AC, cC, _, rfl, rfl, HRC.out, HGC.out, below_then HBB.out HBB.out.size HBC.out⟩
  obtain ⟨AC, cC, g, rfl, rfl, RM, hgM, BM⟩ := hF
  have HRM := Lib.hid RM
  have HGM := Lib.hid hgM
  have HBM := Lib.hid BM
  have HAM := Lib.hid hA
  have hszM := BM.size
  clear RM hgM BM hA
  change wpV _ _ _ _ _ _ _ (1 + 1) _ _ _
  refine wpV_one (k := 16) (by kernel_rfl) rfl (fun K hK => ?_)
  have HKK := Lib.hid hK
  clear hK
  refine step_append_lies _ (by rfl) (.tmp 59) (.tmp 73) 22 (by rfl) wg.heap.size 52 j0 (.agg #[.int .i64 0, .int .i64 0, .int .i64 0]) 3 24 Try.underlying22 hj0 hy0 hy1 hy2 rfl (by decide) (.slice AC L.length cC) L.length (flat encA L) rfl HRM.out ⟨g, 0, none⟩ 1 1 (encA ((f : Int), (t : Int), 0)) rfl rfl (World.news_of_block HGM.out) (by intro u hu; simp [encA] at hu; rcases hu with rfl | rfl | rfl <;> rfl) (by omega) (by simp only [maxLen]; omega) (by omega) (by exact hszM) _ rfl ?_
  intro gM cM wM hown hgrow hat hltM
  have BG : Below wg.heap.size wx wM := (Below.refl wg.heap.size wx).grown hgrow (by exact hszM) (fun q hq => own_ge HRM.out hq)
  have RM := Lib.hid (HAM.out.below BG (by have := HWg.out.size; have := HGg.out; have := (Array.getElem?_eq_some_iff.1 HGg.out).1; omega))
  have HMM := Lib.hid (row_rebase hown (base' := wg.heap.size) (Nat.le_refl _))
  have HBM2 : Hid (Below wg.heap.size wg wM) := Lib.hid (((Below.refl wg.heap.size wg).drew.trans HBM.out).trans BG)
  clear hown hgrow hat hltM BG
  refine HKK.out _ _ ⟨RM.out, fun _ h => h⟩ ?_
  clear HKK K
  change wpV _ _ _ _ _ _ _ (1 + 0) _ _ _
  refine wpV_heads RM.out trivial (by kernel_rfl) (fun _ _ _ _ _ h => h) [(17, true)] _ _ _ (by kernel_rfl) ?_
  iterate 1 (first | (refine wpHv_skip rfl (by rfl) ?_) | (refine wpHv_cons (v := ?_) rfl (by rfl) (fun wS hwS => ?_) ?_; rotate_left 1; (focus (have hwA := And.left hwS; clear hwS; (try dsimp only [R2] at hwA); go_simp; (try with_reducible rfl); (try (trace_state; fail))))); (try simp only [List.getElem_toArray, List.getElem_cons_zero, List.getElem_cons_succ]); (try simp only [Act.put, List.setIfInBounds_toArray, List.set_cons_zero, List.set_cons_succ]))
  refine wpHv_nil ?_
  refine wpV_done (by kernel_rfl) (NoPanic.normal ?_)
  clear HRM HGM HBM HAM RM HR2g HOg q0 q1 z2
  obtain ⟨M, hM⟩ : ∃ M : List Arc, M = L ++ [((f : Int), (t : Int), 0)] := ⟨_, rfl⟩
  have hMl : M.length = L.length + 1 := by rw [hM]; simp
  have hma : Arcs wM (.slice (some ⟨gM, 0, none⟩) (L.length + 1) cM) M := by
    rw [← hMl]
    refine Sl.of_own encA_length (B := wg.heap.size) (E := 52) ?_
    have h := HMM.out
    rw [← hMl] at h
    have e : flat encA M = flat encA L ++ encA ((f : Int), (t : Int), 0) := by rw [hM, flat_append]; simp [flat]
    rw [e]
    exact h
  have HMA := Lib.hid hma
  have HML := Lib.hid hMl
  have HWM := Lib.hid (below_then HWg.out HWg.out.size (HBM2.out))
  clear hma hM hMl HMM HGg HWg HBM2 HRg
  go_wp2_with fail
  refine (refOrder_any _ HMA.out).mono ?_
  rintro e w5 ⟨V5, rfl, B5, R5⟩
  have HM5 := Lib.hid (HMA.out.later B5)
  have HW5 := Lib.hid (below_then HWM.out HWM.out.size B5)
  clear B5 R5 HMA HWM
  rcases ordE_range n M with hE | hE | hE
  · rw [hE]
    have HKM := Lib.hid (okg_of (ordE_right hE) hn1)
    have HEM := Lib.hid hE
    clear hE
    go_wp2_with fail
    refine (solve_any n HM5.out HKM.out HEM.out).mono ?_
    rintro e w6 h6
    obtain ⟨AY, cY, AG, cG, ys, gs, ways2, rfl, IY, IG, S2, B6⟩ := h6.at_
    obtain ⟨w7, hw7⟩ : ∃ w7, w6.alloc (.cells #[.slice AY n cY, .slice AG M.length cG, .int .i64 (ways2 : Int)] 58) = w7 := ⟨_, rfl⟩
    have B7 : Below w6.heap.size w6 w7 := by rw [← hw7]; exact (Below.refl _ _).alloc (Nat.le_refl _) _
    have hr7 : w7.heap[w6.heap.size]? = some (.cells #[.slice AY n cY, .slice AG M.length cG, .int .i64 (ways2 : Int)] 58) := by rw [← hw7]; exact heap_at rfl
    have r0 : w7.cell? ⟨w6.heap.size, 0, none⟩ = some (.slice AY n cY) := (Cl.of_block hr7 (j := 0) rfl).cell
    have r1 : w7.cell? ⟨w6.heap.size, 1, none⟩ = some (.slice AG M.length cG) := (Cl.of_block hr7 (j := 1) rfl).cell
    have r2 : w7.cell? ⟨w6.heap.size, 2, none⟩ = some (.int .i64 (ways2 : Int)) := (Cl.of_block hr7 (j := 2) rfl).cell
    have B67 := below_then B6 B6.size B7
    have HM7 := Lib.hid (HM5.out.later B67)
    have HW7 := Lib.hid (below_then HW5.out HW5.out.size B67)
    have HIY := Lib.hid (IY.later B7)
    have HIG := Lib.hid (IG.later B7)
    have HS2 := Lib.hid S2
    have hn0 : ((n : Int) == 0) = false := by simp; omega
    clear h6 IY IG S2 B6 B7 B67 hr7 HM5 HW5
    go_wp2_with fail
    clear hw7
    refine (lawRight_any HM7.out HKM.out HS2.out HIY.out HIG.out).mono ?_
    rintro e w8 ⟨rfl, B8⟩
    have HM8 := Lib.hid (HM7.out.later B8)
    have HW8 := Lib.hid (below_then HW7.out HW7.out.size B8)
    clear B8 HM7 HW7 HIY HIG r0 r1 r2
    go_wp2_with fail
    refine (supply_any n HM8.out HKM.out (by rw [HEM.out]; decide)).mono ?_
    rintro e w9 ⟨b9, rfl, -, -, B9⟩
    have HW9 := Lib.hid (below_then HW8.out HW8.out.size B9)
    clear B9 HM8 HW8
    go_wp2_with fail
    go_ret
    exact ⟨rfl, HW9.out⟩
  · rw [hE]
    have HEM := Lib.hid hE
    clear hE
    go_wp2_with fail
    refine (solve_err n HM5.out (by rw [HEM.out]; decide)).mono ?_
    rw [HEM.out]
    rintro e w6 ⟨rfl, B6⟩
    have B67 := below_then B6 B6.size ((Below.refl w6.heap.size w6).alloc (Nat.le_refl _) (.cells #[.slice none 0 0, .slice none 0 0, .int .i64 0] 58))
    have HM7 := Lib.hid (HM5.out.later B67)
    have HW7 := Lib.hid (below_then HW5.out HW5.out.size B67)
    clear B6 B67 HM5 HW5
    go_wp2_with fail
    refine (supply_err n HM7.out HEM.out).mono ?_
    rintro e w9 ⟨rfl, B9⟩
    have HW9 := Lib.hid (below_then HW7.out HW7.out.size B9)
    clear B9 HM7 HW7
    go_wp2_with fail
    go_ret
    exact ⟨rfl, HW9.out⟩
  · rw [hE]
    have hR : rightB n M = true := by
      cases h : rightB n M with
      | true => rfl
      | false => unfold ordE at hE; rw [h] at hE; simp at hE
    have HKM := Lib.hid (okg_of hR hn1)
    have HEM := Lib.hid hE
    have hn0 : ((n : Int) == 0) = false := by simp; omega
    clear hE hR
    go_wp2_with fail
    refine (solve_err n HM5.out (by rw [HEM.out]; decide)).mono ?_
    rw [HEM.out]
    rintro e w6 ⟨rfl, B6⟩
    have B67 := below_then B6 B6.size ((Below.refl w6.heap.size w6).alloc (Nat.le_refl _) (.cells #[.slice none 0 0, .slice none 0 0, .int .i64 0] 58))
    have HM7 := Lib.hid (HM5.out.later B67)
    have HW7 := Lib.hid (below_then HW5.out HW5.out.size B67)
    clear B6 B67 HM5 HW5
    go_wp2_with fail
    refine (supply_any n HM7.out HKM.out (by rw [HEM.out]; decide)).mono ?_
    rintro e w9 ⟨b9, rfl, -, -, B9⟩
    have HW9 := Lib.hid (below_then HW7.out HW7.out.size B9)
    clear B9 HM7 HW7
    go_wp2_with fail
    go_ret
    exact ⟨rfl, HW9.out⟩
end Go.Proofs.Ytimffpnfhkobkaa
