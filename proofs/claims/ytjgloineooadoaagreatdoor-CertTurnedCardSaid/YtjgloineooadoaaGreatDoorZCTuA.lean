/- CertTurned: a proof is one, too, of the graph turned; two proofs side by side are one of both graphs together. -/
import Derived.Test.YtjgloineooadoaaGreatDoorMgZ2
import Derived.Test.YtjgloineooadoaaGreatDoorMgZ13
import Derived.Test.YtjgloineooadoaaGreatDoorMgZ14
import Derived.Test.YtjgloineooadoaaGreatDoorZSolA
import Derived.Test.YtjgloineooadoaaGreatDoorMgZ19
namespace Go.Proofs.YtjgloineooadoaaGreatDoor
open Go.RowKit
def RR (a b : Nat) (x1 f1 x2 f2 : Value) (w : World) : Prop := w.cell? ⟨a, 0, none⟩ = some x1 ∧ w.cell? ⟨a, 1, none⟩ = some f1 ∧ w.cell? ⟨b, 0, none⟩ = some x2 ∧ w.cell? ⟨b, 1, none⟩ = some f2
theorem RR.later {a b : Nat} {x1 f1 x2 f2 : Value} {w w' : World} (h : RR a b x1 f1 x2 f2 w) (B : Below w.heap.size w w') : RR a b x1 f1 x2 f2 w' := ⟨cell_later B h.1, cell_later B h.2.1, cell_later B h.2.2.1, cell_later B h.2.2.2⟩
structure TuF (a b : Nat) (X1 F1 X2 F2 BO : Value) (LS : List Arc) (xs fs zs gs : List Int) (w0 w : World) : Prop where
  r : RR a b X1 F1 X2 F2 w
  o : Arcs w BO LS
  x : Ints w X1 xs
  f : Ints w F1 fs
  z : Ints w X2 zs
  g : Ints w F2 gs
  bel : Below w0.heap.size w0 w
theorem TuF.later {a b : Nat} {X1 F1 X2 F2 BO : Value} {LS : List Arc} {xs fs zs gs : List Int} {w0 w w' : World} (h : TuF a b X1 F1 X2 F2 BO LS xs fs zs gs w0 w) (B : Below w.heap.size w w') : TuF a b X1 F1 X2 F2 BO LS xs fs zs gs w0 w' :=
  ⟨h.r.later B, h.o.later B, h.x.later B, h.f.later B, h.z.later B, h.g.later B, below_then h.bel h.bel.size B⟩
set_option maxRecDepth 100000 in
set_option maxHeartbeats 4000000 in
theorem certTurned_core {w : World} {V VY : Value} {T TY : List Tri} {m0 : Int} (N NY : Nat) (hN : N ≤ 255) (hNY : NY ≤ 255) (h : Tris w V T) (hs : Small T) (hl : T.length ≤ 1000000000000000) (hy : Tris w VY TY) (hsy : Small TY) (hly : TY.length ≤ 1000000000000000) (hM : w.cell? ⟨0, 0, none⟩ = some (.int .i64 m0)) :
    Calls Tryz.prog 4 #[.agg #[.int .u8 (N : Int), V], .agg #[.int .u8 (NY : Int), VY]] w fun e w' => e = .returned (.bool true) ∧ Below w.heap.size w w' := by
  obtain ⟨A, cap, rfl, -, -⟩ := h.at_
  obtain ⟨AY, capY, rfl, -, -⟩ := hy.at_
  obtain ⟨w0, hw0⟩ : ∃ w0, (w.alloc (.cells #[.int .u8 (N : Int), .slice A T.length cap] 24)).alloc (.cells #[.int .u8 (NY : Int), .slice AY TY.length capY] 24) = w0 := ⟨_, rfl⟩
  have B0 : Below w.heap.size w w0 := by rw [← hw0]; exact ((Below.refl _ _).alloc (Nat.le_refl _) _).alloc (by simp) _
  have hG : w0.heap[w.heap.size + 1]? = some (.cells #[.int .u8 (NY : Int), .slice AY TY.length capY] 24) := by rw [← hw0]; exact heap_at (by simp)
  have hG0 : w0.heap[w.heap.size]? = some (.cells #[.int .u8 (N : Int), .slice A T.length cap] 24) := by rw [← hw0]; exact heap_over rfl
  have p0 : w0.cell? ⟨w.heap.size, 0, none⟩ = some (.int .u8 (N : Int)) := (Cl.of_block hG0 (j := 0) rfl).cell
  have p1 : w0.cell? ⟨w.heap.size, 1, none⟩ = some (.slice A T.length cap) := (Cl.of_block hG0 (j := 1) rfl).cell
  have HG := Lib.hid hG
  have HB0 := Lib.hid B0
  have HH := Lib.hid (h.later B0)
  have HY := Lib.hid (hy.later B0)
  have HM0 := Lib.hid (cell_later B0 hM)
  clear h hy B0 hG hG0 hM
  go_enter Tryz.func4, Tryz.ntmps4
  go_wp2_with fail
  clear hw0 p0 p1
  refine (make_any (T := T) N 12 hN (by omega) (by omega) HH.out hs hl).mono ?_
  have HR0 := Lib.hid (makeL_right N 12 (by omega) (by omega) T)
  have HE := Lib.hid (makeL_dag N 12 (by omega) (by omega) T)
  have HUP := Lib.hid (makeL_up N 12 T)
  have hn1 : 1 ≤ mkN N 12 := by unfold mkN; omega
  have hn2 : mkN N 12 ≤ 12 := by unfold mkN; omega
  have hlen : (makeL N 12 T).length ≤ 40 := makeL_length N 12 T
  generalize mkN N 12 = n at *
  generalize makeL N 12 T = L at *
  rintro e w1 ⟨V1, rfl, R1, B1⟩
  obtain ⟨A1, c1, rfl, -⟩ := own_shape R1
  have HK := Lib.hid (okg_of HR0.out hn1)
  have HR1 := Lib.hid R1
  have hG1 := block_later B1 HG.out
  have p0 : w1.cell? ⟨w.heap.size + 1, 0, none⟩ = some (.int .u8 (NY : Int)) := (Cl.of_block hG1 (j := 0) rfl).cell
  have p1 : w1.cell? ⟨w.heap.size + 1, 1, none⟩ = some (.slice AY TY.length capY) := (Cl.of_block hG1 (j := 1) rfl).cell
  have HY1 := Lib.hid (HY.out.later B1)
  have HM1 := Lib.hid (cell_later B1 HM0.out)
  have HB1 := Lib.hid (below_then HB0.out HB0.out.size B1)
  clear R1 B1 HB0 HG HH hs HY hG1 HM0
  go_wp2_with fail
  clear p0 p1
  refine (make_any (T := TY) NY 12 hNY (by omega) (by omega) HY1.out hsy hly).mono ?_
  have HRm := Lib.hid (makeL_right NY 12 (by omega) (by omega) TY)
  have HEm := Lib.hid (makeL_dag NY 12 (by omega) (by omega) TY)
  have HUPm := Lib.hid (makeL_up NY 12 TY)
  have hm1 : 1 ≤ mkN NY 12 := by unfold mkN; omega
  have hm2 : mkN NY 12 ≤ 12 := by unfold mkN; omega
  have hlenm : (makeL NY 12 TY).length ≤ 40 := makeL_length NY 12 TY
  generalize mkN NY 12 = m at *
  generalize makeL NY 12 TY = M at *
  rintro e w2 ⟨V2, rfl, R2, B2⟩
  obtain ⟨A2, c2, rfl, -⟩ := own_shape R2
  have HKm := Lib.hid (okg_of HRm.out hm1)
  have HR2 := Lib.hid (own_later HR1.out B2)
  have HA2 := Lib.hid (Sl.of_own encA_length R2)
  have HL2 := Lib.hid (Sl.of_own encA_length HR2.out)
  have HM2 := Lib.hid (cell_later B2 HM1.out)
  have HB2 := Lib.hid (below_then HB1.out HB1.out.size B2)
  clear R2 B2 HR1 HB1 HY1 hsy HM1
  go_wp2_with fail
  refine (solve_any n HL2.out HK.out HE.out).mono ?_
  rintro e w3 hh
  obtain ⟨AX, cX, AF, cF, xs, fs, ways, rfl, IX, IF, SS, B1⟩ := solW_at hh
  obtain ⟨w4, hw⟩ : ∃ w4, w3.alloc (.cells #[.slice AX n cX, .slice AF L.length cF, .int .i64 (ways : Int)] 31) = w4 := ⟨_, rfl⟩
  have B2 : Below w3.heap.size w3 w4 := by rw [← hw]; exact (Below.refl _ _).alloc (Nat.le_refl _) _
  have hr : w4.heap[w3.heap.size]? = some (.cells #[.slice AX n cX, .slice AF L.length cF, .int .i64 (ways : Int)] 31) := by rw [← hw]; exact heap_at rfl
  have B3 := below_then B1 B1.size B2
  have HR4 := Lib.hid (own_later HR2.out B3)
  have HA4 := Lib.hid (HA2.out.later B3)
  have HL4 := Lib.hid (HL2.out.later B3)
  have HM4 := Lib.hid (cell_later B3 HM2.out)
  have HB4 := Lib.hid (below_then HB2.out HB2.out.size B3)
  have HX4 := Lib.hid (IX.later B2)
  have HF4 := Lib.hid (IF.later B2)
  have HG4 := Lib.hid hr
  have HSX := Lib.hid SS
  clear hh IX IF SS B1 B2 B3 hr HR2 HA2 HL2 HM2 HB2
  go_wp2_with fail
  clear hw
  refine (solve_any m HA4.out HKm.out HEm.out).mono ?_
  rintro e w5 hh
  obtain ⟨AZ, cZ, AG, cG, zs, gs, ways2, rfl, IX, IF, SS, B1⟩ := solW_at hh
  obtain ⟨w6, hw⟩ : ∃ w6, w5.alloc (.cells #[.slice AZ m cZ, .slice AG M.length cG, .int .i64 (ways2 : Int)] 31) = w6 := ⟨_, rfl⟩
  have B2 : Below w5.heap.size w5 w6 := by rw [← hw]; exact (Below.refl _ _).alloc (Nat.le_refl _) _
  have hr : w6.heap[w5.heap.size]? = some (.cells #[.slice AZ m cZ, .slice AG M.length cG, .int .i64 (ways2 : Int)] 31) := by rw [← hw]; exact heap_at rfl
  have B3 := below_then B1 B1.size B2
  have HR6 := Lib.hid (own_later HR4.out B3)
  have HA6 := Lib.hid (HA4.out.later B3)
  have HL6 := Lib.hid (HL4.out.later B3)
  have HM6 := Lib.hid (cell_later B3 HM4.out)
  have HB6 := Lib.hid (below_then HB4.out HB4.out.size B3)
  have HX6 := Lib.hid (HX4.out.later B3)
  have HF6 := Lib.hid (HF4.out.later B3)
  have HG6 := Lib.hid (block_later B3 HG4.out)
  have HZ6 := Lib.hid (IX.later B2)
  have HW6 := Lib.hid (IF.later B2)
  have HQ6 := Lib.hid hr
  have HSZ := Lib.hid SS
  clear hh IX IF SS B1 B2 B3 hr HR4 HA4 HL4 HM4 HB4 HX4 HF4 HG4
  go_wp2_with fail
  clear hw
  refine (wakes_ok HM6.out).mono ?_
  rintro e w7 ⟨rfl, B7⟩
  have bk := block_later B7 HG6.out
  have bq := block_later B7 HQ6.out
  have g1 : w7.cell? ⟨w3.heap.size, 0, none⟩ = some (.slice AX n cX) := (Cl.of_block bk (j := 0) rfl).cell
  have HRR : Hid (RR w3.heap.size w5.heap.size (.slice AX n cX) (.slice AF L.length cF) (.slice AZ m cZ) (.slice AG M.length cG) w7) := Lib.hid ⟨(Cl.of_block bk (j := 0) rfl).cell, (Cl.of_block bk (j := 1) rfl).cell, (Cl.of_block bq (j := 0) rfl).cell, (Cl.of_block bq (j := 1) rfl).cell⟩
  have HR7 := Lib.hid (own_later HR6.out B7)
  have HA7 := Lib.hid (HA6.out.later B7)
  have HL7 := Lib.hid (HL6.out.later B7)
  have HB7 := Lib.hid (below_then HB6.out HB6.out.size B7)
  have HX7 := Lib.hid (HX6.out.later B7)
  have HF7 := Lib.hid (HF6.out.later B7)
  have HZ7 := Lib.hid (HZ6.out.later B7)
  have HW7 := Lib.hid (HW6.out.later B7)
  clear bk bq B7 HR6 HA6 HL6 HM6 HB6 HX6 HF6 HG6 HZ6 HW6 HQ6 g1
  generalize w3.heap.size = ga at *
  generalize w5.heap.size = gb at *
  go_wp2_with fail
  go_loopw [13, 56] (fun Vl q wr => ∃ i : Nat, i ≤ L.length ∧ q = .int .i64 i ∧ wr.ownsRow w7.heap.size 40 3 Vl i (flat encA (backL (L.take i))) ∧ Below w7.heap.size w7 wr) (fun _ q _ => L.length - (intOf q).toNat)
  case atStart => exact ⟨0, by omega, rfl, World.ownsRow_nil _ _ _ _, Below.refl _ _⟩
  case round =>
    obtain ⟨i, hi, rfl, R, B⟩ := hrel
    obtain ⟨wo, rfl⟩ : ∃ x : World, x = wr := ⟨_, rfl⟩
    obtain ⟨AV, cV, hVl, -⟩ := own_shape R
    subst hVl
    have HR := Lib.hid R
    have HB := Lib.hid B
    have hwo := B.size
    clear R B
    by_cases hil : i < L.length
    · have hd1 : decide ((i : Int) < L.length) = true := by simp; omega
      obtain ⟨A', cap', e1, -, -, hA⟩ := Arcs.at_ HL7.out
      injection e1 with e1 e2 e3
      subst e1
      obtain ⟨ba, off, rfl, hc⟩ := hA (by omega)
      obtain ⟨a, ha⟩ : ∃ a, L[i]? = some a := ⟨_, List.getElem?_eq_getElem hil⟩
      have HStep := Lib.hid (backL_takeT ha)
      obtain ⟨e0, e1, e2⟩ := hc i a ha
      have e0 := cell_later HB.out e0
      have e1 := cell_later HB.out e1
      have e2 := cell_later HB.out e2
      obtain ⟨f, t, x⟩ := a
      simp only at e0 e1 e2
      have i1 : (0 : Int) ≤ (i : Int) := by omega
      have i2 : (i : Int) < (L.length : Int) := by omega
      clear hc ha e3
      obtain ⟨j0, hj0, hy0, hy1, hy2⟩ := info_parts info_arcM
      go_wp2_with (refine wpList_append_lies _ rfl (.tmp 60) (.tmp 68) 26 rfl w7.heap.size 40 j0 (.agg #[.int .i64 0, .int .i64 0, .int .i64 0]) 3 24 Tryz.underlying26 hj0 hy0 hy1 hy2 rfl (by decide) (.slice AV i cV) i (flat encA (backL (L.take i))) rfl (own_later HR.out (((Below.refl _ _).alloc (Nat.le_refl _) _).alloc (by simp) _)) ⟨wo.heap.size + 1, 0, none⟩ 1 1 (encA (t, f, x)) rfl rfl (World.news_of_block (heap_at (by simp))) (by intro u hu; simp [encA] at hu; rcases hu with rfl | rfl | rfl <;> rfl) (by omega) (by simp only [maxLen]; omega) (by omega) (by simp; omega) _ rfl ?_; intro g cq w8 hown hgrow hat hlt)
      have HB4 := (HB.out.trans ((((Below.refl wo.heap.size wo).alloc (Nat.le_refl _) _).alloc (by simp) _).mono hwo)).grown hgrow (by simp; omega) (fun q hq => own_ge HR.out hq)
      refine ⟨⟨i + 1, by omega, by go_num, ?_, HB4⟩, by simp [intOf]; omega⟩
      rw [HStep.out, flat_append]
      simpa [flat] using hown
    · have e : i = L.length := by omega
      subst e
      have hd1 : decide ((L.length : Int) < L.length) = false := by simp
      have RB := HR.out
      rw [List.take_of_length_le (Nat.le_refl _)] at RB
      have HBK := Lib.hid (Sl.of_own encA_length (by rw [backL_lengthT]; exact RB) : Arcs wo (.slice AV L.length cV) (backL L))
      have HRo := Lib.hid (own_later HR7.out HB.out)
      have HRRo := Lib.hid (HRR.out.later HB.out)
      have HAo := Lib.hid (HA7.out.later HB.out)
      have HXo := Lib.hid (HX7.out.later HB.out)
      have HFo := Lib.hid (HF7.out.later HB.out)
      have HZo := Lib.hid (HZ7.out.later HB.out)
      have HWo := Lib.hid (HW7.out.later HB.out)
      have HBo := Lib.hid (below_then HB7.out HB7.out.size HB.out)
      have hlx := HSX.out.lx
      have hXA := HXo.out
      rw [← hlx] at hXA
      have HXA := Lib.hid (Ints.at_ hXA)
      have p0 := HRRo.out.1
      have HLX := Lib.hid hlx
      clear RB HR HR7 HL7 HA7 HX7 HF7 HZ7 HW7 HB7 HB hwo HRR hXA hlx
      obtain ⟨i0, hi0, hz0, hz1, hz2⟩ := info_parts info_intN
      go_wp2_with fail
      clear p0
      go_loopw [14, 74] (fun Vl q wr => ∃ i : Nat, i ≤ n ∧ q = .int .i64 i ∧ wr.ownsRow wo.heap.size 3 1 Vl i (flat encI ((xs.take i).map fun v => -v)) ∧ Below wo.heap.size wo wr) (fun _ q _ => n - (intOf q).toNat)
      case atStart => exact ⟨0, by omega, rfl, World.ownsRow_nil _ _ _ _, Below.refl _ _⟩
      case round =>
        obtain ⟨i, hi, rfl, R, B⟩ := hrel
        obtain ⟨wq, rfl⟩ : ∃ x : World, x = wr := ⟨_, rfl⟩
        obtain ⟨AN, cN, hVl, -⟩ := own_shape R
        subst hVl
        have HRq := Lib.hid R
        have HBq := Lib.hid B
        have hwq := B.size
        clear R B
        by_cases hil : i < n
        · have hd : decide ((i : Int) < n) = true := by simp; omega
          obtain ⟨A', c', hV', -, -, hA'⟩ := HXA.out
          injection hV' with e1 e2 e3
          subst e1
          have hlx' : i < xs.length := by rw [HLX.out]; exact hil
          obtain ⟨ba, off, rfl, hc⟩ := hA' (by omega)
          have c0 := cell_later HBq.out (hc i _ (List.getElem?_eq_getElem hlx'))
          have HST := Lib.hid (take_map_succ (fun v : Int => -v) hlx')
          have hxb := HSX.out.lo _ (List.getElem_mem hlx')
          have i1 : (0 : Int) ≤ (i : Int) := by omega
          have i2 : (i : Int) < (n : Int) := by omega
          clear hc hA' e2 e3
          generalize xs[i] = x at *
          have e2 : IntKind.i64.wrap (-x) = -x := IntWalk.i64_in _ (by omega)
          go_wp2_with (refine wpList_append_lies _ rfl (.tmp 78) (.tmp 81) 29 rfl wo.heap.size 3 i0 (.int .i64 0) 1 8 Tryz.underlying29 hi0 hz0 hz1 hz2 rfl (by decide) (.slice AN i cN) i (flat encI ((xs.take i).map fun v => -v)) rfl (own_later HRq.out ((Below.refl _ _).alloc (Nat.le_refl _) _)) ⟨wq.heap.size, 0, none⟩ 1 1 (encI (-x)) rfl rfl (World.news_of_block (heap_at rfl)) (by intro u hu; simp [encI] at hu; subst hu; rfl) (by omega) (by simp only [maxLen]; omega) (by omega) (by simp; omega) _ rfl ?_; intro gq cq w8 hown hgrow hat hlt)
          have HB8 := (HBq.out.trans (((Below.refl wq.heap.size wq).alloc (Nat.le_refl _) _).mono HBq.out.size)).grown hgrow (by simp; omega) (fun q hq => own_ge HRq.out hq)
          refine ⟨⟨i + 1, by omega, by go_num, ?_, HB8⟩, by simp [intOf]; omega⟩
          rw [HST.out, flat_append]
          simpa [flat] using hown
        · have e : i = n := by omega
          subst e
          have hd : decide ((i : Int) < i) = false := by simp
          have RB := HRq.out
          rw [List.take_of_length_le (by rw [HLX.out]; exact Nat.le_refl _)] at RB
          have HXN : Hid (Ints wq (.slice AN i cN) (xs.map fun v => -v)) := Lib.hid (Sl.of_own encI_length (by rw [List.length_map, HLX.out]; exact RB))
          have HRq2 := Lib.hid (own_later HRo.out HBq.out)
          have HRRq := Lib.hid (HRRo.out.later HBq.out)
          have HBKq := Lib.hid (HBK.out.later HBq.out)
          have HAq := Lib.hid (HAo.out.later HBq.out)
          have HXq := Lib.hid (HXo.out.later HBq.out)
          have HFq := Lib.hid (HFo.out.later HBq.out)
          have HZq := Lib.hid (HZo.out.later HBq.out)
          have HWq := Lib.hid (HWo.out.later HBq.out)
          have HBq2 := Lib.hid (below_then HBo.out HBo.out.size HBq.out)
          clear RB HRq HXA HRo HRRo HBK HAo HXo HFo HZo HWo HBo HBq hwq
          go_wp2_with fail
          refine (cloneA_own HRq2.out (by omega)).mono ?_
          rintro e w9 ⟨V9, rfl, R9, B9⟩
          obtain ⟨A9, c9, rfl, -⟩ := own_shape R9
          have HR9 := Lib.hid R9
          have HB9 := Lib.hid B9
          clear R9 B9
          go_wp2_with fail
          go_loopw [19, 88] (fun Vl q wr => ∃ j : Nat, j ≤ M.length ∧ q = .int .i64 j ∧ wr.ownsRow wq.heap.size 40 3 Vl (L.length + j) (flat encA (L ++ shL i (M.take j))) ∧ Below wq.heap.size wq wr) (fun _ q _ => M.length - (intOf q).toNat)
          case atStart => exact ⟨0, by omega, rfl, by simpa [shL] using HR9.out, HB9.out⟩
          case round =>
            clear HR9 HB9
            obtain ⟨j, hj, rfl, R, B⟩ := hrel
            obtain ⟨wp, rfl⟩ : ∃ x : World, x = wr := ⟨_, rfl⟩
            obtain ⟨AB, cB, hVl, -⟩ := own_shape R
            subst hVl
            have HR := Lib.hid R
            have HB := Lib.hid B
            have hwp := B.size
            clear R B
            by_cases hil : j < M.length
            · have hd2 : decide ((j : Int) < M.length) = true := by simp; omega
              obtain ⟨A', cap', e1, -, -, hA⟩ := Arcs.at_ HAq.out
              injection e1 with e1 e2 e3
              subst e1
              obtain ⟨ba, off, rfl, hc⟩ := hA (by omega)
              obtain ⟨hat, hf, ht, -, -⟩ := HKm.out.at_ hil
              have HStep := Lib.hid (shL_take i hat)
              obtain ⟨e0, e1, e2⟩ := hc j _ hat
              have e0 := cell_later HB.out e0
              have e1 := cell_later HB.out e1
              have e2 := cell_later HB.out e2
              have i1 : (0 : Int) ≤ (j : Int) := by omega
              have i2 : (j : Int) < (M.length : Int) := by omega
              clear hc hat e3
              generalize frL M j = f at *
              generalize ttL M j = t at *
              generalize wtL M j = x at *
              simp only at e0 e1 e2 HStep
              have y1 : IntKind.i64.wrap ((i : Int) + (f : Int)) = (i : Int) + f := IntWalk.i64_in _ (by omega)
              have y2 : IntKind.i64.wrap ((i : Int) + (t : Int)) = (i : Int) + t := IntWalk.i64_in _ (by omega)
              obtain ⟨j0, hj0, hy0, hy1, hy2⟩ := info_parts info_arcM
              go_wp2_with (refine wpList_append_lies _ rfl (.tmp 92) (.tmp 104) 26 rfl wq.heap.size 40 j0 (.agg #[.int .i64 0, .int .i64 0, .int .i64 0]) 3 24 Tryz.underlying26 hj0 hy0 hy1 hy2 rfl (by decide) (.slice AB (L.length + j) cB) (L.length + j) (flat encA (L ++ shL i (M.take j))) rfl (own_later HR.out (((Below.refl _ _).alloc (Nat.le_refl _) _).alloc (by simp) _)) ⟨wp.heap.size + 1, 0, none⟩ 1 1 (encA ((i : Int) + f, (i : Int) + t, x)) rfl rfl (World.news_of_block (heap_at (by simp))) (by intro u hu; simp [encA] at hu; rcases hu with rfl | rfl | rfl <;> rfl) (by omega) (by simp only [maxLen]; omega) (by omega) (by simp; omega) _ rfl ?_; intro g cq w10 hown hgrow hat hlt)
              have HB4 := (HB.out.trans ((((Below.refl wp.heap.size wp).alloc (Nat.le_refl _) _).alloc (by simp) _).mono hwp)).grown hgrow (by simp; omega) (fun q hq => own_ge HR.out hq)
              refine ⟨⟨j + 1, by omega, by go_num, ?_, HB4⟩, by simp [intOf]; omega⟩
              rw [HStep.out, ← List.append_assoc, flat_append]
              simpa [flat, Nat.add_assoc] using hown
            · have e : j = M.length := by omega
              subst e
              have hd2 : decide ((M.length : Int) < M.length) = false := by simp
              have RB := HR.out
              rw [List.take_of_length_le (Nat.le_refl _)] at RB
              have hbl : (L ++ shL i M).length = L.length + M.length := by simp [shL]
              have HBoA := (Sl.of_own encA_length (by rw [hbl]; exact RB) : Arcs wp (.slice AB (L.length + M.length) cB) (L ++ shL i M))
              have HTU : Hid (TuF ga gb (.slice AX i cX) (.slice AF L.length cF) (.slice AZ m cZ) (.slice AG M.length cG) (.slice AB (L.length + M.length) cB) (L ++ shL i M) xs fs zs gs w wp) := Lib.hid ⟨HRRq.out.later HB.out, HBoA, HXq.out.later HB.out, HFq.out.later HB.out, HZq.out.later HB.out, HWq.out.later HB.out, below_then HBq2.out HBq2.out.size HB.out⟩
              have HBKp := Lib.hid (HBKq.out.later HB.out)
              have HXNp := Lib.hid (HXN.out.later HB.out)
              have HC1 := Lib.hid (HSX.out.turned HK.out HR0.out HUP.out)
              have HC2 := Lib.hid (HSX.out.both HSZ.out HK.out HKm.out (by omega) (by omega) HUP.out HUPm.out)
              have HLF := Lib.hid HSX.out.lf
              have HLZ := Lib.hid HSZ.out.lx
              have HLG := Lib.hid HSZ.out.lf
              have y3 : IntKind.i64.wrap ((i : Int) + (m : Int)) = ((i + m : Nat) : Int) := by rw [IntWalk.i64_in _ (by omega)]; omega
              have hK1 : 1 ≤ i + m := by omega
              obtain ⟨LS, hLS⟩ : ∃ LS, L ++ shL i M = LS := ⟨_, rfl⟩
              obtain ⟨k, hk⟩ : ∃ k, i + m = k := ⟨_, rfl⟩
              rw [hLS] at HTU HC2
              rw [hk] at y3 hK1 HC2
              clear hLS hk RB hbl HBoA HR HB hwp HRq2 HRRq HBKq HAq HXq HFq HZq HWq HBq2 HXN
              have BD : Below wp.heap.size wp wp.drew := (Below.refl _ _).drew
              have HTD := Lib.hid (HTU.out.later BD)
              have HBKd := Lib.hid (HBKp.out.later BD)
              have HXNd := Lib.hid (HXNp.out.later BD)
              clear BD HTU HBKp HXNp
              go_upto_region 25 with fail
              refine wp_region_headsV [(0, true), (1, true), (2, true), (3, true), (4, true)] [] (RR ga gb (.slice AX i cX) (.slice AF L.length cF) (.slice AZ m cZ) (.slice AG M.length cG)) (fun _ => True) (by kernel_rfl) (by kernel_rfl) HTD.out.r trivial ?_
              iterate 5 (first | (refine wpHv_skip rfl (by rfl) ?_) | (refine wpHv_cons (v := ?_) rfl (by rfl) (fun wS hwS => ?_) ?_; rotate_left 1; (focus (have hwA := And.left hwS; clear hwS; (try dsimp only [RR] at hwA); go_simp; (try with_reducible rfl); (try (trace_state; fail))))); (try simp only [List.getElem_toArray, List.getElem_cons_zero, List.getElem_cons_succ]); (try simp only [Act.put, List.setIfInBounds_toArray, List.set_cons_zero, List.set_cons_succ]))
              refine wpHv_nil ?_
              change wpV _ _ _ _ _ _ _ (22 + 1) _ _ _
              refine wpV_one (k := 5) (by kernel_rfl) rfl (fun K hK => ?_)
              have HKK := Lib.hid hK
              clear hK
              go_simp
              refine (certCheck_any i hn1 HBKd.out HXNd.out HTD.out.f (by rw [List.length_map, HLX.out]; omega) (by rw [HLF.out]; omega)).mono ?_
              rw [HC1.out]
              rintro e wy ⟨rfl, BB⟩
              have HT := Lib.hid (HTD.out.later BB)
              clear BB
              go_simp
              refine HKK.out _ _ ⟨HT.out.r, fun _ h => h⟩ ?_
              clear HKK K
              change wpV _ _ _ _ _ _ _ (14 + 8) _ _ _
              refine wpV_heads HT.out.r trivial (by kernel_rfl) (fun _ _ _ _ _ h => h) [(6, true), (7, true), (8, true), (9, true), (10, true), (11, true), (12, true), (13, true), (14, true), (15, true), (18, true), (19, true), (20, true), (21, true)] _ _ _ (by kernel_rfl) ?_
              iterate 14 (first | (refine wpHv_skip rfl (by rfl) ?_) | (refine wpHv_cons (v := ?_) rfl (by rfl) (fun wS hwS => ?_) ?_; rotate_left 1; (focus (have hwA := And.left hwS; clear hwS; (try dsimp only [RR] at hwA); go_simp; (try with_reducible rfl); (try (trace_state; fail))))); (try simp only [List.getElem_toArray, List.getElem_cons_zero, List.getElem_cons_succ]); (try simp only [Act.put, List.setIfInBounds_toArray, List.set_cons_zero, List.set_cons_succ]))
              refine wpHv_nil ?_
              change wpV _ _ _ _ _ _ _ (7 + 1) _ _ _
              refine wpV_split (i := 16) (j := 22) (by kernel_rfl) rfl rfl (fun K hK => ?_) (fun K hK => ?_)
              · have HKK := Lib.hid hK
                clear hK
                go_simp
                obtain ⟨wn, hwn⟩ : ∃ x, x = wy.alloc (.cells #[.slice AX i cX, .slice AZ m cZ] 29) := ⟨_, rfl⟩
                rw [← hwn]
                have BB : Below wy.heap.size wy wn := by rw [hwn]; exact (Below.refl _ _).alloc (Nat.le_refl _) _
                have HLA : Hid (wn.heap[wy.heap.size]? = some (.cells #[.slice AX i cX, .slice AZ m cZ] 29)) := Lib.hid (by rw [hwn]; exact heap_at rfl)
                have HT := Lib.hid (HT.out.later BB)
                try have HLB := Lib.hid (block_later BB HLB.out)
                clear hwn BB
                obtain ⟨wy, rfl⟩ : ∃ x : World, x = wn := ⟨_, rfl⟩
                refine HKK.out _ _ ⟨HT.out.r, fun _ h => h⟩ ?_
                clear HKK K
                change wpV _ _ _ _ _ _ _ (6 + 1) _ _ _
                refine wpV_split (i := 17) (j := 22) (by kernel_rfl) rfl rfl (fun K hK => ?_) (fun K hK => ?_)
                · have HKK := Lib.hid hK
                  clear hK
                  go_simp
                  refine (concatI_any (Ls := [xs, zs]) rfl (by simp) (by simp [lenAll, HLX.out, HLZ.out]; omega) ?_).mono ?_
                  · intro q hq
                    have hq4 : q < 2 := hq
                    match q, hq4 with
                    | 0, _ => exact ⟨_, by simp [World.cell?, HLA.out], Pc.of_ints HT.out.x⟩
                    | 1, _ => exact ⟨_, by simp [World.cell?, HLA.out], Pc.of_ints HT.out.z⟩
                  rintro e wn ⟨VC, rfl, RC, BB⟩
                  have HCA : Hid (Ints wn VC (xs ++ zs)) := Lib.hid (Sl.of_own encI_length (by simpa [lenAll] using RC))
                  have HT := Lib.hid (HT.out.later BB)
                  try have HLB := Lib.hid (block_later BB HLB.out)
                  clear BB RC
                  obtain ⟨wy, rfl⟩ : ∃ x : World, x = wn := ⟨_, rfl⟩
                  go_simp
                  refine HKK.out _ _ ⟨HT.out.r, fun _ h => h⟩ ?_
                  clear HKK K
                  change wpV _ _ _ _ _ _ _ (5 + 1) _ _ _
                  refine wpV_one (k := 22) (by kernel_rfl) rfl (fun K hK => ?_)
                  have HKK := Lib.hid hK
                  clear hK
                  go_simp
                  obtain ⟨wn, hwn⟩ : ∃ x, x = wy.alloc (.cells #[.slice AF L.length cF, .slice AG M.length cG] 29) := ⟨_, rfl⟩
                  rw [← hwn]
                  have BB : Below wy.heap.size wy wn := by rw [hwn]; exact (Below.refl _ _).alloc (Nat.le_refl _) _
                  have HLB : Hid (wn.heap[wy.heap.size]? = some (.cells #[.slice AF L.length cF, .slice AG M.length cG] 29)) := Lib.hid (by rw [hwn]; exact heap_at rfl)
                  have HT := Lib.hid (HT.out.later BB)
                  try have HLA := Lib.hid (block_later BB HLA.out)
                  try have HCA := Lib.hid (HCA.out.later BB)
                  clear hwn BB
                  obtain ⟨wy, rfl⟩ : ∃ x : World, x = wn := ⟨_, rfl⟩
                  refine HKK.out _ _ ⟨HT.out.r, fun _ h => h⟩ ?_
                  clear HKK K
                  change wpV _ _ _ _ _ _ _ (4 + 1) _ _ _
                  refine wpV_one (k := 23) (by kernel_rfl) rfl (fun K hK => ?_)
                  have HKK := Lib.hid hK
                  clear hK
                  go_simp
                  refine (concatI_any (Ls := [fs, gs]) rfl (by simp) (by simp [lenAll, HLF.out, HLG.out]; omega) ?_).mono ?_
                  · intro q hq
                    have hq4 : q < 2 := hq
                    match q, hq4 with
                    | 0, _ => exact ⟨_, by simp [World.cell?, HLB.out], Pc.of_ints HT.out.f⟩
                    | 1, _ => exact ⟨_, by simp [World.cell?, HLB.out], Pc.of_ints HT.out.g⟩
                  rintro e wn ⟨VD, rfl, RC, BB⟩
                  have HCB : Hid (Ints wn VD (fs ++ gs)) := Lib.hid (Sl.of_own encI_length (by simpa [lenAll] using RC))
                  have HT := Lib.hid (HT.out.later BB)
                  have HCA := Lib.hid (HCA.out.later BB)
                  clear BB RC
                  obtain ⟨wy, rfl⟩ : ∃ x : World, x = wn := ⟨_, rfl⟩
                  go_simp
                  refine HKK.out _ _ ⟨HT.out.r, fun _ h => h⟩ ?_
                  clear HKK K
                  change wpV _ _ _ _ _ _ _ (3 + 1) _ _ _
                  refine wpV_one (k := 24) (by kernel_rfl) rfl (fun K hK => ?_)
                  have HKK := Lib.hid hK
                  clear hK
                  go_simp
                  refine (certCheck_any k hK1 HT.out.o HCA.out HCB.out (by rw [List.length_append, HLX.out, HLZ.out]; omega) (by rw [List.length_append, HLF.out, HLG.out]; omega)).mono ?_
                  rw [HC2.out]
                  rintro e wn ⟨rfl, BB⟩
                  have HT := Lib.hid (HT.out.later BB)
                  clear BB
                  go_simp
                  refine HKK.out _ _ ⟨HT.out.r, fun _ h => h⟩ ?_
                  clear HKK K
                  change wpV _ _ _ _ _ _ _ (3 + 0) _ _ _
                  refine wpV_heads HT.out.r trivial (by kernel_rfl) (fun _ _ _ _ _ h => h) [(25, true), (26, true), (27, true)] _ _ _ (by kernel_rfl) ?_
                  iterate 3 (first | (refine wpHv_skip rfl (by rfl) ?_) | (refine wpHv_cons (v := ?_) rfl (by rfl) (fun wS hwS => ?_) ?_; rotate_left 1; (focus (have hwA := And.left hwS; clear hwS; (try dsimp only [RR] at hwA); go_simp; (try with_reducible rfl); (try (trace_state; fail))))); (try simp only [List.getElem_toArray, List.getElem_cons_zero, List.getElem_cons_succ]); (try simp only [Act.put, List.setIfInBounds_toArray, List.set_cons_zero, List.set_cons_succ]))
                  refine wpHv_nil ?_
                  refine wpV_done (by kernel_rfl) (NoPanic.normal ?_)
                  go_wp2_with fail
                  go_ret
                  exact ⟨rfl, HT.out.bel⟩
                · have HKK := Lib.hid hK
                  clear hK
                  go_simp
                  obtain ⟨wn, hwn⟩ : ∃ x, x = wy.alloc (.cells #[.slice AF L.length cF, .slice AG M.length cG] 29) := ⟨_, rfl⟩
                  rw [← hwn]
                  have BB : Below wy.heap.size wy wn := by rw [hwn]; exact (Below.refl _ _).alloc (Nat.le_refl _) _
                  have HLB : Hid (wn.heap[wy.heap.size]? = some (.cells #[.slice AF L.length cF, .slice AG M.length cG] 29)) := Lib.hid (by rw [hwn]; exact heap_at rfl)
                  have HT := Lib.hid (HT.out.later BB)
                  try have HLA := Lib.hid (block_later BB HLA.out)
                  try have HCA := Lib.hid (HCA.out.later BB)
                  clear hwn BB
                  obtain ⟨wy, rfl⟩ : ∃ x : World, x = wn := ⟨_, rfl⟩
                  refine HKK.out _ _ ⟨HT.out.r, fun _ h => h⟩ ?_
                  clear HKK K
                  change wpV _ _ _ _ _ _ _ (5 + 1) _ _ _
                  refine wpV_one (k := 17) (by kernel_rfl) rfl (fun K hK => ?_)
                  have HKK := Lib.hid hK
                  clear hK
                  go_simp
                  refine (concatI_any (Ls := [xs, zs]) rfl (by simp) (by simp [lenAll, HLX.out, HLZ.out]; omega) ?_).mono ?_
                  · intro q hq
                    have hq4 : q < 2 := hq
                    match q, hq4 with
                    | 0, _ => exact ⟨_, by simp [World.cell?, HLA.out], Pc.of_ints HT.out.x⟩
                    | 1, _ => exact ⟨_, by simp [World.cell?, HLA.out], Pc.of_ints HT.out.z⟩
                  rintro e wn ⟨VC, rfl, RC, BB⟩
                  have HCA : Hid (Ints wn VC (xs ++ zs)) := Lib.hid (Sl.of_own encI_length (by simpa [lenAll] using RC))
                  have HT := Lib.hid (HT.out.later BB)
                  try have HLB := Lib.hid (block_later BB HLB.out)
                  clear BB RC
                  obtain ⟨wy, rfl⟩ : ∃ x : World, x = wn := ⟨_, rfl⟩
                  go_simp
                  refine HKK.out _ _ ⟨HT.out.r, fun _ h => h⟩ ?_
                  clear HKK K
                  change wpV _ _ _ _ _ _ _ (4 + 1) _ _ _
                  refine wpV_one (k := 23) (by kernel_rfl) rfl (fun K hK => ?_)
                  have HKK := Lib.hid hK
                  clear hK
                  go_simp
                  refine (concatI_any (Ls := [fs, gs]) rfl (by simp) (by simp [lenAll, HLF.out, HLG.out]; omega) ?_).mono ?_
                  · intro q hq
                    have hq4 : q < 2 := hq
                    match q, hq4 with
                    | 0, _ => exact ⟨_, by simp [World.cell?, HLB.out], Pc.of_ints HT.out.f⟩
                    | 1, _ => exact ⟨_, by simp [World.cell?, HLB.out], Pc.of_ints HT.out.g⟩
                  rintro e wn ⟨VD, rfl, RC, BB⟩
                  have HCB : Hid (Ints wn VD (fs ++ gs)) := Lib.hid (Sl.of_own encI_length (by simpa [lenAll] using RC))
                  have HT := Lib.hid (HT.out.later BB)
                  have HCA := Lib.hid (HCA.out.later BB)
                  clear BB RC
                  obtain ⟨wy, rfl⟩ : ∃ x : World, x = wn := ⟨_, rfl⟩
                  go_simp
                  refine HKK.out _ _ ⟨HT.out.r, fun _ h => h⟩ ?_
                  clear HKK K
                  change wpV _ _ _ _ _ _ _ (3 + 1) _ _ _
                  refine wpV_one (k := 24) (by kernel_rfl) rfl (fun K hK => ?_)
                  have HKK := Lib.hid hK
                  clear hK
                  go_simp
                  refine (certCheck_any k hK1 HT.out.o HCA.out HCB.out (by rw [List.length_append, HLX.out, HLZ.out]; omega) (by rw [List.length_append, HLF.out, HLG.out]; omega)).mono ?_
                  rw [HC2.out]
                  rintro e wn ⟨rfl, BB⟩
                  have HT := Lib.hid (HT.out.later BB)
                  clear BB
                  go_simp
                  refine HKK.out _ _ ⟨HT.out.r, fun _ h => h⟩ ?_
                  clear HKK K
                  change wpV _ _ _ _ _ _ _ (3 + 0) _ _ _
                  refine wpV_heads HT.out.r trivial (by kernel_rfl) (fun _ _ _ _ _ h => h) [(25, true), (26, true), (27, true)] _ _ _ (by kernel_rfl) ?_
                  iterate 3 (first | (refine wpHv_skip rfl (by rfl) ?_) | (refine wpHv_cons (v := ?_) rfl (by rfl) (fun wS hwS => ?_) ?_; rotate_left 1; (focus (have hwA := And.left hwS; clear hwS; (try dsimp only [RR] at hwA); go_simp; (try with_reducible rfl); (try (trace_state; fail))))); (try simp only [List.getElem_toArray, List.getElem_cons_zero, List.getElem_cons_succ]); (try simp only [Act.put, List.setIfInBounds_toArray, List.set_cons_zero, List.set_cons_succ]))
                  refine wpHv_nil ?_
                  refine wpV_done (by kernel_rfl) (NoPanic.normal ?_)
                  go_wp2_with fail
                  go_ret
                  exact ⟨rfl, HT.out.bel⟩
              · have HKK := Lib.hid hK
                clear hK
                go_simp
                obtain ⟨wn, hwn⟩ : ∃ x, x = wy.alloc (.cells #[.slice AF L.length cF, .slice AG M.length cG] 29) := ⟨_, rfl⟩
                rw [← hwn]
                have BB : Below wy.heap.size wy wn := by rw [hwn]; exact (Below.refl _ _).alloc (Nat.le_refl _) _
                have HLB : Hid (wn.heap[wy.heap.size]? = some (.cells #[.slice AF L.length cF, .slice AG M.length cG] 29)) := Lib.hid (by rw [hwn]; exact heap_at rfl)
                have HT := Lib.hid (HT.out.later BB)
                try have HLA := Lib.hid (block_later BB HLA.out)
                try have HCA := Lib.hid (HCA.out.later BB)
                clear hwn BB
                obtain ⟨wy, rfl⟩ : ∃ x : World, x = wn := ⟨_, rfl⟩
                refine HKK.out _ _ ⟨HT.out.r, fun _ h => h⟩ ?_
                clear HKK K
                change wpV _ _ _ _ _ _ _ (6 + 1) _ _ _
                refine wpV_one (k := 16) (by kernel_rfl) rfl (fun K hK => ?_)
                have HKK := Lib.hid hK
                clear hK
                go_simp
                obtain ⟨wn, hwn⟩ : ∃ x, x = wy.alloc (.cells #[.slice AX i cX, .slice AZ m cZ] 29) := ⟨_, rfl⟩
                rw [← hwn]
                have BB : Below wy.heap.size wy wn := by rw [hwn]; exact (Below.refl _ _).alloc (Nat.le_refl _) _
                have HLA : Hid (wn.heap[wy.heap.size]? = some (.cells #[.slice AX i cX, .slice AZ m cZ] 29)) := Lib.hid (by rw [hwn]; exact heap_at rfl)
                have HT := Lib.hid (HT.out.later BB)
                try have HLB := Lib.hid (block_later BB HLB.out)
                clear hwn BB
                obtain ⟨wy, rfl⟩ : ∃ x : World, x = wn := ⟨_, rfl⟩
                refine HKK.out _ _ ⟨HT.out.r, fun _ h => h⟩ ?_
                clear HKK K
                change wpV _ _ _ _ _ _ _ (5 + 1) _ _ _
                refine wpV_one (k := 17) (by kernel_rfl) rfl (fun K hK => ?_)
                have HKK := Lib.hid hK
                clear hK
                go_simp
                refine (concatI_any (Ls := [xs, zs]) rfl (by simp) (by simp [lenAll, HLX.out, HLZ.out]; omega) ?_).mono ?_
                · intro q hq
                  have hq4 : q < 2 := hq
                  match q, hq4 with
                  | 0, _ => exact ⟨_, by simp [World.cell?, HLA.out], Pc.of_ints HT.out.x⟩
                  | 1, _ => exact ⟨_, by simp [World.cell?, HLA.out], Pc.of_ints HT.out.z⟩
                rintro e wn ⟨VC, rfl, RC, BB⟩
                have HCA : Hid (Ints wn VC (xs ++ zs)) := Lib.hid (Sl.of_own encI_length (by simpa [lenAll] using RC))
                have HT := Lib.hid (HT.out.later BB)
                try have HLB := Lib.hid (block_later BB HLB.out)
                clear BB RC
                obtain ⟨wy, rfl⟩ : ∃ x : World, x = wn := ⟨_, rfl⟩
                go_simp
                refine HKK.out _ _ ⟨HT.out.r, fun _ h => h⟩ ?_
                clear HKK K
                change wpV _ _ _ _ _ _ _ (4 + 1) _ _ _
                refine wpV_one (k := 23) (by kernel_rfl) rfl (fun K hK => ?_)
                have HKK := Lib.hid hK
                clear hK
                go_simp
                refine (concatI_any (Ls := [fs, gs]) rfl (by simp) (by simp [lenAll, HLF.out, HLG.out]; omega) ?_).mono ?_
                · intro q hq
                  have hq4 : q < 2 := hq
                  match q, hq4 with
                  | 0, _ => exact ⟨_, by simp [World.cell?, HLB.out], Pc.of_ints HT.out.f⟩
                  | 1, _ => exact ⟨_, by simp [World.cell?, HLB.out], Pc.of_ints HT.out.g⟩
                rintro e wn ⟨VD, rfl, RC, BB⟩
                have HCB : Hid (Ints wn VD (fs ++ gs)) := Lib.hid (Sl.of_own encI_length (by simpa [lenAll] using RC))
                have HT := Lib.hid (HT.out.later BB)
                have HCA := Lib.hid (HCA.out.later BB)
                clear BB RC
                obtain ⟨wy, rfl⟩ : ∃ x : World, x = wn := ⟨_, rfl⟩
                go_simp
                refine HKK.out _ _ ⟨HT.out.r, fun _ h => h⟩ ?_
                clear HKK K
                change wpV _ _ _ _ _ _ _ (3 + 1) _ _ _
                refine wpV_one (k := 24) (by kernel_rfl) rfl (fun K hK => ?_)
                have HKK := Lib.hid hK
                clear hK
                go_simp
                refine (certCheck_any k hK1 HT.out.o HCA.out HCB.out (by rw [List.length_append, HLX.out, HLZ.out]; omega) (by rw [List.length_append, HLF.out, HLG.out]; omega)).mono ?_
                rw [HC2.out]
                rintro e wn ⟨rfl, BB⟩
                have HT := Lib.hid (HT.out.later BB)
                clear BB
                go_simp
                refine HKK.out _ _ ⟨HT.out.r, fun _ h => h⟩ ?_
                clear HKK K
                change wpV _ _ _ _ _ _ _ (3 + 0) _ _ _
                refine wpV_heads HT.out.r trivial (by kernel_rfl) (fun _ _ _ _ _ h => h) [(25, true), (26, true), (27, true)] _ _ _ (by kernel_rfl) ?_
                iterate 3 (first | (refine wpHv_skip rfl (by rfl) ?_) | (refine wpHv_cons (v := ?_) rfl (by rfl) (fun wS hwS => ?_) ?_; rotate_left 1; (focus (have hwA := And.left hwS; clear hwS; (try dsimp only [RR] at hwA); go_simp; (try with_reducible rfl); (try (trace_state; fail))))); (try simp only [List.getElem_toArray, List.getElem_cons_zero, List.getElem_cons_succ]); (try simp only [Act.put, List.setIfInBounds_toArray, List.set_cons_zero, List.set_cons_succ]))
                refine wpHv_nil ?_
                refine wpV_done (by kernel_rfl) (NoPanic.normal ?_)
                go_wp2_with fail
                go_ret
                exact ⟨rfl, HT.out.bel⟩
end Go.Proofs.YtjgloineooadoaaGreatDoor
