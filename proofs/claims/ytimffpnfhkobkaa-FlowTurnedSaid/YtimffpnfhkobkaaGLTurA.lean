/- FlowTurned: with all arcs turned the least cost is the same; two graphs side by side cost what both do. -/
import Derived.Test.YtimffpnfhkobkaaMgG17
import Derived.Test.YtimffpnfhkobkaaMgG18
import Derived.Test.YtimffpnfhkobkaaGTurP
import Derived.Test.YtimffpnfhkobkaaMgG6
namespace Go.Proofs.Ytimffpnfhkobkaa
open Go.RowKit
def R4 (b1 : Nat) (v1 : Value) (b2 : Nat) (v2 : Value) (b3 : Nat) (v3 : Value) (b4 : Nat) (v4 : Value) (w : World) : Prop := w.cell? ⟨b1, 0, none⟩ = some v1 ∧ w.cell? ⟨b2, 0, none⟩ = some v2 ∧ w.cell? ⟨b3, 0, none⟩ = some v3 ∧ w.cell? ⟨b4, 0, none⟩ = some v4
theorem R4.later {b1 b2 b3 b4 : Nat} {v1 v2 v3 v4 : Value} {w w' : World} (h : R4 b1 v1 b2 v2 b3 v3 b4 v4 w) (B : Below w.heap.size w w') : R4 b1 v1 b2 v2 b3 v3 b4 v4 w' := ⟨cell_later B h.1, cell_later B h.2.1, cell_later B h.2.2.1, cell_later B h.2.2.2⟩
theorem sol_cost2 {n : Nat} {L : List Arc} {xs fs : List Int} {ways : Nat} (S : Sol n L xs fs ways) (k : Okg n L) (hl : L.length ≤ 80) : 0 ≤ costL xs L ∧ costL xs L ≤ 1600000000000 := by
  rw [← S.sum k]
  have h1 := sumN_nonneg (f := ff fs) (n := L.length) (fun i hi => (S.nn i hi).1)
  have h2 := sumN_snoc_le (f := ff fs) (B := 20000000000) (n := L.length) (fun i hi => (S.nn i hi).2)
  omega
set_option maxRecDepth 100000 in
set_option maxHeartbeats 4000000 in
theorem turned_core {w : World} {V VY : Value} {T TY : List Tri} (N NY : Nat) (hN : N ≤ 255) (hNY : NY ≤ 255) (h : Tris w V T) (hs : Small T) (hl : T.length ≤ 1000000000000000) (hy : Tris w VY TY) (hsy : Small TY) (hly : TY.length ≤ 1000000000000000) :
    Calls Try.prog 12 #[.agg #[.int .u8 (N : Int), V], .agg #[.int .u8 (NY : Int), VY]] w fun e w' => e = .returned (.bool true) ∧ Below w.heap.size w w' := by
  obtain ⟨A, cap, rfl, -, -⟩ := h.at_
  obtain ⟨AY, capY, rfl, -, -⟩ := hy.at_
  obtain ⟨w0, hw0⟩ : ∃ w0, (w.alloc (.cells #[.int .u8 (N : Int), .slice A T.length cap] 38)).alloc (.cells #[.int .u8 (NY : Int), .slice AY TY.length capY] 38) = w0 := ⟨_, rfl⟩
  have B0 : Below w.heap.size w w0 := by rw [← hw0]; exact ((Below.refl _ _).alloc (Nat.le_refl _) _).alloc (by simp) _
  have hG : w0.heap[w.heap.size + 1]? = some (.cells #[.int .u8 (NY : Int), .slice AY TY.length capY] 38) := by rw [← hw0]; exact heap_at (by simp)
  have hG0 : w0.heap[w.heap.size]? = some (.cells #[.int .u8 (N : Int), .slice A T.length cap] 38) := by rw [← hw0]; exact heap_over rfl
  have p0 : w0.cell? ⟨w.heap.size, 0, none⟩ = some (.int .u8 (N : Int)) := (Cl.of_block hG0 (j := 0) rfl).cell
  have p1 : w0.cell? ⟨w.heap.size, 1, none⟩ = some (.slice A T.length cap) := (Cl.of_block hG0 (j := 1) rfl).cell
  have HG := Lib.hid hG
  have HB0 := Lib.hid B0
  have HH := Lib.hid (h.later B0)
  have HY := Lib.hid (hy.later B0)
  clear h hy B0 hG hG0
  go_enter Try.func12, Try.ntmps12
  go_wp2_with fail
  clear hw0 p0 p1
  refine (make_any (T := T) N 12 hN (by omega) (by omega) HH.out hs hl).mono ?_
  have HR0 := Lib.hid (makeL_right N 12 (by omega) (by omega) T)
  have HE := Lib.hid (makeL_dag N 12 (by omega) (by omega) T)
  have HUP := Lib.hid (makeL_up N 12 T)
  have hn1 : 1 ≤ mkN N 12 := by unfold mkN; omega
  have hn2 : mkN N 12 ≤ 12 := by unfold mkN; omega
  have hlen : (makeL N 12 T).length ≤ 40 := makeL_length N 12 T
  generalize mkN N 12 = n at *
  generalize makeL N 12 T = L at *
  rintro e w1 ⟨V1, rfl, R1, B1⟩
  obtain ⟨A1, c1, rfl, -⟩ := own_shape R1
  have HK := Lib.hid (okg_of HR0.out hn1)
  have HR1 := Lib.hid R1
  have hG1 := block_later B1 HG.out
  have p0 : w1.cell? ⟨w.heap.size + 1, 0, none⟩ = some (.int .u8 (NY : Int)) := (Cl.of_block hG1 (j := 0) rfl).cell
  have p1 : w1.cell? ⟨w.heap.size + 1, 1, none⟩ = some (.slice AY TY.length capY) := (Cl.of_block hG1 (j := 1) rfl).cell
  have HY1 := Lib.hid (HY.out.later B1)
  have HB1 := Lib.hid (below_then HB0.out HB0.out.size B1)
  have hs1 := B1.size
  clear R1 B1 HB0 HG HH hs HY hG1
  go_wp2_with fail
  clear p0 p1
  refine (make_any (T := TY) NY 12 hNY (by omega) (by omega) HY1.out hsy hly).mono ?_
  have HRm := Lib.hid (makeL_right NY 12 (by omega) (by omega) TY)
  have HEm := Lib.hid (makeL_dag NY 12 (by omega) (by omega) TY)
  have HUPm := Lib.hid (makeL_up NY 12 TY)
  have hm1 : 1 ≤ mkN NY 12 := by unfold mkN; omega
  have hm2 : mkN NY 12 ≤ 12 := by unfold mkN; omega
  have hlenm : (makeL NY 12 TY).length ≤ 40 := makeL_length NY 12 TY
  generalize mkN NY 12 = m at *
  generalize makeL NY 12 TY = M at *
  rintro e w2 ⟨V2, rfl, R2, B2⟩
  obtain ⟨A2, c2, rfl, -⟩ := own_shape R2
  have HKm := Lib.hid (okg_of HRm.out hm1)
  have HR2 := Lib.hid (own_later HR1.out B2)
  have HM2 := Lib.hid (Sl.of_own encA_length R2)
  have HL2 := Lib.hid (Sl.of_own encA_length HR2.out)
  have HB2 := Lib.hid (below_then HB1.out HB1.out.size B2)
  clear R2 B2 HR1 HB1 HY1 hsy
  go_wp2_with fail
  go_loopw [9, 36] (fun Vl q wr => ∃ i : Nat, i ≤ L.length ∧ q = .int .i64 i ∧ wr.ownsRow w2.heap.size 52 3 Vl i (flat encA (backL (L.take i))) ∧ Below w2.heap.size w2 wr) (fun _ q _ => L.length - (intOf q).toNat)
  case atStart => exact ⟨0, by omega, rfl, World.ownsRow_nil _ _ _ _, Below.refl _ _⟩
  case round =>
    obtain ⟨i, hi, rfl, R, B⟩ := hrel
    obtain ⟨wo, rfl⟩ : ∃ x : World, x = wr := ⟨_, rfl⟩
    obtain ⟨AV, cV, hVl, -⟩ := own_shape R
    subst hVl
    have HR := Lib.hid R
    have HB := Lib.hid B
    have hwo := B.size
    clear R B
    by_cases hil : i < L.length
    · have hd1 : decide ((i : Int) < L.length) = true := by simp; omega
      obtain ⟨A', cap', e1, -, -, hA⟩ := Arcs.at_ HL2.out
      injection e1 with e1 e2 e3
      subst e1
      obtain ⟨ba, off, rfl, hc⟩ := hA (by omega)
      obtain ⟨a, ha⟩ : ∃ a, L[i]? = some a := ⟨_, List.getElem?_eq_getElem hil⟩
      have HStep := Lib.hid (backL_takeT ha)
      obtain ⟨e0, e1, e2⟩ := hc i a ha
      have e0 := cell_later HB.out e0
      have e1 := cell_later HB.out e1
      have e2 := cell_later HB.out e2
      obtain ⟨f, t, x⟩ := a
      simp only at e0 e1 e2
      have i1 : (0 : Int) ≤ (i : Int) := by omega
      have i2 : (i : Int) < (L.length : Int) := by omega
      clear hc ha e3
      obtain ⟨j0, hj0, hy0, hy1, hy2⟩ := info_parts info_arcM
      go_wp2_with (refine wpList_append_lies _ rfl (.tmp 40) (.tmp 48) 22 rfl w2.heap.size 52 j0 (.agg #[.int .i64 0, .int .i64 0, .int .i64 0]) 3 24 Try.underlying22 hj0 hy0 hy1 hy2 rfl (by decide) (.slice AV i cV) i (flat encA (backL (L.take i))) rfl (own_later HR.out (((Below.refl _ _).alloc (Nat.le_refl _) _).alloc (by simp) _)) ⟨wo.heap.size + 1, 0, none⟩ 1 1 (encA (t, f, x)) rfl rfl (World.news_of_block (heap_at (by simp))) (by intro u hu; simp [encA] at hu; rcases hu with rfl | rfl | rfl <;> rfl) (by omega) (by simp only [maxLen]; omega) (by omega) (by simp; omega) _ rfl ?_; intro g cq w3 hown hgrow hat hlt)
      have HB4 := (HB.out.trans ((((Below.refl wo.heap.size wo).alloc (Nat.le_refl _) _).alloc (by simp) _).mono hwo)).grown hgrow (by simp; omega) (fun q hq => own_ge HR.out hq)
      refine ⟨⟨i + 1, by omega, by go_num, ?_, HB4⟩, by simp [intOf]; omega⟩
      rw [HStep.out, flat_append]
      simpa [flat] using hown
    · have e : i = L.length := by omega
      subst e
      have hd1 : decide ((L.length : Int) < L.length) = false := by simp
      have RB := HR.out
      rw [List.take_of_length_le (Nat.le_refl _)] at RB
      have HBK := Lib.hid (Sl.of_own encA_length (by rw [backL_lengthT]; exact RB) : Arcs wo (.slice AV L.length cV) (backL L))
      have HRo := Lib.hid (own_later HR2.out HB.out)
      have HLo := Lib.hid (HL2.out.later HB.out)
      have HMo := Lib.hid (HM2.out.later HB.out)
      have HWo := Lib.hid (below_then HB2.out HB2.out.size HB.out)
      clear RB HR HR2 HL2 HM2 HB2 HB hwo
      go_wp2_with fail
      refine (cloneA_own HRo.out (by omega)).mono ?_
      rintro e w3 ⟨V3, rfl, R3', B3⟩
      obtain ⟨A3, c3, rfl, -⟩ := own_shape R3'
      have HR3 := Lib.hid R3'
      have HB3 := Lib.hid B3
      clear R3' B3
      go_wp2_with fail
      go_loopw [12, 55] (fun Vl q wr => ∃ i : Nat, i ≤ M.length ∧ q = .int .i64 i ∧ wr.ownsRow wo.heap.size 52 3 Vl (L.length + i) (flat encA (L ++ shL n (M.take i))) ∧ Below wo.heap.size wo wr) (fun _ q _ => M.length - (intOf q).toNat)
      case atStart => exact ⟨0, by omega, rfl, by simpa [shL] using HR3.out, HB3.out⟩
      case round =>
        clear HR3 HB3
        obtain ⟨i, hi, rfl, R, B⟩ := hrel
        obtain ⟨wp, rfl⟩ : ∃ x : World, x = wr := ⟨_, rfl⟩
        obtain ⟨AB, cB, hVl, -⟩ := own_shape R
        subst hVl
        have HR := Lib.hid R
        have HB := Lib.hid B
        have hwp := B.size
        clear R B
        by_cases hil : i < M.length
        · have hd2 : decide ((i : Int) < M.length) = true := by simp; omega
          obtain ⟨A', cap', e1, -, -, hA⟩ := Arcs.at_ HMo.out
          injection e1 with e1 e2 e3
          subst e1
          obtain ⟨ba, off, rfl, hc⟩ := hA (by omega)
          obtain ⟨hat, hf, ht, -, -⟩ := HKm.out.at_ hil
          have HStep := Lib.hid (shL_take n hat)
          obtain ⟨e0, e1, e2⟩ := hc i _ hat
          have e0 := cell_later HB.out e0
          have e1 := cell_later HB.out e1
          have e2 := cell_later HB.out e2
          have i1 : (0 : Int) ≤ (i : Int) := by omega
          have i2 : (i : Int) < (M.length : Int) := by omega
          clear hc hat e3
          generalize frL M i = f at *
          generalize ttL M i = t at *
          generalize wtL M i = x at *
          simp only at e0 e1 e2 HStep
          have y1 : IntKind.i64.wrap ((n : Int) + (f : Int)) = (n : Int) + f := IntWalk.i64_in _ (by omega)
          have y2 : IntKind.i64.wrap ((n : Int) + (t : Int)) = (n : Int) + t := IntWalk.i64_in _ (by omega)
          obtain ⟨j0, hj0, hy0, hy1, hy2⟩ := info_parts info_arcM
          go_wp2_with (refine wpList_append_lies _ rfl (.tmp 59) (.tmp 71) 22 rfl wo.heap.size 52 j0 (.agg #[.int .i64 0, .int .i64 0, .int .i64 0]) 3 24 Try.underlying22 hj0 hy0 hy1 hy2 rfl (by decide) (.slice AB (L.length + i) cB) (L.length + i) (flat encA (L ++ shL n (M.take i))) rfl (own_later HR.out (((Below.refl _ _).alloc (Nat.le_refl _) _).alloc (by simp) _)) ⟨wp.heap.size + 1, 0, none⟩ 1 1 (encA ((n : Int) + f, (n : Int) + t, x)) rfl rfl (World.news_of_block (heap_at (by simp))) (by intro u hu; simp [encA] at hu; rcases hu with rfl | rfl | rfl <;> rfl) (by omega) (by simp only [maxLen]; omega) (by omega) (by simp; omega) _ rfl ?_; intro g cq w4 hown hgrow hat hlt)
          have HB4 := (HB.out.trans ((((Below.refl wp.heap.size wp).alloc (Nat.le_refl _) _).alloc (by simp) _).mono hwp)).grown hgrow (by simp; omega) (fun q hq => own_ge HR.out hq)
          refine ⟨⟨i + 1, by omega, by go_num, ?_, HB4⟩, by simp [intOf]; omega⟩
          rw [HStep.out, ← List.append_assoc, flat_append]
          simpa [flat, Nat.add_assoc] using hown
        · have e : i = M.length := by omega
          subst e
          have hd2 : decide ((M.length : Int) < M.length) = false := by simp
          have RB := HR.out
          rw [List.take_of_length_le (Nat.le_refl _)] at RB
          have hbl : (L ++ shL n M).length = L.length + M.length := by simp [shL]
          have HBo := Lib.hid (Sl.of_own encA_length (by rw [hbl]; exact RB) : Arcs wp (.slice AB (L.length + M.length) cB) (L ++ shL n M))
          clear RB hbl
          have HLp := Lib.hid (HLo.out.later HB.out)
          have HKp := Lib.hid (HBK.out.later HB.out)
          have HMp := Lib.hid (HMo.out.later HB.out)
          have HWp := Lib.hid (below_then HWo.out HWo.out.size HB.out)
          obtain ⟨k, hk⟩ : ∃ k : Nat, k = n + m := ⟨_, rfl⟩
          have HKK0 := Lib.hid (okg_of (backL_right HR0.out) hn1)
          have HEK := Lib.hid (backL_dag HR0.out HUP.out)
          have HRB := both_right HK.out HKm.out (by omega) (by omega)
          have HEB0 := both_dag HK.out HKm.out (by omega) (by omega) HUP.out HUPm.out
          rw [← hk] at HRB HEB0
          have HKB := Lib.hid (okg_of HRB (by omega))
          have HEB := Lib.hid HEB0
          have HKN := Lib.hid hk
          have hkb : k ≤ 24 := by omega
          have y4 : (n : Int) + (m : Int) = (k : Int) := by omega
          have y3 : IntKind.i64.wrap ((n : Int) + (m : Int)) = (k : Int) := by rw [IntWalk.i64_in _ (by omega)]; exact y4
          have hne1 : ((n : Int) != n) = false := by simp
          have hne2 : ((m : Int) != m) = false := by simp
          have hne3 : ((k : Int) != k) = false := by simp
          have hBl : (backL L).length = L.length := backL_lengthT L
          have hBo : (L ++ shL n M).length = L.length + M.length := by simp [shL]
          have HBL := Lib.hid hBl
          have HBOL := Lib.hid hBo
          obtain ⟨LB, hLB⟩ : ∃ LB, backL L = LB := ⟨_, rfl⟩
          obtain ⟨LS, hLS⟩ : ∃ LS, L ++ shL n M = LS := ⟨_, rfl⟩
          rw [hLB] at HKp HKK0 HEK HBL
          rw [hLS] at HBo HKB HEB HBOL
          have HLB := Lib.hid hLB
          have HLS := Lib.hid hLS
          have wp0 := wp
          clear hk HRB HEB0 hBl hBo hLB hLS HB HLo HBK HMo HWo wp0 hwp HRo
          go_wp2_with fail
          refine (solve_any n HLp.out HK.out HE.out).mono ?_
          rintro e w5 hh
          obtain ⟨AX, cX, AFX, cFX, xs, fs, waysX, rfl, II, -, SS, B1⟩ := hh.at_
          obtain ⟨w6, hw⟩ : ∃ w6, w5.alloc (.cells #[.slice AX n cX, .slice AFX L.length cFX, .int .i64 (waysX : Int)] 58) = w6 := ⟨_, rfl⟩
          have B2 : Below w5.heap.size w5 w6 := by rw [← hw]; exact (Below.refl _ _).alloc (Nat.le_refl _) _
          have hr : w6.heap[w5.heap.size]? = some (.cells #[.slice AX n cX, .slice AFX L.length cFX, .int .i64 (waysX : Int)] 58) := by rw [← hw]; exact heap_at rfl
          have B3 := below_then B1 B1.size B2
          have HAL0 := Lib.hid (HLp.out.later B3)
          have HALB0 := Lib.hid (HKp.out.later B3)
          have HAM0 := Lib.hid (HMp.out.later B3)
          have HALS0 := Lib.hid (HBo.out.later B3)
          have HW0 := Lib.hid (below_then HWp.out HWp.out.size B3)
          have HIX0 := Lib.hid (II.later B2)
          have HBX0 := Lib.hid hr
          have HSX := Lib.hid SS
          clear hh II SS B1 B2 B3 hr HLp HKp HMp HBo HWp
          go_wp2_with fail
          clear hw
          refine (solve_any n HALB0.out HKK0.out HEK.out).mono ?_
          rintro e w7 hh
          obtain ⟨AY, cY, AFY, cFY, ys, gs, waysY, rfl, II, -, SS, B1⟩ := hh.at_
          obtain ⟨w8, hw⟩ : ∃ w8, w7.alloc (.cells #[.slice AY n cY, .slice AFY LB.length cFY, .int .i64 (waysY : Int)] 58) = w8 := ⟨_, rfl⟩
          have B2 : Below w7.heap.size w7 w8 := by rw [← hw]; exact (Below.refl _ _).alloc (Nat.le_refl _) _
          have hr : w8.heap[w7.heap.size]? = some (.cells #[.slice AY n cY, .slice AFY LB.length cFY, .int .i64 (waysY : Int)] 58) := by rw [← hw]; exact heap_at rfl
          have B3 := below_then B1 B1.size B2
          have HAL1 := Lib.hid (HAL0.out.later B3)
          have HALB1 := Lib.hid (HALB0.out.later B3)
          have HAM1 := Lib.hid (HAM0.out.later B3)
          have HALS1 := Lib.hid (HALS0.out.later B3)
          have HW1 := Lib.hid (below_then HW0.out HW0.out.size B3)
          have HIX1 := Lib.hid (HIX0.out.later B3)
          have HBX1 := Lib.hid (block_later B3 HBX0.out)
          have HIY1 := Lib.hid (II.later B2)
          have HBY1 := Lib.hid hr
          have HSY := Lib.hid SS
          clear hh II SS B1 B2 B3 hr HAL0 HALB0 HAM0 HALS0 HW0 HIX0 HBX0
          go_wp2_with fail
          clear hw
          refine (solve_any m HAM1.out HKm.out HEm.out).mono ?_
          rintro e w9 hh
          obtain ⟨AZ, cZ, AFZ, cFZ, zs, hs, waysZ, rfl, II, -, SS, B1⟩ := hh.at_
          obtain ⟨w10, hw⟩ : ∃ w10, w9.alloc (.cells #[.slice AZ m cZ, .slice AFZ M.length cFZ, .int .i64 (waysZ : Int)] 58) = w10 := ⟨_, rfl⟩
          have B2 : Below w9.heap.size w9 w10 := by rw [← hw]; exact (Below.refl _ _).alloc (Nat.le_refl _) _
          have hr : w10.heap[w9.heap.size]? = some (.cells #[.slice AZ m cZ, .slice AFZ M.length cFZ, .int .i64 (waysZ : Int)] 58) := by rw [← hw]; exact heap_at rfl
          have B3 := below_then B1 B1.size B2
          have HAL2 := Lib.hid (HAL1.out.later B3)
          have HALB2 := Lib.hid (HALB1.out.later B3)
          have HAM2 := Lib.hid (HAM1.out.later B3)
          have HALS2 := Lib.hid (HALS1.out.later B3)
          have HW2 := Lib.hid (below_then HW1.out HW1.out.size B3)
          have HIX2 := Lib.hid (HIX1.out.later B3)
          have HBX2 := Lib.hid (block_later B3 HBX1.out)
          have HIY2 := Lib.hid (HIY1.out.later B3)
          have HBY2 := Lib.hid (block_later B3 HBY1.out)
          have HIZ2 := Lib.hid (II.later B2)
          have HBZ2 := Lib.hid hr
          have HSZ := Lib.hid SS
          clear hh II SS B1 B2 B3 hr HAL1 HALB1 HAM1 HALS1 HW1 HIX1 HBX1 HIY1 HBY1
          go_wp2_with fail
          clear hw
          refine (solve_any k HALS2.out HKB.out HEB.out).mono ?_
          rintro e w11 hh
          obtain ⟨AU, cU, AFU, cFU, us, js, waysU, rfl, II, -, SS, B1⟩ := hh.at_
          obtain ⟨w12, hw⟩ : ∃ w12, w11.alloc (.cells #[.slice AU k cU, .slice AFU LS.length cFU, .int .i64 (waysU : Int)] 58) = w12 := ⟨_, rfl⟩
          have B2 : Below w11.heap.size w11 w12 := by rw [← hw]; exact (Below.refl _ _).alloc (Nat.le_refl _) _
          have hr : w12.heap[w11.heap.size]? = some (.cells #[.slice AU k cU, .slice AFU LS.length cFU, .int .i64 (waysU : Int)] 58) := by rw [← hw]; exact heap_at rfl
          have B3 := below_then B1 B1.size B2
          have HAL3 := Lib.hid (HAL2.out.later B3)
          have HALB3 := Lib.hid (HALB2.out.later B3)
          have HAM3 := Lib.hid (HAM2.out.later B3)
          have HALS3 := Lib.hid (HALS2.out.later B3)
          have HW3 := Lib.hid (below_then HW2.out HW2.out.size B3)
          have HIX3 := Lib.hid (HIX2.out.later B3)
          have HBX3 := Lib.hid (block_later B3 HBX2.out)
          have HIY3 := Lib.hid (HIY2.out.later B3)
          have HBY3 := Lib.hid (block_later B3 HBY2.out)
          have HIZ3 := Lib.hid (HIZ2.out.later B3)
          have HBZ3 := Lib.hid (block_later B3 HBZ2.out)
          have HIU3 := Lib.hid (II.later B2)
          have HBU3 := Lib.hid hr
          have HSU := Lib.hid SS
          clear hh II SS B1 B2 B3 hr HAL2 HALB2 HAM2 HALS2 HW2 HIX2 HBX2 HIY2 HBY2 HIZ2 HBZ2
          go_wp2_with fail
          clear hw
          refine (fwakes_any _).mono ?_
          rintro e wk ⟨rfl, BK⟩
          have bkX := block_later BK HBX3.out
          have gX : wk.cell? ⟨w5.heap.size, 0, none⟩ = some (.slice AX n cX) := (Cl.of_block bkX (j := 0) rfl).cell
          have HIkX := Lib.hid (HIX3.out.later BK)
          have bkY := block_later BK HBY3.out
          have gY : wk.cell? ⟨w7.heap.size, 0, none⟩ = some (.slice AY n cY) := (Cl.of_block bkY (j := 0) rfl).cell
          have HIkY := Lib.hid (HIY3.out.later BK)
          have bkZ := block_later BK HBZ3.out
          have gZ : wk.cell? ⟨w9.heap.size, 0, none⟩ = some (.slice AZ m cZ) := (Cl.of_block bkZ (j := 0) rfl).cell
          have HIkZ := Lib.hid (HIZ3.out.later BK)
          have bkU := block_later BK HBU3.out
          have gU : wk.cell? ⟨w11.heap.size, 0, none⟩ = some (.slice AU k cU) := (Cl.of_block bkU (j := 0) rfl).cell
          have HIkU := Lib.hid (HIU3.out.later BK)
          have HAkL := Lib.hid (HAL3.out.later BK)
          have HAkLB := Lib.hid (HALB3.out.later BK)
          have HAkM := Lib.hid (HAM3.out.later BK)
          have HAkLS := Lib.hid (HALS3.out.later BK)
          have HWk := Lib.hid (below_then HW3.out HW3.out.size BK)
          have HR4 : Hid (R4 w5.heap.size (.slice AX n cX) w7.heap.size (.slice AY n cY) w9.heap.size (.slice AZ m cZ) w11.heap.size (.slice AU k cU) wk) := Lib.hid ⟨gX, gY, gZ, gU⟩
          clear BK bkX HIX3 HBX3 bkY HIY3 HBY3 bkZ HIZ3 HBZ3 bkU HIU3 HBU3 HAL3 HALB3 HAM3 HALS3 HW3
          obtain ⟨C, hC⟩ : ∃ C, costL xs L = C := ⟨_, rfl⟩
          obtain ⟨D, hD⟩ : ∃ D, costL zs M = D := ⟨_, rfl⟩
          have hC2 : costL ys LB = C := by
            have h1 := HKK0.out
            have h2 := HSY.out
            have e := HLB.out
            subst e
            rw [← hC]
            exact back_same HK.out h1 HSX.out h2
          have hC3 : costL us LS = C + D := by
            have h1 := HKB.out
            have h2 := HSU.out
            have e := HLS.out
            have e2 := HKN.out
            subst e
            subst e2
            rw [← hC, ← hD]
            exact both_same HK.out HKm.out h1 HSX.out HSZ.out h2
          have hb1 : 0 ≤ C ∧ C ≤ 1600000000000 := by rw [← hC]; exact sol_cost2 HSX.out HK.out (by omega)
          have hb2 : 0 ≤ D ∧ D ≤ 1600000000000 := by rw [← hD]; exact sol_cost2 HSZ.out HKm.out (by omega)
          have ew : IntKind.i64.wrap (C + D) = C + D := IntWalk.i64_in _ (by omega)
          have HC := Lib.hid hC
          have HD := Lib.hid hD
          have HC2 := Lib.hid hC2
          have HC3 := Lib.hid hC3
          have HXL := Lib.hid HSX.out.lx
          have HYL := Lib.hid HSY.out.lx
          have HZL := Lib.hid HSZ.out.lx
          have HUL := Lib.hid HSU.out.lx
          clear hC hD hC2 hC3
          go_wp2_with fail
          clear gX gY gZ gU
          refine (refCost_any HAkL.out HIkX.out (by rw [HXL.out]; exact HK.out.inX) (by omega) (by rw [HXL.out]; omega) (okg_w HK.out) (sol_lo HSX.out (by omega))).mono ?_
          rw [HC.out]
          rintro e wl ⟨rfl, BL⟩
          have BD := BL.trans ((Below.refl wl.heap.size wl).drew.mono BL.size)
          have HRl := Lib.hid (HR4.out.later BD)
          have HIlY := Lib.hid (HIkY.out.later BD)
          have HIlZ := Lib.hid (HIkZ.out.later BD)
          have HIlU := Lib.hid (HIkU.out.later BD)
          have HAlB := Lib.hid (HAkLB.out.later BD)
          have HAlM := Lib.hid (HAkM.out.later BD)
          have HAlS := Lib.hid (HAkLS.out.later BD)
          have HWl := Lib.hid (below_then HWk.out HWk.out.size BD)
          clear BL BD HR4 HIkX HIkY HIkZ HIkU HAkL HAkLB HAkM HAkLS HWk
          go_upto_region 22 with fail
          refine wp_region_headsV [(0, true), (1, true), (2, true), (4, true)] [] (R4 w5.heap.size (.slice AX n cX) w7.heap.size (.slice AY n cY) w9.heap.size (.slice AZ m cZ) w11.heap.size (.slice AU k cU)) (fun _ => True) (by kernel_rfl) (by kernel_rfl) HRl.out trivial ?_
          iterate 4 (first | (refine wpHv_skip rfl (by rfl) ?_) | (refine wpHv_cons (v := ?_) rfl (by rfl) (fun wS hwS => ?_) ?_; rotate_left 1; (focus (have hwA := And.left hwS; clear hwS; (try dsimp only [R4] at hwA); go_simp; (try with_reducible rfl); (try (trace_state; fail))))); (try simp only [List.getElem_toArray, List.getElem_cons_zero, List.getElem_cons_succ]); (try simp only [Act.put, List.setIfInBounds_toArray, List.set_cons_zero, List.set_cons_succ]))
          refine wpHv_nil ?_
          change wpV _ _ _ _ _ _ _ (15 + 1) _ _ _
          refine wpV_one (k := 3) (by kernel_rfl) rfl (fun K hK => ?_)
          have HKK := Lib.hid hK
          clear hK
          go_simp
          refine (refCost_any HAlB.out HIlY.out (by rw [HYL.out]; exact HKK0.out.inX) (by have := HBL.out; omega) (by rw [HYL.out]; omega) (okg_w HKK0.out) (sol_lo HSY.out (by omega))).mono ?_
          rw [HC2.out]
          rintro e wb ⟨rfl, BB⟩
          have Rb := Lib.hid (HRl.out.later BB)
          have HIbZ := Lib.hid (HIlZ.out.later BB)
          have HIbU := Lib.hid (HIlU.out.later BB)
          have HAbM := Lib.hid (HAlM.out.later BB)
          have HAbS := Lib.hid (HAlS.out.later BB)
          have HWb := Lib.hid (below_then HWl.out HWl.out.size BB)
          clear BB
          go_simp
          refine HKK.out _ _ ⟨Rb.out, fun _ h => h⟩ ?_
          clear HKK K
          change wpV _ _ _ _ _ _ _ (9 + 6) _ _ _
          refine wpV_heads Rb.out trivial (by kernel_rfl) (fun _ _ _ _ _ h => h) [(5, true), (6, true), (7, true), (8, true), (9, true), (11, true), (12, true), (13, true), (14, true)] _ _ _ (by kernel_rfl) ?_
          iterate 9 (first | (refine wpHv_skip rfl (by rfl) ?_) | (refine wpHv_cons (v := ?_) rfl (by rfl) (fun wS hwS => ?_) ?_; rotate_left 1; (focus (have hwA := And.left hwS; clear hwS; (try dsimp only [R4] at hwA); go_simp; (try with_reducible rfl); (try (trace_state; fail))))); (try simp only [List.getElem_toArray, List.getElem_cons_zero, List.getElem_cons_succ]); (try simp only [Act.put, List.setIfInBounds_toArray, List.set_cons_zero, List.set_cons_succ]))
          refine wpHv_nil ?_
          change wpV _ _ _ _ _ _ _ (5 + 1) _ _ _
          refine wpV_one (k := 10) (by kernel_rfl) rfl (fun K hK => ?_)
          have HKK := Lib.hid hK
          clear hK
          go_simp
          refine (refCost_any HAbS.out HIbU.out (by rw [HUL.out]; exact HKB.out.inX) (by have := HBOL.out; omega) (by rw [HUL.out]; omega) (okg_w HKB.out) (sol_lo HSU.out (by omega))).mono ?_
          rw [HC3.out]
          rintro e wc ⟨rfl, BC⟩
          have Rc := Lib.hid (Rb.out.later BC)
          have HIcZ := Lib.hid (HIbZ.out.later BC)
          have HAcM := Lib.hid (HAbM.out.later BC)
          have HWc := Lib.hid (below_then HWb.out HWb.out.size BC)
          clear BC
          go_simp
          refine HKK.out _ _ ⟨Rc.out, fun _ h => h⟩ ?_
          clear HKK K
          change wpV _ _ _ _ _ _ _ (4 + 1) _ _ _
          refine wpV_one (k := 15) (by kernel_rfl) rfl (fun K hK => ?_)
          have HKK := Lib.hid hK
          clear hK
          go_simp
          refine (refCost_any HAcM.out HIcZ.out (by rw [HZL.out]; exact HKm.out.inX) (by omega) (by rw [HZL.out]; omega) (okg_w HKm.out) (sol_lo HSZ.out (by omega))).mono ?_
          rw [HD.out]
          rintro e wd ⟨rfl, BDD⟩
          have Re := Lib.hid (Rc.out.later BDD)
          have HWd := Lib.hid (below_then HWc.out HWc.out.size BDD)
          clear BDD
          go_simp
          refine HKK.out _ _ ⟨Re.out, fun _ h => h⟩ ?_
          clear HKK K
          change wpV _ _ _ _ _ _ _ (4 + 0) _ _ _
          refine wpV_heads Re.out trivial (by kernel_rfl) (fun _ _ _ _ _ h => h) [(16, true), (17, true), (18, true), (19, true)] _ _ _ (by kernel_rfl) ?_
          iterate 4 (first | (refine wpHv_skip rfl (by rfl) ?_) | (refine wpHv_cons (v := ?_) rfl (by rfl) (fun wS hwS => ?_) ?_; rotate_left 1; (focus (have hwA := And.left hwS; clear hwS; (try dsimp only [R4] at hwA); go_simp; (try with_reducible rfl); (try (trace_state; fail))))); (try simp only [List.getElem_toArray, List.getElem_cons_zero, List.getElem_cons_succ]); (try simp only [Act.put, List.setIfInBounds_toArray, List.set_cons_zero, List.set_cons_succ]))
          refine wpHv_nil ?_
          refine wpV_done (by kernel_rfl) (NoPanic.normal ?_)
          go_wp2_with fail
          go_ret
          exact ⟨rfl, HWd.out⟩
end Go.Proofs.Ytimffpnfhkobkaa
