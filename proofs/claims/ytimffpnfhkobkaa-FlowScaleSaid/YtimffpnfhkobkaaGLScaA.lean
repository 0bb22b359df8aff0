/- FlowScale: with all weights so many times as great the cost is as many times as great; with one arc more it is no less. -/
import Derived.Test.YtimffpnfhkobkaaMgG17
import Derived.Test.YtimffpnfhkobkaaMgG18
import Derived.Test.YtimffpnfhkobkaaMgG6
namespace Go.Proofs.Ytimffpnfhkobkaa
open Go.RowKit
theorem sol_cost {n : Nat} {L : List Arc} {xs fs : List Int} {ways : Nat} (S : Sol n L xs fs ways) (k : Okg n L) (hl : L.length ≤ 40) : 0 ≤ costL xs L ∧ costL xs L ≤ 800000000000 := by
  rw [← S.sum k]
  have h1 := sumN_nonneg (f := ff fs) (n := L.length) (fun i hi => (S.nn i hi).1)
  have h2 := sumN_snoc_le (f := ff fs) (B := 20000000000) (n := L.length) (fun i hi => (S.nn i hi).2)
  omega
theorem arcs_of_rel {w : World} {A : Option Addr} {c m : Nat} {L : List Arc} (hl : L.length = m) (hc : m ≤ c) (hn : A = none → m = 0 ∧ c = 0) (h : 0 < m → ∃ g, A = some ⟨g, 0, none⟩ ∧ ∃ Z, ARow w g m Z ∧ ∀ j, j < m * 3 → Z j = zA L j) : Arcs w (.slice A m c) L := by
  by_cases h0 : 0 < m
  · obtain ⟨g, rfl, Z, R, e⟩ := h h0
    exact R.arcs hl hc e
  · subst hl
    exact ⟨A, c, rfl, hc, hn, fun h => absurd h h0⟩
set_option maxRecDepth 100000 in
set_option maxHeartbeats 4000000 in
theorem scale_core {w : World} {V : Value} {T : List Tri} (N bb m0 m1 m2 : Nat) (hN : N ≤ 255) (hbb : bb ≤ 255) (hm0 : m0 ≤ 255) (hm1 : m1 ≤ 255) (hm2 : m2 ≤ 255) (h : Tris w V T) (hs : Small T) (hl : T.length ≤ 1000000000000000) :
    Calls Try.prog 11 #[.agg #[.int .u8 (N : Int), V], .int .u8 (bb : Int), .agg #[.int .u8 (m0 : Int), .int .u8 (m1 : Int), .int .u8 (m2 : Int)]] w fun e w' => e = .returned (.bool true) ∧ Below w.heap.size w w' := by
  obtain ⟨A, cap, rfl, -, -⟩ := h.at_
  obtain ⟨w0, hw0⟩ : ∃ w0, (w.alloc (.cells #[.int .u8 (N : Int), .slice A T.length cap] 38)).alloc (.cells #[.int .u8 (m0 : Int), .int .u8 (m1 : Int), .int .u8 (m2 : Int)] 69) = w0 := ⟨_, rfl⟩
  have B0 : Below w.heap.size w w0 := by rw [← hw0]; exact ((Below.refl _ _).alloc (Nat.le_refl _) _).alloc (by simp) _
  have hG : w0.heap[w.heap.size + 1]? = some (.cells #[.int .u8 (m0 : Int), .int .u8 (m1 : Int), .int .u8 (m2 : Int)] 69) := by rw [← hw0]; exact heap_at (by simp)
  have hG0 : w0.heap[w.heap.size]? = some (.cells #[.int .u8 (N : Int), .slice A T.length cap] 38) := by rw [← hw0]; exact heap_over rfl
  have p0 : w0.cell? ⟨w.heap.size, 0, none⟩ = some (.int .u8 (N : Int)) := (Cl.of_block hG0 (j := 0) rfl).cell
  have p1 : w0.cell? ⟨w.heap.size, 1, none⟩ = some (.slice A T.length cap) := (Cl.of_block hG0 (j := 1) rfl).cell
  have HG := Lib.hid hG
  have HB0 := Lib.hid B0
  have HH := Lib.hid (h.later B0)
  have hlt0 : w.heap.size + 1 < w0.heap.size := (Array.getElem?_eq_some_iff.1 hG).1
  clear h B0 hG hG0
  go_enter Try.func11, Try.ntmps11
  go_wp2_with fail
  clear hw0 p0 p1
  refine (make_any (T := T) N 14 hN (by omega) (by omega) HH.out hs hl).mono ?_
  have HR := Lib.hid (makeL_right N 14 (by omega) (by omega) T)
  have HE := Lib.hid (makeL_dag N 14 (by omega) (by omega) T)
  have HUP := Lib.hid (makeL_up N 14 T)
  have HWT : Hid (∀ a ∈ makeL N 14 T, a.2.2 ≤ 7) := Lib.hid (fun a ha => (makeL_w N 14 T a ha).2)
  have hn1 : 1 ≤ mkN N 14 := by unfold mkN; omega
  have hn2 : mkN N 14 ≤ 14 := by unfold mkN; omega
  have hlen : (makeL N 14 T).length ≤ 40 := makeL_length N 14 T
  generalize mkN N 14 = n at *
  generalize makeL N 14 T = L at *
  rintro e w1 ⟨V1, rfl, R1, B1⟩
  obtain ⟨A1, c1, rfl, -⟩ := own_shape R1
  have HK := Lib.hid (okg_of HR.out hn1)
  have HR1 := Lib.hid R1
  have HG1 := Lib.hid (block_later B1 HG.out)
  have HB1 := Lib.hid (below_then HB0.out HB0.out.size B1)
  have hs1 := B1.size
  clear R1 B1 HB0 HG HH hs
  obtain ⟨K, hK, hK9⟩ : ∃ K : Nat, 1 + (bb : Int) % 9 = (K : Int) ∧ K ≤ 9 := ⟨1 + bb % 9, by omega, by omega⟩
  go_wp2_with fail
  refine (cloneA_own HR1.out (by omega)).mono ?_
  rintro e w2 ⟨V2, rfl, R2, B2⟩
  have HC2 := Lib.hid (Sl.of_own encA_length R2).cells
  have HQ2 := Lib.hid (fun h => ARow.of_own R2 h)
  obtain ⟨A2, c2, rfl, -⟩ := own_shape R2
  have HB2 := Lib.hid B2
  have hs2 := B2.size
  clear R2 B2
  go_wp2_with fail
  go_loopw [35] (fun q wr => ∃ i : Nat, i ≤ L.length ∧ q = .int .i64 i ∧ (0 < L.length → ∃ g, A2 = some ⟨g, 0, none⟩ ∧ w1.heap.size ≤ g ∧ ARow wr g L.length (zK K L i)) ∧ Below w1.heap.size w1 wr) (fun q _ => L.length - (intOf q).toNat)
  case atStart =>
    refine ⟨0, by omega, rfl, fun h => ?_, HB2.out⟩
    obtain ⟨g, c, e, hc, hg, R⟩ := HQ2.out h
    injection e with e1 e2 e3
    exact ⟨g, e1, hg, by rw [zK_zero]; exact R⟩
  case round =>
    obtain ⟨i, hi, rfl, R, B⟩ := hrel
    obtain ⟨wo, rfl⟩ : ∃ q : World, q = wr := ⟨_, rfl⟩
    have HB := Lib.hid B
    have hwo := B.size
    clear B
    by_cases hil : i < L.length
    · have hd : decide ((i : Int) < L.length) = true := by simp; omega
      obtain ⟨g, rfl, hg, R⟩ := R (by omega)
      have q0 := R.cell (j := i * 3 + 2) (by omega)
      have q1 := R.frozen (i * 3 + 2)
      rw [zK_at] at q0
      have hx0 : 0 ≤ zA L (i * 3 + 2) ∧ zA L (i * 3 + 2) ≤ 7 := by
        obtain ⟨-, -, e⟩ := zA_at L i
        have h1 := List.getElem?_eq_getElem hil
        rw [h1] at e
        simp only [Option.getD_some] at e
        rw [e]
        exact ⟨(okg_w HK.out _ (List.getElem_mem hil)).1, HWT.out _ (List.getElem_mem hil)⟩
      have HST := Lib.hid (zK_step K L i)
      have HR := Lib.hid R
      have i1 : (0 : Int) ≤ (i : Int) := by omega
      have i2 : (i : Int) < (L.length : Int) := by omega
      have hmul : 0 ≤ zA L (i * 3 + 2) * (K : Int) ∧ zA L (i * 3 + 2) * (K : Int) ≤ 7 * 9 := ⟨Int.mul_nonneg hx0.1 (by omega), Int.mul_le_mul hx0.2 (by omega) (by omega) (by omega)⟩
      have e1 : IntKind.i64.wrap (zA L (i * 3 + 2) * (K : Int)) = zA L (i * 3 + 2) * (K : Int) := IntWalk.i64_in _ (by omega)
      clear R
      generalize zA L (i * 3 + 2) = x at *
      go_wp2_with fail
      exact ⟨⟨i + 1, by omega, by go_num, fun _ => ⟨g, rfl, hg, (HR.out.set (i * 3 + 2) (x * K)).congr (fun j _ => HST.out j)⟩, HB.out.setCell (p := ⟨g, i * 3 + 2, none⟩) hg _⟩, by simp [intOf]; omega⟩
    · have e : i = L.length := by omega
      subst e
      have hd : decide ((L.length : Int) < L.length) = false := by simp
      have hA2 : Arcs wo (.slice A2 L.length c2) (bigL K L) := by
        obtain ⟨A', c', e, h1, h2, -⟩ := HC2.out
        injection e with e1 e2 e3
        subst e1
        subst e3
        refine arcs_of_rel (by simp [bigL]) h1 h2 (fun h => ?_)
        obtain ⟨g, e, hg, R⟩ := R h
        exact ⟨g, e, _, R, fun j hj => zK_end K L j hj⟩
      have HA2 := Lib.hid hA2
      have HR2 := Lib.hid (own_later HR1.out HB.out)
      have HG2 := Lib.hid (block_later HB.out HG1.out)
      have HW2 := Lib.hid (below_then HB1.out HB1.out.size HB.out)
      clear R hA2 HQ2 HC2 HB2
      go_wp2_with fail
      refine (cloneA_own HR2.out (by omega)).mono ?_
      rintro e w3 ⟨V9, rfl, R9, B3⟩
      obtain ⟨A9, c9, rfl, -⟩ := own_shape R9
      have BD := B3.trans ((Below.refl w3.heap.size w3).drew.mono B3.size)
      have HR9 : Hid (w3.drew.ownsRow wo.heap.size 52 3 (.slice A9 L.length c9) L.length (flat encA L)) := Lib.hid (own_later R9 (Below.refl _ _).drew)
      have HO1 := Lib.hid (Sl.of_own encA_length HR2.out)
      have HG3 := Lib.hid (block_later BD HG2.out)
      have HB3 := Lib.hid BD
      have HGM : Hid (R3 (w.heap.size + 1) (.int .u8 (m0 : Int)) (.int .u8 (m1 : Int)) (.int .u8 (m2 : Int)) w3.drew) := Lib.hid ⟨(Cl.of_block (w := w3.drew) HG3.out (j := 0) rfl).cell, (Cl.of_block (w := w3.drew) HG3.out (j := 1) rfl).cell, (Cl.of_block (w := w3.drew) HG3.out (j := 2) rfl).cell⟩
      have z2 : ¬ (n = 0) := by omega
      have z3 : IntKind.i64.wrap (m0 : Int) = m0 := IntWalk.i64_in _ (by omega)
      have z4 : IntKind.i64.wrap (m1 : Int) = m1 := IntWalk.i64_in _ (by omega)
      have q0 : (IntKind.i64.wrap (m0 : Int)).tmod (n : Int) = ((m0 % n : Nat) : Int) := by rw [z3, Int.tmod_eq_emod_of_nonneg (by omega)]; simp
      have q1 : (IntKind.i64.wrap (m1 : Int)).tmod (n : Int) = ((m1 % n : Nat) : Int) := by rw [z4, Int.tmod_eq_emod_of_nonneg (by omega)]; simp
      have q2 : m0 % n < n := Nat.mod_lt _ (by omega)
      have q3 : m1 % n < n := Nat.mod_lt _ (by omega)
      clear z3 z4 R9 B3 BD HR2 HG2 HG3
      generalize m0 % n = a at *
      generalize m1 % n = b at *
      obtain ⟨x, hx, hx8⟩ : ∃ x : Nat, (m2 : Int) % 9 = (x : Int) ∧ x ≤ 8 := ⟨m2 % 9, by omega, by omega⟩
      obtain ⟨j0, hj0, hy0, hy1, hy2⟩ := info_parts info_arcM
      go_upto_region 10 with fail
      refine wp_region_headsV [(0, true), (1, true), (2, true), (3, true), (4, true), (5, true), (6, true), (7, true), (8, true), (9, true), (10, true), (11, true)] [] (R3 (w.heap.size + 1) (.int .u8 (m0 : Int)) (.int .u8 (m1 : Int)) (.int .u8 (m2 : Int))) (fun _ => True) (by kernel_rfl) (by kernel_rfl) HGM.out trivial ?_
      iterate 12 (first | (refine wpHv_skip rfl (by rfl) ?_) | (refine wpHv_cons (v := ?_) rfl (by rfl) (fun wS hwS => ?_) ?_; rotate_left 1; (focus (have hwA := And.left hwS; clear hwS; (try dsimp only [R3] at hwA); go_simp; (try with_reducible rfl); (try (trace_state; fail))))); (try simp only [List.getElem_toArray, List.getElem_cons_zero, List.getElem_cons_succ]); (try simp only [Act.put, List.setIfInBounds_toArray, List.set_cons_zero, List.set_cons_succ]))
      refine wpHv_nil ?_
      refine wpV_done (by kernel_rfl) (NoPanic.normal ?_)
      clear q0 q1 z2
      have g2 : w3.drew.cell? ⟨w.heap.size + 1, 2, none⟩ = some (.int .u8 (m2 : Int)) := HGM.out.2.2
      have hs3 := HB3.out.size
      generalize w3.drew = wd at *
      by_cases hab : a < b
      case' pos =>
        have hdab : decide ((a : Int) < b) = true := by simp; omega
        obtain ⟨wA, hwA⟩ : ∃ wA, wd.alloc (.cells #[.int .i64 (a : Int), .int .i64 (b : Int), .int .i64 (x : Int)] 52) = wA := ⟨_, rfl⟩
        have BA : Below wd.heap.size wd wA := by rw [← hwA]; exact (Below.refl _ _).alloc (Nat.le_refl _) _
        have hGA : wA.heap[wd.heap.size]? = some (.cells #[.int .i64 (a : Int), .int .i64 (b : Int), .int .i64 (x : Int)] 52) := by rw [← hwA]; exact heap_at rfl
        have HGA := Lib.hid hGA
        have HRA := Lib.hid (own_later HR9.out BA)
        have HBA := Lib.hid BA
        have hsA := BA.size
        clear hGA BA
        go_wp2_with (refine wpList_append_lies _ rfl (.tmp 63) (.tmp 71) 22 rfl wo.heap.size 52 j0 (.agg #[.int .i64 0, .int .i64 0, .int .i64 0]) 3 24 Try.underlying22 hj0 hy0 hy1 hy2 rfl (by decide) (.slice A9 L.length c9) L.length (flat encA L) rfl HRA.out ⟨wd.heap.size, 0, none⟩ 1 1 (encA ((a : Int), (b : Int), (x : Int))) rfl rfl (World.news_of_block HGA.out) (by intro u hu; simp [encA] at hu; rcases hu with rfl | rfl | rfl <;> rfl) (by omega) (by simp only [maxLen]; omega) (by omega) (by omega) _ rfl ?_; intro gM cM w4 hown hgrow hat hlt)
        clear hwA g2
        obtain ⟨M, hM⟩ : ∃ M : List Arc, M = L ++ [((a : Int), (b : Int), (x : Int))] := ⟨_, rfl⟩
        have hMl : M.length = L.length + 1 := by rw [hM]; simp
        have HM4 : Hid (Arcs w4 (.slice (some ⟨gM, 0, none⟩) (L.length + 1) cM) M) := Lib.hid (by
          rw [← hMl]
          refine Sl.of_own encA_length (B := wo.heap.size) (E := 52) ?_
          have h := hown
          have e : flat encA M = flat encA L ++ encA ((a : Int), (b : Int), (x : Int)) := by rw [hM, flat_append]; simp [flat]
          rw [e, hMl]
          exact h)
        have HB4 : Hid (Below wo.heap.size wo w4) := Lib.hid ((HB3.out.trans (HBA.out.mono hs3)).grown hgrow (by omega) (fun q hq => own_ge HRA.out hq))
        have hRM : rightB n M = true := by
          refine right_of HK.out.n1 (by have := HK.out.m1; omega) (fun c hc => ?_)
          rw [hM] at hc
          rcases List.mem_append.1 hc with hc | hc
          · obtain ⟨i, hi⟩ := List.getElem?_of_mem hc
            exact HK.out.arc i c hi
          · simp at hc
            subst hc
            exact ⟨a, b, x, rfl, q2, q3, by omega⟩
        have HKM := Lib.hid (okg_of hRM hn1)
        have HEM := Lib.hid (ordE_dag hRM id (fun c hc => by
          rw [hM] at hc
          rcases List.mem_append.1 hc with hc | hc
          · exact HUP.out c hc
          · simp at hc
            subst hc
            simpa using hab))
        have HMR : Hid (∀ l, M.all (fitA l) = true → L.all (fitA l) = true ∧ costL l L ≤ costL l M) := Lib.hid (fun l hf => by
          rw [hM] at hf ⊢
          exact more_cost (by show (0 : Int) ≤ x; omega) hf)
        clear hown hgrow hat hlt hM hMl hRM HRA HBA HGA hsA HR9 HB3 HGM
      case' neg =>
        have hdab : decide ((a : Int) < b) = false := by simp; omega
        go_wp2_with fail
        obtain ⟨w4, rfl⟩ : ∃ q : World, q = wd := ⟨_, rfl⟩
        obtain ⟨M, hM⟩ : ∃ M : List Arc, M = L := ⟨_, rfl⟩
        have HM4 : Hid (Arcs w4 (.slice A9 L.length c9) M) := Lib.hid (by rw [hM]; exact Sl.of_own encA_length HR9.out)
        have HB4 := HB3
        have HKM : Hid (Okg n M) := Lib.hid (by rw [hM]; exact HK.out)
        have HEM : Hid (ordE n M = 0) := Lib.hid (by rw [hM]; exact HE.out)
        have HMR : Hid (∀ l, M.all (fitA l) = true → L.all (fitA l) = true ∧ costL l L ≤ costL l M) := Lib.hid (fun l hf => by
          rw [hM] at hf ⊢
          exact ⟨hf, Int.le_refl _⟩)
        clear hM HR9 HGM g2
      all_goals
        have hs4 := HB4.out.size
        have HA4 := Lib.hid (HO1.out.later HB4.out)
        have HG4 := Lib.hid (HA2.out.later HB4.out)
        have HW4 := Lib.hid (below_then HW2.out HW2.out.size HB4.out)
        have HKB := Lib.hid (okg_of (bigL_right HK.out HWT.out hK9) hn1)
        have HEB : Hid (ordE n (bigL K L) = 0) := Lib.hid (ordE_dag (bigL_right HK.out HWT.out hK9) id (fun c hc => by
          obtain ⟨d, hd, rfl⟩ := List.mem_map.1 hc
          exact HUP.out d hd))
        have hBl : (bigL K L).length = L.length := by simp [bigL]
        have HBL := Lib.hid hBl
        have hne : ((n : Int) != n) = false := by simp
        clear HO1 HA2 HW2 hBl hab hdab
        refine (solve_any n HA4.out HK.out HE.out).mono ?_
        rintro e w5 h5
        obtain ⟨AX, cX, AF, cF, xs, fs, ways, rfl, IX, -, S, B5⟩ := h5.at_
        obtain ⟨w6, hw6⟩ : ∃ w6, w5.alloc (.cells #[.slice AX n cX, .slice AF L.length cF, .int .i64 (ways : Int)] 58) = w6 := ⟨_, rfl⟩
        have B6 : Below w5.heap.size w5 w6 := by rw [← hw6]; exact (Below.refl _ _).alloc (Nat.le_refl _) _
        have hr6 : w6.heap[w5.heap.size]? = some (.cells #[.slice AX n cX, .slice AF L.length cF, .int .i64 (ways : Int)] 58) := by rw [← hw6]; exact heap_at rfl
        have B56 := below_then B5 B5.size B6
        have HA6 := Lib.hid (HA4.out.later B56)
        have HG6 := Lib.hid (HG4.out.later B56)
        have HM6 := Lib.hid (HM4.out.later B56)
        have HW6 := Lib.hid (below_then HW4.out HW4.out.size B56)
        have HX6 := Lib.hid (IX.later B6)
        have HRX := Lib.hid hr6
        have HS := Lib.hid S
        clear h5 IX S B5 B6 B56 hr6 HA4 HG4 HM4 HW4 HB4
        go_wp2_with fail
        clear hw6
        refine (solve_any n HG6.out HKB.out HEB.out).mono ?_
        rintro e w7 h7
        obtain ⟨AY, cY, AG, cG, ys, gs, ways2, rfl, IY, -, S2, B7⟩ := h7.at_
        obtain ⟨w8, hw8⟩ : ∃ w8, w7.alloc (.cells #[.slice AY n cY, .slice AG (bigL K L).length cG, .int .i64 (ways2 : Int)] 58) = w8 := ⟨_, rfl⟩
        have B8 : Below w7.heap.size w7 w8 := by rw [← hw8]; exact (Below.refl _ _).alloc (Nat.le_refl _) _
        have hr8 : w8.heap[w7.heap.size]? = some (.cells #[.slice AY n cY, .slice AG (bigL K L).length cG, .int .i64 (ways2 : Int)] 58) := by rw [← hw8]; exact heap_at rfl
        have B78 := below_then B7 B7.size B8
        have HA8 := Lib.hid (HA6.out.later B78)
        have HG8 := Lib.hid (HG6.out.later B78)
        have HM8 := Lib.hid (HM6.out.later B78)
        have HW8 := Lib.hid (below_then HW6.out HW6.out.size B78)
        have HX8 := Lib.hid (HX6.out.later B78)
        have HRX8 := Lib.hid (block_later B78 HRX.out)
        have HY8 := Lib.hid (IY.later B8)
        have HRY := Lib.hid hr8
        have HS2 := Lib.hid S2
        clear h7 IY S2 B7 B8 B78 hr8 HA6 HG6 HM6 HW6 HX6 HRX
        go_wp2_with fail
        clear hw8
        refine (solve_any n HM8.out HKM.out HEM.out).mono ?_
        rintro e w9 h9
        obtain ⟨AZ, cZ, AH, cH, zs, hs', ways3, rfl, IZ, -, S3, B9⟩ := h9.at_
        obtain ⟨w10, hw10⟩ : ∃ w10, w9.alloc (.cells #[.slice AZ n cZ, .slice AH M.length cH, .int .i64 (ways3 : Int)] 58) = w10 := ⟨_, rfl⟩
        have B10 : Below w9.heap.size w9 w10 := by rw [← hw10]; exact (Below.refl _ _).alloc (Nat.le_refl _) _
        have hr10 : w10.heap[w9.heap.size]? = some (.cells #[.slice AZ n cZ, .slice AH M.length cH, .int .i64 (ways3 : Int)] 58) := by rw [← hw10]; exact heap_at rfl
        have B910 := below_then B9 B9.size B10
        have HA10 := Lib.hid (HA8.out.later B910)
        have HG10 := Lib.hid (HG8.out.later B910)
        have HM10 := Lib.hid (HM8.out.later B910)
        have HW10 := Lib.hid (below_then HW8.out HW8.out.size B910)
        have HX10 := Lib.hid (HX8.out.later B910)
        have HY10 := Lib.hid (HY8.out.later B910)
        have HRX10 := Lib.hid (block_later B910 HRX8.out)
        have HRY10 := Lib.hid (block_later B910 HRY.out)
        have HZ10 := Lib.hid (IZ.later B10)
        have HRZ10 := Lib.hid hr10
        have HS3 := Lib.hid S3
        clear h9 IZ S3 B9 B10 B910 hr10 HA8 HG8 HM8 HW8 HX8 HY8 HRX8 HRY
        go_wp2_with fail
        clear hw10
        refine (fwakes_any _).mono ?_
        rintro e w11 ⟨rfl, B11⟩
        have bkX := block_later B11 HRX10.out
        have bkY := block_later B11 HRY10.out
        have bkZ := block_later B11 HRZ10.out
        have g1 : w11.cell? ⟨w5.heap.size, 0, none⟩ = some (.slice AX n cX) := (Cl.of_block bkX (j := 0) rfl).cell
        have g2 : w11.cell? ⟨w7.heap.size, 0, none⟩ = some (.slice AY n cY) := (Cl.of_block bkY (j := 0) rfl).cell
        have g3 : w11.cell? ⟨w9.heap.size, 0, none⟩ = some (.slice AZ n cZ) := (Cl.of_block bkZ (j := 0) rfl).cell
        have HA11 := Lib.hid (HA10.out.later B11)
        have HG11 := Lib.hid (HG10.out.later B11)
        have HM11 := Lib.hid (HM10.out.later B11)
        have HW11 := Lib.hid (below_then HW10.out HW10.out.size B11)
        have HX11 := Lib.hid (HX10.out.later B11)
        have HY11 := Lib.hid (HY10.out.later B11)
        have HZ11 := Lib.hid (HZ10.out.later B11)
        have hxl := HS.out.lx
        have hyl := HS2.out.lx
        have hzl := HS3.out.lx
        obtain ⟨C, hC⟩ : ∃ C, costL xs L = C := ⟨_, rfl⟩
        have HC := Lib.hid hC
        have hC0 : 0 ≤ C ∧ C ≤ 800000000000 := by rw [← hC]; exact sol_cost HS.out HK.out hlen
        have hC2 : costL ys (bigL K L) = K * C := by rw [← hC]; exact big_same HK.out HKB.out HS.out HS2.out
        have hC3 : C ≤ costL zs M := by
          obtain ⟨h1, h2⟩ := HMR.out zs HS3.out.fit
          have h3 := HS.out.best HK.out h1
          omega
        have HC2 := Lib.hid hC2
        obtain ⟨D, hD⟩ : ∃ D, costL zs M = D := ⟨_, rfl⟩
        rw [hD] at hC3
        have HDD := Lib.hid hD
        have hle : decide (C ≤ D) = true := by simpa using hC3
        have hmul : 0 ≤ (K : Int) * C ∧ (K : Int) * C ≤ 9 * 800000000000 := ⟨Int.mul_nonneg (by omega) hC0.1, Int.mul_le_mul (by omega) hC0.2 hC0.1 (by omega)⟩
        have ew : IntKind.i64.wrap ((K : Int) * C) = K * C := IntWalk.i64_in _ (by omega)
        have HXL := Lib.hid hxl
        have HYL := Lib.hid hyl
        have HZL := Lib.hid hzl
        clear bkX bkY bkZ B11 HRX10 HRY10 HRZ10 HA10 HG10 HM10 HW10 HX10 HY10 HZ10 hC hC2 hC3 hD hxl hyl hzl
        go_wp2_with fail
        refine (refCost_any HA11.out HX11.out (by rw [HXL.out]; exact HK.out.inX) (by omega) (by rw [HXL.out]; omega) (okg_w HK.out) (sol_lo HS.out (by omega))).mono ?_
        rw [HC.out]
        rintro e w12 ⟨rfl, B12⟩
        have k2 := cell_later B12 g2
        have k3 := cell_later B12 g3
        have HG12 := Lib.hid (HG11.out.later B12)
        have HM12 := Lib.hid (HM11.out.later B12)
        have HW12 := Lib.hid (below_then HW11.out HW11.out.size B12)
        have HY12 := Lib.hid (HY11.out.later B12)
        have HZ12 := Lib.hid (HZ11.out.later B12)
        clear B12 g1 g2 g3 HA11 HG11 HM11 HW11 HX11 HY11 HZ11
        go_wp2_with fail
        refine (refCost_any HG12.out HY12.out (by rw [HYL.out]; exact HKB.out.inX) (by have := HBL.out; omega) (by rw [HYL.out]; omega) (okg_w HKB.out) (sol_lo HS2.out (by omega))).mono ?_
        rw [HC2.out]
        rintro e w13 ⟨rfl, B13⟩
        have k4 := cell_later B13 k3
        have HM13 := Lib.hid (HM12.out.later B13)
        have HW13 := Lib.hid (below_then HW12.out HW12.out.size B13)
        have HZ13 := Lib.hid (HZ12.out.later B13)
        clear B13 k2 k3 HG12 HM12 HW12 HY12 HZ12
        go_wp2_with fail
        refine (refCost_any HM13.out HZ13.out (by rw [HZL.out]; exact HKM.out.inX) (by have := HKM.out.m1; omega) (by rw [HZL.out]; omega) (okg_w HKM.out) (sol_lo HS3.out (by omega))).mono ?_
        rw [HDD.out]
        rintro e w14 ⟨rfl, B14⟩
        have HW14 := Lib.hid (below_then HW13.out HW13.out.size B14)
        clear B14
        go_wp2_with fail
        go_ret
        exact ⟨rfl, HW14.out⟩
end Go.Proofs.Ytimffpnfhkobkaa
