/- muntinref28.Parse: what a text is parsed to, the document's way. -/
import Derived.Test.YtkpgjgmlhcipeaaDoorPgF
import Derived.Test.YtkpgjgmlhcipeaaDoorHeldT
namespace Go.Proofs.YtkpgjgmlhcipeaaDoor
open Go.RowKit
def T3 (d b o : Nat) (B R : Value) (y : ByteArray) (w : World) : Prop := w.cell? ⟨d, 0, none⟩ = some B ∧ w.cell? ⟨d, 1, none⟩ = some R ∧ w.cell? ⟨b, o, none⟩ = some (.string y)
theorem T3.later {d b o : Nat} {B R : Value} {y : ByteArray} {w w' : World} (h : T3 d b o B R y w) (k : Below w.heap.size w w') : T3 d b o B R y w' := ⟨cell_later k h.1, cell_later k h.2.1, cell_later k h.2.2⟩
set_option maxRecDepth 100000 in
set_option maxHeartbeats 4000000 in
theorem refParse_any {w : World} (s : ByteArray) (hs : s.size ≤ 400000000) :
    Calls Tryd.prog 27 #[.string s] w fun e w' => ∃ B R, e = .returned (.tuple #[.agg #[B, R], .int .i64 (parseP s.data.toList).2.1, .int .i64 (parseP s.data.toList).2.2]) ∧ Drw w' B R (parseP s.data.toList).1 ∧ Below w.heap.size w w' := by
  obtain ⟨pr, hpr⟩ : ∃ pr, parseP s.data.toList = pr := ⟨_, rfl⟩
  obtain ⟨DD, ln, er⟩ := pr
  rw [hpr]
  have HPR := Lib.hid hpr
  obtain ⟨E, hE⟩ : ∃ E, lnE s.data.toList = E := ⟨_, rfl⟩
  obtain ⟨LL, hLL⟩ : ∃ LL, lnL s.data.toList = LL := ⟨_, rfl⟩
  have hsz := Lib.size_eq s
  have hll : LL.length ≤ 400000001 := by rw [← hLL]; exact Nat.le_trans lnL_le.1 (by omega)
  have HLB : Hid (∀ x ∈ LL, x.size ≤ 400000000) := Lib.hid (by
    rw [← hLL]
    intro x hx
    rw [Lib.size_eq]
    have := lnL_le.2 x hx
    omega)
  have HE := Lib.hid hE
  have HLL := Lib.hid hLL
  clear hpr hE hLL hsz
  go_enter Tryd.func27, Tryd.ntmps27
  go_wp2_with fail
  obtain ⟨w0, hw0⟩ : ∃ w0, (w.alloc (.cells #[.slice none 0 0, .slice none 0 0] 45)).alloc (.cells #[.slice none 0 0, .slice none 0 0] 45) = w0 := ⟨_, rfl⟩
  have B0 : Below w.heap.size w w0 := by rw [← hw0]; exact ((Below.refl _ _).alloc (Nat.le_refl _) _).alloc (by simp) _
  have HG0 : Hid (w0.heap[w.heap.size]? = some (.cells #[.slice none 0 0, .slice none 0 0] 45)) := Lib.hid (by rw [← hw0]; exact (((Below.refl _ _).alloc (Nat.le_refl _) _).block _ (by simp)).trans (heap_at rfl))
  have HN0 : Hid (w0.heap[w.heap.size + 1]? = some (.cells #[.slice none 0 0, .slice none 0 0] 45)) := Lib.hid (by rw [← hw0]; exact heap_at (by simp))
  have HB0 := Lib.hid B0
  rw [hw0]
  clear hw0 B0
  refine (refLines_any s (by omega)).mono ?_
  rw [HE.out, HLL.out]
  rintro e w1 ⟨V1, rfl, S1, B1⟩
  obtain ⟨A1, c1, hV1, hc1, hAn, hA1⟩ := Strs.at_ S1
  subst hV1
  have HA1 := Lib.hid hA1
  have hG1 := block_later B1 HG0.out
  have hN1 := block_later B1 HN0.out
  have HG1 := Lib.hid hG1
  have HN1 := Lib.hid hN1
  have hsz1 := B1.size
  have hsz0 := HB0.out.size
  have HB1 := Lib.hid (below_then HB0.out HB0.out.size B1)
  have hlt1 : w.heap.size + 1 < w1.heap.size := (Array.getElem?_eq_some_iff.1 hN1).1
  clear S1 B1 hA1 HG0 HN0
  have p0 := (Cl.of_block hG1 (j := 0) rfl).cell
  have p1 := (Cl.of_block hG1 (j := 1) rfl).cell
  have r0 := (Cl.of_block hG1 (j := 0) rfl).free
  have r1 := (Cl.of_block hG1 (j := 1) rfl).free
  have n0 := (Cl.of_block hN1 (j := 0) rfl).cell
  have n1 := (Cl.of_block hN1 (j := 1) rfl).cell
  clear hG1 hN1
  by_cases hE0 : E = 0
  · subst hE0
    cases hLc : LL with
    | nil =>
      subst hLc
      have hPR := HPR.out.symm.trans (parseP_nil HE.out HLL.out)
      cases hPR
      go_wp2_with fail
      refine bodyPost_ret (v := .tuple #[.agg #[.slice none 0 0, .slice none 0 0], .int .i64 1, .int .i64 4]) ?_ rfl ⟨_, _, rfl, Drw.nil _, ?_⟩
      · rw [results_cell_tmp2 rfl]
        go_simp
      · exact (HB1.out.setCell (p := ⟨w.heap.size, 0, none⟩) (Nat.le_refl _) _).setCell (p := ⟨w.heap.size, 1, none⟩) (Nat.le_refl _) _
    | cons x r =>
      subst hLc
      have HPC := Lib.hid (HPR.out.symm.trans (parseP_cons HE.out HLL.out))
      obtain ⟨bA, oA, rfl, hcA⟩ := HA1.out (by simp)
      have c0 := hcA 0 x rfl
      rw [Nat.add_zero] at c0
      have HCA : Hid (∀ (i : Nat) (y : ByteArray), r[i]? = some y → w1.cell? ⟨bA, oA + (i + 1), none⟩ = some (.string y)) := Lib.hid (fun i y h => hcA (i + 1) y h)
      obtain ⟨n, hn⟩ : ∃ n, r.length = n := ⟨_, rfl⟩
      have hn1 : (x :: r).length = n + 1 := by simp [hn]
      have hnl : n ≤ 400000000 := by rw [hn1] at hll; omega
      have HLR : Hid (∀ y ∈ r, y.size ≤ 400000000) := Lib.hid (fun y hy => HLB.out y (by simp [hy]))
      rw [hn1] at hc1 ⊢
      have HN := Lib.hid hn
      clear hcA HA1 hn hn1 hll HLB hAn
      have hn0 : ((n : Int) + 1 == 0) = false := by simp; omega
      have HBD := Lib.hid (bytes_drawing (s := x))
      obtain ⟨qd, hqd⟩ : ∃ qd, (x.toList == [100, 114, 97, 119, 105, 110, 103]) = qd := ⟨_, rfl⟩
      have hqd2 : (x.toList != [100, 114, 97, 119, 105, 110, 103]) = !qd := by rw [bne, hqd]
      have HQD : Hid (decide (x = bDrawing) = qd) := Lib.hid (by rw [← HBD.out]; exact hqd)
      cases qd with
      | false =>
        have hPR := HPC.out
        rw [if_neg (by have := HQD.out; simpa using this)] at hPR
        cases hPR
        go_wp2_with fail
        refine bodyPost_ret (v := .tuple #[.agg #[.slice none 0 0, .slice none 0 0], .int .i64 1, .int .i64 4]) ?_ rfl ⟨_, _, rfl, Drw.nil _, ?_⟩
        · rw [results_cell_tmp2 rfl]
          go_simp
        · exact (HB1.out.setCell (p := ⟨w.heap.size, 0, none⟩) (Nat.le_refl _) _).setCell (p := ⟨w.heap.size, 1, none⟩) (Nat.le_refl _) _
      | true =>
        have HGO := Lib.hid HPC.out
        rw [if_pos (by have := HQD.out; simpa using this)] at HGO
        clear HPC p0 p1 r0 r1 n0 n1
        go_wp2_with fail
        clear hqd hqd2 c0
        go_loopw [7, 9] (fun _ qi wr => ∃ (i j : Nat) (B R : Value) (M : List Mt) (D : Dr), i ≤ n ∧ j ≤ i + 1 ∧ i + 1 ≤ j ∧ qi = .int .i64 j ∧ wr.heap[w1.heap.size]? = some (.cells #[B, R] 45) ∧ DrR wr (w1.heap.size + 1) B R M D ∧ manyD D = false ∧ Hid ((DD, ln, er) = goP D i (r.drop i)) ∧ Below w1.heap.size w1 wr) (fun _ q _ => n + 1 - (intOf q).toNat)
        case atStart =>
          exact ⟨0, 1, .slice none 0 0, .slice none 0 0, [], ([], []), by omega, by omega, by omega, rfl, heap_at rfl, DrR.nil _ _, manyD_nil, HGO, (Below.refl _ _).alloc (Nat.le_refl _) _⟩
        case round =>
          obtain ⟨i, j, B, R, M, D, hi, hj1, hj2, rfl, hDc, hD, hmD, HG, Bw⟩ := hrel
          have HDc := Lib.hid hDc
          have HD := Lib.hid hD
          have HBw := Lib.hid Bw
          have HBW := Lib.hid (below_then HB1.out (by omega) Bw)
          have hGr := block_later Bw HG1.out
          have hNr := block_later Bw HN1.out
          have HGr := Lib.hid hGr
          have HNr := Lib.hid hNr
          obtain ⟨wo, rfl⟩ : ∃ q : World, q = wr := ⟨_, rfl⟩
          obtain ⟨AB, cB, rfl, -⟩ := own_shape hD.bx
          obtain ⟨AR, cR, rfl, -⟩ := own_shape hD.rt
          by_cases hil : i < n
          · have hilr : i < r.length := by rw [HN.out]; exact hil
            have HCY : Hid (w1.cell? ⟨bA, oA + j, none⟩ = some (.string r[i])) := Lib.hid (by
              rw [show j = i + 1 by omega]
              exact HCA.out i _ (List.getElem?_eq_getElem hilr))
            have cy := cell_later Bw HCY.out
            have hdrop := List.drop_eq_getElem_cons hilr
            rw [hdrop] at HG
            have hrn : r.drop (i + 1) = [] ↔ i + 1 = n := by rw [List.drop_eq_nil_iff, HN.out]; omega
            have HRN := Lib.hid hrn
            have hys := HLR.out r[i] (List.getElem_mem hilr)
            have hdi : decide ((j : Int) < (n : Int) + 1) = true := by simp only [decide_eq_true_eq]; omega
            have j1 : (0 : Int) ≤ (j : Int) := by omega
            have j2 : (j : Int) < (n : Int) + 1 := by omega
            generalize r[i] = y at *
            clear hdrop hrn
            have HBE := Lib.hid (bytes_end (s := y))
            obtain ⟨qe, hqe⟩ : ∃ qe, (y.toList == [101, 110, 100]) = qe := ⟨_, rfl⟩
            have HQE : Hid (decide (y = bEnd) = qe) := Lib.hid (by rw [← HBE.out]; exact hqe)
            cases qe with
            | true =>
              have hye : y = bEnd := by have := HQE.out; simpa using this
              have hg := HG.out
              rw [hye, goP_end] at hg
              clear hye
              have p0 := (Cl.of_block hGr (j := 0) rfl).cell
              have p1 := (Cl.of_block hGr (j := 1) rfl).cell
              have r0 := (Cl.of_block hGr (j := 0) rfl).free
              have r1 := (Cl.of_block hGr (j := 1) rfl).free
              by_cases hin : i + 1 = n
              · rw [if_pos (HRN.out.2 hin)] at hg
                cases hg
                have h21 : decide ((j : Int) + 1 < (n : Int) + 1) = false := by simp only [decide_eq_false_iff_not]; omega
                have d0 := (Cl.of_block HDc.out (j := 0) rfl).cell
                have d1 := (Cl.of_block HDc.out (j := 1) rfl).cell
                clear hGr hNr hD hDc Bw
                go_wp2_with fail
                refine bodyPost_ret (v := .tuple #[.agg #[.slice AB DD.1.length cB, .slice AR DD.2.length cR], .int .i64 0, .int .i64 0]) ?_ rfl ⟨_, _, rfl, ((HD.out.set HGr.out).set (set_zero HGr.out)).drw, ?_⟩
                · rw [results_cell_tmp2 rfl]
                  go_simp
                · exact (HBW.out.setCell (p := ⟨w.heap.size, 0, none⟩) (Nat.le_refl _) _).setCell (p := ⟨w.heap.size, 1, none⟩) (Nat.le_refl _) _
              · rw [if_neg (fun h => hin (HRN.out.1 h))] at hg
                cases hg
                have h21 : decide ((j : Int) + 1 < (n : Int) + 1) = true := by simp only [decide_eq_true_eq]; omega
                have m0 := (Cl.of_block hNr (j := 0) rfl).cell
                have m1 := (Cl.of_block hNr (j := 1) rfl).cell
                clear hGr hNr hD hDc Bw
                go_wp2_with fail
                refine bodyPost_ret (v := .tuple #[.agg #[.slice none 0 0, .slice none 0 0], .int .i64 ((j : Int) + 2), .int .i64 4]) ?_ rfl ⟨_, _, by rw [show (j : Int) + 2 = (i : Int) + 3 by omega], Drw.nil _, ?_⟩
                · rw [results_cell_tmp2 rfl]
                  go_simp
                · exact (HBW.out.setCell (p := ⟨w.heap.size, 0, none⟩) (Nat.le_refl _) _).setCell (p := ⟨w.heap.size, 1, none⟩) (Nat.le_refl _) _
            | false =>
              have hye : y ≠ bEnd := by have := HQE.out; simpa using this
              rw [goP_one hye] at HG
              have d0 := (Cl.of_block HDc.out (j := 0) rfl).cell
              have d1 := (Cl.of_block HDc.out (j := 1) rfl).cell
              have hbs : w1.heap.size + 1 ≤ wo.heap.size := (Array.getElem?_eq_some_iff.1 hDc).1
              have HS0 : Hid (T3 w1.heap.size bA (oA + j) (.slice AB D.1.length cB) (.slice AR D.2.length cR) y wo.drew) := Lib.hid ⟨d0, d1, cy⟩
              have HONE := Lib.hid (one_any (w := wo.drew) (HD.out.later (Below.refl _ _).drew) hmD y hys hbs)
              have HMO : Hid ((oneP D y).1 = 0 → manyD (oneP D y).2 = false) := Lib.hid (fun h => oneP_many h)
              obtain ⟨oo, hoo⟩ : ∃ oo, oneP D y = oo := ⟨_, rfl⟩
              obtain ⟨Ea, Da⟩ := oo
              rw [hoo] at HG HONE HMO
              clear hye hoo d0 d1 hGr hNr hD hDc Bw
              go_wp2_with fail
              clear cy
              refine wp_region_headsV [(0, true), (1, false), (2, false), (3, false), (4, true)] [9] (fun _ => True) (T3 w1.heap.size bA (oA + j) (.slice AB D.1.length cB) (.slice AR D.2.length cR) y) (by kernel_rfl) (by kernel_rfl) trivial HS0.out ?_
              iterate 5 (first | (refine wpHv_skip rfl (by rfl) ?_) | (refine wpHv_cons (v := ?_) rfl (by rfl) (fun wS hwS => ?_) ?_; rotate_left 1; (focus ((first | (have hwA := And.right hwS rfl) | (have hwA := And.left hwS)); clear hwS; (try dsimp only [T3] at hwA); go_simp; (try with_reducible rfl); (try (trace_state; fail))))); (try simp only [List.getElem_toArray, List.getElem_cons_zero, List.getElem_cons_succ]); (try simp only [Act.put, List.setIfInBounds_toArray, List.set_cons_zero, List.set_cons_succ]))
              refine wpHv_nil ?_
              change wpV _ _ _ _ _ _ _ (5 + 1) _ _ _
              refine wpV_one (k := 5) (by kernel_rfl) rfl (fun K hK => ?_)
              have HKK := Lib.hid hK
              clear hK
              go_simp
              refine HONE.out.mono ?_
              rintro e wa ⟨A1, l1, c1, A2, l2, c2, rfl, hok, Ba⟩
              have hcD := (Ba.block w1.heap.size (by omega)).trans HDc.out
              have HDa := Lib.hid hcD
              have q0 := (Cl.of_block hcD (j := 0) rfl).cell
              have q1 := (Cl.of_block hcD (j := 1) rfl).cell
              have f0 := (Cl.of_block hcD (j := 0) rfl).free
              have f1 := (Cl.of_block hcD (j := 1) rfl).free
              have HOK := Lib.hid hok
              have HBa := Lib.hid (HBw.out.trans (((Below.refl wo.heap.size wo).drew.mono (by omega)).trans (Ba.mono (by omega))))
              have HBV := Lib.hid (HBW.out.trans (((Below.refl wo.heap.size wo).drew.mono (by omega)).trans (Ba.mono (by omega))))
              have HGa := Lib.hid ((Ba.block w.heap.size (by omega)).trans HGr.out)
              have HNa := Lib.hid ((Ba.block (w.heap.size + 1) (by omega)).trans HNr.out)
              have HS5 : Hid (T3 w1.heap.size bA (oA + j) (.slice AB D.1.length cB) (.slice AR D.2.length cR) y wa) := Lib.hid ⟨q0, q1, cell_later HBa.out HCY.out⟩
              clear hok Ba hcD
              refine HKK.out _ _ ⟨trivial, fun _ _ => HS5.out⟩ ?_
              clear HKK K
              change wpV _ _ _ _ _ _ _ (3 + 2) _ _ _
              refine wpV_heads trivial HS5.out (by kernel_rfl) (fun _ _ _ _ _ h => h) [(6, false), (7, false), (8, false)] _ _ _ (by kernel_rfl) ?_
              iterate 3 (first | (refine wpHv_skip rfl (by rfl) ?_) | (refine wpHv_cons (v := ?_) rfl (by rfl) (fun wS hwS => ?_) ?_; rotate_left 1; (focus ((first | (have hwA := And.right hwS rfl) | (have hwA := And.left hwS)); clear hwS; (try dsimp only [T3] at hwA); go_simp; (try with_reducible rfl); (try (trace_state; fail))))); (try simp only [List.getElem_toArray, List.getElem_cons_zero, List.getElem_cons_succ]); (try simp only [Act.put, List.setIfInBounds_toArray, List.set_cons_zero, List.set_cons_succ]))
              refine wpHv_nil ?_
              change wpV _ _ _ _ _ _ _ (1 + 1) _ _ _
              refine wpV_one (k := 9) (by kernel_rfl) rfl (fun K hK => ?_)
              have HKK := Lib.hid hK
              clear hK
              go_simp
              go_simp
              refine HKK.out _ _ ⟨trivial, fun hn => absurd (by decide) hn⟩ ?_
              clear HKK K
              change wpV _ _ _ _ _ _ _ (0 + 1) _ _ _
              refine wpV_one (k := 10) (by kernel_rfl) rfl (fun K hK => ?_)
              have HKK := Lib.hid hK
              clear hK
              go_simp
              refine HKK.out _ _ ⟨trivial, fun _ h => h⟩ ?_
              clear HKK K
              refine wpV_done (by kernel_rfl) (NoPanic.normal ?_)
              obtain ⟨wb, hwb⟩ : ∃ q, q = (wa.setCell ⟨w1.heap.size, 0, none⟩ (.slice A1 l1 c1)).setCell ⟨w1.heap.size, 1, none⟩ (.slice A2 l2 c2) := ⟨_, rfl⟩
              rw [← hwb]
              have HDb : Hid (wb.heap[w1.heap.size]? = some (.cells #[.slice A1 l1 c1, .slice A2 l2 c2] 45)) := Lib.hid (by rw [hwb]; exact set_one (set_zero HDa.out))
              have HDR : Hid (Ea = 0 → ∃ M', DrR wb (w1.heap.size + 1) (.slice A1 l1 c1) (.slice A2 l2 c2) M' Da) := Lib.hid (fun h => by
                obtain ⟨M', hM⟩ := HOK.out h
                exact ⟨M', by rw [hwb]; exact (hM.set HDa.out).set (set_zero HDa.out)⟩)
              have HBb : Hid (Below w1.heap.size w1 wb) := Lib.hid (by rw [hwb]; exact (HBa.out.setCell (p := ⟨w1.heap.size, 0, none⟩) (Nat.le_refl _) _).setCell (p := ⟨w1.heap.size, 1, none⟩) (Nat.le_refl _) _)
              have HBX := Lib.hid (below_then HB1.out (by omega) HBb.out)
              have hGb := block_later HBb.out HG1.out
              have hNb := block_later HBb.out HN1.out
              clear hwb q0 q1 f0 f1
              by_cases hEa : Ea = 0
              · obtain ⟨M', hM⟩ := HDR.out hEa
                have HM' := Lib.hid hM
                have hg := HG.out
                rw [if_pos (by simpa using hEa)] at hg
                have HGG := Lib.hid hg
                have hna : (Ea != 0) = false := by simpa using hEa
                clear hGb hNb hM hg
                go_wp2_with fail
                go_roundw
                case rel => exact ⟨i + 1, j + 1, _, _, M', Da, by omega, by omega, by omega, by go_num, HDb.out, HM'.out, HMO.out hEa, HGG.out, HBb.out⟩
                case measure => simp [intOf]; omega
              · have hna : (Ea != 0) = true := by simpa using hEa
                have hg := HG.out
                rw [if_neg (by simpa using hEa)] at hg
                cases hg
                have p0 := (Cl.of_block hGb (j := 0) rfl).cell
                have p1 := (Cl.of_block hGb (j := 1) rfl).cell
                have r0 := (Cl.of_block hGb (j := 0) rfl).free
                have r1 := (Cl.of_block hGb (j := 1) rfl).free
                have m0 := (Cl.of_block hNb (j := 0) rfl).cell
                have m1 := (Cl.of_block hNb (j := 1) rfl).cell
                clear hGb hNb
                go_wp2_with fail
                refine bodyPost_ret (v := .tuple #[.agg #[.slice none 0 0, .slice none 0 0], .int .i64 ((j : Int) + 1), .int .i64 er]) ?_ rfl ⟨_, _, by rw [show (j : Int) + 1 = (i : Int) + 2 by omega], Drw.nil _, ?_⟩
                · rw [results_cell_tmp2 rfl]
                  go_simp
                · exact (HBX.out.setCell (p := ⟨w.heap.size, 0, none⟩) (Nat.le_refl _) _).setCell (p := ⟨w.heap.size, 1, none⟩) (Nat.le_refl _) _
          · have hin : i = n := by omega
            subst hin
            have hdi : decide ((j : Int) < (i : Int) + 1) = false := by simp only [decide_eq_false_iff_not]; omega
            have hg := HG.out
            have hdr : r.drop i = [] := by rw [List.drop_eq_nil_iff, HN.out]; exact Nat.le_refl _
            rw [hdr] at hg
            cases hg
            have p0 := (Cl.of_block hGr (j := 0) rfl).cell
            have p1 := (Cl.of_block hGr (j := 1) rfl).cell
            have r0 := (Cl.of_block hGr (j := 0) rfl).free
            have r1 := (Cl.of_block hGr (j := 1) rfl).free
            have m0 := (Cl.of_block hNr (j := 0) rfl).cell
            have m1 := (Cl.of_block hNr (j := 1) rfl).cell
            clear hGr hNr hD hDc Bw
            go_wp2_with fail
            refine bodyPost_ret (v := .tuple #[.agg #[.slice none 0 0, .slice none 0 0], .int .i64 ((i : Int) + 2), .int .i64 4]) ?_ rfl ⟨_, _, rfl, Drw.nil _, ?_⟩
            · rw [results_cell_tmp2 rfl]
              go_simp
              rw [show (i : Int) + 1 + 1 = (i : Int) + 2 by omega]
            · exact (HBW.out.setCell (p := ⟨w.heap.size, 0, none⟩) (Nat.le_refl _) _).setCell (p := ⟨w.heap.size, 1, none⟩) (Nat.le_refl _) _
  · have hne : (E != 0) = true := by simpa using hE0
    have hPR := HPR.out.symm.trans (parseP_bad (by rw [HE.out]; exact hE0))
    rw [HE.out] at hPR
    cases hPR
    go_wp2_with fail
    refine bodyPost_ret (v := .tuple #[.agg #[.slice none 0 0, .slice none 0 0], .int .i64 0, .int .i64 er]) ?_ rfl ⟨_, _, rfl, Drw.nil _, ?_⟩
    · rw [results_cell_tmp2 rfl]
      go_simp
    · exact (HB1.out.setCell (p := ⟨w.heap.size, 0, none⟩) (Nat.le_refl _) _).setCell (p := ⟨w.heap.size, 1, none⟩) (Nat.le_refl _) _
end Go.Proofs.YtkpgjgmlhcipeaaDoor
