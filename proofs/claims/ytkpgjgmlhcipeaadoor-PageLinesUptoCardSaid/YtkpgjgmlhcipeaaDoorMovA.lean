/- muntinlaw28.moved: a drawing with all its numbers moved. -/
import Derived.Test.YtkpgjgmlhcipeaaDoorMovP
namespace Go.Proofs.YtkpgjgmlhcipeaaDoor
open Go.RowKit
def M1 (g : Nat) (V : Value) (w : World) : Prop := w.cell? ⟨g, 0, none⟩ = some V
theorem M1.later {g : Nat} {V : Value} {w w' : World} (h : M1 g V w) (k : Below w.heap.size w w') : M1 g V w' := cell_later k h
theorem half_step0 (c : Int) (b : Bx) : encB ((b.1.1 + c, b.1.2), b.2) = (encB b).set 0 (.int .i64 (b.1.1 + c)) ∧ encB (halfB c 1 b) = (encB ((b.1.1 + c, b.1.2), b.2)).set 1 (.int .i64 (b.1.2 + c)) := ⟨rfl, rfl⟩
theorem half_step1 (c : Int) (b : Bx) : encB ((b.1.1 + c, b.1.2 + c), (b.2.1 + c, b.2.2)) = (encB (halfB c 1 b)).set 2 (.int .i64 (b.2.1 + c)) ∧ encB (halfB c 2 b) = (encB ((b.1.1 + c, b.1.2 + c), (b.2.1 + c, b.2.2))).set 3 (.int .i64 (b.2.2 + c)) := ⟨rfl, rfl⟩
set_option maxRecDepth 100000 in
set_option maxHeartbeats 2000000 in
theorem moved_any {w : World} {base : Nat} {B R : Value} {M : List Mt} {D : Dr} (h : DrR w base B R M D) (hap : Apart M) (by_ c : Int) (hc : max (-2000000) (min 2000000 by_) = c) (hS : S16D D) (hb : D.1.length ≤ 1000) (hr : D.2.length ≤ 1000) (hp : ∀ r ∈ D.2, r.2.length ≤ 1000) (hbase : base ≤ w.heap.size) :
    Calls Tryd.prog 31 #[.agg #[B, R], .int .i64 by_] w fun e w' => e = .returned (.agg #[B, R]) ∧ (∃ M', DrR w' base B R M' (movD c D)) ∧ Below base w w' := by
  obtain ⟨AB, cB, rfl, hcB⟩ := own_shape h.bx
  obtain ⟨AR, cR, rfl, hcR⟩ := own_shape h.rt
  obtain ⟨d, hd⟩ : ∃ d, min (2000000 : Int) by_ = d := ⟨_, rfl⟩
  rw [hd] at hc
  have hc1 : -2000000 ≤ c ∧ c ≤ 2000000 := by omega
  obtain ⟨hc1, hc2⟩ := hc1
  have HAP := Lib.hid hap
  have HD := Lib.hid h
  have HS := Lib.hid hS
  have HP := Lib.hid hp
  obtain ⟨nb, hnb⟩ : ∃ n, D.1.length = n := ⟨_, rfl⟩
  obtain ⟨nr, hnr⟩ : ∃ n, D.2.length = n := ⟨_, rfl⟩
  rw [hnb] at hb hcB HD ⊢
  rw [hnr] at hr hcR HD ⊢
  have HNB := Lib.hid hnb
  have HNR := Lib.hid hnr
  clear h hap hnb hnr hS hp
  go_enter Tryd.func31, Tryd.ntmps31
  obtain ⟨w1, hw1⟩ : ∃ q, q = ((w.alloc (.cells #[.slice AB nb cB, .slice AR nr cR] 45)).alloc (.cells #[.slice none 0 0, .slice none 0 0] 45)) := ⟨_, rfl⟩
  have HB0 : Hid (Below w.heap.size w w1) := Lib.hid (by rw [hw1]; exact ((Below.refl _ _).alloc (Nat.le_refl _) _).alloc (by simp) _)
  have HG0 : Hid (w1.heap[w.heap.size]? = some (.cells #[.slice AB nb cB, .slice AR nr cR] 45)) := Lib.hid (by rw [hw1]; exact (((Below.refl _ _).alloc (Nat.le_refl _) _).block _ (by simp)).trans (heap_at rfl))
  have HG1 : Hid (w1.heap[w.heap.size + 1]? = some (.cells #[.slice none 0 0, .slice none 0 0] 45)) := Lib.hid (by rw [hw1]; exact heap_at (by simp))
  have HD1 : Hid (DrR w1 base (.slice AB nb cB) (.slice AR nr cR) M (mixL (movBx c) 0 D.1, D.2)) := Lib.hid (by rw [mix_zero]; exact HD.out.later HB0.out)
  have HBB : Hid (Below base w w1) := Lib.hid (HB0.out.mono hbase)
  have HW1 := Lib.hid hw1
  clear hw1 HD
  go_upto_region 2 with fail
  rw [← HW1.out]
  have d0 := (Cl.of_block HG0.out (j := 0) rfl).cell
  clear HW1
  go_wp2_with fail
  clear d0 hd hc
  go_loopw [16] (fun qi wr => ∃ i : Nat, i ≤ nb ∧ qi = .int .i64 i ∧ wr.heap[w.heap.size]? = some (.cells #[.slice AB nb cB, .slice AR nr cR] 45) ∧ wr.heap[w.heap.size + 1]? = some (.cells #[.slice none 0 0, .slice none 0 0] 45) ∧ DrR wr base (.slice AB nb cB) (.slice AR nr cR) M (mixL (movBx c) i D.1, D.2) ∧ Below base w wr) (fun qi _ => nb - (intOf qi).toNat)
  case atStart => exact ⟨0, by omega, rfl, HG0.out, HG1.out, HD1.out, HBB.out⟩
  case round =>
    clear HG0 HG1 HD1 HBB HB0
    obtain ⟨i, hi, rfl, hg0, hg1, hdr, Br⟩ := hrel
    obtain ⟨wo, rfl⟩ : ∃ q : World, q = wr := ⟨_, rfl⟩
    have HG0 := Lib.hid hg0
    have HG1 := Lib.hid hg1
    have HDR := Lib.hid hdr
    have HBr := Lib.hid Br
    have hsz : w.heap.size + 2 ≤ wo.heap.size := (Array.getElem?_eq_some_iff.1 hg1).1
    clear hg0 hg1 hdr Br
    have hml : Hid ((mixL (movBx c) i D.1).length = nb) := Lib.hid (by rw [mix_len]; exact HNB.out)
    by_cases hin : i < nb
    · have hd1 : decide ((i : Int) < (nb : Int)) = true := by simp only [decide_eq_true_eq]; omega
      have hlt : i < D.1.length := by rw [HNB.out]; exact hin
      have HX := Lib.hid (List.getElem?_eq_getElem hlt)
      have HSX := Lib.hid (HS.out.1 _ (List.getElem_mem hlt))
      generalize D.1[i]'hlt = b at *
      clear hlt
      obtain ⟨gB, rfl, hgB, curB, hcurB⟩ := HDR.out.bxF hml.out (by omega)
      have HCB := Lib.hid hcurB
      clear hcurB
      have hi0 : (0 : Int) ≤ (i : Int) := by omega
      have hi1 : (i : Int) < (nb : Int) := by omega
      have hHS0 : Hid (M1 w.heap.size (.slice (some ⟨gB, 0, none⟩) nb cB) wo.drew) := Lib.hid (Cl.of_block HG0.out (j := 0) rfl).cell
      go_upto_region 5 with fail
      refine wp_region_headsV [(0, true), (1, true), (2, true), (3, true), (4, true), (5, true), (6, true), (7, true), (8, true), (9, true), (12, true)] [] (M1 w.heap.size (.slice (some ⟨gB, 0, none⟩) nb cB)) (fun _ => True) (by kernel_rfl) (by kernel_rfl) hHS0.out trivial ?_
      iterate 11 (first | (refine wpHv_skip rfl (by rfl) ?_) | (refine wpHv_cons (v := ?_) rfl (by rfl) (fun wS hwS => ?_) ?_; rotate_left 1; (focus (have hwA := And.left hwS; clear hwS; (try dsimp only [M1] at hwA); go_simp; (try with_reducible rfl); (try (trace_state; fail))))); (try simp only [List.getElem_toArray, List.getElem_cons_zero, List.getElem_cons_succ]); (try simp only [Act.put, List.setIfInBounds_toArray, List.set_cons_zero, List.set_cons_succ]))
      refine wpHv_nil ?_
      change wpV _ _ _ _ _ _ _ (1 + 1) _ _ _
      refine wpV_one (k := 10) (by kernel_rfl) rfl (fun K hK => ?_)
      have HKK := Lib.hid hK
      clear hK
      go_simp
      obtain ⟨wp, hwp⟩ : ∃ q, q = (wo.alloc (.cells #[.pointer (some ⟨gB, i * 4, none⟩), .pointer (some ⟨gB, i * 4 + 2, none⟩)] 110)).drew := ⟨_, rfl⟩
      rw [← hwp]
      have Bp : Below wo.heap.size wo wp := by rw [hwp]; exact ((Below.refl _ _).alloc (Nat.le_refl _) _).drew
      have HGp : Hid (wp.heap[wo.heap.size]? = some (.cells #[.pointer (some ⟨gB, i * 4, none⟩), .pointer (some ⟨gB, i * 4 + 2, none⟩)] 110)) := Lib.hid (by rw [hwp]; exact heap_at rfl)
      have HSp : Hid (M1 w.heap.size (.slice (some ⟨gB, 0, none⟩) nb cB) wp) := Lib.hid (M1.later (w := wo) hHS0.out Bp)
      have HP0 := Lib.hid (block_later Bp HG0.out)
      have HP1 := Lib.hid (block_later Bp HG1.out)
      have HPC := Lib.hid (block_later Bp HCB.out)
      have HPD : Hid (DrR wp base (.slice (some ⟨gB, 0, none⟩) nb cB) (.slice AR nr cR) M ((mixL (movBx c) i D.1).set i (halfB c 0 b), D.2)) := Lib.hid (by
        have e : (mixL (movBx c) i D.1).set i (halfB c 0 b) = mixL (movBx c) i D.1 := set_self (mix_get HX.out)
        rw [e]
        exact HDR.out.later Bp)
      have HPB : Hid (Below base w wp) := Lib.hid (HBr.out.trans (Bp.mono (by omega)))
      have hsp := Bp.size
      clear hwp Bp
      refine HKK.out _ _ ⟨HSp.out, fun _ h => h⟩ ?_
      clear HKK K
      change wpV _ _ _ _ _ _ _ (1 + 0) _ _ _
      refine wpV_heads HSp.out trivial (by kernel_rfl) (fun _ _ _ _ _ h => h) [(11, true)] _ _ _ (by kernel_rfl) ?_
      iterate 1 (first | (refine wpHv_skip rfl (by rfl) ?_) | (refine wpHv_cons (v := ?_) rfl (by rfl) (fun wS hwS => ?_) ?_; rotate_left 1; (focus (have hwA := And.left hwS; clear hwS; (try dsimp only [M1] at hwA); go_simp; (try with_reducible rfl); (try (trace_state; fail))))); (try simp only [List.getElem_toArray, List.getElem_cons_zero, List.getElem_cons_succ]); (try simp only [Act.put, List.setIfInBounds_toArray, List.set_cons_zero, List.set_cons_succ]))
      refine wpHv_nil ?_
      refine wpV_done (by kernel_rfl) (NoPanic.normal ?_)
      have hne : Hid (gB ≠ w.heap.size ∧ gB ≠ w.heap.size + 1 ∧ gB ≠ wo.heap.size) := Lib.hid ⟨ne_of_typ HPC.out HP0.out (by decide), ne_of_typ HPC.out HP1.out (by decide), ne_of_typ HPC.out HGp.out (by decide)⟩
      clear HG0 HG1 HDR HBr hHS0 HCB HSp
      go_wp2_with fail
      go_loopw [31] (fun qj wr => ∃ j : Nat, j ≤ 2 ∧ qj = .int .i64 j ∧ wr.heap[w.heap.size]? = some (.cells #[.slice (some ⟨gB, 0, none⟩) nb cB, .slice AR nr cR] 45) ∧ wr.heap[w.heap.size + 1]? = some (.cells #[.slice none 0 0, .slice none 0 0] 45) ∧ wr.heap[wo.heap.size]? = some (.cells #[.pointer (some ⟨gB, i * 4, none⟩), .pointer (some ⟨gB, i * 4 + 2, none⟩)] 110) ∧ DrR wr base (.slice (some ⟨gB, 0, none⟩) nb cB) (.slice AR nr cR) M ((mixL (movBx c) i D.1).set i (halfB c j b), D.2) ∧ Below base w wr) (fun qj _ => 2 - (intOf qj).toNat)
      case atStart => exact ⟨0, by omega, rfl, HP0.out, HP1.out, HGp.out, HPD.out, HPB.out⟩
      case round =>
        clear HP0 HP1 HGp HPD HPB HPC
        obtain ⟨j, hj, rfl, hg0, hg1, hgp, hdr, Bj⟩ := hrel
        obtain ⟨wv, rfl⟩ : ∃ q : World, q = wr := ⟨_, rfl⟩
        have HG0 := Lib.hid hg0
        have HG1 := Lib.hid hg1
        have HGp := Lib.hid hgp
        have HDR := Lib.hid hdr
        have HBj := Lib.hid Bj
        clear hg0 hg1 hgp hdr Bj
        have hlen : Hid (((mixL (movBx c) i D.1).set i (halfB c j b)).length = nb) := Lib.hid (by rw [List.length_set]; exact hml.out)
        have hil : i < (mixL (movBx c) i D.1).length := by rw [hml.out]; exact hin
        have HAT : Hid (((mixL (movBx c) i D.1).set i (halfB c j b))[i]? = some (halfB c j b)) := Lib.hid (List.getElem?_set_self hil)
        obtain ⟨⟨x, y⟩, ⟨u, v⟩⟩ := b
        have HSS := HSX.out
        simp only [S16] at HSS
        obtain ⟨⟨b1, b2⟩, ⟨b3, b4⟩, ⟨b5, b6⟩, ⟨b7, b8⟩⟩ := HSS
        by_cases h0 : j = 0
        · subst h0
          have q0 := (Cl.of_block HGp.out (j := 0) rfl).cell
          have x0 := HDR.out.clB hlen.out HAT.out 0 (v := .int .i64 x) (by omega) rfl
          have hd2 := HDR.out.putB (v := .int .i64 (x + c)) hlen.out i HAT.out (r := 0) (b := ((x + c, y), (u, v))) (by omega) rfl
          rw [Nat.add_zero] at x0 hd2
          rw [List.set_set] at hd2
          have HD2 := Lib.hid hd2
          have hlen2 : Hid (((mixL (movBx c) i D.1).set i ((x + c, y), (u, v))).length = nb) := Lib.hid (by rw [List.length_set]; exact hml.out)
          have HAT2 : Hid (((mixL (movBx c) i D.1).set i ((x + c, y), (u, v)))[i]? = some ((x + c, y), (u, v))) := Lib.hid (List.getElem?_set_self hil)
          have x1 := HD2.out.clB hlen2.out HAT2.out 1 (v := .int .i64 y) (by omega) rfl
          have hd3 := HD2.out.putB (v := .int .i64 (y + c)) hlen2.out i HAT2.out (r := 1) (b := halfB c 1 ((x, y), (u, v))) (by omega) rfl
          rw [List.set_set] at hd3
          have HD3 := Lib.hid hd3
          have x0c := x0.cell
          have x0f := x0.free
          have x1c := x1.cell
          have x1f := x1.free
          have HE0 := Lib.hid (set_other (o := i * 4 + 1) (v := .int .i64 (y + c)) (set_other (o := i * 4) (v := .int .i64 (x + c)) HG0.out hne.out.1.symm) hne.out.1.symm)
          have HE1 := Lib.hid (set_other (o := i * 4 + 1) (v := .int .i64 (y + c)) (set_other (o := i * 4) (v := .int .i64 (x + c)) HG1.out hne.out.2.1.symm) hne.out.2.1.symm)
          have HEp := Lib.hid (set_other (o := i * 4 + 1) (v := .int .i64 (y + c)) (set_other (o := i * 4) (v := .int .i64 (x + c)) HGp.out hne.out.2.2.symm) hne.out.2.2.symm)
          have HBE := Lib.hid ((HBj.out.setCell (p := ⟨gB, i * 4, none⟩) hgB (.int .i64 (x + c))).setCell (p := ⟨gB, i * 4 + 1, none⟩) hgB (.int .i64 (y + c)))
          clear x0 x1 hd2 hd3
          go_wp2_with fail
          go_roundw
          case rel => exact ⟨1, by omega, by go_num, HE0.out, HE1.out, HEp.out, HD3.out, HBE.out⟩
          case measure => simp [intOf]
        · by_cases h1 : j = 1
          · subst h1
            have q0 := (Cl.of_block HGp.out (j := 1) rfl).cell
            have x0 := HDR.out.clB hlen.out HAT.out 2 (v := .int .i64 u) (by omega) rfl
            have hd2 := HDR.out.putB (v := .int .i64 (u + c)) hlen.out i HAT.out (r := 2) (b := ((x + c, y + c), (u + c, v))) (by omega) rfl
            rw [List.set_set] at hd2
            have HD2 := Lib.hid hd2
            have hlen2 : Hid (((mixL (movBx c) i D.1).set i ((x + c, y + c), (u + c, v))).length = nb) := Lib.hid (by rw [List.length_set]; exact hml.out)
            have HAT2 : Hid (((mixL (movBx c) i D.1).set i ((x + c, y + c), (u + c, v)))[i]? = some ((x + c, y + c), (u + c, v))) := Lib.hid (List.getElem?_set_self hil)
            have x1 := HD2.out.clB hlen2.out HAT2.out 3 (v := .int .i64 v) (by omega) rfl
            have hd3 := HD2.out.putB (v := .int .i64 (v + c)) hlen2.out i HAT2.out (r := 3) (b := halfB c 2 ((x, y), (u, v))) (by omega) rfl
            rw [List.set_set] at hd3
            have HD3 := Lib.hid hd3
            have x0c := x0.cell
            have x0f := x0.free
            have x1c := x1.cell
            have x1f := x1.free
            have HE0 := Lib.hid (set_other (o := i * 4 + 3) (v := .int .i64 (v + c)) (set_other (o := i * 4 + 2) (v := .int .i64 (u + c)) HG0.out hne.out.1.symm) hne.out.1.symm)
            have HE1 := Lib.hid (set_other (o := i * 4 + 3) (v := .int .i64 (v + c)) (set_other (o := i * 4 + 2) (v := .int .i64 (u + c)) HG1.out hne.out.2.1.symm) hne.out.2.1.symm)
            have HEp := Lib.hid (set_other (o := i * 4 + 3) (v := .int .i64 (v + c)) (set_other (o := i * 4 + 2) (v := .int .i64 (u + c)) HGp.out hne.out.2.2.symm) hne.out.2.2.symm)
            have HBE := Lib.hid ((HBj.out.setCell (p := ⟨gB, i * 4 + 2, none⟩) hgB (.int .i64 (u + c))).setCell (p := ⟨gB, i * 4 + 3, none⟩) hgB (.int .i64 (v + c)))
            clear x0 x1 hd2 hd3 h0
            go_wp2_with fail
            go_roundw
            case rel => exact ⟨2, by omega, by go_num, HE0.out, HE1.out, HEp.out, HD3.out, HBE.out⟩
            case measure => simp [intOf]
          · have h2 : j = 2 := by omega
            subst h2
            have HEND : Hid (DrR wv base (.slice (some ⟨gB, 0, none⟩) nb cB) (.slice AR nr cR) M (mixL (movBx c) (i + 1) D.1, D.2)) := Lib.hid (by
              have h := HDR.out
              have e : (mixL (movBx c) i D.1).set i (halfB c 2 ((x, y), (u, v))) = mixL (movBx c) (i + 1) D.1 := mix_set HX.out
              rw [e] at h
              exact h)
            clear h0 h1
            go_wp2_with fail
            go_roundw
            case rel => exact ⟨i + 1, by omega, by go_num, HG0.out, HG1.out, HEND.out, HBj.out⟩
            case measure => simp [intOf]; omega
    · obtain rfl : i = nb := by omega
      have HDm : Hid (DrR wo base (.slice AB i cB) (.slice AR nr cR) M (D.1.map (movBx c), mixL (movRt c) 0 D.2)) := Lib.hid (by
        have h := HDR.out
        rw [mix_full (by rw [HNB.out]; exact Nat.le_refl _)] at h
        rw [mix_zero]
        exact h)
      have d1 := (Cl.of_block HG0.out (j := 1) rfl).cell
      clear HDR hin
      go_wp2_with fail
      clear d1
      go_loopw [56] (fun qk wr => ∃ (k : Nat) (M' : List Mt), k ≤ nr ∧ qk = .int .i64 k ∧ wr.heap[w.heap.size]? = some (.cells #[.slice AB i cB, .slice AR nr cR] 45) ∧ wr.heap[w.heap.size + 1]? = some (.cells #[.slice none 0 0, .slice none 0 0] 45) ∧ DrR wr base (.slice AB i cB) (.slice AR nr cR) M' (D.1.map (movBx c), mixL (movRt c) k D.2) ∧ Apart M' ∧ Below base w wr) (fun qk _ => nr - (intOf qk).toNat)
      case atStart => exact ⟨0, M, by omega, rfl, HG0.out, HG1.out, HDm.out, HAP.out, HBr.out⟩
      case round =>
        clear HG0 HG1 HDm HAP HBr hsz
        obtain ⟨k, M', hk, rfl, hg0, hg1, hdr, hap, Br⟩ := hrel
        obtain ⟨wo, rfl⟩ : ∃ q : World, q = wr := ⟨_, rfl⟩
        have HG0 := Lib.hid hg0
        have HG1 := Lib.hid hg1
        have HDR := Lib.hid hdr
        have HAP := Lib.hid hap
        have HBr := Lib.hid Br
        have hsz : w.heap.size + 2 ≤ wo.heap.size := (Array.getElem?_eq_some_iff.1 hg1).1
        clear hg0 hg1 hdr hap Br
        have hmr : Hid ((mixL (movRt c) k D.2).length = nr) := Lib.hid (by rw [mix_len]; exact HNR.out)
        by_cases hkn : k < nr
        · have hd1 : decide ((k : Int) < (nr : Int)) = true := by simp only [decide_eq_true_eq]; omega
          have hlt : k < D.2.length := by rw [HNR.out]; exact hkn
          have HX := Lib.hid (List.getElem?_eq_getElem hlt)
          have HSX := Lib.hid (HS.out.2 _ (List.getElem_mem hlt))
          have hpl := HP.out _ (List.getElem_mem hlt)
          generalize D.2[k]'hlt = r at *
          clear hlt
          obtain ⟨⟨f0, t0⟩, ps⟩ := r
          have hap1 := HDR.out.pc.1
          have hkm : k < M'.length := by rw [hap1]; show k < (mixL (movRt c) k D.2).length; rw [hmr.out]; exact hkn
          have HXM := Lib.hid (List.getElem?_eq_getElem hkm)
          have HPC := Lib.hid (HDR.out.pc.2 k _ _ HXM.out (mix_get HX.out))
          have hptf := HDR.out.ptF HXM.out (mix_get HX.out)
          generalize M'[k]'hkm = m at *
          clear hap1 hkm
          obtain ⟨fr, tt, mv⟩ := m
          obtain ⟨AP, cP, hmv, hpt⟩ := hptf
          have hm1 := HPC.out.1
          have hm2 := HPC.out.2.1
          simp only at hmv hm1 hm2 hpt hpl
          subst hmv hm1 hm2
          have HPT := Lib.hid hpt
          obtain ⟨gR, rfl, hgR, curR, hcurR⟩ := HDR.out.rtF hmr.out (by omega)
          have HCR := Lib.hid hcurR
          clear hcurR hpt HPC
          have hk0 : (0 : Int) ≤ (k : Int) := by omega
          have hk1 : (k : Int) < (nr : Int) := by omega
          have HSS := HSX.out
          simp only [S16] at HSS
          obtain ⟨⟨b1, b2⟩, ⟨b3, b4⟩, HSP0⟩ := HSS
          have HSP := Lib.hid HSP0
          clear HSP0
          have hkl : k < (mixL (movRt c) k D.2).length := by rw [hmr.out]; exact hkn
          have hkm : k < M'.length := (List.getElem?_eq_some_iff.1 HXM.out).1
          have n0 := ne_of_typ HCR.out HG0.out (by decide)
          have n1 := ne_of_typ HCR.out HG1.out (by decide)
          have q0 := (Cl.of_block HG0.out (j := 1) rfl).cell
          have x0 := HDR.out.clR hmr.out HXM.out 0 (v := .int .i64 fr) (by omega) rfl
          have hd2 := HDR.out.putR (v := .int .i64 (fr + c)) hmr.out k HXM.out (mix_get HX.out) (r := 0) (m' := (fr + c, tt, .slice AP ps.length cP)) (q' := ((fr + c, tt), ps)) (by omega) rfl rfl rfl rfl rfl
          rw [Nat.add_zero] at x0 hd2
          have HD2 := Lib.hid hd2
          have hlr2 : Hid (((mixL (movRt c) k D.2).set k ((fr + c, tt), ps)).length = nr) := Lib.hid (by rw [List.length_set]; exact hmr.out)
          have HXM2 : Hid ((M'.set k (fr + c, tt, .slice AP ps.length cP))[k]? = some (fr + c, tt, .slice AP ps.length cP)) := Lib.hid (List.getElem?_set_self hkm)
          have HXD2 : Hid (((mixL (movRt c) k D.2).set k ((fr + c, tt), ps))[k]? = some ((fr + c, tt), ps)) := Lib.hid (List.getElem?_set_self hkl)
          have x1 := HD2.out.clR hlr2.out HXM2.out 1 (v := .int .i64 tt) (by omega) rfl
          have hd3 := HD2.out.putR (v := .int .i64 (tt + c)) hlr2.out k HXM2.out HXD2.out (r := 1) (m' := (fr + c, tt + c, .slice AP ps.length cP)) (q' := ((fr + c, tt + c), ps)) (by omega) rfl rfl rfl rfl rfl
          rw [List.set_set, List.set_set] at hd3
          have HD3 := Lib.hid hd3
          have HXM3 : Hid ((M'.set k (fr + c, tt + c, .slice AP ps.length cP))[k]? = some (fr + c, tt + c, .slice AP ps.length cP)) := Lib.hid (List.getElem?_set_self hkm)
          have HXD3 : Hid (((mixL (movRt c) k D.2).set k ((fr + c, tt + c), ps))[k]? = some ((fr + c, tt + c), ps)) := Lib.hid (List.getElem?_set_self hkl)
          have hlr3 : Hid (((mixL (movRt c) k D.2).set k ((fr + c, tt + c), ps)).length = nr) := Lib.hid (by rw [List.length_set]; exact hmr.out)
          have x2 := (HD3.out.clR hlr3.out HXM3.out 2 (v := .slice AP ps.length cP) (by omega) rfl).cell
          have x0c := x0.cell
          have x0f := x0.free
          have x1c := x1.cell
          have x1f := x1.free
          have hz1 := set_other (o := k * 3) (v := .int .i64 (fr + c)) HG0.out n0.symm
          have HE0 := Lib.hid (set_other (o := k * 3 + 1) (v := .int .i64 (tt + c)) hz1 n0.symm)
          have HE1 := Lib.hid (set_other (o := k * 3 + 1) (v := .int .i64 (tt + c)) (set_other (o := k * 3) (v := .int .i64 (fr + c)) HG1.out n1.symm) n1.symm)
          have HBE := Lib.hid ((HBr.out.setCell (p := ⟨gR, k * 3, none⟩) hgR (.int .i64 (fr + c))).setCell (p := ⟨gR, k * 3 + 1, none⟩) hgR (.int .i64 (tt + c)))
          have q1 := (Cl.of_block hz1 (j := 1) rfl).cell
          have q2 := (Cl.of_block HE0.out (j := 1) rfl).cell
          have HAP3 : Hid (Apart (M'.set k (fr + c, tt + c, .slice AP ps.length cP))) := Lib.hid (HAP.out.set HXM.out rfl)
          have HNP : Hid (0 < ps.length → ∃ g, AP = some ⟨g, 0, none⟩ ∧ base ≤ g ∧ g ≠ gR ∧ g ≠ w.heap.size ∧ g ≠ w.heap.size + 1) := Lib.hid (fun hl => by
            obtain ⟨g, e, hg, cur, hcur⟩ := HPT.out hl
            exact ⟨g, e, hg, ne_of_typ hcur HCR.out (by decide), ne_of_typ hcur HG0.out (by decide), ne_of_typ hcur HG1.out (by decide)⟩)
          clear x0 x1 hd2 hd3 hz1 HD2 HXM2 HXD2 hlr2 HDR HPT HG0 HG1 HCR HBr HAP
          have HN0 := Lib.hid n0
          have HN1 := Lib.hid n1
          clear n0 n1
          go_wp2_with fail
          clear q0 q1 q2 x0c x0f x1c x1f x2
          have HD3z : Hid (DrR ((wo.setCell ⟨gR, k * 3, none⟩ (.int .i64 (fr + c))).setCell ⟨gR, k * 3 + 1, none⟩ (.int .i64 (tt + c))) base (.slice AB i cB) (.slice (some ⟨gR, 0, none⟩) nr cR) (M'.set k (fr + c, tt + c, .slice AP ps.length cP)) (D.1.map (movBx c), (mixL (movRt c) k D.2).set k ((fr + c, tt + c), mixL (movPt c) 0 ps))) := Lib.hid (by rw [mix_zero]; exact HD3.out)
          go_loopw [86] (fun qj wr => ∃ j : Nat, j ≤ ps.length ∧ qj = .int .i64 j ∧ wr.heap[w.heap.size]? = some (.cells #[.slice AB i cB, .slice (some ⟨gR, 0, none⟩) nr cR] 45) ∧ wr.heap[w.heap.size + 1]? = some (.cells #[.slice none 0 0, .slice none 0 0] 45) ∧ DrR wr base (.slice AB i cB) (.slice (some ⟨gR, 0, none⟩) nr cR) (M'.set k (fr + c, tt + c, .slice AP ps.length cP)) (D.1.map (movBx c), (mixL (movRt c) k D.2).set k ((fr + c, tt + c), mixL (movPt c) j ps)) ∧ Below base w wr) (fun qj _ => ps.length - (intOf qj).toNat)
          case atStart => exact ⟨0, by omega, rfl, HE0.out, HE1.out, HD3z.out, HBE.out⟩
          case round =>
            clear HE0 HE1 HD3z HBE HD3 HXD3 hlr3
            obtain ⟨j, hj, rfl, hg0, hg1, hdr, Bj⟩ := hrel
            obtain ⟨wv, rfl⟩ : ∃ q : World, q = wr := ⟨_, rfl⟩
            have HG0 := Lib.hid hg0
            have HG1 := Lib.hid hg1
            have HDR := Lib.hid hdr
            have HBj := Lib.hid Bj
            clear hg0 hg1 hdr Bj
            have hlr : Hid (((mixL (movRt c) k D.2).set k ((fr + c, tt + c), mixL (movPt c) j ps)).length = nr) := Lib.hid (by rw [List.length_set]; exact hmr.out)
            have HXD : Hid (((mixL (movRt c) k D.2).set k ((fr + c, tt + c), mixL (movPt c) j ps))[k]? = some ((fr + c, tt + c), mixL (movPt c) j ps)) := Lib.hid (List.getElem?_set_self hkl)
            have hpl2 : Hid ((mixL (movPt c) j ps).length = ps.length) := Lib.hid mix_len
            by_cases hjl : j < ps.length
            · have hd2 : decide ((j : Int) < (ps.length : Int)) = true := by simp only [decide_eq_true_eq]; omega
              have HXP := Lib.hid (List.getElem?_eq_getElem hjl)
              have hsp := HSP.out _ (List.getElem_mem hjl)
              generalize ps[j]'hjl = p at *
              obtain ⟨px, py⟩ := p
              simp only at hsp
              obtain ⟨⟨b5, b6⟩, ⟨b7, b8⟩⟩ := hsp
              obtain ⟨gP, rfl, hgP, m0, m1, m2⟩ := HNP.out (by omega)
              have hj0 : (0 : Int) ≤ (j : Int) := by omega
              have hj1 : (j : Int) < (ps.length : Int) := by omega
              have hjm : j < (mixL (movPt c) j ps).length := by rw [hpl2.out]; exact hjl
              have q0 := (Cl.of_block HG0.out (j := 1) rfl).cell
              have r0 := (HDR.out.clR hlr.out HXM3.out 2 (v := .slice (some ⟨gP, 0, none⟩) ps.length cP) (by omega) rfl).cell
              have x0 := HDR.out.clP HXM3.out HXD.out rfl hpl2.out (mix_get HXP.out) 0 (v := .int .i64 px) (by omega) rfl
              have hd2' := HDR.out.putP (v := .int .i64 (px + c)) HAP3.out HXM3.out HXD.out rfl hpl2.out j (mix_get HXP.out) (r := 0) (p' := (px + c, py)) (by omega) rfl
              rw [Nat.add_zero] at x0 hd2'
              rw [List.set_set] at hd2'
              have HD2 := Lib.hid hd2'
              have hlr2 : Hid (((mixL (movRt c) k D.2).set k ((fr + c, tt + c), (mixL (movPt c) j ps).set j (px + c, py))).length = nr) := Lib.hid (by rw [List.length_set]; exact hmr.out)
              have HXD2 : Hid (((mixL (movRt c) k D.2).set k ((fr + c, tt + c), (mixL (movPt c) j ps).set j (px + c, py)))[k]? = some ((fr + c, tt + c), (mixL (movPt c) j ps).set j (px + c, py))) := Lib.hid (List.getElem?_set_self hkl)
              have hpl3 : Hid (((mixL (movPt c) j ps).set j (px + c, py)).length = ps.length) := Lib.hid (by rw [List.length_set]; exact hpl2.out)
              have HXP2 : Hid (((mixL (movPt c) j ps).set j (px + c, py))[j]? = some (px + c, py)) := Lib.hid (List.getElem?_set_self hjm)
              have r1 := (HD2.out.clR hlr2.out HXM3.out 2 (v := .slice (some ⟨gP, 0, none⟩) ps.length cP) (by omega) rfl).cell
              have x1 := HD2.out.clP HXM3.out HXD2.out rfl hpl3.out HXP2.out 1 (v := .int .i64 py) (by omega) rfl
              have hd3 := HD2.out.putP (v := .int .i64 (py + c)) HAP3.out HXM3.out HXD2.out rfl hpl3.out j HXP2.out (r := 1) (p' := (px + c, py + c)) (by omega) rfl
              rw [List.set_set, List.set_set] at hd3
              have HD3 : Hid (DrR ((wv.setCell ⟨gP, j * 2, none⟩ (.int .i64 (px + c))).setCell ⟨gP, j * 2 + 1, none⟩ (.int .i64 (py + c))) base (.slice AB i cB) (.slice (some ⟨gR, 0, none⟩) nr cR) (M'.set k (fr + c, tt + c, .slice (some ⟨gP, 0, none⟩) ps.length cP)) (D.1.map (movBx c), (mixL (movRt c) k D.2).set k ((fr + c, tt + c), mixL (movPt c) (j + 1) ps))) := Lib.hid (by
                rw [← mix_set HXP.out]
                exact hd3)
              have x0c := x0.cell
              have x0f := x0.free
              have x1c := x1.cell
              have x1f := x1.free
              have hz1 := set_other (o := j * 2) (v := .int .i64 (px + c)) HG0.out m1.symm
              have HE0 := Lib.hid (set_other (o := j * 2 + 1) (v := .int .i64 (py + c)) hz1 m1.symm)
              have HE1 := Lib.hid (set_other (o := j * 2 + 1) (v := .int .i64 (py + c)) (set_other (o := j * 2) (v := .int .i64 (px + c)) HG1.out m2.symm) m2.symm)
              have HBE := Lib.hid ((HBj.out.setCell (p := ⟨gP, j * 2, none⟩) hgP (.int .i64 (px + c))).setCell (p := ⟨gP, j * 2 + 1, none⟩) hgP (.int .i64 (py + c)))
              have q1 := (Cl.of_block hz1 (j := 1) rfl).cell
              clear x0 x1 hd2' hd3 hz1 HD2 HXD2 hlr2 hpl3 HXP2 m0 m1 m2
              go_wp2_with fail
              go_roundw
              case rel => exact ⟨j + 1, by omega, by go_num, HE0.out, HE1.out, HD3.out, HBE.out⟩
              case measure => simp [intOf]; omega
            · have hjp : ps.length ≤ j := by omega
              have HEND : Hid (DrR wv base (.slice AB i cB) (.slice (some ⟨gR, 0, none⟩) nr cR) (M'.set k (fr + c, tt + c, .slice AP ps.length cP)) (D.1.map (movBx c), mixL (movRt c) (k + 1) D.2)) := Lib.hid (by
                have h := HDR.out
                rw [mix_full hjp] at h
                rw [← mix_set HX.out]
                exact h)
              have hd2 : decide ((j : Int) < (ps.length : Int)) = false := by simp only [decide_eq_false_iff_not]; omega
              go_wp2_with fail
              go_roundw
              case rel => exact ⟨k + 1, _, by omega, by go_num, HG0.out, HG1.out, HEND.out, HAP3.out, HBj.out⟩
              case measure => simp [intOf]; omega
        · have hkr : nr ≤ k := by omega
          have HFIN : Hid (DrR wo base (.slice AB i cB) (.slice AR nr cR) M' (movD c D)) := Lib.hid (by
            have h := HDR.out
            rw [mix_full (by rw [HNR.out]; exact hkr)] at h
            exact h)
          have hd2 : decide ((k : Int) < (nr : Int)) = false := by simp only [decide_eq_false_iff_not]; omega
          have d0 := (Cl.of_block HG0.out (j := 0) rfl).cell
          have d1 := (Cl.of_block HG0.out (j := 1) rfl).cell
          have p0 := (Cl.of_block HG1.out (j := 0) rfl).cell
          have p1 := (Cl.of_block HG1.out (j := 1) rfl).cell
          have r0 := (Cl.of_block HG1.out (j := 0) rfl).free
          have r1 := (Cl.of_block HG1.out (j := 1) rfl).free
          go_wp2_with fail
          refine bodyPost_ret (v := .agg #[.slice AB i cB, .slice AR nr cR]) ?_ rfl ⟨rfl, ⟨M', (HFIN.out.set HG1.out).set (set_zero HG1.out)⟩, (HBr.out.setCell (p := ⟨w.heap.size + 1, 0, none⟩) (Nat.le_succ_of_le hbase) _).setCell (p := ⟨w.heap.size + 1, 1, none⟩) (Nat.le_succ_of_le hbase) _⟩
          rw [results_one_cell rfl]
          go_simp
end Go.Proofs.YtkpgjgmlhcipeaaDoor
