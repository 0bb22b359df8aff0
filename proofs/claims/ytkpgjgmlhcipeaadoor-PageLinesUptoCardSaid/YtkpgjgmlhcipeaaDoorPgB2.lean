/- page.add: a drawing with a line more: a box or a point. -/
import Derived.Test.YtkpgjgmlhcipeaaDoorPgB
namespace Go.Proofs.YtkpgjgmlhcipeaaDoor
open Go.RowKit
def P4 (b o p : Nat) (x y u v : Int) (w : World) : Prop := w.cell? ⟨b, o, none⟩ = some (.int .i64 x) ∧ w.cell? ⟨b, o + 1, none⟩ = some (.int .i64 y) ∧ w.cell? ⟨b, o + p * 2, none⟩ = some (.int .i64 u) ∧ w.cell? ⟨b, o + p * 2 + 1, none⟩ = some (.int .i64 v)
theorem P4.later {b o p : Nat} {x y u v : Int} {w w' : World} (h : P4 b o p x y u v w) (B : Below w.heap.size w w') : P4 b o p x y u v w' := ⟨cell_later B h.1, cell_later B h.2.1, cell_later B h.2.2.1, cell_later B h.2.2.2⟩
def C5 (b g : Nat) (B : Value) (x y u v : Int) (w : World) : Prop := w.cell? ⟨b, 0, none⟩ = some B ∧ w.cell? ⟨g, 0, none⟩ = some (.int .i64 x) ∧ w.cell? ⟨g, 1, none⟩ = some (.int .i64 y) ∧ w.cell? ⟨g, 2, none⟩ = some (.int .i64 u) ∧ w.cell? ⟨g, 3, none⟩ = some (.int .i64 v)
theorem C5.later {b g : Nat} {B : Value} {x y u v : Int} {w w' : World} (h : C5 b g B x y u v w) (k : Below w.heap.size w w') : C5 b g B x y u v w' := ⟨cell_later k h.1, cell_later k h.2.1, cell_later k h.2.2.1, cell_later k h.2.2.2.1, cell_later k h.2.2.2.2⟩
set_option maxRecDepth 100000 in
set_option maxHeartbeats 4000000 in
theorem addBox_any {w : World} {base b : Nat} {B R N : Value} {M : List Mt} {D : Dr} {wd : ByteArray} {ns : List Int} (hD : DrO w base b B R M D) (hm : manyD D = false) (hN : Ints w N ns) (hwd : wd ≠ bRoute) (p : Nat) (hk : ns.length = 2 * (p + 1)) (hk2 : p ≤ 10) (hbase : base ≤ w.heap.size) :
    Calls Tryd.prog 55 #[.pointer (some ⟨b, 0, none⟩), .agg #[.string wd, N]] w fun e w' => e = .returned (.int .i64 (addP D wd ns).1) ∧ ((addP D wd ns).1 = 0 → ∃ B' R' M', DrO w' base b B' R' M' (addP D wd ns).2) ∧ Below base w w' := by
  obtain ⟨i0, hi, hz0, hz1, hz2⟩ := info_parts info_box
  have hpl : (pairs ns).length = p + 1 := pairs_len (p + 1) ns hk
  obtain ⟨x0, hx0⟩ : ∃ x0, (pairs ns)[0]'(by omega) = x0 := ⟨_, rfl⟩
  obtain ⟨x1, hx1⟩ : ∃ x1, (pairs ns)[p]'(by omega) = x1 := ⟨_, rfl⟩
  obtain ⟨x, y⟩ := x0
  obtain ⟨u, v⟩ := x1
  have hadd : addP D wd ns = if 0 < D.2.length then (15, D) else if wd = bBox ∧ ((x, y) : Pt) = (u, v) then (2, D) else if manyD (D.1 ++ [((x, y), (u, v))], D.2) = true then (6, D) else (0, (D.1 ++ [((x, y), (u, v))], D.2)) := by
    unfold addP
    rw [if_neg hwd, hpl, Nat.add_sub_cancel, List.getElem?_eq_getElem (by omega : 0 < (pairs ns).length), List.getElem?_eq_getElem (by omega : p < (pairs ns).length), hx0, hx1]
    rfl
  obtain ⟨E, hE⟩ : ∃ E, addP D wd ns = E := ⟨_, rfl⟩
  obtain ⟨E, D'⟩ := E
  rw [hE] at hadd ⊢
  have HADD := Lib.hid hadd
  obtain ⟨mb1, mb2, mb3⟩ := manyD_bd hm
  have HPL := Lib.hid hpl
  have HX0 := Lib.hid (show (pairs ns)[0]? = some (x, y) by rw [List.getElem?_eq_getElem (by omega), hx0])
  have HX1 := Lib.hid (show (pairs ns)[p]? = some (u, v) by rw [List.getElem?_eq_getElem (by omega), hx1])
  have HN := Lib.hid hN
  have HK := Lib.hid hk
  obtain ⟨AN, cN, rfl, -, -, -⟩ := hN.at_
  rw [hk] at HN ⊢
  clear hE hadd hpl hx0 hx1 hN hk
  obtain ⟨g, hg⟩ : ∃ g, w.heap.size = g := ⟨_, rfl⟩
  obtain ⟨w1, hw1⟩ : ∃ w1, w.alloc (.cells #[.string wd, .slice AN (2 * (p + 1)) cN] 103) = w1 := ⟨_, rfl⟩
  obtain ⟨B1, e0, e1⟩ := box_two hw1
  rw [hg] at e0 e1
  have HE0 := Lib.hid e0
  have HE1 := Lib.hid e1
  have HD := Lib.hid (hD.later B1)
  have HB1 := Lib.hid B1
  have hs1 : w1.heap.size = g + 1 := by rw [← hw1, ← hg]; simp
  obtain ⟨AR, cR, rfl, hcR⟩ := own_shape hD.rt
  obtain ⟨AB, cB, rfl, hcB⟩ := own_shape hD.bx
  clear hD B1
  have hss : (wd.toList == [114, 111, 117, 116, 101]) = false := by
    have := bytes_route (wd := wd)
    rw [show ByteArray.toList ⟨#[114, 111, 117, 116, 101]⟩ = [114, 111, 117, 116, 101] by rw [ByteArray.toList_eq]] at this
    rw [this]
    simpa using hwd
  go_enter Tryd.func55, Tryd.ntmps55
  go_wp2_with fail
  clear hss hw1
  refine (points_any (HN.out.later HB1.out) (p + 1) HK.out (by omega)).mono ?_
  rintro e w2 ⟨vp, rfl, hpt, B2⟩
  have hPt : Pts w2 vp (pairs ns) := Sl.of_own encP_length (by rw [HPL.out]; exact hpt)
  obtain ⟨Ap, cp, rfl, -, -, hcp⟩ := hPt.at_
  obtain ⟨bp, op, rfl, hcc⟩ := hcp (by rw [HPL.out]; omega)
  obtain ⟨c0, c1⟩ := hcc 0 _ HX0.out
  obtain ⟨c2, c3⟩ := hcc p _ HX1.out
  rw [Nat.zero_mul, Nat.add_zero] at c0 c1
  rw [HPL.out]
  have HA2 : Hid (P4 bp op p x y u v w2.drew) := Lib.hid ⟨c0, c1, c2, c3⟩
  have HB2 := Lib.hid (below_then HB1.out HB1.out.size B2)
  have HD2 := Lib.hid (HD.out.later B2)
  have HE2 := Lib.hid (cell_later B2 HE0.out)
  have hs2 := B2.size
  have j0 : (0 : Int) < (p : Int) + 1 := by omega
  have j1 : (p : Int) < (p : Int) + 1 := by omega
  have j2 : (0 : Int) ≤ (p : Int) := by omega
  have j3 : IntKind.i64.wrap (p : Int) = (p : Int) := by rw [IntKind.wrap_i64]; omega
  clear hpt hPt hcp hcc c0 c1 c2 c3 B2 HD HB1 HE0 HE1
  go_wp2_with fail
  refine wp_region_headsV [(0, false), (1, false), (2, true), (3, false), (4, false), (5, false), (6, false), (7, false), (8, true), (9, false)] [11] (fun _ => True) (P4 bp op p x y u v) (by kernel_rfl) (by kernel_rfl) trivial HA2.out ?_
  iterate 10 (first | (refine wpHv_skip rfl (by rfl) ?_) | (refine wpHv_cons (v := ?_) rfl (by rfl) (fun wS hwS => ?_) ?_; rotate_left 1; (focus ((first | (have hwA := And.right hwS rfl) | (have hwA := And.left hwS)); clear hwS; (try dsimp only [P4] at hwA); go_simp; (try with_reducible rfl); (try (trace_state; fail))))); (try simp only [List.getElem_toArray, List.getElem_cons_zero, List.getElem_cons_succ]); (try simp only [Act.put, List.setIfInBounds_toArray, List.set_cons_zero, List.set_cons_succ]))
  refine wpHv_nil ?_
  change wpV _ _ _ _ _ _ _ (1 + 1) _ _ _
  refine wpV_one (k := 10) (by kernel_rfl) rfl (fun K hK => ?_)
  have HKK := Lib.hid hK
  clear hK
  go_simp
  have HA3 : Hid (P4 bp op p x y u v (w2.drew.alloc (.cells #[.int .i64 0, .int .i64 0, .int .i64 0, .int .i64 0] 75))) := Lib.hid (HA2.out.later ((Below.refl _ _).alloc (Nat.le_refl _) _))
  go_simp
  refine HKK.out _ _ ⟨trivial, fun _ _ => HA3.out⟩ ?_
  clear HKK K
  change wpV _ _ _ _ _ _ _ (0 + 1) _ _ _
  refine wpV_one (k := 11) (by kernel_rfl) rfl (fun K hK => ?_)
  have HKK := Lib.hid hK
  clear hK
  go_simp
  go_simp
  refine HKK.out _ _ ⟨trivial, fun hn => absurd (by decide) hn⟩ ?_
  clear HKK K
  refine wpV_done (by kernel_rfl) (NoPanic.normal ?_)
  have B4 : Below w2.heap.size w2 (w2.alloc (.cells #[.int .i64 x, .int .i64 y, .int .i64 u, .int .i64 v] 75)).drew := ((Below.refl _ _).alloc (Nat.le_refl _) _).drew
  have hG4 : (w2.alloc (.cells #[.int .i64 x, .int .i64 y, .int .i64 u, .int .i64 v] 75)).drew.heap[w2.heap.size]? = some (.cells #[.int .i64 x, .int .i64 y, .int .i64 u, .int .i64 v] 75) := heap_at rfl
  obtain ⟨w4, hw4⟩ : ∃ x4, (w2.alloc (.cells #[.int .i64 x, .int .i64 y, .int .i64 u, .int .i64 v] 75)).drew = x4 := ⟨_, rfl⟩
  rw [hw4] at B4 hG4 ⊢
  have HD4 := Lib.hid (HD2.out.later B4)
  have q0 := (Cl.of_block hG4 (j := 0) rfl).cell
  have q1 := (Cl.of_block hG4 (j := 1) rfl).cell
  have q2 := (Cl.of_block hG4 (j := 2) rfl).cell
  have q3 := (Cl.of_block hG4 (j := 3) rfl).cell
  have p0 := (Cl.of_block HD4.out.cell (j := 0) rfl).cell
  have p1 := (Cl.of_block HD4.out.cell (j := 1) rfl).cell
  have e2 := cell_later B4 HE2.out
  have HB4 := Lib.hid (below_then HB2.out HB2.out.size B4)
  have HG4 := Lib.hid hG4
  have hs4 := B4.size
  clear B4 hG4 hw4 HD2 HE2
  by_cases h0 : 0 < D.2.length
  · have d0 : decide ((0 : Int) < (D.2.length : Int)) = true := by simp only [decide_eq_true_eq]; omega
    go_wp2_with fail
    go_ret
    have hE := HADD.out
    rw [if_pos h0] at hE
    cases hE
    exact ⟨rfl, fun h => absurd h (by decide), HB4.out.mono hbase⟩
  · have d0 : decide ((0 : Int) < (D.2.length : Int)) = false := by simp only [decide_eq_false_iff_not]; omega
    have HB := Lib.hid (bytes_box (wd := wd))
    obtain ⟨qb, hqb⟩ : ∃ qb, (wd.toList == [98, 111, 120]) = qb := ⟨_, rfl⟩
    have hqb2 : decide (wd = bBox) = qb := by
      have := HB.out
      rw [show ByteArray.toList ⟨#[98, 111, 120]⟩ = [98, 111, 120] by rw [ByteArray.toList_eq], hqb] at this
      exact this.symm
    by_cases hwb : wd = bBox
    · have hqt : qb = true := by rw [← hqb2]; simpa using hwb
      subst hqt
      have HWB := Lib.hid hwb
      clear hwb hqb2 HB
      by_cases hxu : x = u
      · subst hxu
        by_cases hyv : y = v
        · subst hyv
          go_wp2_with fail
          go_ret
          have hE := HADD.out
          rw [if_neg h0, if_pos ⟨HWB.out, trivial⟩] at hE
          cases hE
          exact ⟨rfl, fun h => absurd h (by decide), HB4.out.mono hbase⟩
        · have hcj : ¬(wd = bBox ∧ ((x, y) : Pt) = (x, v)) := fun h => hyv (by have := h.2; simp only [Prod.mk.injEq] at this; exact this.2)
          have HCJ := Lib.hid hcj
          clear hcj
          go_wp2_with fail
          have HA5 : Hid (C5 b w2.heap.size (.slice AB D.1.length cB) x y x v w4.drew) := Lib.hid ⟨p0, q0, q1, q2, q3⟩
          clear p0 p1 q0 q1 q2 q3 e2
          refine wp_region_headsV [(0, false), (1, false), (2, false), (3, false), (4, true), (5, true)] [7, 10] (fun _ => True) (C5 b w2.heap.size (.slice AB D.1.length cB) x y x v) (by kernel_rfl) (by kernel_rfl) trivial HA5.out ?_
          iterate 6 (first | (refine wpHv_skip rfl (by rfl) ?_) | (refine wpHv_cons (v := ?_) rfl (by rfl) (fun wS hwS => ?_) ?_; rotate_left 1; (focus ((first | (have hwA := And.right hwS rfl) | (have hwA := And.left hwS)); clear hwS; (try dsimp only [C5] at hwA); go_simp; (try with_reducible rfl); (try (trace_state; fail))))); (try simp only [List.getElem_toArray, List.getElem_cons_zero, List.getElem_cons_succ]); (try simp only [Act.put, List.setIfInBounds_toArray, List.set_cons_zero, List.set_cons_succ]))
          refine wpHv_nil ?_
          change wpV _ _ _ _ _ _ _ (4 + 1) _ _ _
          refine wpV_one (k := 6) (by kernel_rfl) rfl (fun K hK => ?_)
          have HKK := Lib.hid hK
          clear hK
          go_simp
          obtain ⟨wz, hwz⟩ : ∃ q, q = (w4.alloc (.cells #[.int .i64 x, .int .i64 y, .int .i64 x, .int .i64 v] 75)).drew := ⟨_, rfl⟩
          rw [← hwz]
          have Bz : Below w4.heap.size w4 wz := by rw [hwz]; exact ((Below.refl _ _).alloc (Nat.le_refl _) _).drew
          have HGz : Hid (wz.heap[w4.heap.size]? = some (.cells #[.int .i64 x, .int .i64 y, .int .i64 x, .int .i64 v] 75)) := Lib.hid (by rw [hwz]; exact heap_at rfl)
          have HA6 : Hid (C5 b w2.heap.size (.slice AB D.1.length cB) x y x v wz) := Lib.hid (C5.later (w := w4) HA5.out Bz)
          have HDz := Lib.hid (HD4.out.later Bz)
          have HBz := Lib.hid (below_then HB4.out HB4.out.size Bz)
          clear hwz Bz HD4 HB4
          refine HKK.out _ _ ⟨trivial, fun _ _ => HA6.out⟩ ?_
          clear HKK K
          change wpV _ _ _ _ _ _ _ (3 + 1) _ _ _
          refine wpV_one (k := 7) (by kernel_rfl) rfl (fun K hK => ?_)
          have HKK := Lib.hid hK
          clear hK
          rw [if_pos (by rfl)]
          refine wp_append_own _ (.tmp 67) (.tmp 69) 42 rfl base 75 i0 (.agg #[.int .i64 0, .int .i64 0, .int .i64 0, .int .i64 0]) 4 32 Tryd.underlying42 hi hz0 hz1 hz2 rfl (by decide) (.slice AB D.1.length cB) D.1.length (flat encB D.1) rfl HDz.out.bx ⟨w4.heap.size, 0, none⟩ 1 1 [.int .i64 x, .int .i64 y, .int .i64 x, .int .i64 v] rfl rfl (World.news_of_block HGz.out) (by intro u hu; simp at hu; rcases hu with rfl | rfl | rfl | rfl <;> rfl) (by simp only [maxLen]; omega) (by omega) (by have := HBz.out.size; omega) ?_
          intro V5 w5 hown hgrow _
          obtain ⟨g5, c5, rfl⟩ := ownsRow_succ hown
          have HO5 := Lib.hid hown
          have HGR := Lib.hid hgrow
          have hb5 := (hgrow.block b (Array.getElem?_eq_some_iff.1 HDz.out.cell).1 (by intro e; obtain ⟨cur, hcur⟩ := own_typ HDz.out.bx e.symm; exact ne_of_typ HDz.out.cell hcur (by decide) rfl)).trans HDz.out.cell
          have q5 := (Cl.of_block hb5 (j := 0) rfl).cell
          have r5 := (Cl.of_block hb5 (j := 0) rfl).free
          clear hown hgrow hb5
          refine HKK.out _ _ ⟨trivial, fun hn => absurd (by decide) hn⟩ ?_
          clear HKK K
          change wpV _ _ _ _ _ _ _ (2 + 1) _ _ _
          refine wpV_one (k := 8) (by kernel_rfl) rfl (fun K hK => ?_)
          have HKK := Lib.hid hK
          clear hK
          go_simp
          refine HKK.out _ _ ⟨trivial, fun _ h => h⟩ ?_
          clear HKK K
          change wpV _ _ _ _ _ _ _ (1 + 1) _ _ _
          refine wpV_one (k := 9) (by kernel_rfl) rfl (fun K hK => ?_)
          have HKK := Lib.hid hK
          clear hK
          go_simp
          refine HKK.out _ _ ⟨trivial, fun _ h => h⟩ ?_
          clear HKK K
          change wpV _ _ _ _ _ _ _ (0 + 1) _ _ _
          refine wpV_one (k := 10) (by kernel_rfl) rfl (fun K hK => ?_)
          have HKK := Lib.hid hK
          clear hK
          go_simp
          go_simp
          refine HKK.out _ _ ⟨trivial, fun hn => absurd (by decide) hn⟩ ?_
          clear HKK K
          refine wpV_done (by kernel_rfl) (NoPanic.normal ?_)
          have hD6 := DrO.box (x := ((x, y), (x, v))) HDz.out HGR.out HO5.out
          have B6 : Below base w (w5.setCell ⟨b, 0, none⟩ (.slice (some ⟨g5, 0, none⟩) (D.1.length + 1) c5)) := (((HBz.out.mono hbase).grown HGR.out (by have := HBz.out.size; omega) (fun j e => own_ge HDz.out.bx e)).setCell (p := ⟨b, 0, none⟩) HDz.out.bas _)
          obtain ⟨w6, hw6⟩ : ∃ q, q = w5.setCell ⟨b, 0, none⟩ (.slice (some ⟨g5, 0, none⟩) (D.1.length + 1) c5) := ⟨_, rfl⟩
          rw [← hw6] at hD6 B6 ⊢
          have p0 := (Cl.of_block hD6.cell (j := 0) rfl).cell
          have p1 := (Cl.of_block hD6.cell (j := 1) rfl).cell
          have HD6 := Lib.hid hD6
          have HB6 := Lib.hid B6
          clear hD6 B6 hw6 q5 r5
          go_wp2_with fail
          refine (many_any HD6.out.drw (by simp; omega) (by show D.2.length ≤ _; omega) (by show totP D.2 ≤ _; omega)).mono ?_
          obtain ⟨mm, hmm⟩ : ∃ mm, manyD (D.1 ++ [((x, y), (x, v))], D.2) = mm := ⟨_, rfl⟩
          rw [hmm]
          have HMM := Lib.hid hmm
          clear hmm
          rintro e w7 ⟨rfl, B7⟩
          have HD7 := Lib.hid (HD6.out.later B7)
          have HB7 := Lib.hid (HB6.out.trans (B7.mono (by have := HB6.out.size; omega)))
          clear B7
          cases mm with
          | true =>
            go_wp2_with fail
            go_ret
            have hE := HADD.out
            rw [if_neg h0, if_neg HCJ.out, if_pos HMM.out] at hE
            cases hE
            exact ⟨rfl, fun h => absurd h (by decide), HB7.out⟩
          | false =>
            go_wp2_with fail
            go_ret
            have hE := HADD.out
            rw [if_neg h0, if_neg HCJ.out, if_neg (by rw [HMM.out]; decide)] at hE
            cases hE
            exact ⟨rfl, fun _ => ⟨_, _, _, HD7.out⟩, HB7.out⟩
      · have hcj : ¬(wd = bBox ∧ ((x, y) : Pt) = (u, v)) := fun h => hxu (by have := h.2; simp only [Prod.mk.injEq] at this; exact this.1)
        have HCJ := Lib.hid hcj
        clear hcj
        go_wp2_with fail
        have HA5 : Hid (C5 b w2.heap.size (.slice AB D.1.length cB) x y u v w4.drew) := Lib.hid ⟨p0, q0, q1, q2, q3⟩
        clear p0 p1 q0 q1 q2 q3 e2
        refine wp_region_headsV [(0, false), (1, false), (2, false), (3, false), (4, true), (5, true)] [7, 10] (fun _ => True) (C5 b w2.heap.size (.slice AB D.1.length cB) x y u v) (by kernel_rfl) (by kernel_rfl) trivial HA5.out ?_
        iterate 6 (first | (refine wpHv_skip rfl (by rfl) ?_) | (refine wpHv_cons (v := ?_) rfl (by rfl) (fun wS hwS => ?_) ?_; rotate_left 1; (focus ((first | (have hwA := And.right hwS rfl) | (have hwA := And.left hwS)); clear hwS; (try dsimp only [C5] at hwA); go_simp; (try with_reducible rfl); (try (trace_state; fail))))); (try simp only [List.getElem_toArray, List.getElem_cons_zero, List.getElem_cons_succ]); (try simp only [Act.put, List.setIfInBounds_toArray, List.set_cons_zero, List.set_cons_succ]))
        refine wpHv_nil ?_
        change wpV _ _ _ _ _ _ _ (4 + 1) _ _ _
        refine wpV_one (k := 6) (by kernel_rfl) rfl (fun K hK => ?_)
        have HKK := Lib.hid hK
        clear hK
        go_simp
        obtain ⟨wz, hwz⟩ : ∃ q, q = (w4.alloc (.cells #[.int .i64 x, .int .i64 y, .int .i64 u, .int .i64 v] 75)).drew := ⟨_, rfl⟩
        rw [← hwz]
        have Bz : Below w4.heap.size w4 wz := by rw [hwz]; exact ((Below.refl _ _).alloc (Nat.le_refl _) _).drew
        have HGz : Hid (wz.heap[w4.heap.size]? = some (.cells #[.int .i64 x, .int .i64 y, .int .i64 u, .int .i64 v] 75)) := Lib.hid (by rw [hwz]; exact heap_at rfl)
        have HA6 : Hid (C5 b w2.heap.size (.slice AB D.1.length cB) x y u v wz) := Lib.hid (C5.later (w := w4) HA5.out Bz)
        have HDz := Lib.hid (HD4.out.later Bz)
        have HBz := Lib.hid (below_then HB4.out HB4.out.size Bz)
        clear hwz Bz HD4 HB4
        refine HKK.out _ _ ⟨trivial, fun _ _ => HA6.out⟩ ?_
        clear HKK K
        change wpV _ _ _ _ _ _ _ (3 + 1) _ _ _
        refine wpV_one (k := 7) (by kernel_rfl) rfl (fun K hK => ?_)
        have HKK := Lib.hid hK
        clear hK
        rw [if_pos (by rfl)]
        refine wp_append_own _ (.tmp 67) (.tmp 69) 42 rfl base 75 i0 (.agg #[.int .i64 0, .int .i64 0, .int .i64 0, .int .i64 0]) 4 32 Tryd.underlying42 hi hz0 hz1 hz2 rfl (by decide) (.slice AB D.1.length cB) D.1.length (flat encB D.1) rfl HDz.out.bx ⟨w4.heap.size, 0, none⟩ 1 1 [.int .i64 x, .int .i64 y, .int .i64 u, .int .i64 v] rfl rfl (World.news_of_block HGz.out) (by intro u hu; simp at hu; rcases hu with rfl | rfl | rfl | rfl <;> rfl) (by simp only [maxLen]; omega) (by omega) (by have := HBz.out.size; omega) ?_
        intro V5 w5 hown hgrow _
        obtain ⟨g5, c5, rfl⟩ := ownsRow_succ hown
        have HO5 := Lib.hid hown
        have HGR := Lib.hid hgrow
        have hb5 := (hgrow.block b (Array.getElem?_eq_some_iff.1 HDz.out.cell).1 (by intro e; obtain ⟨cur, hcur⟩ := own_typ HDz.out.bx e.symm; exact ne_of_typ HDz.out.cell hcur (by decide) rfl)).trans HDz.out.cell
        have q5 := (Cl.of_block hb5 (j := 0) rfl).cell
        have r5 := (Cl.of_block hb5 (j := 0) rfl).free
        clear hown hgrow hb5
        refine HKK.out _ _ ⟨trivial, fun hn => absurd (by decide) hn⟩ ?_
        clear HKK K
        change wpV _ _ _ _ _ _ _ (2 + 1) _ _ _
        refine wpV_one (k := 8) (by kernel_rfl) rfl (fun K hK => ?_)
        have HKK := Lib.hid hK
        clear hK
        go_simp
        refine HKK.out _ _ ⟨trivial, fun _ h => h⟩ ?_
        clear HKK K
        change wpV _ _ _ _ _ _ _ (1 + 1) _ _ _
        refine wpV_one (k := 9) (by kernel_rfl) rfl (fun K hK => ?_)
        have HKK := Lib.hid hK
        clear hK
        go_simp
        refine HKK.out _ _ ⟨trivial, fun _ h => h⟩ ?_
        clear HKK K
        change wpV _ _ _ _ _ _ _ (0 + 1) _ _ _
        refine wpV_one (k := 10) (by kernel_rfl) rfl (fun K hK => ?_)
        have HKK := Lib.hid hK
        clear hK
        go_simp
        go_simp
        refine HKK.out _ _ ⟨trivial, fun hn => absurd (by decide) hn⟩ ?_
        clear HKK K
        refine wpV_done (by kernel_rfl) (NoPanic.normal ?_)
        have hD6 := DrO.box (x := ((x, y), (u, v))) HDz.out HGR.out HO5.out
        have B6 : Below base w (w5.setCell ⟨b, 0, none⟩ (.slice (some ⟨g5, 0, none⟩) (D.1.length + 1) c5)) := (((HBz.out.mono hbase).grown HGR.out (by have := HBz.out.size; omega) (fun j e => own_ge HDz.out.bx e)).setCell (p := ⟨b, 0, none⟩) HDz.out.bas _)
        obtain ⟨w6, hw6⟩ : ∃ q, q = w5.setCell ⟨b, 0, none⟩ (.slice (some ⟨g5, 0, none⟩) (D.1.length + 1) c5) := ⟨_, rfl⟩
        rw [← hw6] at hD6 B6 ⊢
        have p0 := (Cl.of_block hD6.cell (j := 0) rfl).cell
        have p1 := (Cl.of_block hD6.cell (j := 1) rfl).cell
        have HD6 := Lib.hid hD6
        have HB6 := Lib.hid B6
        clear hD6 B6 hw6 q5 r5
        go_wp2_with fail
        refine (many_any HD6.out.drw (by simp; omega) (by show D.2.length ≤ _; omega) (by show totP D.2 ≤ _; omega)).mono ?_
        obtain ⟨mm, hmm⟩ : ∃ mm, manyD (D.1 ++ [((x, y), (u, v))], D.2) = mm := ⟨_, rfl⟩
        rw [hmm]
        have HMM := Lib.hid hmm
        clear hmm
        rintro e w7 ⟨rfl, B7⟩
        have HD7 := Lib.hid (HD6.out.later B7)
        have HB7 := Lib.hid (HB6.out.trans (B7.mono (by have := HB6.out.size; omega)))
        clear B7
        cases mm with
        | true =>
          go_wp2_with fail
          go_ret
          have hE := HADD.out
          rw [if_neg h0, if_neg HCJ.out, if_pos HMM.out] at hE
          cases hE
          exact ⟨rfl, fun h => absurd h (by decide), HB7.out⟩
        | false =>
          go_wp2_with fail
          go_ret
          have hE := HADD.out
          rw [if_neg h0, if_neg HCJ.out, if_neg (by rw [HMM.out]; decide)] at hE
          cases hE
          exact ⟨rfl, fun _ => ⟨_, _, _, HD7.out⟩, HB7.out⟩
    · have hqt : qb = false := by rw [← hqb2]; simpa using hwb
      subst hqt
      have hcj : ¬(wd = bBox ∧ ((x, y) : Pt) = (u, v)) := fun h => hwb h.1
      have HCJ := Lib.hid hcj
      clear hcj hwb hqb2 HB
      go_wp2_with fail
      have HA5 : Hid (C5 b w2.heap.size (.slice AB D.1.length cB) x y u v w4.drew) := Lib.hid ⟨p0, q0, q1, q2, q3⟩
      clear p0 p1 q0 q1 q2 q3 e2
      refine wp_region_headsV [(0, false), (1, false), (2, false), (3, false), (4, true), (5, true)] [7, 10] (fun _ => True) (C5 b w2.heap.size (.slice AB D.1.length cB) x y u v) (by kernel_rfl) (by kernel_rfl) trivial HA5.out ?_
      iterate 6 (first | (refine wpHv_skip rfl (by rfl) ?_) | (refine wpHv_cons (v := ?_) rfl (by rfl) (fun wS hwS => ?_) ?_; rotate_left 1; (focus ((first | (have hwA := And.right hwS rfl) | (have hwA := And.left hwS)); clear hwS; (try dsimp only [C5] at hwA); go_simp; (try with_reducible rfl); (try (trace_state; fail))))); (try simp only [List.getElem_toArray, List.getElem_cons_zero, List.getElem_cons_succ]); (try simp only [Act.put, List.setIfInBounds_toArray, List.set_cons_zero, List.set_cons_succ]))
      refine wpHv_nil ?_
      change wpV _ _ _ _ _ _ _ (4 + 1) _ _ _
      refine wpV_one (k := 6) (by kernel_rfl) rfl (fun K hK => ?_)
      have HKK := Lib.hid hK
      clear hK
      go_simp
      obtain ⟨wz, hwz⟩ : ∃ q, q = (w4.alloc (.cells #[.int .i64 x, .int .i64 y, .int .i64 u, .int .i64 v] 75)).drew := ⟨_, rfl⟩
      rw [← hwz]
      have Bz : Below w4.heap.size w4 wz := by rw [hwz]; exact ((Below.refl _ _).alloc (Nat.le_refl _) _).drew
      have HGz : Hid (wz.heap[w4.heap.size]? = some (.cells #[.int .i64 x, .int .i64 y, .int .i64 u, .int .i64 v] 75)) := Lib.hid (by rw [hwz]; exact heap_at rfl)
      have HA6 : Hid (C5 b w2.heap.size (.slice AB D.1.length cB) x y u v wz) := Lib.hid (C5.later (w := w4) HA5.out Bz)
      have HDz := Lib.hid (HD4.out.later Bz)
      have HBz := Lib.hid (below_then HB4.out HB4.out.size Bz)
      clear hwz Bz HD4 HB4
      refine HKK.out _ _ ⟨trivial, fun _ _ => HA6.out⟩ ?_
      clear HKK K
      change wpV _ _ _ _ _ _ _ (3 + 1) _ _ _
      refine wpV_one (k := 7) (by kernel_rfl) rfl (fun K hK => ?_)
      have HKK := Lib.hid hK
      clear hK
      rw [if_pos (by rfl)]
      refine wp_append_own _ (.tmp 67) (.tmp 69) 42 rfl base 75 i0 (.agg #[.int .i64 0, .int .i64 0, .int .i64 0, .int .i64 0]) 4 32 Tryd.underlying42 hi hz0 hz1 hz2 rfl (by decide) (.slice AB D.1.length cB) D.1.length (flat encB D.1) rfl HDz.out.bx ⟨w4.heap.size, 0, none⟩ 1 1 [.int .i64 x, .int .i64 y, .int .i64 u, .int .i64 v] rfl rfl (World.news_of_block HGz.out) (by intro u hu; simp at hu; rcases hu with rfl | rfl | rfl | rfl <;> rfl) (by simp only [maxLen]; omega) (by omega) (by have := HBz.out.size; omega) ?_
      intro V5 w5 hown hgrow _
      obtain ⟨g5, c5, rfl⟩ := ownsRow_succ hown
      have HO5 := Lib.hid hown
      have HGR := Lib.hid hgrow
      have hb5 := (hgrow.block b (Array.getElem?_eq_some_iff.1 HDz.out.cell).1 (by intro e; obtain ⟨cur, hcur⟩ := own_typ HDz.out.bx e.symm; exact ne_of_typ HDz.out.cell hcur (by decide) rfl)).trans HDz.out.cell
      have q5 := (Cl.of_block hb5 (j := 0) rfl).cell
      have r5 := (Cl.of_block hb5 (j := 0) rfl).free
      clear hown hgrow hb5
      refine HKK.out _ _ ⟨trivial, fun hn => absurd (by decide) hn⟩ ?_
      clear HKK K
      change wpV _ _ _ _ _ _ _ (2 + 1) _ _ _
      refine wpV_one (k := 8) (by kernel_rfl) rfl (fun K hK => ?_)
      have HKK := Lib.hid hK
      clear hK
      go_simp
      refine HKK.out _ _ ⟨trivial, fun _ h => h⟩ ?_
      clear HKK K
      change wpV _ _ _ _ _ _ _ (1 + 1) _ _ _
      refine wpV_one (k := 9) (by kernel_rfl) rfl (fun K hK => ?_)
      have HKK := Lib.hid hK
      clear hK
      go_simp
      refine HKK.out _ _ ⟨trivial, fun _ h => h⟩ ?_
      clear HKK K
      change wpV _ _ _ _ _ _ _ (0 + 1) _ _ _
      refine wpV_one (k := 10) (by kernel_rfl) rfl (fun K hK => ?_)
      have HKK := Lib.hid hK
      clear hK
      go_simp
      go_simp
      refine HKK.out _ _ ⟨trivial, fun hn => absurd (by decide) hn⟩ ?_
      clear HKK K
      refine wpV_done (by kernel_rfl) (NoPanic.normal ?_)
      have hD6 := DrO.box (x := ((x, y), (u, v))) HDz.out HGR.out HO5.out
      have B6 : Below base w (w5.setCell ⟨b, 0, none⟩ (.slice (some ⟨g5, 0, none⟩) (D.1.length + 1) c5)) := (((HBz.out.mono hbase).grown HGR.out (by have := HBz.out.size; omega) (fun j e => own_ge HDz.out.bx e)).setCell (p := ⟨b, 0, none⟩) HDz.out.bas _)
      obtain ⟨w6, hw6⟩ : ∃ q, q = w5.setCell ⟨b, 0, none⟩ (.slice (some ⟨g5, 0, none⟩) (D.1.length + 1) c5) := ⟨_, rfl⟩
      rw [← hw6] at hD6 B6 ⊢
      have p0 := (Cl.of_block hD6.cell (j := 0) rfl).cell
      have p1 := (Cl.of_block hD6.cell (j := 1) rfl).cell
      have HD6 := Lib.hid hD6
      have HB6 := Lib.hid B6
      clear hD6 B6 hw6 q5 r5
      go_wp2_with fail
      refine (many_any HD6.out.drw (by simp; omega) (by show D.2.length ≤ _; omega) (by show totP D.2 ≤ _; omega)).mono ?_
      obtain ⟨mm, hmm⟩ : ∃ mm, manyD (D.1 ++ [((x, y), (u, v))], D.2) = mm := ⟨_, rfl⟩
      rw [hmm]
      have HMM := Lib.hid hmm
      clear hmm
      rintro e w7 ⟨rfl, B7⟩
      have HD7 := Lib.hid (HD6.out.later B7)
      have HB7 := Lib.hid (HB6.out.trans (B7.mono (by have := HB6.out.size; omega)))
      clear B7
      cases mm with
      | true =>
        go_wp2_with fail
        go_ret
        have hE := HADD.out
        rw [if_neg h0, if_neg HCJ.out, if_pos HMM.out] at hE
        cases hE
        exact ⟨rfl, fun h => absurd h (by decide), HB7.out⟩
      | false =>
        go_wp2_with fail
        go_ret
        have hE := HADD.out
        rw [if_neg h0, if_neg HCJ.out, if_neg (by rw [HMM.out]; decide)] at hE
        cases hE
        exact ⟨rfl, fun _ => ⟨_, _, _, HD7.out⟩, HB7.out⟩
end Go.Proofs.YtkpgjgmlhcipeaaDoor
