/- page.add: a drawing with a line more. -/
import Derived.Test.YtkpgjgmlhcipeaaDoorPgD
import Derived.Test.YtkpgjgmlhcipeaaDoorPgM
import Derived.Test.YtkpgjgmlhcipeaaDoorHeldT
import Derived.Test.YtkpgjgmlhcipeaaDoorStrE
namespace Go.Proofs.YtkpgjgmlhcipeaaDoor
open Go.RowKit
def A4 (b g bN oN : Nat) (R N : Value) (x y : Int) (w : World) : Prop := w.cell? ⟨b, 1, none⟩ = some R ∧ w.cell? ⟨g, 1, none⟩ = some N ∧ w.cell? ⟨bN, oN, none⟩ = some (.int .i64 x) ∧ w.cell? ⟨bN, oN + 1, none⟩ = some (.int .i64 y)
theorem A4.later {b g bN oN : Nat} {R N : Value} {x y : Int} {w w' : World} (h : A4 b g bN oN R N x y w) (B : Below w.heap.size w w') : A4 b g bN oN R N x y w' := ⟨cell_later B h.1, cell_later B h.2.1, cell_later B h.2.2.1, cell_later B h.2.2.2⟩
theorem Ints.part {w : World} {b o cap k j : Nat} {zs : List Int} (h : ∀ i x, zs[i]? = some x → w.cell? ⟨b, o + i, none⟩ = some (.int .i64 x)) (hj : zs.length = k + j) (hc : k ≤ cap) : Ints w (.slice (some ⟨b, o + j, none⟩) k cap) (zs.drop j) := by
  refine ⟨some ⟨b, o + j, none⟩, cap, by rw [List.length_drop, hj]; congr 1; omega, by rw [List.length_drop]; omega, (fun e => by cases e), fun hl => ⟨b, o + j, rfl, fun i a hi r v hv => ?_⟩⟩
  have hr : r = 0 := by have := (List.getElem?_eq_some_iff.1 hv).1; simp [encI] at this; exact this
  subst hr
  have : v = .int .i64 a := by simpa [encI] using hv.symm
  subst this
  rw [List.getElem?_drop] at hi
  have := h _ _ hi
  rw [show o + j + i * 1 + 0 = o + (j + i) by omega]
  exact this
theorem info_route : (Tryd.prog.info? 78).map (fun i => (i.zero, i.size, i.bytes)) = some (some (.agg #[.int .i64 0, .int .i64 0, .slice none 0 0]), 3, 40) := by kernel_rfl
theorem info_box : (Tryd.prog.info? 75).map (fun i => (i.zero, i.size, i.bytes)) = some (some (.agg #[.int .i64 0, .int .i64 0, .int .i64 0, .int .i64 0]), 4, 32) := by kernel_rfl
theorem manyD_bd {D : Dr} (h : manyD D = false) : D.1.length ≤ 4096 ∧ D.2.length ≤ 4096 ∧ totP D.2 ≤ 12288 := by
  unfold manyD at h
  simp only [Bool.or_eq_false_iff, decide_eq_false_iff_not] at h
  omega
theorem totP_snoc (rs : List Rt) (r : Rt) : totP (rs ++ [r]) = totP rs + r.2.length := by
  unfold totP; simp
theorem DrO.keep_b {w w5 : World} {base b o : Nat} {B R : Value} {M : List Mt} {D : Dr} {row v : Value} {k5 E5 s5 : Nat} {x5 : List Value} (h : DrO w base b B R M D) (hrow : w.ownsRow base E5 s5 row k5 x5) (hg : w.grownBy w5 row.ownBlock) (hE : E5 ≠ 45) :
    (∀ (E sz k : Nat) (V : Value) (xs : List Value), E ≠ E5 → E ≠ 45 → w.ownsRow base E sz V k xs → (w5.setCell ⟨b, o, none⟩ v).ownsRow base E sz V k xs) ∧ w5.heap[b]? = some (.cells #[B, R] 45) ∧
    (∀ (E sz k : Nat) (V : Value) (xs : List Value), E ≠ 45 → w5.ownsRow base E sz V k xs → (w5.setCell ⟨b, o, none⟩ v).ownsRow base E sz V k xs) := by
  have hb5 : w5.heap[b]? = some (.cells #[B, R] 45) := (hg.block b (Array.getElem?_eq_some_iff.1 h.cell).1 (by
    intro e
    obtain ⟨cur, hcur⟩ := own_typ hrow e.symm
    exact ne_of_typ h.cell hcur hE.symm rfl)).trans h.cell
  have k2 : ∀ (E sz k : Nat) (V : Value) (xs : List Value), E ≠ 45 → w5.ownsRow base E sz V k xs → (w5.setCell ⟨b, o, none⟩ v).ownsRow base E sz V k xs :=
    fun E sz k V xs hE2 hr => row_other hr (grown_set w5 b o v) (fun b' e => by cases e; exact ⟨_, _, hb5, hE2.symm⟩)
  refine ⟨fun E sz k V xs h5 h45 hr => k2 E sz k V xs h45 (row_other hr hg (fun b' e => ?_)), hb5, k2⟩
  obtain ⟨cur, hcur⟩ := own_typ hrow e
  exact ⟨cur, E5, hcur, h5.symm⟩
theorem PcsO.map {w w' : World} {base : Nat} {M : List Mt} {rs : List Rt} (h : PcsO w base M rs) (hk : ∀ (sz k : Nat) (V : Value) (xs : List Value), w.ownsRow base 73 sz V k xs → w'.ownsRow base 73 sz V k xs) : PcsO w' base M rs :=
  ⟨h.1, fun i m r hm hr => ⟨(h.2 i m r hm hr).1, (h.2 i m r hm hr).2.1, hk _ _ _ _ (h.2 i m r hm hr).2.2⟩⟩
theorem DrO.route {w w5 : World} {base b : Nat} {B R R' : Value} {M : List Mt} {D : Dr} {m : Mt} {ps : List Pt} (h : DrO w base b B R M D) (hg : w.grownBy w5 R.ownBlock) (hown : w5.ownsRow base 78 3 R' (D.2.length + 1) (flat encM M ++ encM m)) (hpt : w.ownsRow base 73 2 m.2.2 ps.length (flat encP ps)) :
    DrO (w5.setCell ⟨b, 1, none⟩ R') base b B R' (M ++ [m]) (D.1, D.2 ++ [((m.1, m.2.1), ps)]) := by
  obtain ⟨k1, hb5, k2⟩ := h.keep_b (v := R') (o := 1) h.rt hg (by decide)
  refine ⟨set_one hb5, h.bas, k1 _ _ _ _ _ (by decide) (by decide) h.bx, ?_, (h.pc.map (fun sz k V xs hr => k1 _ _ _ _ _ (by decide) (by decide) hr)).snoc rfl rfl (k1 _ _ _ _ _ (by decide) (by decide) hpt)⟩
  rw [flat_append, List.length_append]
  have e : flat encM [m] = encM m := by simp [flat]
  rw [e]
  exact k2 _ _ _ _ _ (by decide) hown
theorem DrO.box {w w5 : World} {base b : Nat} {B B' R : Value} {M : List Mt} {D : Dr} {x : Bx} (h : DrO w base b B R M D) (hg : w.grownBy w5 B.ownBlock) (hown : w5.ownsRow base 75 4 B' (D.1.length + 1) (flat encB D.1 ++ encB x)) :
    DrO (w5.setCell ⟨b, 0, none⟩ B') base b B' R M (D.1 ++ [x], D.2) := by
  obtain ⟨k1, hb5, k2⟩ := h.keep_b (v := B') (o := 0) h.bx hg (by decide)
  refine ⟨set_zero hb5, h.bas, ?_, k1 _ _ _ _ _ (by decide) (by decide) h.rt, h.pc.map (fun sz k V xs hr => k1 _ _ _ _ _ (by decide) (by decide) hr)⟩
  rw [flat_append, List.length_append]
  have e : flat encB [x] = encB x := by simp [flat]
  rw [e]
  exact k2 _ _ _ _ _ (by decide) hown
theorem bytes_route {wd : ByteArray} : (wd.toList == ByteArray.toList ⟨#[114, 111, 117, 116, 101]⟩) = decide (wd = bRoute) := bytes_eq
theorem bytes_box {wd : ByteArray} : (wd.toList == ByteArray.toList ⟨#[98, 111, 120]⟩) = decide (wd = bBox) := bytes_eq
set_option maxRecDepth 100000 in
set_option maxHeartbeats 4000000 in
theorem addRoute_any {w : World} {base b : Nat} {B R N : Value} {M : List Mt} {D : Dr} {ns : List Int} (hD : DrO w base b B R M D) (hm : manyD D = false) (hN : Ints w N ns) (k : Nat) (hk : ns.length = 2 + 2 * k) (hk2 : k ≤ 400000000) (hbase : base ≤ w.heap.size) :
    Calls Tryd.prog 55 #[.pointer (some ⟨b, 0, none⟩), .agg #[.string bRoute, N]] w fun e w' => e = .returned (.int .i64 (addP D bRoute ns).1) ∧ ((addP D bRoute ns).1 = 0 → ∃ B' R' M', DrO w' base b B' R' M' (addP D bRoute ns).2) ∧ Below base w w' := by
  obtain ⟨i0, hi, hz0, hz1, hz2⟩ := info_parts info_route
  obtain ⟨AN, cN, rfl, hcN, -, hN1⟩ := hN.at_
  obtain ⟨bN, oN, rfl, hcc⟩ := hN1 (by omega)
  have n0 := hcc 0 _ (List.getElem?_eq_getElem (by omega))
  have n1 := hcc 1 _ (List.getElem?_eq_getElem (by omega))
  rw [Nat.add_zero] at n0
  obtain ⟨f, hf⟩ : ∃ f, ns[0]'(by omega) = f := ⟨_, rfl⟩
  obtain ⟨t, ht⟩ : ∃ t, ns[1]'(by omega) = t := ⟨_, rfl⟩
  rw [hf] at n0
  rw [ht] at n1
  obtain ⟨AP, hAP⟩ : ∃ AP, (if cN = 2 then some (⟨bN, oN, none⟩ : Addr) else some ⟨bN, oN + 2, none⟩) = AP := ⟨_, rfl⟩
  have hpart : ∀ (x : World), Below w.heap.size w x → Ints x (.slice AP (2 * k) (cN - 2)) (ns.drop 2) := fun x Bx => by
    have h := Ints.part (w := x) (j := 2) (k := 2 * k) (cap := cN - 2) (fun i z hz => cell_later Bx (hcc i z hz)) (by omega) (by omega)
    by_cases hc2 : cN = 2
    · have hl0 : (ns.drop 2).length = 2 * k := by rw [List.length_drop]; omega
      rw [if_pos hc2] at hAP
      subst hAP
      exact ⟨_, cN - 2, by rw [hl0], by omega, (fun e => by cases e), fun hl => by omega⟩
    · rw [if_neg hc2] at hAP
      subst hAP
      exact h
  have hadd : addP D bRoute ns = if manyD (D.1, D.2 ++ [((f, t), pairs (ns.drop 2))]) = true then (6, D) else (0, (D.1, D.2 ++ [((f, t), pairs (ns.drop 2))])) := by
    unfold addP
    rw [if_pos rfl, List.getElem?_eq_getElem (by omega : 0 < ns.length), List.getElem?_eq_getElem (by omega : 1 < ns.length), hf, ht]
    rfl
  have hpl : (pairs (ns.drop 2)).length = k := pairs_len k _ (by rw [List.length_drop]; omega)
  have hdl : (ns.drop 2).length = 2 * k := by rw [List.length_drop]; omega
  rw [hk] at hcN ⊢
  obtain ⟨ps, hps⟩ : ∃ ps, pairs (ns.drop 2) = ps := ⟨_, rfl⟩
  rw [hps] at hadd hpl
  have HPS := Lib.hid hps
  obtain ⟨E, hE⟩ : ∃ E, addP D bRoute ns = E := ⟨_, rfl⟩
  obtain ⟨E, D'⟩ := E
  rw [hE] at hadd ⊢
  have HADD := Lib.hid hadd
  clear hE hps
  obtain ⟨mb1, mb2, mb3⟩ := manyD_bd hm
  have HPART := Lib.hid hpart
  have HPL := Lib.hid hpl
  have HDL := Lib.hid hdl
  clear hN hN1 hcc hf ht hadd hpl hpart hdl
  obtain ⟨g, hg⟩ : ∃ g, w.heap.size = g := ⟨_, rfl⟩
  obtain ⟨w1, hw1⟩ : ∃ w1, w.alloc (.cells #[.string bRoute, .slice (some ⟨bN, oN, none⟩) (2 + 2 * k) cN] 103) = w1 := ⟨_, rfl⟩
  obtain ⟨B1, e0, e1⟩ := box_two hw1
  rw [hg] at e0 e1
  have hD1 := hD.later B1
  have hb1 := (Cl.of_block hD1.cell (j := 1) rfl).cell
  have HA0 : Hid (A4 b g bN oN R (.slice (some ⟨bN, oN, none⟩) (2 + 2 * k) cN) f t w1.drew) := Lib.hid ⟨hb1, e1, cell_later B1.drew n0, cell_later B1.drew n1⟩
  have HD := Lib.hid hD1
  have HB1 := Lib.hid B1
  have hs1 : w1.heap.size = g + 1 := by rw [← hw1, ← hg]; simp
  obtain ⟨AR, cR, rfl, hcR⟩ := own_shape hD.rt
  obtain ⟨AB, cB, rfl, hcB⟩ := own_shape hD.bx
  clear hD hD1 hb1 n0 n1 B1
  have hss : (bRoute.toList == [114, 111, 117, 116, 101]) = true := by rw [ByteArray.toList_eq]; rfl
  have g0 : (0 : Int) < 2 + 2 * (k : Int) := by omega
  have g1 : (1 : Int) < 2 + 2 * (k : Int) := by omega
  have g2 : (2 : Int) ≤ 2 + 2 * (k : Int) := by omega
  have g3 : 2 + 2 * k - 2 = 2 * k := by omega
  go_enter Tryd.func55, Tryd.ntmps55
  go_wp2_with fail
  clear hss hw1
  refine wp_region_headsV [(0, false), (1, false), (2, false), (3, false), (4, true), (5, false), (6, true), (7, false), (8, true), (9, false), (10, true), (11, false), (12, true), (13, false), (14, true), (15, false)] [19, 22] (fun _ => True) (A4 b g bN oN (.slice AR D.2.length cR) (.slice (some ⟨bN, oN, none⟩) (2 + 2 * k) cN) f t) (by kernel_rfl) (by kernel_rfl) trivial HA0.out ?_
  iterate 16 (first | (refine wpHv_skip rfl (by rfl) ?_) | (refine wpHv_cons (v := ?_) rfl (by rfl) (fun wS hwS => ?_) ?_; rotate_left 1; (focus ((first | (have hwA := And.right hwS rfl) | (have hwA := And.left hwS)); clear hwS; (try dsimp only [A4] at hwA); go_simp; (try with_reducible rfl); (try (trace_state; fail))))); (try simp only [List.getElem_toArray, List.getElem_cons_zero, List.getElem_cons_succ]); (try simp only [Act.put, List.setIfInBounds_toArray, List.set_cons_zero, List.set_cons_succ]))
  refine wpHv_nil ?_
  change wpV _ _ _ _ _ _ _ (6 + 1) _ _ _
  refine wpV_one (k := 16) (by kernel_rfl) rfl (fun K hK => ?_)
  have HKK := Lib.hid hK
  clear hK
  go_simp
  refine (points_any (HPART.out _ HB1.out.drew) k HDL.out (by omega)).mono ?_
  rintro e wy ⟨v, rfl, hpt, By⟩
  rw [HPS.out] at hpt
  obtain ⟨Av, cv, rfl, hcv⟩ := own_shape hpt
  have HPT := Lib.hid (row_rebase hpt (base' := base) (by simp; omega))
  have HAy := Lib.hid (HA0.out.later By)
  have HDy := Lib.hid ((HD.out.later (Below.refl _ _).drew).later By)
  have HBy := Lib.hid (below_then HB1.out.drew HB1.out.drew.size By)
  clear hpt By
  go_simp
  refine HKK.out _ _ ⟨trivial, fun _ _ => HAy.out⟩ ?_
  clear HKK K
  change wpV _ _ _ _ _ _ _ (1 + 5) _ _ _
  refine wpV_heads trivial HAy.out (by kernel_rfl) (fun _ _ _ _ _ h => h) [(17, false)] _ _ _ (by kernel_rfl) ?_
  iterate 1 (first | (refine wpHv_skip rfl (by rfl) ?_) | (refine wpHv_cons (v := ?_) rfl (by rfl) (fun wS hwS => ?_) ?_; rotate_left 1; (focus ((first | (have hwA := And.right hwS rfl) | (have hwA := And.left hwS)); clear hwS; (try dsimp only [A4] at hwA); go_simp; (try with_reducible rfl); (try (trace_state; fail))))); (try simp only [List.getElem_toArray, List.getElem_cons_zero, List.getElem_cons_succ]); (try simp only [Act.put, List.setIfInBounds_toArray, List.set_cons_zero, List.set_cons_succ]))
  refine wpHv_nil ?_
  change wpV _ _ _ _ _ _ _ (4 + 1) _ _ _
  refine wpV_one (k := 18) (by kernel_rfl) rfl (fun K hK => ?_)
  have HKK := Lib.hid hK
  clear hK
  go_simp
  obtain ⟨wz, hwz⟩ : ∃ x, x = wy.alloc (.cells #[.int .i64 f, .int .i64 t, .slice Av k cv] 78) := ⟨_, rfl⟩
  rw [← hwz]
  have Bz : Below wy.heap.size wy wz := by rw [hwz]; exact (Below.refl _ _).alloc (Nat.le_refl _) _
  have HAz := Lib.hid (HAy.out.later Bz)
  have HDz := Lib.hid (HDy.out.later Bz)
  have HPz := Lib.hid (own_later HPT.out Bz)
  have HBz := Lib.hid (below_then HBy.out HBy.out.size Bz)
  have HGz : Hid (wz.heap[wy.heap.size]? = some (.cells #[.int .i64 f, .int .i64 t, .slice Av k cv] 78)) := Lib.hid (by rw [hwz]; exact heap_at rfl)
  clear hwz Bz HDy HPT HBy
  refine HKK.out _ _ ⟨trivial, fun _ _ => HAz.out⟩ ?_
  clear HKK K
  change wpV _ _ _ _ _ _ _ (3 + 1) _ _ _
  refine wpV_one (k := 19) (by kernel_rfl) rfl (fun K hK => ?_)
  have HKK := Lib.hid hK
  clear hK
  rw [if_pos (by rfl)]
  refine wp_append_own _ (.tmp 14) (.tmp 28) 43 rfl base 78 i0 (.agg #[.int .i64 0, .int .i64 0, .slice none 0 0]) 3 40 Tryd.underlying43 hi hz0 hz1 hz2 rfl (by decide) (.slice AR D.2.length cR) D.2.length (flat encM M) rfl HDz.out.rt ⟨wy.heap.size, 0, none⟩ 1 1 [.int .i64 f, .int .i64 t, .slice Av k cv] rfl rfl (World.news_of_block HGz.out) (by intro u hu; simp at hu; rcases hu with rfl | rfl | rfl <;> rfl) (by simp only [maxLen]; omega) (by omega) (by have := HBz.out.size; omega) ?_
  intro V5 w5 hown hgrow _
  obtain ⟨g5, c5, rfl⟩ := ownsRow_succ hown
  have HO5 := Lib.hid hown
  have HGR := Lib.hid hgrow
  have hb5 := (hgrow.block b (Array.getElem?_eq_some_iff.1 HDz.out.cell).1 (by intro e; obtain ⟨cur, hcur⟩ := own_typ HDz.out.rt e.symm; exact ne_of_typ HDz.out.cell hcur (by decide) rfl)).trans HDz.out.cell
  have q5 := (Cl.of_block hb5 (j := 1) rfl).cell
  have r5 := (Cl.of_block hb5 (j := 1) rfl).free
  have HB5 := Lib.hid hb5
  clear hown hgrow hb5
  refine HKK.out _ _ ⟨trivial, fun hn => absurd (by decide) hn⟩ ?_
  clear HKK K
  change wpV _ _ _ _ _ _ _ (2 + 1) _ _ _
  refine wpV_one (k := 20) (by kernel_rfl) rfl (fun K hK => ?_)
  have HKK := Lib.hid hK
  clear hK
  go_simp
  refine HKK.out _ _ ⟨trivial, fun _ h => h⟩ ?_
  clear HKK K
  change wpV _ _ _ _ _ _ _ (1 + 1) _ _ _
  refine wpV_one (k := 21) (by kernel_rfl) rfl (fun K hK => ?_)
  have HKK := Lib.hid hK
  clear hK
  go_simp
  refine HKK.out _ _ ⟨trivial, fun _ h => h⟩ ?_
  clear HKK K
  change wpV _ _ _ _ _ _ _ (0 + 1) _ _ _
  refine wpV_one (k := 22) (by kernel_rfl) rfl (fun K hK => ?_)
  have HKK := Lib.hid hK
  clear hK
  go_simp
  go_simp
  refine HKK.out _ _ ⟨trivial, fun hn => absurd (by decide) hn⟩ ?_
  clear HKK K
  refine wpV_done (by kernel_rfl) (NoPanic.normal ?_)
  have hD6 := DrO.route (m := (f, t, .slice Av k cv)) (ps := ps) HDz.out HGR.out HO5.out (by rw [HPL.out]; exact HPz.out)
  have B6 : Below base w (w5.setCell ⟨b, 1, none⟩ (.slice (some ⟨g5, 0, none⟩) (D.2.length + 1) c5)) := (((HBz.out.mono hbase).grown HGR.out (by have := HBz.out.size; omega) (fun j e => own_ge HDz.out.rt e)).setCell (p := ⟨b, 1, none⟩) HDz.out.bas _)
  obtain ⟨w6, hw6⟩ : ∃ x, x = w5.setCell ⟨b, 1, none⟩ (.slice (some ⟨g5, 0, none⟩) (D.2.length + 1) c5) := ⟨_, rfl⟩
  rw [← hw6] at hD6 B6 ⊢
  have p0 := (Cl.of_block hD6.cell (j := 0) rfl).cell
  have p1 := (Cl.of_block hD6.cell (j := 1) rfl).cell
  have HD6 := Lib.hid hD6
  have HB6 := Lib.hid B6
  clear hD6 B6 hw6 q5 r5
  go_wp2_with fail
  refine (many_any HD6.out.drw (by show D.1.length ≤ _; omega) (by simp; omega) (by rw [totP_snoc]; simp only [HPL.out]; omega)).mono ?_
  obtain ⟨mm, hmm⟩ : ∃ mm, manyD (D.1, D.2 ++ [((f, t), ps)]) = mm := ⟨_, rfl⟩
  rw [hmm]
  have HMM := Lib.hid hmm
  clear hmm
  rintro e w7 ⟨rfl, B7⟩
  have HD7 := Lib.hid (HD6.out.later B7)
  have HB7 := Lib.hid (HB6.out.trans (B7.mono (by have := HB6.out.size; omega)))
  clear B7
  cases mm with
  | true =>
    go_wp2_with fail
    go_ret
    have hE := HADD.out
    rw [if_pos HMM.out] at hE
    cases hE
    exact ⟨rfl, fun h => absurd h (by decide), HB7.out⟩
  | false =>
    go_wp2_with fail
    go_ret
    have hE := HADD.out
    rw [if_neg (by rw [HMM.out]; decide)] at hE
    cases hE
    exact ⟨rfl, fun _ => ⟨_, _, _, HD7.out⟩, HB7.out⟩
end Go.Proofs.YtkpgjgmlhcipeaaDoor
