/- page.lines: the lines of a drawing. -/
import Derived.Test.YtkpgjgmlhcipeaaDoorPgI
import Derived.Test.YtkpgjgmlhcipeaaDoorHeldT
namespace Go.Proofs.YtkpgjgmlhcipeaaDoor
open Go.RowKit
theorem news_own {w : World} {base g c k : Nat} {zs : List Int} (h : w.ownsRow base 3 1 (.slice (some ⟨g, 0, none⟩) k c) k (flat encI zs)) (hk : zs.length = k) : ∀ (j : Nat) (u : Value), (flat encI zs)[j]? = some u → w.cell? (Addr.add ⟨g, 0, none⟩ j) = some u := by
  intro j u hj
  subst hk
  have hi : Ints w (.slice (some ⟨g, 0, none⟩) zs.length c) zs := Sl.of_own encI_length h
  obtain ⟨A, c', e, -, -, h3⟩ := hi.at_
  rw [flat_encI, List.getElem?_map] at hj
  cases hz : zs[j]? with
  | none => rw [hz] at hj; cases hj
  | some z =>
    rw [hz] at hj
    obtain rfl : Value.int .i64 z = u := by simpa using hj
    have hl := (List.getElem?_eq_some_iff.1 hz).1
    obtain ⟨b, off, e2, hc⟩ := h3 (by omega)
    injection e with e1 e3 e4
    rw [e2] at e1
    injection e1 with e1
    injection e1 with e5 e6 e7
    subst e5 e6
    unfold Addr.add
    by_cases h0 : j = 0
    · subst h0
      rw [if_pos rfl]
      exact hc 0 z hz
    · rw [if_neg h0]
      exact hc j z hz
theorem one_ints (zs : List Int) : ∀ u ∈ flat encI zs, u.oneCell' = true := by
  intro u hu
  rw [flat_encI] at hu
  obtain ⟨z, -, rfl⟩ := List.mem_map.1 hu
  rfl
theorem ptL_len (ps : List Pt) : (ps.flatMap ptL).length = 2 * ps.length := by
  induction ps with
  | nil => rfl
  | cons p r ih => simp [List.flatMap_cons, ptL, ih]; omega
theorem totP_get {rs : List Rt} {i : Nat} {r : Rt} (h : rs[i]? = some r) : r.2.length ≤ totP rs := by
  obtain ⟨hi, h⟩ := List.getElem?_eq_some_iff.1 h
  have h1 := totP_take hi
  have h2 := totP_le rs (i + 1)
  rw [h] at h1
  omega
theorem pair_own {w : World} (p : Pt) :
    Calls Tryd.prog 77 #[.agg #[.int .i64 p.1, .int .i64 p.2]] w fun e w' => ∃ g, e = .returned (.slice (some ⟨g, 0, none⟩) 2 2) ∧ w'.ownsRow w.heap.size 3 1 (.slice (some ⟨g, 0, none⟩) 2 2) 2 (flat encI (ptL p)) ∧ Below w.heap.size w w' := pair_any p
def Q4 (g : Nat) (x y u v : Int) (w : World) : Prop := w.cell? ⟨g, 0, none⟩ = some (.int .i64 x) ∧ w.cell? ⟨g, 1, none⟩ = some (.int .i64 y) ∧ w.cell? ⟨g, 2, none⟩ = some (.int .i64 u) ∧ w.cell? ⟨g, 3, none⟩ = some (.int .i64 v)
theorem Q4.later {g : Nat} {x y u v : Int} {w w' : World} (h : Q4 g x y u v w) (k : Below w.heap.size w w') : Q4 g x y u v w' := ⟨cell_later k h.1, cell_later k h.2.1, cell_later k h.2.2.1, cell_later k h.2.2.2⟩
set_option maxRecDepth 100000 in
set_option maxHeartbeats 4000000 in
theorem lines_any {w : World} {B R : Value} {D : Dr} (h : Drw w B R D) (hm : manyD D = false) :
    Calls Tryd.prog 58 #[.agg #[B, R]] w fun e w' => ∃ A c KK, e = .returned (.slice A (lnsP D).length c) ∧ w'.ownsRow (w.heap.size + 1) 103 2 (.slice A (lnsP D).length c) (lnsP D).length (flat encL KK) ∧ LnsO w' (w.heap.size + 1) KK (lnsP D) ∧ Below w.heap.size w w' := by
  obtain ⟨iI, hiI, hzI0, hzI1, hzI2⟩ := info_parts (show (Tryd.prog.info? 3).map (fun i => (i.zero, i.size, i.bytes)) = some (some (.int .i64 0), 1, 8) by kernel_rfl)
  obtain ⟨iL, hiL, hzL0, hzL1, hzL2⟩ := info_parts info_line
  obtain ⟨mb1, mb2, mb3⟩ := manyD_bd hm
  obtain ⟨hB, M, hR, hP⟩ := h
  obtain ⟨AB, cB, rfl, -, -, hb⟩ := hB.at_
  obtain ⟨AR, cR, rfl, -, -, hr⟩ := hR.at_
  have hml := hP.1
  rw [hml] at hr ⊢
  have HB0 := Lib.hid hb
  have HR0 := Lib.hid hr
  have HP := Lib.hid hP
  clear hB hR hb hr hP hml hm
  obtain ⟨nb, hnb⟩ : ∃ n, D.1.length = n := ⟨_, rfl⟩
  obtain ⟨nr, hnr⟩ : ∃ n, D.2.length = n := ⟨_, rfl⟩
  rw [hnb] at HB0 mb1 ⊢
  rw [hnr] at HR0 mb2 ⊢
  have HNB := Lib.hid hnb
  have HNR := Lib.hid hnr
  have HLL : Hid ((lnsP D).length = nb + nr) := Lib.hid (by unfold lnsP; simp [hnb, hnr])
  clear hnb hnr
  go_enter Tryd.func58, Tryd.ntmps58
  go_wp2_with fail
  obtain ⟨w1, hw1⟩ : ∃ w1, w.alloc (.cells #[.slice AB nb cB, .slice AR nr cR] 45) = w1 := ⟨_, rfl⟩
  obtain ⟨B1, e0, e1⟩ := box_two hw1
  rw [hw1]
  have hs1 : w1.heap.size = w.heap.size + 1 := by rw [← hw1]; simp

  have HB1 := Lib.hid B1
  have HS1 := Lib.hid hs1
  have HE1 := Lib.hid e1
  clear hw1 B1 hs1
  go_loopw [3, 14] (fun Vl qi wr => ∃ (i : Nat) (KK : List Lm), i ≤ nb ∧ qi = .int .i64 i ∧ wr.ownsRow w1.heap.size 103 2 Vl i (flat encL KK) ∧ LnsO wr w1.heap.size KK ((D.1.take i).map bxLn) ∧ Below w1.heap.size w1 wr) (fun _ q _ => nb - (intOf q).toNat)
  case atStart => exact ⟨0, [], by omega, rfl, World.ownsRow_nil _ _ _ _, LnsO.nil _ _, Below.refl _ _⟩
  case round =>
    obtain ⟨i, KK, hi, rfl, hRr, hLr, Br⟩ := hrel
    obtain ⟨AV, cV, rfl, hcV⟩ := own_shape hRr
    obtain ⟨wo, rfl⟩ : ∃ q : World, q = wr := ⟨_, rfl⟩
    have HRr := Lib.hid hRr
    have HLr := Lib.hid hLr
    have HBr := Lib.hid Br
    have HBW := Lib.hid (below_then HB1.out HB1.out.size Br)
    have hso := Br.size
    clear hRr hLr Br
    by_cases hin : i < nb
    · obtain ⟨p1, o1, rfl, hc⟩ := HB0.out (by omega)
      have HX := Lib.hid (List.getElem?_eq_getElem (l := D.1) (i := i) (by rw [HNB.out]; exact hin))
      have c0 := hc i _ HX.out
      have hlt : i < D.1.length := by rw [HNB.out]; exact hin
      have HT : Hid ((D.1.take (i + 1)).map bxLn = (D.1.take i).map bxLn ++ [bxLn (D.1[i]'hlt)]) := Lib.hid (by rw [List.take_succ_eq_append_getElem hlt, List.map_append]; rfl)
      generalize D.1[i]'hlt = bx at *
      clear hlt
      obtain ⟨⟨x, y⟩, u, v⟩ := bx
      obtain ⟨u1, u2, u3, u4⟩ := c0
      have d1 := cell_later HBW.out u1
      have d2 := cell_later HBW.out u2
      have d3 := cell_later HBW.out u3
      have d4 := cell_later HBW.out u4
      have hd : decide ((i : Int) < (nb : Int)) = true := by simp only [decide_eq_true_eq]; omega
      have hi0 : (0 : Int) ≤ (i : Int) := by omega
      have hi1 : (i : Int) < (nb : Int) := by omega
      clear u1 u2 u3 u4 hc
      go_upto_region 5 with fail
      obtain ⟨wa, hwa⟩ : ∃ q, q = wo.alloc (.cells #[.int .i64 x, .int .i64 y, .int .i64 u, .int .i64 v] 75) := ⟨_, rfl⟩
      rw [← hwa]
      have Ba : Below wo.heap.size wo wa := by rw [hwa]; exact (Below.refl _ _).alloc (Nat.le_refl _) _
      have hGa : wa.heap[wo.heap.size]? = some (.cells #[.int .i64 x, .int .i64 y, .int .i64 u, .int .i64 v] 75) := by rw [hwa]; exact heap_at rfl
      have HBa := Lib.hid Ba
      have HGa := Lib.hid hGa
      have hsa := Ba.size
      have s0 := (Cl.of_block hGa (j := 0) rfl).cell
      have s1 := (Cl.of_block hGa (j := 1) rfl).cell
      have s2 := (Cl.of_block hGa (j := 2) rfl).cell
      have s3 := (Cl.of_block hGa (j := 3) rfl).cell
      clear hwa Ba hGa d1 d2 d3 d4
      by_cases hxu : x = u ∧ y = v
      · obtain ⟨rfl, rfl⟩ := hxu
        have HTX : Hid (bxLn ((x, y), (x, y)) = (bPoint, ptL (x, y))) := Lib.hid (by unfold bxLn; rw [if_pos rfl])
        go_upto_region 6 with fail
        go_wp2_with fail
        refine (pair_own (x, y)).mono ?_
        rintro e wb ⟨g, rfl, hg, Bb⟩
        have HG := Lib.hid hg
        have HBb := Lib.hid (below_then HBa.out HBa.out.size Bb)
        have hsb := Bb.size
        clear hg Bb s0 s1 s2 s3
        have HBc : Hid (Below wo.heap.size wo (wb.alloc (.cells #[.string bPoint, .slice (some ⟨g, 0, none⟩) 2 2] 103))) := Lib.hid (HBb.out.alloc (by omega) _)
        have HRc := Lib.hid (own_later HRr.out HBc.out)
        have HLc : Hid (LnsO (wb.alloc (.cells #[.string bPoint, .slice (some ⟨g, 0, none⟩) 2 2] 103)) w1.heap.size (KK ++ [(bPoint, .slice (some ⟨g, 0, none⟩) 2 2)]) ((D.1.take (i + 1)).map bxLn)) := Lib.hid (by
          rw [HT.out, HTX.out]
          exact (HLr.out.later HBc.out).snoc rfl (own_later (row_rebase HG.out (by omega)) ((Below.refl _ _).alloc (Nat.le_refl _) _)))
        go_wp2_with (at_builtin; refine wpList_append_lies _ rfl (.tmp 23) (.tmp 28) 112 rfl w1.heap.size 103 iL (.agg #[.string ByteArray.empty, .slice none 0 0]) 2 40 Tryd.underlying112 hiL hzL0 hzL1 hzL2 rfl (by decide) (.slice AV i cV) i (flat encL KK) rfl HRc.out ⟨wb.heap.size, 0, none⟩ 1 1 [.string bPoint, .slice (some ⟨g, 0, none⟩) 2 2] rfl rfl (World.news_of_block (heap_at rfl)) (by intro y hy; simp at hy; rcases hy with rfl | rfl <;> rfl) (by omega) (by simp only [maxLen]; omega) (by omega) (by simp; omega) _ rfl ?_; intro gq cq w8 hown hgrow hat hlt)
        have HW8 : Hid (Below w1.heap.size w1 w8) := Lib.hid ((HBr.out.trans (HBc.out.mono hso)).grown hgrow (by simp; omega) (fun q hq => own_ge HRc.out hq))
        have HL8 := Lib.hid (HLc.out.other hgrow (fun b e => by obtain ⟨cur, hcur⟩ := own_typ HRc.out e; exact ⟨cur, _, hcur, by decide⟩))
        go_roundw
        case rel => exact ⟨i + 1, _, by omega, by go_num, (by rw [flat_append]; simpa [flat, encL] using hown), HL8.out, HW8.out⟩
        case measure => simp [intOf]; omega
      · have HTX : Hid (bxLn ((x, y), (u, v)) = (bBox, ptL (x, y) ++ ptL (u, v))) := Lib.hid (by unfold bxLn; rw [if_neg (fun e => hxu (by simpa using e))])
        have HQ0 : Hid (Q4 wo.heap.size x y u v wa.drew) := Lib.hid ⟨s0, s1, s2, s3⟩
        go_cut [22] (fun p wx => p = .bool false ∧ wx = wa)
        case first =>
          by_cases hx : x = u
          · have hy : ¬y = v := fun h => hxu ⟨hx, h⟩
            subst hx
            clear hxu
            go_wp2_with fail
            go_meet
            exact ⟨rfl, rfl⟩
          · clear hxu
            go_wp2_with fail
            go_meet
            exact ⟨rfl, rfl⟩
        obtain ⟨rfl, hwc⟩ := hcut
        subst hwc
        obtain ⟨wa, rfl⟩ : ∃ q : World, q = wc := ⟨_, rfl⟩
        clear hxu s0 s1 s2 s3
        go_wp2_with fail
        refine wp_region_headsV [(0, false), (1, false), (2, true), (4, false), (5, true)] [7, 9, 10] (fun _ => True) (Q4 wo.heap.size x y u v) (by kernel_rfl) (by kernel_rfl) trivial HQ0.out ?_
        iterate 5 (first | (refine wpHv_skip rfl (by rfl) ?_) | (refine wpHv_cons (v := ?_) rfl (by rfl) (fun wS hwS => ?_) ?_; rotate_left 1; (focus ((first | (have hwA := And.right hwS rfl) | (have hwA := And.left hwS)); clear hwS; (try dsimp only [Q4] at hwA); go_simp; (try with_reducible rfl); (try (trace_state; fail))))); (try simp only [List.getElem_toArray, List.getElem_cons_zero, List.getElem_cons_succ]); (try simp only [Act.put, List.setIfInBounds_toArray, List.set_cons_zero, List.set_cons_succ]))
        refine wpHv_nil ?_
        change wpV _ _ _ _ _ _ _ (6 + 1) _ _ _
        refine wpV_one (k := 3) (by kernel_rfl) rfl (fun K hK => ?_)
        have HKK := Lib.hid hK
        clear hK
        go_simp
        refine (pair_own (x, y)).mono ?_
        rintro e wb ⟨g, rfl, hg, Bb⟩
        have HQ3 := Lib.hid (HQ0.out.later Bb)
        have HGb := Lib.hid (row_rebase hg (base' := wo.heap.size) (by simp; omega))
        have HBb := Lib.hid (below_then HBa.out.drew HBa.out.drew.size Bb)
        have hsb := Bb.size
        clear hg Bb
        refine HKK.out _ _ ⟨trivial, fun _ _ => HQ3.out⟩ ?_
        clear HKK K
        change wpV _ _ _ _ _ _ _ (5 + 1) _ _ _
        refine wpV_one (k := 6) (by kernel_rfl) rfl (fun K hK => ?_)
        have HKK := Lib.hid hK
        clear hK
        go_simp
        refine (pair_own (u, v)).mono ?_
        rintro e wc ⟨g', rfl, hg', Bc⟩
        have HQ6 := Lib.hid (HQ3.out.later Bc)
        have HGc := Lib.hid (own_later HGb.out Bc)
        have HGd := Lib.hid hg'
        have HBc := Lib.hid (below_then HBb.out HBb.out.size Bc)
        have hsc := Bc.size
        clear hg' Bc
        refine HKK.out _ _ ⟨trivial, fun _ _ => HQ6.out⟩ ?_
        clear HKK K
        change wpV _ _ _ _ _ _ _ (4 + 1) _ _ _
        refine wpV_one (k := 7) (by kernel_rfl) rfl (fun K hK => ?_)
        have HKK := Lib.hid hK
        clear hK
        rw [if_pos (by rfl)]
        refine wp_append_own _ (.tmp 33) (.tmp 36) 101 rfl wo.heap.size 3 iI (.int .i64 0) 1 8 Tryd.underlying101 hiI hzI0 hzI1 hzI2 rfl (by decide) (.slice (some ⟨g, 0, none⟩) 2 2) 2 (flat encI (ptL (x, y))) rfl HGc.out ⟨g', 0, none⟩ 2 2 (flat encI (ptL (u, v))) rfl rfl (news_own HGd.out rfl) (one_ints _) (by decide) (by decide) (by simp at hsa hsb; omega) ?_
        intro V5 wd hown hgrow _
        obtain ⟨g5, c5, rfl⟩ := ownsRow_succ hown
        have HO5 := Lib.hid hown
        have HBd : Hid (Below wo.heap.size wo wd) := Lib.hid (HBc.out.grown hgrow (by simp at hsa hsb; omega) (fun q e => own_ge HGc.out e))
        clear hown hgrow
        refine HKK.out _ _ ⟨trivial, fun hn => absurd (by decide) hn⟩ ?_
        clear HKK K
        change wpV _ _ _ _ _ _ _ (3 + 1) _ _ _
        refine wpV_one (k := 8) (by kernel_rfl) rfl (fun K hK => ?_)
        have HKK := Lib.hid hK
        clear hK
        go_simp
        refine HKK.out _ _ ⟨trivial, fun _ h => h⟩ ?_
        clear HKK K
        change wpV _ _ _ _ _ _ _ (2 + 1) _ _ _
        refine wpV_one (k := 9) (by kernel_rfl) rfl (fun K hK => ?_)
        have HKK := Lib.hid hK
        clear hK
        go_simp
        obtain ⟨wz, hwz⟩ : ∃ q, q = wd.alloc (.cells #[.string ⟨#[98, 111, 120]⟩, .slice (some ⟨g5, 0, none⟩) 4 c5] 103) := ⟨_, rfl⟩
        rw [← hwz]
        have Bz : Below wd.heap.size wd wz := by rw [hwz]; exact (Below.refl _ _).alloc (Nat.le_refl _) _
        have HGz : Hid (wz.heap[wd.heap.size]? = some (.cells #[.string bBox, .slice (some ⟨g5, 0, none⟩) 4 c5] 103)) := Lib.hid (by rw [hwz]; exact heap_at rfl)
        have HBz := Lib.hid (below_then HBd.out HBd.out.size Bz)
        have HRz := Lib.hid (own_later HRr.out HBz.out)
        have HLz : Hid (LnsO wz w1.heap.size (KK ++ [(bBox, .slice (some ⟨g5, 0, none⟩) 4 c5)]) ((D.1.take (i + 1)).map bxLn)) := Lib.hid (by
          rw [HT.out, HTX.out]
          refine (HLr.out.later HBz.out).snoc rfl ?_
          have h := own_later (row_rebase HO5.out hso) Bz
          rw [← flat_append] at h
          exact h)
        clear hwz Bz
        refine HKK.out _ _ ⟨trivial, fun hn => absurd (by decide) hn⟩ ?_
        clear HKK K
        change wpV _ _ _ _ _ _ _ (1 + 1) _ _ _
        refine wpV_one (k := 10) (by kernel_rfl) rfl (fun K hK => ?_)
        have HKK := Lib.hid hK
        clear hK
        rw [if_pos (by rfl)]
        refine wp_append_own _ (.tmp 30) (.tmp 39) 112 rfl w1.heap.size 103 iL (.agg #[.string ByteArray.empty, .slice none 0 0]) 2 40 Tryd.underlying112 hiL hzL0 hzL1 hzL2 rfl (by decide) (.slice AV i cV) i (flat encL KK) rfl HRz.out ⟨wd.heap.size, 0, none⟩ 1 1 [.string bBox, .slice (some ⟨g5, 0, none⟩) 4 c5] rfl rfl (World.news_of_block HGz.out) (by intro y hy; simp at hy; rcases hy with rfl | rfl <;> rfl) (by simp only [maxLen]; omega) (by omega) (by have := HBz.out.size; omega) ?_
        intro V6 w8 hown hgrow _
        obtain ⟨g6, c6, rfl⟩ := ownsRow_succ hown
        have HO8 := Lib.hid hown
        have HW8 : Hid (Below w1.heap.size w1 w8) := Lib.hid ((HBr.out.trans (HBz.out.mono hso)).grown hgrow (by have := HBz.out.size; omega) (fun q hq => own_ge HRz.out hq))
        have HL8 := Lib.hid (HLz.out.other hgrow (fun b e => by obtain ⟨cur, hcur⟩ := own_typ HRz.out e; exact ⟨cur, _, hcur, by decide⟩))
        clear hown hgrow
        refine HKK.out _ _ ⟨trivial, fun hn => absurd (by decide) hn⟩ ?_
        clear HKK K
        change wpV _ _ _ _ _ _ _ (0 + 1) _ _ _
        refine wpV_one (k := 11) (by kernel_rfl) rfl (fun K hK => ?_)
        have HKK := Lib.hid hK
        clear hK
        go_simp
        refine HKK.out _ _ ⟨trivial, fun _ h => h⟩ ?_
        clear HKK K
        refine wpV_done (by kernel_rfl) (NoPanic.normal ?_)
        go_wp2_with fail
        go_roundw
        case rel => exact ⟨i + 1, _, by omega, by go_num, (by rw [flat_append]; simpa [flat, encL] using HO8.out), HL8.out, HW8.out⟩
        case measure => simp [intOf]; omega
    · have hni : i = nb := by omega
      subst hni
      have hd : decide ((i : Int) < (i : Int)) = false := by simp
      have HKL : Hid (D.1.take i = D.1) := Lib.hid (List.take_of_length_le (by rw [HNB.out]; exact Nat.le_refl _))
      rw [HKL.out] at HLr
      have e2 := cell_later HBr.out HE1.out
      clear HB0
      go_wp2_with fail
      clear e2
      go_loopw [3, 45] (fun Vl qi wr => ∃ (k : Nat) (KK : List Lm), k ≤ nr ∧ qi = .int .i64 k ∧ wr.ownsRow w1.heap.size 103 2 Vl (i + k) (flat encL KK) ∧ LnsO wr w1.heap.size KK (D.1.map bxLn ++ (D.2.take k).map rtLn) ∧ Below w1.heap.size w1 wr) (fun _ q _ => nr - (intOf q).toNat)
      case atStart => exact ⟨0, KK, by omega, rfl, HRr.out, by simpa using HLr.out, HBr.out⟩
      case round =>
        clear HRr HLr HBr HBW hso
        obtain ⟨k, K2, hk, rfl, hRr, hLr, Br⟩ := hrel
        obtain ⟨AV, cV, rfl, hcV⟩ := own_shape hRr
        obtain ⟨wo, rfl⟩ : ∃ q : World, q = wr := ⟨_, rfl⟩
        have HRr := Lib.hid hRr
        have HLr := Lib.hid hLr
        have HBr := Lib.hid Br
        have HBW := Lib.hid (below_then HB1.out HB1.out.size Br)
        have hso := Br.size
        clear hRr hLr Br
        by_cases hkn : k < nr
        · obtain ⟨p1, o1, rfl, hc⟩ := HR0.out (by omega)
          have hlt : k < D.2.length := by rw [HNR.out]; exact hkn
          obtain ⟨VP, hMk, hVP⟩ := HP.out.at_ hlt
          have HX := Lib.hid (List.getElem?_eq_getElem hlt)
          have HTG := Lib.hid (totP_get HX.out)
          have c0 := hc k _ hMk
          have HT : Hid ((D.2.take (k + 1)).map rtLn = (D.2.take k).map rtLn ++ [rtLn (D.2[k]'hlt)]) := Lib.hid (by rw [List.take_succ_eq_append_getElem hlt, List.map_append]; rfl)
          generalize D.2[k]'hlt = rt at *
          clear hlt hMk hc
          obtain ⟨⟨f, t⟩, ps⟩ := rt
          obtain ⟨AP, cP, rfl, -, -, hpp⟩ := hVP.at_
          obtain ⟨m, hm⟩ : ∃ m, ps.length = m := ⟨_, rfl⟩
          have hmb : m ≤ 12288 := by have h : ps.length ≤ totP D.2 := HTG.out; omega
          obtain ⟨u1, u2, u3⟩ := c0
          simp only at hpp u1 u2 u3
          rw [hm] at hpp u3
          have HPP := Lib.hid hpp
          have HM := Lib.hid hm
          have d1 := cell_later HBW.out u1
          have d2 := cell_later HBW.out u2
          have d3 := cell_later HBW.out u3
          have hd : decide ((k : Int) < (nr : Int)) = true := by simp only [decide_eq_true_eq]; omega
          have hi0 : (0 : Int) ≤ (k : Int) := by omega
          have hi1 : (k : Int) < (nr : Int) := by omega
          clear u1 u2 u3 hVP hpp hm
          go_upto_region 14 with fail
          obtain ⟨wi, hwi⟩ : ∃ q, q = wo.alloc (.cells #[.int .i64 f, .int .i64 t, .slice AP m cP] 78) := ⟨_, rfl⟩
          rw [← hwi]
          have Bi : Below wo.heap.size wo wi := by rw [hwi]; exact (Below.refl _ _).alloc (Nat.le_refl _) _
          have hsi : wo.heap.size + 1 = wi.heap.size := by rw [hwi]; simp
          have HBi := Lib.hid Bi
          have HWi := Lib.hid (below_then HBW.out HBW.out.size Bi)
          have HSI := Lib.hid hsi
          have hsi2 : wo.heap.size + 1 ≤ wi.heap.size := by omega
          clear hwi Bi hsi d1 d2 d3
          go_loopw [8, 57] (fun Vn qi wr => ∃ j : Nat, j ≤ m ∧ qi = .int .i64 j ∧ wr.ownsRow wi.heap.size 3 1 Vn (2 + 2 * j) (flat encI ([f, t] ++ (ps.take j).flatMap ptL)) ∧ Below wi.heap.size wi wr) (fun _ q _ => m - (intOf q).toNat)
          case atStart => exact ⟨0, by omega, rfl, own_lit (by have := HSI.out; omega) HSI.out rfl (by decide) rfl, (Below.refl _ _).alloc (Nat.le_refl _) _⟩
          case round =>
            obtain ⟨j, hj, rfl, hRn, Bn⟩ := hrel
            obtain ⟨AN, cN, rfl, hcN⟩ := own_shape hRn
            obtain ⟨wv, rfl⟩ : ∃ q : World, q = wr := ⟨_, rfl⟩
            have HRn := Lib.hid hRn
            have HBn := Lib.hid Bn
            have HWn := Lib.hid (below_then HWi.out HWi.out.size Bn)
            have hsn := Bn.size
            clear hRn Bn
            by_cases hjm : j < m
            · obtain ⟨p3, o3, rfl, hc3⟩ := HPP.out (by omega)
              have hl3 : j < ps.length := by rw [HM.out]; exact hjm
              have HX3 := Lib.hid (List.getElem?_eq_getElem hl3)
              have c3 := hc3 j _ HX3.out
              generalize ps[j]'hl3 = pp at *
              clear hl3 hc3
              obtain ⟨px, py⟩ := pp
              have d1 := cell_later HWn.out c3.1
              have d2 := cell_later HWn.out c3.2
              have hdj : decide ((j : Int) < (m : Int)) = true := by simp only [decide_eq_true_eq]; omega
              have hj0 : (0 : Int) ≤ (j : Int) := by omega
              have hj1 : (j : Int) < (m : Int) := by omega
              clear c3
              go_wp2_with fail
              refine (pair_own (px, py)).mono ?_
              rintro e wb ⟨g, rfl, hg, Bb⟩
              have HBb := Lib.hid (below_then ((Below.refl wv.heap.size wv).alloc (Nat.le_refl _) (.cells #[.int .i64 px, .int .i64 py] 73)) (by simp) Bb)
              have hsb := HBb.out.size
              have HG := Lib.hid hg
              have HRb := Lib.hid (own_later HRn.out HBb.out)
              clear hg Bb d1 d2
              go_wp2_with (at_builtin; refine wpList_append_lies _ rfl (.tmp 61) (.tmp 63) 101 rfl wi.heap.size 3 iI (.int .i64 0) 1 8 Tryd.underlying101 hiI hzI0 hzI1 hzI2 rfl (by decide) (.slice AN (2 + 2 * j) cN) (2 + 2 * j) (flat encI ([f, t] ++ (ps.take j).flatMap ptL)) rfl HRb.out ⟨g, 0, none⟩ 2 2 (flat encI (ptL (px, py))) rfl rfl (news_own HG.out rfl) (one_ints _) (by omega) (by simp only [maxLen]; omega) (by omega) (by omega) _ rfl ?_; intro gq cq w8 hown hgrow hat hlt)
              have HW8 : Hid (Below wi.heap.size wi w8) := Lib.hid ((HBn.out.trans (HBb.out.mono hsn)).grown hgrow (by omega) (fun q hq => own_ge HRb.out hq))
              have HO8 : Hid (w8.ownsRow wi.heap.size 3 1 (.slice (some ⟨gq, 0, none⟩) (2 + 2 * j + 2) cq) (2 + 2 * (j + 1)) (flat encI ([f, t] ++ (ps.take (j + 1)).flatMap ptL))) := Lib.hid (by
                rw [show 2 + 2 * (j + 1) = 2 + 2 * j + 2 by omega, List.take_add_one, HX3.out]
                rw [← flat_append] at hown
                simpa [List.flatMap_append] using hown)
              clear hown hgrow hat hlt
              go_roundw
              case rel => exact ⟨j + 1, by omega, by go_num, HO8.out, HW8.out⟩
              case measure => simp [intOf]; omega
            · have hjj : j = m := by omega
              subst hjj
              have hdj : decide ((j : Int) < (j : Int)) = false := by simp
              have HON : Hid (wv.ownsRow wi.heap.size 3 1 (.slice AN (2 + 2 * j) cN) (rtLn ((f, t), ps)).2.length (flat encI (rtLn ((f, t), ps)).2)) := Lib.hid (by
                have h := HRn.out
                rw [List.take_of_length_le (by rw [HM.out]; exact Nat.le_refl _)] at h
                have hl : (rtLn ((f, t), ps)).2.length = 2 + 2 * j := by
                  show ([f, t] ++ ps.flatMap ptL).length = _
                  rw [List.length_append, ptL_len, HM.out]
                  rfl
                rw [hl]
                exact h)
              have HWo : Hid (Below wo.heap.size wo wv) := Lib.hid (HBi.out.trans (HBn.out.mono (by omega)))
              have HBc : Hid (Below wo.heap.size wo (wv.alloc (.cells #[.string bRoute, .slice AN (2 + 2 * j) cN] 103))) := Lib.hid (HWo.out.alloc (by have := HWo.out.size; omega) _)
              have HRc := Lib.hid (own_later HRr.out HBc.out)
              have HLc : Hid (LnsO (wv.alloc (.cells #[.string bRoute, .slice AN (2 + 2 * j) cN] 103)) w1.heap.size (K2 ++ [(bRoute, .slice AN (2 + 2 * j) cN)]) (D.1.map bxLn ++ (D.2.take (k + 1)).map rtLn)) := Lib.hid (by
                rw [HT.out, ← List.append_assoc]
                exact (HLr.out.later HBc.out).snoc rfl (own_later (row_rebase HON.out (by omega)) ((Below.refl _ _).alloc (Nat.le_refl _) _)))
              go_wp2_with (at_builtin; refine wpList_append_lies _ rfl (.tmp 66) (.tmp 69) 112 rfl w1.heap.size 103 iL (.agg #[.string ByteArray.empty, .slice none 0 0]) 2 40 Tryd.underlying112 hiL hzL0 hzL1 hzL2 rfl (by decide) (.slice AV (i + k) cV) (i + k) (flat encL K2) rfl HRc.out ⟨wv.heap.size, 0, none⟩ 1 1 [.string bRoute, .slice AN (2 + 2 * j) cN] rfl rfl (World.news_of_block (heap_at rfl)) (by intro y hy; simp at hy; rcases hy with rfl | rfl <;> rfl) (by omega) (by simp only [maxLen]; omega) (by omega) (by simp; omega) _ rfl ?_; intro gq cq w8 hown hgrow hat hlt)
              have HW8 : Hid (Below w1.heap.size w1 w8) := Lib.hid ((HBr.out.trans (HBc.out.mono hso)).grown hgrow (by simp; omega) (fun q hq => own_ge HRc.out hq))
              have HL8 := Lib.hid (HLc.out.other hgrow (fun b e => by obtain ⟨cur, hcur⟩ := own_typ HRc.out e; exact ⟨cur, _, hcur, by decide⟩))
              go_roundw
              case rel => exact ⟨k + 1, _, by omega, by go_num, (by rw [flat_append, ← Nat.add_assoc]; simpa [flat, encL] using hown), HL8.out, HW8.out⟩
              case measure => simp [intOf]; omega
        · have hkk : k = nr := by omega
          subst hkk
          have hd2 : decide ((k : Int) < (k : Int)) = false := by simp
          go_wp2_with fail
          go_ret
          have hLf := HLr.out
          have hRf := HRr.out
          rw [List.take_of_length_le (by rw [HNR.out]; exact Nat.le_refl _)] at hLf
          rw [← HLL.out] at hRf ⊢
          rw [HS1.out] at hLf hRf
          exact ⟨AV, cV, K2, rfl, hRf, hLf, HBW.out⟩
end Go.Proofs.YtkpgjgmlhcipeaaDoor
