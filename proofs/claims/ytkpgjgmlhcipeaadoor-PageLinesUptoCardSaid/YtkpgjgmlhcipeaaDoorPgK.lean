/- page.Print: the text of a drawing. -/
import Derived.Test.YtkpgjgmlhcipeaaDoorPgJ
import Derived.Test.YtkpgjgmlhcipeaaDoorPgW
import Derived.Test.YtkpgjgmlhcipeaaDoorLexW
import Derived.Test.YtkpgjgmlhcipeaaDoorPgN
import Derived.Test.YtkpgjgmlhcipeaaDoorLexD
namespace Go.Proofs.YtkpgjgmlhcipeaaDoor
open Go.RowKit
theorem bld_later {w w' : World} {B b : Nat} {bs : List Value} (h : Lib.IsBuilderF 92 5 B b bs w) (k : Below w.heap.size w w') : Lib.IsBuilderF 92 5 B b bs w' := by
  have hg : w.grownBy w' none := ⟨k.os, k.tape, k.output, k.size, fun q hq _ => k.block q hq⟩
  have one : ∀ p, Lib.BuilderAtF 92 5 B b p bs w → Lib.BuilderAtF 92 5 B b p bs w' := by
    rintro p ⟨hB, v, hb, hown, hne⟩
    exact ⟨hB, v, (k.block b (Array.getElem?_eq_some_iff.1 hb).1).trans hb, hown.kept hg (by cases hv : v.ownBlock with | none => exact .inl rfl | some q => exact .inr (by simp)), hne⟩
  exact h.elim (fun h => .inl (one _ h)) (fun h => .inr (one _ h))
theorem own_kept {w w' : World} {base E sz k b : Nat} {V : Value} {xs : List Value} (h : w.ownsRow base E sz V k xs) (o : Lib.OthersKept 5 (some b) w w') (hE : E ≠ 5) (hb : b < base) : w'.ownsRow base E sz V k xs :=
  row_typ h (fun q cur hq e => (o q _ hq (fun e2 => by injection e2 with e2; have := own_ge h e; omega) (fun c fz e3 => by injection e3 with e4 e5; exact hE e5)).trans hq.symm)
theorem LnsO.kept {w w' : World} {base b : Nat} {K : List Lm} {xs : List Ln} (h : LnsO w base K xs) (o : Lib.OthersKept 5 (some b) w w') (hb : b < base) : LnsO w' base K xs :=
  ⟨h.1, fun i m x hm hx => ⟨(h.2 i m x hm hx).1, own_kept (h.2 i m x hm hx).2 o (by decide) hb⟩⟩
theorem ok_below {b : Option Nat} {a w w' : World} (h : Lib.OthersKept 5 b a w) (B : Below w.heap.size w w') : Lib.OthersKept 5 b a w' := fun k o hk hb ho => by
  have h1 := h k o hk hb ho
  exact (B.block k (Array.getElem?_eq_some_iff.1 h1).1).trans h1
abbrev Bld (b : Nat) (l : List UInt8) (w : World) : Prop := Lib.IsBuilderF 92 5 b b (Lib.byteCells l) w
theorem write_any {w : World} {b : Nat} {l : List UInt8} (s : ByteArray) (h : Bld b l w) (hl : l.length + s.size ≤ 140737488355328) (hb : b ≤ w.heap.size) :
    Calls Tryd.prog 47 #[.pointer (some ⟨b, 0, none⟩), .string s] w fun e w' => e = .returned (.tuple #[.int .i64 s.size, .nilIface]) ∧ Bld b (l ++ s.data.toList) w' ∧ Below b w w' ∧ Lib.OthersKept 5 (some b) w w' := by
  refine (Tryd.Builder_WriteString_k b b (Lib.byteCells l) s w h (by rw [Lib.byteCells_length]; exact hl) hb).mono ?_
  rintro e w' ⟨rfl, h1, h2, h3⟩
  refine ⟨rfl, .inr ?_, h2, h3⟩
  rw [Lib.byteCells_append, ← Lib.strCells_eq]
  exact h1
theorem numB_data (n : Int) : (⟨#[32]⟩ ++ toB (Lib.itoa n) : ByteArray).data.toList = numB n := by
  rw [cat_data, data_toB]; rfl
theorem numB_len {n : Int} (h : 0 ≤ n ∧ n ≤ 1000000) : (numB n).length ≤ 8 := by
  have h1 := itoa_numO n 1000000 (by omega)
  rw [if_pos h] at h1
  have := (numO_some h1).1.2.1
  unfold numB
  simp; omega
theorem right_len {x : Ln} (h : rightW x.1 x.2.length = true) : x.1.size ≤ 5 := by
  rcases rightW_word h with h | h | h <;> rw [h] <;> decide
theorem ln_len {D : Dr} (hm : manyD D = false) {x : Ln} (h : x ∈ lnsP D) : x.2.length ≤ 25000 := by
  obtain ⟨m1, m2, m3⟩ := manyD_bd hm
  unfold lnsP at h
  rcases List.mem_append.1 h with h | h
  · obtain ⟨b, -, rfl⟩ := List.mem_map.1 h
    unfold bxLn
    split <;> simp [ptL]
  · obtain ⟨r, hr, rfl⟩ := List.mem_map.1 h
    obtain ⟨i, hi⟩ := List.getElem?_of_mem hr
    have := totP_get hi
    show ([r.1.1, r.1.2] ++ r.2.flatMap ptL).length ≤ _
    rw [List.length_append, ptL_len]
    simp; omega
theorem all_bad {xs : List Ln} {x : Ln} {n : Int} (h : x ∈ xs) (hn : n ∈ x.2) (hb : okN n = false) : xs.all okL = false := by
  rw [List.all_eq_false]
  refine ⟨x, h, ?_⟩
  unfold okL
  rw [Bool.not_eq_true, List.all_eq_false]
  exact ⟨n, hn, by simp [hb]⟩
theorem all_take {α : Type} {f : α → Bool} {xs : List α} {i : Nat} {x : α} (h : (xs.take i).all f = true) (hx : xs[i]? = some x) (hf : f x = true) : (xs.take (i + 1)).all f = true := by
  rw [List.take_add_one, hx, List.all_append, h]
  simp [hf]
set_option maxRecDepth 100000 in
set_option maxHeartbeats 4000000 in
theorem print_any {w : World} {B R : Value} {D : Dr} (h : Drw w B R D) (hb : D.1.length ≤ 1000000000) (hr : D.2.length ≤ 1000000000) (ht : totP D.2 ≤ 1000000000) (hT : Tab w) :
    Calls Tryd.prog 32 #[.agg #[B, R]] w fun e w' => e = .returned (.tuple #[.string (toB (printP D).1), .int .i64 (printP D).2]) ∧ Below w.heap.size w w' := by
  obtain ⟨AB, cB, hB, -, -, -⟩ := h.1.at_
  obtain ⟨M, hR, hP⟩ := h.2
  obtain ⟨AR, cR, hRe, -, -, -⟩ := hR.at_
  rw [hP.1] at hRe
  subst hB hRe
  clear hR hP M
  have HDw := Lib.hid h
  have HTw := Lib.hid hT
  clear h hT
  obtain ⟨pr, hpr⟩ : ∃ pr, printP D = pr := ⟨_, rfl⟩
  obtain ⟨tx, er⟩ := pr
  rw [hpr]
  have HPR := Lib.hid hpr
  obtain ⟨TX, hTX⟩ : ∃ TX, toB tx = TX := ⟨_, rfl⟩
  simp only [hTX]
  have HTX := Lib.hid hTX
  clear hpr hTX
  go_enter Tryd.func32, Tryd.ntmps32
  go_wp2_with fail
  obtain ⟨w0, hw0⟩ : ∃ w0, w.alloc (.cells #[.slice AB D.1.length cB, .slice AR D.2.length cR] 45) = w0 := ⟨_, rfl⟩
  obtain ⟨B0, e0, e1⟩ := box_two hw0
  rw [hw0]
  have HB0 := Lib.hid B0
  have HE0 := Lib.hid (And.intro e0 e1)
  have HD0 := Lib.hid (HDw.out.later B0)
  have HT0 := Lib.hid (tab_later HTw.out B0)
  clear hw0 B0 e0 e1 HDw HTw
  refine (many_any HD0.out hb hr ht).mono ?_
  obtain ⟨mm, hmm⟩ : ∃ mm, manyD D = mm := ⟨_, rfl⟩
  rw [hmm]
  have HMM := Lib.hid hmm
  clear hmm
  rintro e wz ⟨rfl, Bz⟩
  have HBz := Lib.hid (below_then HB0.out HB0.out.size Bz)
  have HDz := Lib.hid (HD0.out.later Bz)
  have HTz := Lib.hid (tab_later HT0.out Bz)
  have HEz := Lib.hid (And.intro (cell_later Bz HE0.out.1) (cell_later Bz HE0.out.2))
  clear Bz HD0 HT0 HE0 HB0
  cases mm with
  | true =>
    have HP : Hid (tx = [] ∧ er = 6) := Lib.hid (by
      have := HPR.out
      unfold printP at this
      rw [if_pos HMM.out] at this
      cases this
      exact ⟨rfl, rfl⟩)
    obtain ⟨rfl, rfl⟩ := HP.out
    have hTX : TX = ByteArray.empty := HTX.out.symm
    subst hTX
    go_wp2_with fail
    go_ret2
    exact ⟨rfl, HBz.out⟩
  | false =>
    go_wp2_with fail
    have HB1 : Hid (Below wz.heap.size wz (wz.alloc (.cells #[.pointer none, .slice none 0 0] 92))) := Lib.hid ((Below.refl _ _).alloc (Nat.le_refl _) _)
    refine (write_any (b := wz.heap.size) (l := []) ⟨#[100, 114, 97, 119, 105, 110, 103, 10]⟩ (Lib.IsBuilderF.of (Lib.fresh_isBuilder _ _ _)) (by decide) (by simp)).mono ?_
    rintro e w1 ⟨rfl, hbl, B1, O1⟩
    have HBL := Lib.hid hbl
    have HW1 := Lib.hid (HB1.out.trans B1)
    have HD1 := Lib.hid (HDz.out.later HW1.out)
    have HE1 := Lib.hid (And.intro (cell_later HW1.out HEz.out.1) (cell_later HW1.out HEz.out.2))
    have hs1 : wz.heap.size + 1 ≤ w1.heap.size := by have := B1.size; simp at this; omega
    clear hbl B1 O1 HB1
    obtain ⟨v0, v1⟩ := HE1.out
    go_wp2_with fail
    refine (lines_any HD1.out HMM.out).mono ?_
    rintro e w2 ⟨A2, c2, KK, rfl, hrow, hlns, B2⟩
    obtain ⟨xs, hxs⟩ : ∃ xs, lnsP D = xs := ⟨_, rfl⟩
    have HXL : Hid (∀ x ∈ xs, x.2.length ≤ 25000 ∧ x.1.size ≤ 5) := Lib.hid (by
      intro x hx
      rw [← hxs] at hx
      exact ⟨ln_len HMM.out hx, right_len (right_lns hx)⟩)
    have HPR2 : Hid ((tx, er) = if xs.all okL = true then (bDrawing.data.toList ++ [10] ++ xs.flatMap lineB ++ (bEnd.data.toList ++ [10]), 0) else ([], 2)) := Lib.hid (by
      rw [← HPR.out]
      unfold printP textP
      rw [if_neg (by rw [HMM.out]; decide), hxs])
    obtain ⟨n, hn⟩ : ∃ n, xs.length = n := ⟨_, rfl⟩
    have hnl : n ≤ 8192 := by
      rw [← hn, ← hxs]
      obtain ⟨m1, m2, -⟩ := manyD_bd HMM.out
      unfold lnsP
      simp; omega
    rw [hxs, hn] at hrow
    rw [hxs] at hlns
    rw [hxs, hn]
    have HROW := Lib.hid hrow
    have HLNS := Lib.hid hlns
    have HN := Lib.hid hn
    have HBL2 := Lib.hid (bld_later HBL.out B2)
    have HW2 := Lib.hid (below_then HW1.out HW1.out.size B2)
    have hs2 := B2.size
    clear hrow hlns hn hxs B2 HBL HD1 HE1 v0 v1 HEz HDz HPR
    go_wp2_with fail
    go_loopw [15] (fun qi wr => ∃ (i : Nat) (l : List UInt8), i ≤ n ∧ qi = .int .i64 i ∧ Hid (l = bDrawing.data.toList ++ [10] ++ (xs.take i).flatMap lineB) ∧ l.length ≤ 8 + 300000 * i ∧ Hid ((xs.take i).all okL = true) ∧ Bld wz.heap.size l wr ∧ Lib.OthersKept 5 (some wz.heap.size) w2 wr ∧ Below wz.heap.size wz wr ∧ w2.heap.size ≤ wr.heap.size) (fun q _ => n - (intOf q).toNat)
    case atStart => exact ⟨0, _, by omega, rfl, Lib.hid rfl, (by simp [bDrawing]), Lib.hid rfl, HBL2.out, Lib.OthersKept.refl _ _ _, HW2.out, Nat.le_refl _⟩
    case round =>
      obtain ⟨i, l, hi, rfl, HL, hll, HOKI, hbl, hok, Br, hsr⟩ := hrel
      obtain ⟨wo, rfl⟩ : ∃ q : World, q = wr := ⟨_, rfl⟩
      have HBL := Lib.hid hbl
      have HOK := Lib.hid hok
      have HBr := Lib.hid Br
      have HRo := Lib.hid (own_kept HROW.out hok (by decide) (by omega))
      clear hbl hok Br
      by_cases hin : i < n
      · have hlt : i < xs.length := by rw [HN.out]; exact hin
        have HX := Lib.hid (List.getElem?_eq_getElem hlt)
        have hxl := HXL.out _ (List.getElem_mem hlt)
        have HXM := Lib.hid (List.getElem_mem hlt)
        obtain ⟨VN, hKi, hVN⟩ := (HLNS.out.kept HOK.out (by omega)).at_ hlt
        have HT : Hid ((xs.take (i + 1)).flatMap lineB = (xs.take i).flatMap lineB ++ lineB (xs[i]'hlt)) := Lib.hid (by rw [List.take_succ_eq_append_getElem hlt, List.flatMap_append]; simp)
        generalize xs[i]'hlt = x at *
        clear hlt
        have HNI : Hid (∀ wq, Lib.OthersKept 5 (some wz.heap.size) w2 wq → Ints wq VN x.2) := Lib.hid (fun wq o => by
          have h := HLNS.out.2 i _ _ hKi HX.out
          exact Sl.of_own encI_length (own_kept h.2 o (by decide) (by omega)))
        obtain ⟨AN, cN, hVN2, -, -, -⟩ := hVN.at_
        subst hVN2
        obtain ⟨wd, ns⟩ := x
        obtain ⟨m, hm⟩ : ∃ m, ns.length = m := ⟨_, rfl⟩
        simp only at hxl hKi
        have hxl1 := hxl.1
        have hxl2 := hxl.2
        rw [hm] at hxl1 hKi
        clear hxl
        have hRs : Sl 2 encL wo (.slice A2 n c2) KK := by
          have h := HRo.out
          have hkl : KK.length = n := by rw [HLNS.out.1, HN.out]
          rw [← hkl] at h ⊢
          exact Sl.of_own encL_length h
        obtain ⟨A', cap', e, -, -, hcells⟩ := hRs
        have hkl : KK.length = n := by rw [HLNS.out.1, HN.out]
        rw [hkl] at e hcells
        obtain ⟨b2, o2, hA', hcl⟩ := hcells (by omega)
        injection e with e1 e2 e3
        rw [hA'] at e1
        subst e1
        clear hA' e2 e3 hkl hcells
        have c0 := hcl i _ hKi 0 _ rfl
        have c1 := hcl i _ hKi 1 _ rfl
        rw [Nat.add_zero] at c0
        have HM := Lib.hid hm
        have hd : decide ((i : Int) < (n : Int)) = true := by simp only [decide_eq_true_eq]; omega
        have hi0 : (0 : Int) ≤ (i : Int) := by omega
        have hi1 : (i : Int) < (n : Int) := by omega
        clear hKi hcl hVN hm
        go_wp2_with fail
        have HBO : Hid (Below wo.heap.size wo (wo.alloc (.cells #[.string wd, .slice AN m cN] 103))) := Lib.hid ((Below.refl _ _).alloc (Nat.le_refl _) _)
        refine (write_any (b := wz.heap.size) (l := l) wd (bld_later HBL.out HBO.out) (by omega) (by have := HBr.out.size; simp; omega)).mono ?_
        rintro e w3 ⟨rfl, hbl, B3, O3⟩
        have hG3 := O3 wo.heap.size _ (heap_at rfl) (fun e => by injection e with e; omega) (fun c fz e => by injection e with e1 e2; revert e2; decide)
        have l1 := (Cl.of_block hG3 (j := 1) rfl).cell
        have HB3 := Lib.hid (HBr.out.trans ((HBO.out.mono (by have := HBr.out.size; omega)).trans B3))
        have HO3 := Lib.hid ((HOK.out.alloc _).trans O3)
        have hs3 : w2.heap.size ≤ w3.heap.size := by have := B3.size; simp at this; omega
        have HBL3 := Lib.hid hbl
        clear hbl B3 O3 hG3 c0 c1
        go_wp2_with fail
        clear l1
        go_loopw [25] (fun qi wr => ∃ (j : Nat) (l2 : List UInt8), j ≤ m ∧ qi = .int .i64 j ∧ Hid (l2 = l ++ wd.data.toList ++ (ns.take j).flatMap numB) ∧ l2.length ≤ l.length + 5 + 8 * j ∧ Hid ((ns.take j).all okN = true) ∧ Bld wz.heap.size l2 wr ∧ Lib.OthersKept 5 (some wz.heap.size) w2 wr ∧ Below wz.heap.size wz wr ∧ w2.heap.size ≤ wr.heap.size) (fun q _ => m - (intOf q).toNat)
        case atStart => exact ⟨0, _, by omega, rfl, Lib.hid (by simp), (by rw [List.length_append, ← Lib.size_eq]; omega), Lib.hid rfl, HBL3.out, HO3.out, HB3.out, hs3⟩
        case round =>
          obtain ⟨j, l2, hj, rfl, HL2, hl2, HOJ, hbl, hok, Br, hsr⟩ := hrel
          obtain ⟨wv, rfl⟩ : ∃ q : World, q = wr := ⟨_, rfl⟩
          have HBLv := Lib.hid hbl
          have HOKv := Lib.hid hok
          have HBv := Lib.hid Br
          clear hbl hok Br
          by_cases hjm : j < m
          · have hl3 : j < ns.length := by rw [HM.out]; exact hjm
            have HY := Lib.hid (List.getElem?_eq_getElem hl3)
            have HYM := Lib.hid (List.getElem_mem hl3)
            generalize ns[j]'hl3 = v at *
            obtain ⟨A', c', e, -, -, hc⟩ := (HNI.out wv HOKv.out).at_
            obtain ⟨b3, o3, hA3, hc3⟩ := hc (by show 0 < ns.length; omega)
            injection e with e1 e2 e3
            rw [hA3] at e1
            subst e1
            have cv := hc3 j _ HY.out
            have hdj : decide ((j : Int) < (m : Int)) = true := by simp only [decide_eq_true_eq]; omega
            have hj0 : (0 : Int) ≤ (j : Int) := by omega
            have hj1 : (j : Int) < (m : Int) := by omega
            clear hc hc3 hA3 e2 e3 hl3
            by_cases hv0 : v < 0
            · have hdv : decide (v < 0) = true := by simpa using hv0
              have HP : Hid (tx = [] ∧ er = 2) := Lib.hid (by
                have := HPR2.out
                rw [if_neg (by rw [all_bad HXM.out HYM.out (by unfold okN; simp; omega)]; decide)] at this
                cases this
                exact ⟨rfl, rfl⟩)
              obtain ⟨rfl, rfl⟩ := HP.out
              have hTX : TX = ByteArray.empty := HTX.out.symm
              subst hTX
              go_wp2_with fail
              go_ret2
              exact ⟨rfl, HBz.out.trans (HBv.out.mono HBz.out.size)⟩
            · have hdv : decide (v < 0) = false := by simpa using hv0
              by_cases hv1 : 1000000 < v
              · have hdw : decide (1000000 < v) = true := by simpa using hv1
                have HP : Hid (tx = [] ∧ er = 2) := Lib.hid (by
                  have := HPR2.out
                  rw [if_neg (by rw [all_bad HXM.out HYM.out (by unfold okN; simp; omega)]; decide)] at this
                  cases this
                  exact ⟨rfl, rfl⟩)
                obtain ⟨rfl, rfl⟩ := HP.out
                have hTX : TX = ByteArray.empty := HTX.out.symm
                subst hTX
                go_wp2_with fail
                go_ret2
                exact ⟨rfl, HBz.out.trans (HBv.out.mono HBz.out.size)⟩
              · have hdw : decide (1000000 < v) = false := by simpa using hv1
                have hvl := numB_len (n := v) (by omega)
                have HVO : Hid (okN v = true) := Lib.hid (by unfold okN; simp; omega)
                go_wp2_with fail
                refine (digits_any v (by omega) (by omega) (tab_later HTz.out HBv.out)).mono ?_
                obtain ⟨DG, hDG⟩ : ∃ DG, toB (Lib.itoa v) = DG := ⟨_, rfl⟩
                have HND : Hid ((⟨#[32]⟩ ++ DG : ByteArray).data.toList = numB v) := Lib.hid (by rw [← hDG]; exact numB_data v)
                have hdl : DG.size ≤ 7 := by
                  have h := congrArg List.length HND.out
                  rw [cat_data, List.length_append, ← Lib.size_eq DG] at h
                  simp at h
                  omega
                rw [hDG]
                clear hDG
                obtain ⟨S, hS⟩ : ∃ S, (⟨#[32]⟩ ++ DG : ByteArray) = S := ⟨_, rfl⟩
                rw [hS] at HND
                have hcat : ¬9223372036854775807 < 1 + DG.size := by omega
                rintro e w4 ⟨rfl, B4⟩
                have HB4 := Lib.hid (HBv.out.trans (B4.mono HBv.out.size))
                have HO4 := Lib.hid (ok_below HOKv.out B4)
                have HBL4 := Lib.hid (bld_later HBLv.out B4)
                have hs4 := B4.size
                have hSs : S.size ≤ 8 := by rw [Lib.size_eq, HND.out]; exact hvl
                clear B4
                go_wp2_with fail
                clear hS hcat
                refine (write_any (b := wz.heap.size) (l := l2) S HBL4.out (by omega) (by have := HBv.out.size; omega)).mono ?_
                rintro e w5 ⟨rfl, hbl, B5, O5⟩
                have HB5 := Lib.hid (HB4.out.trans B5)
                have HO5 := Lib.hid (HO4.out.trans O5)
                have hs5 : w2.heap.size ≤ w5.heap.size := by have := B5.size; omega
                have HBL5 := Lib.hid hbl
                have HJ := Lib.hid (all_take HOJ.out HY.out HVO.out)
                have HLJ : Hid (l2 ++ S.data.toList = l ++ wd.data.toList ++ (ns.take (j + 1)).flatMap numB) := Lib.hid (by
                  rw [HL2.out, HND.out, List.take_add_one, HY.out]
                  simp [List.flatMap_append])
                have hlj : (l2 ++ S.data.toList).length ≤ l.length + 5 + 8 * (j + 1) := by rw [List.length_append, ← Lib.size_eq]; omega
                clear hbl B5 O5
                go_wp2_with fail
                go_roundw
                case rel => exact ⟨j + 1, _, by omega, by go_num, HLJ, hlj, HJ, HBL5.out, HO5.out, HB5.out, hs5⟩
                case measure => simp [intOf]; omega
          · have hjj : j = m := by omega
            subst hjj
            have hdj : decide ((j : Int) < (j : Int)) = false := by simp
            go_wp2_with fail
            refine (write_any (b := wz.heap.size) (l := l2) ⟨#[10]⟩ HBLv.out (by show l2.length + 1 ≤ _; omega) (by have := HBv.out.size; omega)).mono ?_
            rintro e w5 ⟨rfl, hbl, B5, O5⟩
            have HB5 := Lib.hid (HBv.out.trans B5)
            have HO5 := Lib.hid (HOKv.out.trans O5)
            have hs5 : w2.heap.size ≤ w5.heap.size := by have := B5.size; omega
            have HBL5 := Lib.hid hbl
            have hnj : ns.take j = ns := List.take_of_length_le (by rw [HM.out]; exact Nat.le_refl _)
            have HI : Hid ((xs.take (i + 1)).all okL = true) := Lib.hid (all_take HOKI.out HX.out (by
              have h := HOJ.out
              rw [hnj] at h
              exact h))
            have HLI : Hid (l2 ++ (⟨#[10]⟩ : ByteArray).data.toList = bDrawing.data.toList ++ [10] ++ (xs.take (i + 1)).flatMap lineB) := Lib.hid (by
              rw [HL2.out, HT.out, ← List.append_assoc, ← HL.out, hnj]
              unfold lineB
              simp)
            have hli : (l2 ++ (⟨#[10]⟩ : ByteArray).data.toList).length ≤ 8 + 300000 * (i + 1) := by rw [List.length_append]; show l2.length + 1 ≤ _; omega
            clear hbl B5 O5 hnj
            go_wp2_with fail
            go_roundw
            case rel => exact ⟨i + 1, _, by omega, by go_num, HLI, hli, HI, HBL5.out, HO5.out, HB5.out, hs5⟩
            case measure => simp [intOf]; omega
      · have hni : i = n := by omega
        subst hni
        have hd : decide ((i : Int) < (i : Int)) = false := by simp
        go_wp2_with fail
        refine (Tryd.Builder_String_any_k wz.heap.size wz.heap.size l wo HBL.out (by have := HBr.out.size; omega)).mono ?_
        obtain ⟨Y, hY⟩ : ∃ Y : ByteArray, ⟨l.toArray⟩ = Y := ⟨_, rfl⟩
        have HYD : Hid (Y.data.toList = l) := Lib.hid (by rw [← hY])
        rw [hY]
        clear hY
        rintro e w6 ⟨rfl, -, B6, -⟩
        have hys : Y.size ≤ 8 + 300000 * i := by rw [Lib.size_eq, HYD.out]; omega
        have HB6 := Lib.hid (HBz.out.trans ((HBr.out.trans B6).mono HBz.out.size))
        have hcat : ¬9223372036854775807 < Y.size + 4 := by omega
        obtain ⟨Z, hZ⟩ : ∃ Z, (Y ++ ⟨#[101, 110, 100, 10]⟩ : ByteArray) = Z := ⟨_, rfl⟩
        have HP : Hid (TX = Z ∧ er = 0) := Lib.hid (by
          have h := HPR2.out
          have ho := HOKI.out
          rw [List.take_of_length_le (by rw [HN.out]; exact Nat.le_refl _)] at ho
          rw [if_pos ho] at h
          cases h
          refine ⟨?_, rfl⟩
          rw [← HTX.out]
          refine (to_toB ?_).symm
          rw [← hZ, cat_data, HYD.out, HL.out, List.take_of_length_le (by rw [HN.out]; exact Nat.le_refl _)]
          rfl)
        obtain ⟨rfl, rfl⟩ := HP.out
        clear B6
        go_wp2_with fail
        go_ret2
        exact ⟨rfl, HB6.out⟩
end Go.Proofs.YtkpgjgmlhcipeaaDoor
