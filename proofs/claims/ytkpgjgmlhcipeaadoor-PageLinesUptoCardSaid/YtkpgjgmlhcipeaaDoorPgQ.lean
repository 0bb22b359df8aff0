/- muntinref28.Print: the text of a drawing, the document's way. -/
import Derived.Test.YtkpgjgmlhcipeaaDoorPgK
namespace Go.Proofs.YtkpgjgmlhcipeaaDoor
open Go.RowKit
def I64 (n : Int) : Prop := -9223372036854775808 ≤ n ∧ n ≤ 9223372036854775807
theorem itoa_len {n : Int} (h : I64 n) : (Lib.itoa n).length ≤ 21 := by
  have hd : ∀ u : Nat, u ≤ 9223372036854775808 → (Lib.decDigits u).length ≤ 20 := fun u hu => dig_len 19 u (by omega)
  unfold Lib.itoa
  obtain ⟨h1, h2⟩ := h
  split
  · have := hd n.natAbs (by omega)
    simp; omega
  · have := hd n.toNat (by omega)
    omega
theorem number_any {w : World} (n : Int) (h : I64 n) :
    Calls Tryd.prog 61 #[.int .i64 n] w fun e w' => ∃ S : ByteArray, e = .returned (.string S) ∧ S.data.toList = numB n ∧ S.size ≤ 22 ∧ Below w.heap.size w w' := by
  go_enter Tryd.func61, Tryd.ntmps61
  go_wp2_with fail
  refine (refDigits_any n h.1 h.2).mono ?_
  obtain ⟨DG, hDG⟩ : ∃ DG, toB (Lib.itoa n) = DG := ⟨_, rfl⟩
  have hdl : DG.size ≤ 21 := by rw [← hDG, Lib.size_eq, data_toB]; exact itoa_len h
  have HND : Hid ((⟨#[32]⟩ ++ DG : ByteArray).data.toList = numB n) := Lib.hid (by rw [← hDG]; exact numB_data n)
  rw [hDG]
  clear hDG
  rintro e w1 ⟨rfl, B1⟩
  have HB := Lib.hid B1
  have hcat : ¬9223372036854775807 < 1 + DG.size := by omega
  obtain ⟨S, hS⟩ : ∃ S, (⟨#[32]⟩ ++ DG : ByteArray) = S := ⟨_, rfl⟩
  have hSs : S.size ≤ 22 := by
    have h : S.size = 1 + DG.size := by rw [← hS, ByteArray.size_append]; rfl
    omega
  rw [hS] at HND
  clear B1
  go_wp2_with fail
  go_ret
  exact ⟨S, rfl, HND.out, hSs, HB.out⟩
theorem okN_eq (n : Int) : (decide (0 ≤ n) && decide (n ≤ 1000000)) = okN n := rfl
theorem rpair_any {w : World} (p : Pt) (h1 : I64 p.1) (h2 : I64 p.2) :
    Calls Tryd.prog 59 #[.agg #[.int .i64 p.1, .int .i64 p.2]] w fun e w' => ∃ S : ByteArray, e = .returned (.tuple #[.string S, .bool (okN p.1 && okN p.2)]) ∧ S.data.toList = numB p.1 ++ numB p.2 ∧ S.size ≤ 44 ∧ Below w.heap.size w w' := by
  obtain ⟨x, y⟩ := p
  simp only at h1 h2 ⊢
  have H1 := Lib.hid h1
  have H2 := Lib.hid h2
  clear h1 h2
  go_enter Tryd.func59, Tryd.ntmps59
  go_wp2_with fail
  obtain ⟨w0, hw0⟩ : ∃ w0, w.alloc (.cells #[.int .i64 x, .int .i64 y] 73) = w0 := ⟨_, rfl⟩
  obtain ⟨B0, e0, e1⟩ := box_two hw0
  rw [hw0]
  have HB0 := Lib.hid B0
  have HE0 := Lib.hid (And.intro e0 e1)
  clear hw0 B0 e0 e1
  refine (rin_any x).mono ?_
  rw [okN_eq]
  obtain ⟨a, ha⟩ : ∃ a, okN x = a := ⟨_, rfl⟩
  rw [ha]
  rintro e w1 ⟨rfl, B1⟩
  have HB1 := Lib.hid (below_then HB0.out HB0.out.size B1)
  have HE1 := Lib.hid (And.intro (cell_later B1 HE0.out.1) (cell_later B1 HE0.out.2))
  clear B1 HB0 HE0
  obtain ⟨c0, c1⟩ := HE1.out
  go_wp2_with fail
  clear c0 c1
  refine (rin_any y).mono ?_
  rw [okN_eq]
  obtain ⟨b, hb⟩ : ∃ b, okN y = b := ⟨_, rfl⟩
  rw [hb]
  rintro e w2 ⟨rfl, B2⟩
  have HB2 := Lib.hid (below_then HB1.out HB1.out.size B2)
  have HE2 := Lib.hid (And.intro (cell_later B2 HE1.out.1) (cell_later B2 HE1.out.2))
  clear B2 HB1 HE1
  obtain ⟨c0, c1⟩ := HE2.out
  go_wp2_with fail
  clear c0 c1
  refine (number_any x H1.out).mono ?_
  rintro e w3 ⟨S1, rfl, hd1, hs1, B3⟩
  have HB3 := Lib.hid (below_then HB2.out HB2.out.size B3)
  have HE3 := Lib.hid (And.intro (cell_later B3 HE2.out.1) (cell_later B3 HE2.out.2))
  have HD1 := Lib.hid hd1
  clear B3 HB2 HE2 hd1
  obtain ⟨c0, c1⟩ := HE3.out
  go_wp2_with fail
  clear c0 c1
  refine (number_any y H2.out).mono ?_
  rintro e w4 ⟨S2, rfl, hd2, hs2, B4⟩
  have HB4 := Lib.hid (below_then HB3.out HB3.out.size B4)
  have hcat : ¬9223372036854775807 < S1.size + S2.size := by omega
  obtain ⟨S, hS⟩ : ∃ S, (S1 ++ S2 : ByteArray) = S := ⟨_, rfl⟩
  have HSD : Hid (S.data.toList = numB x ++ numB y) := Lib.hid (by rw [← hS, cat_data, HD1.out, hd2])
  have hSs : S.size ≤ 44 := by rw [← hS, ByteArray.size_append]; omega
  clear B4 HB3 HE3 hd2
  cases a with
  | true =>
    go_wp2_with fail
    go_ret2
    exact ⟨S, by rw [ha, hb]; rfl, HSD.out, hSs, HB4.out⟩
  | false =>
    go_wp2_with fail
    go_ret2
    exact ⟨S, by rw [ha, hb]; rfl, HSD.out, hSs, HB4.out⟩
theorem bx_ok (b : Bx) : (okN b.1.1 && okN b.1.2 && (okN b.2.1 && okN b.2.2)) = okL (bxLn b) := by
  obtain ⟨⟨x, y⟩, u, v⟩ := b
  unfold bxLn
  by_cases h : (x, y) = (u, v)
  · cases h
    rw [if_pos rfl]
    simp [okL, ptL]
  · rw [if_neg h]
    simp [okL, ptL, Bool.and_assoc]
set_option maxRecDepth 100000 in
set_option maxHeartbeats 4000000 in
theorem refPrint_any {w : World} {B R : Value} {D : Dr} (h : Drw w B R D) (hb : D.1.length ≤ 100000) (hr : D.2.length ≤ 100000) (ht : totP D.2 ≤ 100000) (hI : ∀ x ∈ lnsP D, ∀ n ∈ x.2, I64 n) :
    Calls Tryd.prog 33 #[.agg #[B, R]] w fun e w' => e = .returned (.tuple #[.string (toB (printP D).1), .int .i64 (printP D).2]) ∧ Below w.heap.size w w' := by
  obtain ⟨AB, cB, hB, -, -, hb1⟩ := h.1.at_
  obtain ⟨M, hR, hP⟩ := h.2
  obtain ⟨AR, cR, hRe, -, -, hr1⟩ := hR.at_
  rw [hP.1] at hRe hr1
  subst hB hRe
  have HDw := Lib.hid h
  have HB1 := Lib.hid hb1
  have HR1 := Lib.hid hr1
  have HP := Lib.hid hP
  have HI := Lib.hid hI
  clear h hR hP hb1 hr1 hI
  obtain ⟨pr, hpr⟩ : ∃ pr, printP D = pr := ⟨_, rfl⟩
  obtain ⟨tx, er⟩ := pr
  rw [hpr]
  have HPR := Lib.hid hpr
  obtain ⟨TX, hTX⟩ : ∃ TX, toB tx = TX := ⟨_, rfl⟩
  simp only [hTX]
  have HTX := Lib.hid hTX
  clear hpr hTX
  obtain ⟨nb, hnb⟩ : ∃ n, D.1.length = n := ⟨_, rfl⟩
  obtain ⟨nr, hnr⟩ : ∃ n, D.2.length = n := ⟨_, rfl⟩
  rw [hnb] at HB1 hb HDw ⊢
  rw [hnr] at HR1 hr HDw ⊢
  have HNB := Lib.hid hnb
  have HNR := Lib.hid hnr
  clear hnb hnr
  go_enter Tryd.func33, Tryd.ntmps33
  go_wp2_with fail
  obtain ⟨w0, hw0⟩ : ∃ w0, w.alloc (.cells #[.slice AB nb cB, .slice AR nr cR] 45) = w0 := ⟨_, rfl⟩
  obtain ⟨B0, e0, e1⟩ := box_two hw0
  rw [hw0]
  have HB0 := Lib.hid B0
  have HE0 := Lib.hid (And.intro e0 e1)
  have HD0 := Lib.hid (HDw.out.later B0)
  clear hw0 B0 e0 e1
  refine (refMany_any HD0.out (by rw [HNB.out]; omega) (by rw [HNR.out]; omega) (by omega)).mono ?_
  obtain ⟨mm, hmm⟩ : ∃ mm, manyD D = mm := ⟨_, rfl⟩
  rw [hmm]
  have HMM := Lib.hid hmm
  clear hmm
  rintro e wz ⟨rfl, Bz⟩
  have HBz := Lib.hid (below_then HB0.out HB0.out.size Bz)
  have HEz := Lib.hid (And.intro (cell_later Bz HE0.out.1) (cell_later Bz HE0.out.2))
  clear Bz HE0 HB0 HD0 HDw
  cases mm with
  | true =>
    have HQ : Hid (tx = [] ∧ er = 6) := Lib.hid (by
      have := HPR.out
      unfold printP at this
      rw [if_pos HMM.out] at this
      cases this
      exact ⟨rfl, rfl⟩)
    obtain ⟨rfl, rfl⟩ := HQ.out
    have hTX : TX = ByteArray.empty := HTX.out.symm
    subst hTX
    go_wp2_with fail
    go_ret2
    exact ⟨rfl, HBz.out⟩
  | false =>
    have HPR2 : Hid ((tx, er) = if (lnsP D).all okL = true then (bDrawing.data.toList ++ [10] ++ (lnsP D).flatMap lineB ++ (bEnd.data.toList ++ [10]), 0) else ([], 2)) := Lib.hid (by
      rw [← HPR.out]
      unfold printP textP
      rw [if_neg (by rw [HMM.out]; decide)])
    clear HPR
    obtain ⟨v0, v1⟩ := HEz.out
    go_wp2_with fail
    clear v0 v1
    go_loopw [5, 6, 7] (fun qt qo qi wr => ∃ (i : Nat) (T : ByteArray) (ok : Bool), i ≤ nb ∧ qi = .int .i64 i ∧ qt = .string T ∧ qo = .bool ok ∧ Hid (T.data.toList = bDrawing.data.toList ++ [10] ++ ((D.1.take i).map bxLn).flatMap lineB) ∧ T.size ≤ 8 + 1000 * i ∧ Hid (ok = ((D.1.take i).map bxLn).all okL) ∧ Below wz.heap.size wz wr) (fun _ _ q _ => nb - (intOf q).toNat)
    case atStart => exact ⟨0, _, true, by omega, rfl, rfl, rfl, Lib.hid rfl, by decide, Lib.hid rfl, Below.refl _ _⟩
    case round =>
      obtain ⟨i, T, ok, hi, rfl, rfl, rfl, HTD, hts, HOK, Br⟩ := hrel
      obtain ⟨wo, rfl⟩ : ∃ q : World, q = wr := ⟨_, rfl⟩
      have HBr := Lib.hid Br
      have HBW := Lib.hid (below_then HBz.out HBz.out.size Br)
      have v0 := cell_later Br HEz.out.1
      have v1 := cell_later Br HEz.out.2
      clear Br
      by_cases hin : i < nb
      · obtain ⟨p1, o1, rfl, hc⟩ := HB1.out (by omega)
        have hlt : i < D.1.length := by rw [HNB.out]; exact hin
        have HX := Lib.hid (List.getElem?_eq_getElem hlt)
        have HXM := Lib.hid (List.getElem_mem hlt)
        have c0 := hc i _ HX.out
        have HT : Hid ((D.1.take (i + 1)).map bxLn = (D.1.take i).map bxLn ++ [bxLn (D.1[i]'hlt)]) := Lib.hid (by rw [List.take_succ_eq_append_getElem hlt, List.map_append]; rfl)
        generalize D.1[i]'hlt = bx at *
        clear hlt
        have hbi : I64 bx.1.1 ∧ I64 bx.1.2 ∧ I64 bx.2.1 ∧ I64 bx.2.2 := by
          have hm : bxLn bx ∈ lnsP D := by unfold lnsP; exact List.mem_append_left _ (List.mem_map_of_mem HXM.out)
          have hh := HI.out _ hm
          unfold bxLn at hh
          split at hh
          · rename_i he
            have a1 := hh bx.1.1 (by simp [ptL])
            have a2 := hh bx.1.2 (by simp [ptL])
            exact ⟨a1, a2, by rw [← he]; exact a1, by rw [← he]; exact a2⟩
          · exact ⟨hh _ (by simp [ptL]), hh _ (by simp [ptL]), hh _ (by simp [ptL]), hh _ (by simp [ptL])⟩
        have HBO := Lib.hid (bx_ok bx)
        have HBE : Hid (bxLn bx = if bx.1 = bx.2 then (bPoint, ptL bx.1) else (bBox, ptL bx.1 ++ ptL bx.2)) := Lib.hid rfl
        obtain ⟨⟨x, y⟩, u, v⟩ := bx
        obtain ⟨u1, u2, u3, u4⟩ := c0
        obtain ⟨b1, b2, b3, b4⟩ := hbi
        simp only at u1 u2 u3 u4 b1 b2 b3 b4
        have hd : decide ((i : Int) < (nb : Int)) = true := by simp only [decide_eq_true_eq]; omega
        have hi0 : (0 : Int) ≤ (i : Int) := by omega
        have hi1 : (i : Int) < (nb : Int) := by omega
        have HC := Lib.hid (And.intro u1 (And.intro u2 (And.intro u3 u4)))
        have HI4 := Lib.hid (And.intro b1 (And.intro b2 (And.intro b3 b4)))
        have d1 := cell_later HBW.out u1
        have d2 := cell_later HBW.out u2
        clear u1 u2 u3 u4 hc b1 b2 b3 b4
        go_wp2_with fail
        clear v0 v1 d1 d2
        refine (rpair_any (x, y) HI4.out.1 HI4.out.2.1).mono ?_
        rintro e w1 ⟨S1, rfl, hd1, hs1, B1⟩
        have HB2 := Lib.hid (below_then HBr.out HBr.out.size B1)
        have HW2 := Lib.hid (below_then HBW.out HBW.out.size B1)
        have HD1 := Lib.hid hd1
        have v0 := cell_later HB2.out HEz.out.1
        have d3 := cell_later HW2.out HC.out.2.2.1
        have d4 := cell_later HW2.out HC.out.2.2.2
        clear B1 hd1
        obtain ⟨f1, hf1⟩ : ∃ f1, (okN x && okN y) = f1 := ⟨_, rfl⟩
        simp only [hf1]
        go_wp2_with fail
        clear v0 d3 d4
        refine (rpair_any (u, v) HI4.out.2.2.1 HI4.out.2.2.2).mono ?_
        rintro e w3 ⟨S2, rfl, hd2, hs2, B2⟩
        have HB3 := Lib.hid (below_then HB2.out HB2.out.size B2)
        have HW3 := Lib.hid (below_then HW2.out HW2.out.size B2)
        have HD2 := Lib.hid hd2
        clear B2 hd2 HB2 HW2
        obtain ⟨f2, hf2⟩ : ∃ f2, (okN u && okN v) = f2 := ⟨_, rfl⟩
        simp only [hf2]
        have HF : Hid ((ok && f1 && f2) = ((D.1.take (i + 1)).map bxLn).all okL) := Lib.hid (by
          rw [HT.out, List.all_append, ← HOK.out, List.all_cons, List.all_nil, Bool.and_true, ← HBO.out]
          rw [hf1, hf2, Bool.and_assoc])
        clear hf1 hf2
        go_upto_region 11 with fail
        go_cut [6] (fun p wx => p = .bool (ok && f1 && f2) ∧ wx = w3)
        case first =>
          clear HF HOK
          cases ok <;> cases f1 <;> cases f2 <;> (go_wp2_with fail; go_meet; exact ⟨rfl, rfl⟩)
        obtain ⟨rfl, hwc⟩ := hcut
        subst hwc
        obtain ⟨w3, rfl⟩ : ∃ q : World, q = wc := ⟨_, rfl⟩
        have v0 := cell_later HB3.out HEz.out.1
        have d1 := cell_later HW3.out HC.out.1
        have d2 := cell_later HW3.out HC.out.2.1
        have d3 := cell_later HW3.out HC.out.2.2.1
        have d4 := cell_later HW3.out HC.out.2.2.2
        clear HOK
        by_cases hxu : x = u ∧ y = v
        · obtain ⟨rfl, rfl⟩ := hxu
          have hc0 : ¬9223372036854775807 < T.size + 5 := by omega
          obtain ⟨U0, hU0⟩ : ∃ q, (T ++ ⟨#[112, 111, 105, 110, 116]⟩ : ByteArray) = q := ⟨_, rfl⟩
          have hz0 : U0.size = T.size + 5 := by rw [← hU0, ByteArray.size_append]; rfl
          have hc1 : ¬9223372036854775807 < U0.size + S1.size := by omega
          obtain ⟨U1, hU1⟩ : ∃ q, (U0 ++ S1 : ByteArray) = q := ⟨_, rfl⟩
          have hz1 : U1.size = U0.size + S1.size := by rw [← hU1, ByteArray.size_append]
          have hc2 : ¬9223372036854775807 < U1.size + 1 := by omega
          obtain ⟨U, hU⟩ : ∃ q, (U1 ++ ⟨#[10]⟩ : ByteArray) = q := ⟨_, rfl⟩
          have hz2 : U.size = U1.size + 1 := by rw [← hU, ByteArray.size_append]; rfl
          have HUD : Hid (U.data.toList = bDrawing.data.toList ++ [10] ++ ((D.1.take (i + 1)).map bxLn).flatMap lineB) := Lib.hid (by
            rw [HT.out, List.flatMap_append, ← List.append_assoc, ← HTD.out, HBE.out]
            rw [if_pos rfl]
            rw [← hU, ← hU1, ← hU0, cat_data, cat_data, cat_data, HD1.out]
            simp [lineB, ptL, bPoint])
          have hus : U.size ≤ 8 + 1000 * (i + 1) := by omega
          go_upto_region 12 with fail
          go_quiet (fail)
          go_wp2_with fail
          clear hU hU0 hU1
          go_roundw
          case rel => exact ⟨i + 1, U, _, by omega, by go_num, rfl, rfl, HUD, hus, HF, below_then HB3.out HB3.out.size (below_drewN _ _)⟩
          case measure => simp [intOf]; omega
        · have hne : ¬((x, y) : Pt) = (u, v) := fun e => hxu (by simpa using e)
          have hc0 : ¬9223372036854775807 < T.size + 3 := by omega
          obtain ⟨U0, hU0⟩ : ∃ q, (T ++ ⟨#[98, 111, 120]⟩ : ByteArray) = q := ⟨_, rfl⟩
          have hz0 : U0.size = T.size + 3 := by rw [← hU0, ByteArray.size_append]; rfl
          have hc1 : ¬9223372036854775807 < U0.size + S1.size := by omega
          obtain ⟨U1, hU1⟩ : ∃ q, (U0 ++ S1 : ByteArray) = q := ⟨_, rfl⟩
          have hz1 : U1.size = U0.size + S1.size := by rw [← hU1, ByteArray.size_append]
          have hc2 : ¬9223372036854775807 < U1.size + S2.size := by omega
          obtain ⟨U2, hU2⟩ : ∃ q, (U1 ++ S2 : ByteArray) = q := ⟨_, rfl⟩
          have hz2 : U2.size = U1.size + S2.size := by rw [← hU2, ByteArray.size_append]
          have hc3 : ¬9223372036854775807 < U2.size + 1 := by omega
          obtain ⟨U, hU⟩ : ∃ q, (U2 ++ ⟨#[10]⟩ : ByteArray) = q := ⟨_, rfl⟩
          have hz3 : U.size = U2.size + 1 := by rw [← hU, ByteArray.size_append]; rfl
          have HUD : Hid (U.data.toList = bDrawing.data.toList ++ [10] ++ ((D.1.take (i + 1)).map bxLn).flatMap lineB) := Lib.hid (by
            rw [HT.out, List.flatMap_append, ← List.append_assoc, ← HTD.out, HBE.out]
            rw [if_neg hne]
            rw [← hU, ← hU2, ← hU1, ← hU0, cat_data, cat_data, cat_data, cat_data, HD1.out, HD2.out]
            simp [lineB, ptL, bBox])
          have hus : U.size ≤ 8 + 1000 * (i + 1) := by omega
          clear hne
          go_upto_region 12 with fail
          go_cut [70] (fun p wx => p = .bool false ∧ Below w3.heap.size w3 wx)
          case first =>
            by_cases hx : x = u
            · have hy : ¬y = v := fun h => hxu ⟨hx, h⟩
              subst hx
              clear hxu
              go_quiet (fail)
              go_wp2_with fail
              go_meet
              exact ⟨rfl, below_drewN _ _⟩
            · clear hxu
              go_quiet (fail)
              go_wp2_with fail
              go_meet
              exact ⟨rfl, below_drewN _ _⟩
          obtain ⟨rfl, B4⟩ := hcut
          have HB4 := Lib.hid (below_then HB3.out HB3.out.size B4)
          clear B4 v0 d1 d2 d3 d4 hxu
          go_wp2_with fail
          clear hU hU0 hU1 hU2
          go_roundw
          case rel => exact ⟨i + 1, U, _, by omega, by go_num, rfl, rfl, HUD, hus, HF, HB4.out⟩
          case measure => simp [intOf]; omega
      · have hni : i = nb := by omega
        subst hni
        have hd : decide ((i : Int) < (i : Int)) = false := by simp
        have hkl : D.1.take i = D.1 := List.take_of_length_le (by rw [HNB.out]; exact Nat.le_refl _)
        rw [hkl] at HTD HOK
        clear hkl HB1
        go_wp2_with fail
        clear v0 v1
        go_loopw [5, 6, 12] (fun qt qo qi wr => ∃ (k : Nat) (T : ByteArray) (ok : Bool), k ≤ nr ∧ qi = .int .i64 k ∧ qt = .string T ∧ qo = .bool ok ∧ Hid (T.data.toList = bDrawing.data.toList ++ [10] ++ (D.1.map bxLn ++ (D.2.take k).map rtLn).flatMap lineB) ∧ T.size ≤ 8 + 1000 * i + 5000000 * k ∧ Hid (ok = (D.1.map bxLn ++ (D.2.take k).map rtLn).all okL) ∧ Below wz.heap.size wz wr) (fun _ _ q _ => nr - (intOf q).toNat)
        case atStart => exact ⟨0, T, ok, by omega, rfl, rfl, rfl, by simpa using HTD, by omega, by simpa using HOK, HBr.out⟩
        case round =>
          clear hts HTD HOK HBr HBW
          obtain ⟨k, T, ok, hk, rfl, rfl, rfl, HTD, hts, HOK, Br⟩ := hrel
          obtain ⟨wo, rfl⟩ : ∃ q : World, q = wr := ⟨_, rfl⟩
          have HBr := Lib.hid Br
          have HBW := Lib.hid (below_then HBz.out HBz.out.size Br)
          have v1 := cell_later Br HEz.out.2
          clear Br
          by_cases hkn : k < nr
          · obtain ⟨p1, o1, rfl, hc⟩ := HR1.out (by omega)
            have hlt : k < D.2.length := by rw [HNR.out]; exact hkn
            obtain ⟨VP, hMk, hVP⟩ := HP.out.at_ hlt
            have HX := Lib.hid (List.getElem?_eq_getElem hlt)
            have HXM := Lib.hid (List.getElem_mem hlt)
            have HTG := Lib.hid (totP_get HX.out)
            have c0 := hc k _ hMk
            have HT : Hid ((D.2.take (k + 1)).map rtLn = (D.2.take k).map rtLn ++ [rtLn (D.2[k]'hlt)]) := Lib.hid (by rw [List.take_succ_eq_append_getElem hlt, List.map_append]; rfl)
            generalize D.2[k]'hlt = rt at *
            clear hlt hMk hc
            have HRI : Hid (∀ n ∈ (rtLn rt).2, I64 n) := Lib.hid (HI.out _ (by unfold lnsP; exact List.mem_append_right _ (List.mem_map_of_mem HXM.out)))
            obtain ⟨⟨f, t⟩, ps⟩ := rt
            obtain ⟨AP, cP, rfl, -, -, hpp⟩ := hVP.at_
            obtain ⟨m, hm⟩ : ∃ m, ps.length = m := ⟨_, rfl⟩
            have hmb : m ≤ 100000 := by have h : ps.length ≤ totP D.2 := HTG.out; omega
            obtain ⟨u1, u2, u3⟩ := c0
            simp only at hpp u1 u2 u3
            rw [hm] at hpp u3
            have HPP := Lib.hid hpp
            have HM := Lib.hid hm
            have hIf : I64 f := HRI.out f (by simp [rtLn])
            have hIt : I64 t := HRI.out t (by simp [rtLn])
            have HIF := Lib.hid hIf
            have HIT := Lib.hid hIt
            have HIP : Hid (∀ q ∈ ps, I64 q.1 ∧ I64 q.2) := Lib.hid (fun q hq => ⟨HRI.out _ (by
              show q.1 ∈ [f, t] ++ ps.flatMap ptL
              exact List.mem_append_right _ (List.mem_flatMap.2 ⟨q, hq, by simp [ptL]⟩)), HRI.out _ (by
              show q.2 ∈ [f, t] ++ ps.flatMap ptL
              exact List.mem_append_right _ (List.mem_flatMap.2 ⟨q, hq, by simp [ptL]⟩))⟩)
            have d1 := cell_later HBW.out u1
            have d2 := cell_later HBW.out u2
            have d3 := cell_later HBW.out u3
            have hd : decide ((k : Int) < (nr : Int)) = true := by simp only [decide_eq_true_eq]; omega
            have hi0 : (0 : Int) ≤ (k : Int) := by omega
            have hi1 : (k : Int) < (nr : Int) := by omega
            clear u1 u2 u3 hVP hpp hm hIf hIt
            go_upto_region 19 with fail
            obtain ⟨wa, hwa⟩ : ∃ q, q = wo.alloc (.cells #[.int .i64 f, .int .i64 t, .slice AP m cP] 78) := ⟨_, rfl⟩
            rw [← hwa]
            have Ba : Below wo.heap.size wo wa := by rw [hwa]; exact (Below.refl _ _).alloc (Nat.le_refl _) _
            have hGa : wa.heap[wo.heap.size]? = some (.cells #[.int .i64 f, .int .i64 t, .slice AP m cP] 78) := by rw [hwa]; exact heap_at rfl
            have HGa := Lib.hid hGa
            have HBa := Lib.hid (below_then HBr.out HBr.out.size Ba)
            have HWa := Lib.hid (below_then HBW.out HBW.out.size Ba)
            have s0 := (Cl.of_block hGa (j := 0) rfl).cell
            clear hwa Ba hGa d1 d2 d3 v1
            go_wp2_with fail
            clear s0
            refine (rin_any f).mono ?_
            rw [okN_eq]
            obtain ⟨f1, hf1⟩ : ∃ f1, okN f = f1 := ⟨_, rfl⟩
            rw [hf1]
            rintro e w1 ⟨rfl, B1⟩
            have HBb := Lib.hid B1
            have hGb := block_later B1 HGa.out
            have s1 := (Cl.of_block hGb (j := 1) rfl).cell
            clear B1 hGb
            go_wp2_with fail
            clear s1
            refine (rin_any t).mono ?_
            rw [okN_eq]
            obtain ⟨f2, hf2⟩ : ∃ f2, okN t = f2 := ⟨_, rfl⟩
            rw [hf2]
            rintro e w2 ⟨rfl, B2⟩
            have HBc := Lib.hid (below_then HBb.out HBb.out.size B2)
            have hGc := block_later HBc.out HGa.out
            have s0 := (Cl.of_block hGc (j := 0) rfl).cell
            clear B2 hGc HBb
            go_wp2_with fail
            clear s0
            refine (number_any f HIF.out).mono ?_
            rintro e w3 ⟨S1, rfl, hd1, hs1, B3⟩
            have HD1 := Lib.hid hd1
            have HBd := Lib.hid (below_then HBc.out HBc.out.size B3)
            have hGd := block_later HBd.out HGa.out
            have s1 := (Cl.of_block hGd (j := 1) rfl).cell
            clear B3 hGd HBc hd1
            go_wp2_with fail
            clear s1
            refine (number_any t HIT.out).mono ?_
            rintro e w4 ⟨S2, rfl, hd2, hs2, B4⟩
            have HD2 := Lib.hid hd2
            have HBe := Lib.hid (below_then HBd.out HBd.out.size B4)
            clear B4 HBd hd2
            have HF : Hid ((ok && f1 && f2) = (ok && okN f && okN t)) := Lib.hid (by rw [hf1, hf2])
            clear hf1 hf2
            go_upto_region 23 with fail
            go_cut [6] (fun p wx => p = .bool (ok && f1 && f2) ∧ wx = w4)
            case first =>
              clear HF HOK
              cases ok <;> cases f1 <;> cases f2 <;> (go_wp2_with fail; go_meet; exact ⟨rfl, rfl⟩)
            obtain ⟨rfl, hwc⟩ := hcut
            subst hwc
            obtain ⟨w4, rfl⟩ : ∃ q : World, q = wc := ⟨_, rfl⟩
            rw [HF.out]
            clear HF
            have hc0 : ¬9223372036854775807 < T.size + 5 := by omega
            obtain ⟨U0, hU0⟩ : ∃ q, (T ++ ⟨#[114, 111, 117, 116, 101]⟩ : ByteArray) = q := ⟨_, rfl⟩
            have hz0 : U0.size = T.size + 5 := by rw [← hU0, ByteArray.size_append]; rfl
            have hc1 : ¬9223372036854775807 < U0.size + S1.size := by omega
            obtain ⟨U1, hU1⟩ : ∃ q, (U0 ++ S1 : ByteArray) = q := ⟨_, rfl⟩
            have hz1 : U1.size = U0.size + S1.size := by rw [← hU1, ByteArray.size_append]
            have hc2 : ¬9223372036854775807 < U1.size + S2.size := by omega
            obtain ⟨U, hU⟩ : ∃ q, (U1 ++ S2 : ByteArray) = q := ⟨_, rfl⟩
            have hz2 : U.size = U1.size + S2.size := by rw [← hU, ByteArray.size_append]
            have hus : U.size ≤ T.size + 49 := by omega
            have HUD : Hid (U.data.toList = T.data.toList ++ bRoute.data.toList ++ numB f ++ numB t) := Lib.hid (by rw [← hU, ← hU1, ← hU0, cat_data, cat_data, cat_data, HD1.out, HD2.out]; rfl)
            go_wp2_with fail
            clear hU hU0 hU1 hc0 hc1 hc2 hz0 hz1 hz2
            go_loopw [5, 6, 18] (fun qt qo qi wr => ∃ (j : Nat) (X : ByteArray) (oj : Bool), j ≤ m ∧ qi = .int .i64 j ∧ qt = .string X ∧ qo = .bool oj ∧ Hid (X.data.toList = U.data.toList ++ ((ps.take j).flatMap ptL).flatMap numB) ∧ X.size ≤ U.size + 44 * j ∧ Hid (oj = ((ok && okN f && okN t) && ((ps.take j).flatMap ptL).all okN)) ∧ Below wa.heap.size wa wr) (fun _ _ q _ => m - (intOf q).toNat)
            case atStart => exact ⟨0, U, _, by omega, rfl, rfl, rfl, Lib.hid (by simp), by omega, Lib.hid (by simp), HBe.out⟩
            case round =>
              obtain ⟨j, X, oj, hj, rfl, rfl, rfl, HXD, hxs, HOJ, Bj⟩ := hrel
              obtain ⟨wv, rfl⟩ : ∃ q : World, q = wr := ⟨_, rfl⟩
              have HBj := Lib.hid Bj
              have HWj := Lib.hid (below_then HWa.out HWa.out.size Bj)
              have hGj := block_later Bj HGa.out
              have s2 := (Cl.of_block hGj (j := 2) rfl).cell
              clear Bj hGj
              by_cases hjm : j < m
              · obtain ⟨p3, o3, rfl, hc3⟩ := HPP.out (by omega)
                have hl3 : j < ps.length := by rw [HM.out]; exact hjm
                have HX3 := Lib.hid (List.getElem?_eq_getElem hl3)
                have HI3 := Lib.hid (HIP.out _ (List.getElem_mem hl3))
                have c3 := hc3 j _ HX3.out
                generalize ps[j]'hl3 = pp at *
                clear hl3 hc3
                obtain ⟨px, py⟩ := pp
                have d1 := cell_later HWj.out c3.1
                have d2 := cell_later HWj.out c3.2
                have hdj : decide ((j : Int) < (m : Int)) = true := by simp only [decide_eq_true_eq]; omega
                have hj0 : (0 : Int) ≤ (j : Int) := by omega
                have hj1 : (j : Int) < (m : Int) := by omega
                clear c3
                go_wp2_with fail
                clear s2 d1 d2
                refine (rpair_any (px, py) HI3.out.1 HI3.out.2).mono ?_
                rintro e w5 ⟨S3, rfl, hd3, hs3, B5⟩
                have HB5 := Lib.hid (below_then HBj.out HBj.out.size B5)
                have HD3 := Lib.hid hd3
                clear B5 hd3
                obtain ⟨f3, hf3⟩ : ∃ f3, (okN px && okN py) = f3 := ⟨_, rfl⟩
                simp only [hf3]
                have HF : Hid ((oj && f3) = ((ok && okN f && okN t) && ((ps.take (j + 1)).flatMap ptL).all okN)) := Lib.hid (by
                  rw [HOJ.out, List.take_add_one, HX3.out, ← hf3]
                  simp [List.flatMap_append, ptL, Bool.and_assoc])
                clear hf3
                go_upto_region 29 with fail
                go_cut [6] (fun p wx => p = .bool (oj && f3) ∧ wx = w5)
                case first =>
                  clear HF HOJ
                  cases oj <;> cases f3 <;> (go_wp2_with fail; go_meet; exact ⟨rfl, rfl⟩)
                obtain ⟨rfl, hwc⟩ := hcut
                subst hwc
                obtain ⟨w5, rfl⟩ : ∃ q : World, q = wc := ⟨_, rfl⟩
                have hc0 : ¬9223372036854775807 < X.size + S3.size := by omega
                obtain ⟨Y, hY⟩ : ∃ q, (X ++ S3 : ByteArray) = q := ⟨_, rfl⟩
                have hz0 : Y.size = X.size + S3.size := by rw [← hY, ByteArray.size_append]
                have hys : Y.size ≤ U.size + 44 * (j + 1) := by omega
                have HYD : Hid (Y.data.toList = U.data.toList ++ ((ps.take (j + 1)).flatMap ptL).flatMap numB) := Lib.hid (by
                  rw [← hY, cat_data, HXD.out, HD3.out, List.take_add_one, HX3.out]
                  simp [List.flatMap_append, ptL])
                clear HOJ
                go_wp2_with fail
                clear hY hc0 hz0
                go_roundw
                case rel => exact ⟨j + 1, Y, _, by omega, by go_num, rfl, rfl, HYD, hys, HF, HB5.out⟩
                case measure => simp [intOf]; omega
              · have hjj : j = m := by omega
                subst hjj
                have hdj : decide ((j : Int) < (j : Int)) = false := by simp
                have htk : ps.take j = ps := List.take_of_length_le (by rw [HM.out]; exact Nat.le_refl _)
                have hc0 : ¬9223372036854775807 < X.size + 1 := by omega
                obtain ⟨Y, hY⟩ : ∃ q, (X ++ ⟨#[10]⟩ : ByteArray) = q := ⟨_, rfl⟩
                have hz0 : Y.size = X.size + 1 := by rw [← hY, ByteArray.size_append]; rfl
                have HYD : Hid (Y.data.toList = bDrawing.data.toList ++ [10] ++ (D.1.map bxLn ++ (D.2.take (k + 1)).map rtLn).flatMap lineB) := Lib.hid (by
                  rw [← hY, cat_data, HXD.out, HUD.out, HTD.out, HT.out, htk]
                  simp [lineB, rtLn, List.flatMap_append])
                have HFK : Hid (oj = (D.1.map bxLn ++ (D.2.take (k + 1)).map rtLn).all okL) := Lib.hid (by
                  rw [HOJ.out, HOK.out, HT.out, htk]
                  simp [okL, rtLn, Bool.and_assoc])
                have hys : Y.size ≤ 8 + 1000 * i + 5000000 * (k + 1) := by omega
                have HBK := Lib.hid (HBa.out.trans (HBj.out.mono HBa.out.size))
                clear HOJ htk
                go_wp2_with fail
                clear hY hc0 hz0
                go_roundw
                case rel => exact ⟨k + 1, Y, _, by omega, by go_num, rfl, rfl, HYD, hys, HFK, HBK.out⟩
                case measure => simp [intOf]; omega
          · have hkk : k = nr := by omega
            subst hkk
            have hd2 : decide ((k : Int) < (k : Int)) = false := by simp
            have hkl : D.2.take k = D.2 := List.take_of_length_le (by rw [HNR.out]; exact Nat.le_refl _)
            rw [hkl] at HTD HOK
            have HQ := HPR2.out
            have hok : ok = (lnsP D).all okL := HOK.out
            rw [← hok] at HQ
            clear hkl HOK HPR2
            cases ok with
            | true =>
              rw [if_pos rfl] at HQ
              have hc0 : ¬9223372036854775807 < T.size + 4 := by omega
              obtain ⟨Y, hY⟩ : ∃ q, (T ++ ⟨#[101, 110, 100, 10]⟩ : ByteArray) = q := ⟨_, rfl⟩
              have HYT : Hid (TX = Y ∧ er = 0) := Lib.hid (by
                cases HQ
                refine ⟨?_, rfl⟩
                rw [← HTX.out]
                refine (to_toB ?_).symm
                rw [← hY, cat_data, HTD.out]
                rfl)
              clear HQ hok
              obtain ⟨rfl, rfl⟩ := HYT.out
              go_wp2_with fail
              go_ret2
              exact ⟨rfl, HBW.out⟩
            | false =>
              rw [if_neg (by decide)] at HQ
              have HYT : Hid (tx = [] ∧ er = 2) := Lib.hid (by cases HQ; exact ⟨rfl, rfl⟩)
              clear HQ hok
              obtain ⟨rfl, rfl⟩ := HYT.out
              have hTX : TX = ByteArray.empty := HTX.out.symm
              subst hTX
              go_wp2_with fail
              go_ret2
              exact ⟨rfl, HBW.out⟩
end Go.Proofs.YtkpgjgmlhcipeaaDoor
