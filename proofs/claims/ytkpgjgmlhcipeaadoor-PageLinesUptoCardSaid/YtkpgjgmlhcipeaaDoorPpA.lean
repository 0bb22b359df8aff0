/- PagePrints: the text of any drawing is the document's, and parsed to it again; of one that may not be written there is its error. -/
import Derived.Test.YtkpgjgmlhcipeaaDoorPpP
import Derived.Test.YtkpgjgmlhcipeaaDoorMovA
import Derived.Test.YtkpgjgmlhcipeaaDoorPgT
import Derived.Test.YtkpgjgmlhcipeaaDoorOpnD
namespace Go.Proofs.YtkpgjgmlhcipeaaDoor
open Go.RowKit
theorem Rows16.later {w w' : World} {V : Value} {rs : List (List Int)} (h : Rows16 w V rs) (B : Below w.heap.size w w') : Rows16 w' V rs := by
  obtain ⟨Vs, h1, h2, h3⟩ := h
  exact ⟨Vs, h1, h2.later B, fun i U r hU hr => (h3 i U r hU hr).later B⟩
theorem DrR.rebase {w : World} {base base' : Nat} {B R : Value} {M : List Mt} {D : Dr} (h : DrR w base B R M D) (hb : base' ≤ base) : DrR w base' B R M D :=
  ⟨row_rebase h.bx hb, row_rebase h.rt hb, h.pc.1, fun i m r hm hr => ⟨(h.pc.2 i m r hm hr).1, (h.pc.2 i m r hm hr).2.1, row_rebase (h.pc.2 i m r hm hr).2.2 hb⟩⟩
theorem drr_shape {w : World} {base : Nat} {B R : Value} {M : List Mt} {D : Dr} (h : DrR w base B R M D) : ∃ A c A' c', B = .slice A D.1.length c ∧ R = .slice A' D.2.length c' := drw_shape h.drw
set_option maxRecDepth 100000 in
set_option maxHeartbeats 4000000 in
theorem pprints_core {w : World} {V1 V2 : Value} {bs : List Q4t} {rs : List (List Int)} (h1 : Sl 4 encQ w V1 bs) (h2 : Rows16 w V2 rs) (hb : ∀ q ∈ bs, S16 q.1 ∧ S16 q.2.1 ∧ S16 q.2.2.1 ∧ S16 q.2.2.2) (hr : ∀ r ∈ rs, ∀ n ∈ r, S16 n) (hbl : bs.length ≤ 20000000000000) (hrl : rs.length ≤ 20000000000000)
    (by_ : Int) {m0 : Int} (hm : w.cell? ⟨0, 0, none⟩ = some (.int .i64 m0)) (ht : Tab w) :
    Calls Tryd.prog 8 #[V1, V2, .int .i64 by_] w fun e w' => e = .returned (.bool true) ∧ Below w.heap.size w w' := by
  obtain ⟨D, hDe⟩ : ∃ D, someP bs rs = D := ⟨_, rfl⟩
  have hS := someP_s16 hb hr
  have hl := someP_len bs rs
  have hs0 := smal_some hS
  obtain ⟨c, hc⟩ : ∃ c, max (-2000000) (min 2000000 by_) = c := ⟨_, rfl⟩
  have hs1 := smal_moved (c := 40000) hS (by omega) (by omega)
  have hs2 := smal_moved (c := c) hS (by omega) (by omega)
  rw [hDe] at hS hl hs0 hs1 hs2
  have HDE := Lib.hid hDe
  have HS := Lib.hid hS
  have HL := Lib.hid hl
  have HS0 := Lib.hid hs0
  have HS1 := Lib.hid hs1
  have HS2 := Lib.hid hs2
  have HC := Lib.hid hc
  have H1 := Lib.hid h1
  have H2 := Lib.hid h2
  have HB := Lib.hid hb
  have HR := Lib.hid hr
  have HM := Lib.hid hm
  have HT := Lib.hid ht
  clear hDe hS hl hs0 hs1 hs2 hc h1 h2 hb hr hm ht
  go_enter Tryd.func8, Tryd.ntmps8
  go_wp2_with fail
  refine (some_any H1.out H2.out HB.out HR.out hbl hrl).mono ?_
  rintro e w1 ⟨A1, l1, c1, A2, l2, c2, M, rfl, hD, hap, B1⟩
  rw [HDE.out] at hD
  have HD1 := Lib.hid hD.drw
  have HB1 := Lib.hid B1
  clear hD hap B1
  go_wp2_with fail
  refine (some_any (H1.out.later HB1.out) (H2.out.later HB1.out) HB.out HR.out hbl hrl).mono ?_
  rintro e w2 ⟨A3, l3, c3, A4, l4, c4, M2, rfl, hD, hap, B2⟩
  rw [HDE.out] at hD
  have hD := hD.rebase (base' := w1.heap.size) (by omega)
  have hz2 := B2.size
  have HB2 := Lib.hid B2
  clear B2
  go_wp2_with fail
  refine (moved_any hD hap 40000 40000 (by omega) HS.out (by have := HL.out.1; omega) (by have := HL.out.2.1; omega) (fun r hr => by have := HL.out.2.2 r hr; omega) hz2).mono ?_
  rintro e w3 ⟨rfl, ⟨M3, hD3⟩, B3⟩
  have HDa := Lib.hid (HD1.out.later (HB2.out.trans B3))
  have HDb := Lib.hid hD3.drw
  have HB3 := Lib.hid (below_then HB1.out HB1.out.size (HB2.out.trans B3))
  clear hD hap hz2 HB2 B3 hD3 HD1 HB1
  go_wp2_with fail
  refine (some_any (H1.out.later HB3.out) (H2.out.later HB3.out) HB.out HR.out hbl hrl).mono ?_
  rintro e w4 ⟨A5, l5, c5, A6, l6, c6, M4, rfl, hD, hap, B4⟩
  rw [HDE.out] at hD
  have hD := hD.rebase (base' := w3.heap.size) (by omega)
  have hz4 := B4.size
  have HB4 := Lib.hid B4
  clear B4
  go_wp2_with fail
  refine (moved_any hD hap by_ c HC.out HS.out (by have := HL.out.1; omega) (by have := HL.out.2.1; omega) (fun r hr => by have := HL.out.2.2 r hr; omega) hz4).mono ?_
  rintro e w5 ⟨rfl, ⟨M5, hD5⟩, B5⟩
  obtain ⟨wq, hwq⟩ : ∃ q, q = (w5.alloc (.cells #[.slice A1 l1 c1, .slice A2 l2 c2, .slice A3 l3 c3, .slice A4 l4 c4, .slice A5 l5 c5, .slice A6 l6 c6] 45)) := ⟨_, rfl⟩
  have Bq : Below w5.heap.size w5 wq := by rw [hwq]; exact (Below.refl _ _).alloc (Nat.le_refl _) _
  have hGq : wq.heap[w5.heap.size]? = some (.cells #[.slice A1 l1 c1, .slice A2 l2 c2, .slice A3 l3 c3, .slice A4 l4 c4, .slice A5 l5 c5, .slice A6 l6 c6] 45) := by rw [hwq]; exact heap_at rfl
  have HDA := Lib.hid ((HDa.out.later (HB4.out.trans B5)).later Bq)
  have HDB := Lib.hid ((HDb.out.later (HB4.out.trans B5)).later Bq)
  have HDC := Lib.hid (hD5.drw.later Bq)
  have HB5 := Lib.hid (below_then (below_then HB3.out HB3.out.size (HB4.out.trans B5)) (by have := HB3.out.size; have := HB4.out.size; have := B5.size; omega) Bq)
  have HWQ := Lib.hid hwq
  have HGQ := Lib.hid hGq
  clear hD hap hz4 HB4 B5 hD5 HDa HDb HB3 Bq hwq hGq
  go_upto_region 2 with fail
  rw [← HWQ.out]
  go_loopw [30] (fun qi wr => ∃ i : Nat, i ≤ 3 ∧ qi = .int .i64 i ∧ wr.heap[w5.heap.size]? = some (.cells #[.slice A1 l1 c1, .slice A2 l2 c2, .slice A3 l3 c3, .slice A4 l4 c4, .slice A5 l5 c5, .slice A6 l6 c6] 45) ∧ Drw wr (.slice A1 l1 c1) (.slice A2 l2 c2) D ∧ Drw wr (.slice A3 l3 c3) (.slice A4 l4 c4) (movD 40000 D) ∧ Drw wr (.slice A5 l5 c5) (.slice A6 l6 c6) (movD c D) ∧ Below w.heap.size w wr) (fun qi _ => 3 - (intOf qi).toNat)
  case atStart => exact ⟨0, by omega, rfl, HGQ.out, HDA.out, HDB.out, HDC.out, HB5.out⟩
  case round =>
    clear HGQ HDA HDB HDC HB5 HWQ
    obtain ⟨i, hi, rfl, hgq, hda, hdb, hdc, Br⟩ := hrel
    obtain ⟨wo, rfl⟩ : ∃ q : World, q = wr := ⟨_, rfl⟩
    have HGQ := Lib.hid hgq
    have HDA := Lib.hid hda
    have HDB := Lib.hid hdb
    have HDC := Lib.hid hdc
    have HBr := Lib.hid Br
    have HMr := Lib.hid (cell_later Br HM.out)
    have HTr := Lib.hid (tab_later HT.out Br)
    clear hgq hda hdb hdc Br
    by_cases hin : i < 3
    · obtain ⟨B, R, E, hE, hSm, e0, e1⟩ : ∃ B R E, Drw wo B R E ∧ Smal E ∧ wo.cell? ⟨w5.heap.size, i * 2, none⟩ = some B ∧ wo.cell? ⟨w5.heap.size, i * 2 + 1, none⟩ = some R := by
        rcases (by omega : i = 0 ∨ i = 1 ∨ i = 2) with rfl | rfl | rfl
        · exact ⟨_, _, _, HDA.out, HS0.out, (Cl.of_block HGQ.out (j := 0) rfl).cell, (Cl.of_block HGQ.out (j := 1) rfl).cell⟩
        · exact ⟨_, _, _, HDB.out, HS1.out, (Cl.of_block HGQ.out (j := 2) rfl).cell, (Cl.of_block HGQ.out (j := 3) rfl).cell⟩
        · exact ⟨_, _, _, HDC.out, HS2.out, (Cl.of_block HGQ.out (j := 4) rfl).cell, (Cl.of_block HGQ.out (j := 5) rfl).cell⟩
      obtain ⟨AB, cB, AR, cR, rfl, rfl⟩ := drw_shape hE
      have HSm := Lib.hid hSm
      have hi0 : (0 : Int) ≤ (i : Int) := by omega
      have hi1 : (i : Int) < 3 := by omega
      have hb1 : Below wo.heap.size wo (wo.alloc (.cells #[.slice AB E.1.length cB, .slice AR E.2.length cR] 45)) := (Below.refl _ _).alloc (Nat.le_refl _) _
      have HE := Lib.hid (hE.later hb1)
      have HT1 := Lib.hid (tab_later HTr.out hb1)
      have HGE : Hid ((wo.alloc (.cells #[.slice AB E.1.length cB, .slice AR E.2.length cR] 45)).heap[wo.heap.size]? = some (.cells #[.slice AB E.1.length cB, .slice AR E.2.length cR] 45)) := Lib.hid (heap_at rfl)
      have HB1 := Lib.hid hb1
      obtain ⟨pr, hpr⟩ : ∃ pr, printP E = pr := ⟨_, rfl⟩
      obtain ⟨tx, er⟩ := pr
      have HPR := Lib.hid hpr
      obtain ⟨T, hT⟩ : ∃ T, toB tx = T := ⟨_, rfl⟩
      have HTT := Lib.hid hT
      clear hE hSm hb1 hpr hT
      go_wp2_with fail
      clear e0 e1
      refine (print_any HE.out (by have := HSm.out.bx; omega) (by have := HSm.out.rt; omega) (by have := HSm.out.tot; omega) HT1.out).mono ?_
      rw [HPR.out]
      simp only [HTT.out]
      rintro e w6 ⟨rfl, B6⟩
      have HE2 := Lib.hid (HE.out.later B6)
      have hge2 := block_later B6 HGE.out
      have HB6 := Lib.hid (below_then HB1.out HB1.out.size B6)
      have g0 := (Cl.of_block hge2 (j := 0) rfl).cell
      have g1 := (Cl.of_block hge2 (j := 1) rfl).cell
      have HGE2 := Lib.hid hge2
      clear B6 hge2 HE HGE HT1 HB1
      go_wp2_with fail
      clear g0 g1
      refine (refPrint_any HE2.out (by have := HSm.out.bx; omega) (by have := HSm.out.rt; omega) (by have := HSm.out.tot; omega) HSm.out.i64).mono ?_
      rw [HPR.out]
      simp only [HTT.out]
      rintro e w7 ⟨rfl, B7⟩
      have HE3 := Lib.hid (HE2.out.later B7)
      have HGE3 := Lib.hid (block_later B7 HGE2.out)
      have HB7 := Lib.hid (below_then HB6.out HB6.out.size B7)
      clear B7 HE2 HGE2 HB6
      have k1 : (er == er) = true := by simp
      have k2 : (er != er) = false := by simp
      have k3 : (T.toList == T.toList) = true := by simp
      have k4 : (T.toList != T.toList) = false := by simp
      rcases HSm.out.print with ⟨-, hp1, hp2, hp3⟩ | ⟨-, hp1⟩
      · rw [HPR.out] at hp1
        injection hp1 with e1 e2
        subst e1 e2
        have HP2 := Lib.hid hp2
        have HMw := Lib.hid (cell_later HB7.out HMr.out)
        have hts : T.size ≤ 400000000 := by
          rw [← HTT.out, Lib.size_eq, data_toB]
          omega
        have HTD : Hid (T.data.toList = textP E) := Lib.hid (by rw [← HTT.out, data_toB])
        clear hp2 hp3
        go_wp2_with fail
        refine (parse_any T hts HMw.out).mono ?_
        rw [HTD.out, HP2.out]
        rintro e w8 ⟨B8, R8, rfl, hD8, hB8⟩
        obtain ⟨A8, c8, A9, c9, rfl, rfl⟩ := drw_shape hD8
        have hb8 : Below w8.heap.size w8 (w8.alloc (.cells #[.slice A8 E.1.length c8, .slice A9 E.2.length c9] 45)) := (Below.refl _ _).alloc (Nat.le_refl _) _
        have HE4 := Lib.hid ((HE3.out.later hB8).later hb8)
        have HE5 := Lib.hid (hD8.later hb8)
        have hg4 := block_later hb8 (block_later hB8 HGE3.out)
        have hg5 : (w8.alloc (.cells #[.slice A8 E.1.length c8, .slice A9 E.2.length c9] 45)).heap[w8.heap.size]? = some (.cells #[.slice A8 E.1.length c8, .slice A9 E.2.length c9] 45) := heap_at rfl
        have HB8 := Lib.hid (below_then (below_then HB7.out HB7.out.size hB8) (by have := HB7.out.size; have := hB8.size; omega) hb8)
        have q0 := (Cl.of_block hg4 (j := 0) rfl).cell
        have q1 := (Cl.of_block hg4 (j := 1) rfl).cell
        have q2 := (Cl.of_block hg5 (j := 0) rfl).cell
        have q3 := (Cl.of_block hg5 (j := 1) rfl).cell
        clear hD8 hB8 hb8 hg4 hg5 HE3 HGE3 HB7
        go_wp2_with fail
        refine (same_any HE5.out HE4.out (by have := HSm.out.bx; omega) (by have := HSm.out.rt; omega) (fun r hr => by have := HSm.out.pt r hr; omega)).mono ?_
        rw [show decide (E = E) = true by simp]
        rintro e w9 ⟨rfl, B9⟩
        have HB9 := Lib.hid (below_then HB8.out HB8.out.size B9)
        have HFA := Lib.hid (HDA.out.later HB9.out)
        have HFB := Lib.hid (HDB.out.later HB9.out)
        have HFC := Lib.hid (HDC.out.later HB9.out)
        have HFQ := Lib.hid (block_later HB9.out HGQ.out)
        have HFW := Lib.hid (below_then HBr.out HBr.out.size HB9.out)
        clear B9 q0 q1 q2 q3 HE4 HE5 HB8
        go_wp2_with fail
        go_roundw
        case rel => exact ⟨i + 1, by omega, by go_num, HFQ.out, HFA.out, HFB.out, HFC.out, HFW.out⟩
        case measure => simp [intOf]; omega
      · rw [HPR.out] at hp1
        injection hp1 with e1 e2
        subst e1 e2
        have HFA := Lib.hid (HDA.out.later HB7.out)
        have HFB := Lib.hid (HDB.out.later HB7.out)
        have HFC := Lib.hid (HDC.out.later HB7.out)
        have HFQ := Lib.hid (block_later HB7.out HGQ.out)
        have HFW := Lib.hid (below_then HBr.out HBr.out.size HB7.out)
        go_wp2_with fail
        go_roundw
        case rel => exact ⟨i + 1, by omega, by go_num, HFQ.out, HFA.out, HFB.out, HFC.out, HFW.out⟩
        case measure => simp [intOf]; omega
    · obtain rfl : i = 3 := by omega
      go_wp2_with fail
      refine (pwakes_ok HMr.out HTr.out).mono ?_
      rintro e w6 ⟨rfl, B6⟩
      have HB6 := Lib.hid (below_then HBr.out HBr.out.size B6)
      clear B6
      go_wp2_with fail
      go_ret
      exact ⟨rfl, HB6.out⟩
theorem pprints_walk {H : Type} {enc : TypeId × Value → H} (A0 : Option Addr) (l0 c0 : Nat) (A1 : Option Addr) (l1 c1 : Nat) (a2 : Int) (W : World)
    (R0 : Rd enc Tryd.prog W 0 (fun _ => true) true 52 [.slice A0 l0 c0]) (R1 : Rd enc Tryd.prog W 0 (fun _ => true) true 53 [.slice A1 l1 c1]) (_w2 : (Lit.int .i64 a2).wf = true) {m0 : Int} (hM : W.cell? ⟨0, 0, none⟩ = some (.int .i64 m0)) (hT : Tab W) :
    Calls Tryd.prog 8 #[.slice A0 l0 c0, .slice A1 l1 c1, .int .i64 a2] W fun e w' => e = .returned (.bool true) ∧ Below W.heap.size W w' := by
  obtain ⟨bs, h1, hb, hbl⟩ := Rd.quads16 R0
  obtain ⟨rs, h2, hr, hrl⟩ := Rd.rows16 R1
  exact pprints_core h1 h2 hb hr hbl hrl a2 hM hT
end Go.Proofs.YtkpgjgmlhcipeaaDoor
