/- PageTells: the drawing of any text, or where it is wrong and why, is the document's. -/
import Derived.Test.YtkpgjgmlhcipeaaDoorPgO
import Derived.Test.YtkpgjgmlhcipeaaDoorPgG
import Derived.Test.YtkpgjgmlhcipeaaDoorPgH
namespace Go.Proofs.YtkpgjgmlhcipeaaDoor
open Go.RowKit
theorem goP_many : ∀ (ls : List ByteArray) (D : Dr) (i : Nat), manyD D = false → manyD (goP D i ls).1 = false
  | [], _, _, _ => by unfold goP; exact manyD_nil
  | s :: r, D, i, h => by
    unfold goP
    split
    · split
      · exact h
      · exact manyD_nil
    · split
      · rename_i h0
        exact goP_many r _ _ (oneP_many h0)
      · exact manyD_nil
theorem parseP_many (l : List UInt8) : manyD (parseP l).1 = false := by
  unfold parseP
  split
  · split
    · exact manyD_nil
    · split
      · exact goP_many _ _ _ (by decide)
      · exact manyD_nil
  · exact manyD_nil
theorem ext_zeroP (s : ByteArray) {k : Nat} (hk : k ≤ s.size) : (s.extract 0 k).size = k := by
  rw [ByteArray.size_extract]
  omega
theorem drw_shape {w : World} {B R : Value} {D : Dr} (h : Drw w B R D) : ∃ A c A' c', B = .slice A D.1.length c ∧ R = .slice A' D.2.length c' := by
  obtain ⟨A, c, e, -⟩ := h.1.at_
  obtain ⟨M, hR, hP⟩ := h.2
  obtain ⟨A', c', e', -⟩ := hR.at_
  rw [hP.1] at e'
  exact ⟨A, c, A', c', e, e'⟩
set_option maxRecDepth 100000 in
set_option maxHeartbeats 2000000 in
theorem ptells_core {w : World} (s : ByteArray) {m0 : Int} (hs : s.size ≤ 140737488351232) (hm : w.cell? ⟨0, 0, none⟩ = some (.int .i64 m0)) (ht : Tab w) :
    Calls Tryd.prog 7 #[.string s] w fun e w' => e = .returned (.bool true) ∧ Below w.heap.size w w' := by
  obtain ⟨k, hk1, hk2, hmin⟩ : ∃ k : Nat, k ≤ s.size ∧ k ≤ 1500 ∧ min (s.size : Int) 1500 = (k : Int) := ⟨min s.size 1500, by omega, by omega, by omega⟩
  have htz := ext_zeroP s hk1
  obtain ⟨t, ht0⟩ : ∃ t, s.extract 0 k = t := ⟨_, rfl⟩
  rw [ht0] at htz
  have i1 : (0 : Int) ≤ (k : Int) := by omega
  have i2 : (k : Int) ≤ (s.size : Int) := by omega
  have hts : t.size ≤ 400000000 := by omega
  have HMD := Lib.hid (manyD_bd (parseP_many t.data.toList))
  obtain ⟨pr, hpr⟩ : ∃ pr, parseP t.data.toList = pr := ⟨_, rfl⟩
  obtain ⟨D, LN, ER⟩ := pr
  rw [hpr] at HMD
  have HPR := Lib.hid hpr
  have k1 : (LN == LN) = true := by simp
  have k2 : (ER == ER) = true := by simp
  have HM := Lib.hid hm
  have HT := Lib.hid ht
  clear hm ht hpr htz
  go_enter Tryd.func7, Tryd.ntmps7
  go_wp2_with fail
  clear hmin ht0 i1 i2
  refine (parse_any t hts HM.out).mono ?_
  rw [HPR.out]
  rintro e w1 ⟨B, R, rfl, hD, B1⟩
  obtain ⟨AB, cB, AR, cR, rfl, rfl⟩ := drw_shape hD
  have hb1 : Below w1.heap.size w1 (w1.alloc (.cells #[.slice AB D.1.length cB, .slice AR D.2.length cR] 45)) := (Below.refl _ _).alloc (Nat.le_refl _) _
  have HD1 := Lib.hid (Drw.later hD hb1)
  have HM1 := Lib.hid (cell_later hb1 (cell_later B1 HM.out))
  have HT1 := Lib.hid (tab_later (tab_later HT.out B1) hb1)
  have HB1 := Lib.hid (below_then B1 B1.size hb1)
  clear hD B1 HM HT hb1
  go_wp2_with fail
  refine (refParse_any t hts).mono ?_
  rw [HPR.out]
  rintro e w2 ⟨B', R', rfl, hD', B2⟩
  obtain ⟨AB', cB', AR', cR', rfl, rfl⟩ := drw_shape hD'
  have hg : w2.heap[w1.heap.size]? = some (.cells #[.slice AB D.1.length cB, .slice AR D.2.length cR] 45) := block_later B2 (heap_at rfl)
  have hb2 : Below w2.heap.size w2 (w2.alloc (.cells #[.slice AB' D.1.length cB', .slice AR' D.2.length cR'] 45)) := (Below.refl _ _).alloc (Nat.le_refl _) _
  have HG1 := Lib.hid (block_later hb2 hg)
  have HG2 : Hid ((w2.alloc (.cells #[.slice AB' D.1.length cB', .slice AR' D.2.length cR'] 45)).heap[w2.heap.size]? = some (.cells #[.slice AB' D.1.length cB', .slice AR' D.2.length cR'] 45)) := Lib.hid (heap_at rfl)
  have HD1 := Lib.hid (Drw.later (Drw.later HD1.out B2) hb2)
  have HD2 := Lib.hid (Drw.later hD' hb2)
  have HM2 := Lib.hid (cell_later hb2 (cell_later B2 HM1.out))
  have HT2 := Lib.hid (tab_later (tab_later HT1.out B2) hb2)
  have HB2 := Lib.hid (below_then (below_then HB1.out HB1.out.size B2) (by have := HB1.out.size; have := B2.size; omega) hb2)
  clear hD' B2 HM1 HT1 HB1 hb2 hg
  go_wp2_with fail
  refine (pwakes_ok HM2.out HT2.out).mono ?_
  rintro e w3 ⟨rfl, B3⟩
  have g1 := block_later B3 HG1.out
  have g2 := block_later B3 HG2.out
  have q0 := (Cl.of_block g1 (j := 0) rfl).cell
  have q1 := (Cl.of_block g1 (j := 1) rfl).cell
  have q2 := (Cl.of_block g2 (j := 0) rfl).cell
  have q3 := (Cl.of_block g2 (j := 1) rfl).cell
  have HD3 := Lib.hid (HD1.out.later B3)
  have HD4 := Lib.hid (HD2.out.later B3)
  have HB3 := Lib.hid (below_then HB2.out HB2.out.size B3)
  clear B3 HM2 HT2 HB2 HG1 HG2 HD1 HD2 g1 g2
  go_wp2_with fail
  refine (same_any HD3.out HD4.out (by have h : D.1.length ≤ 4096 := HMD.out.1; omega) (by have h : D.2.length ≤ 4096 := HMD.out.2.1; omega) (fun r hr => by
    obtain ⟨i, hi⟩ := List.getElem?_of_mem hr
    have h1 := totP_get hi
    have h2 : totP D.2 ≤ 12288 := HMD.out.2.2
    omega)).mono ?_
  rw [show decide (D = D) = true by simp]
  rintro e w4 ⟨rfl, B4⟩
  have HB4 := Lib.hid (below_then HB3.out HB3.out.size B4)
  clear B4 HB3
  go_wp2_with fail
  go_ret
  exact ⟨rfl, HB4.out⟩
end Go.Proofs.YtkpgjgmlhcipeaaDoor
