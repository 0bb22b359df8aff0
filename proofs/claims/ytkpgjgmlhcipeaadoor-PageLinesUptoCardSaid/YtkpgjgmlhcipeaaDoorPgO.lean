/- muntinlaw28.wakes tells true. -/
import Derived.Test.YtkpgjgmlhcipeaaDoorPgK
import Derived.Test.YtkpgjgmlhcipeaaDoorPgE
namespace Go.Proofs.YtkpgjgmlhcipeaaDoor
open Go.RowKit
def wk1 : ByteArray := ⟨#[100, 114, 97, 119, 105, 110, 103, 10, 112, 111, 105, 110, 116, 32, 48, 32, 48, 10, 112, 111, 105, 110, 116, 32, 49, 32, 48, 10, 114, 111, 117, 116, 101, 32, 48, 32, 49, 32, 48, 32, 48, 32, 49, 32, 48, 10, 101, 110, 100, 10]⟩
def wk2 : ByteArray := ⟨#[100, 114, 97, 119, 105, 110, 103, 10, 112, 111, 105, 110, 116, 32, 48, 10, 101, 110, 100, 10]⟩
def wkD : Dr := ([((0, 0), (0, 0)), ((1, 0), (1, 0))], [((0, 1), [(0, 0), (1, 0)])])
theorem wk1_parse : parseP wk1.data.toList = (wkD, 0, 0) := by decide
theorem wk2_parse : parseP wk2.data.toList = (([], []), 2, 4) := by decide
theorem wk1_print : printP wkD = (wk1.data.toList, 0) := by
  have h := parse_back (l := wk1.data.toList) (by rw [wk1_parse])
  rw [wk1_parse] at h
  exact h
theorem wk_suf : Lib.hasSuffix wk1.data.toList (⟨#[114, 111, 117, 116, 101, 32, 48, 32, 49, 32, 48, 32, 48, 32, 49, 32, 48, 10, 101, 110, 100, 10]⟩ : ByteArray).data.toList = true := by decide
set_option maxRecDepth 100000 in
set_option maxHeartbeats 2000000 in
theorem pwakes_ok {w : World} {m : Int} (hm : w.cell? ⟨0, 0, none⟩ = some (.int .i64 m)) (ht : Tab w) :
    Calls Tryd.prog 28 #[] w fun e w' => e = .returned (.bool true) ∧ Below w.heap.size w w' := by
  have HM := Lib.hid hm
  have HT := Lib.hid ht
  clear hm ht
  go_enter Tryd.func28, Tryd.ntmps28
  go_wp2_with fail
  refine (parse_any wk1 (by decide) HM.out).mono ?_
  rw [wk1_parse]
  rintro e w1 ⟨B, R, rfl, hD, B1⟩
  have HD1 := Lib.hid hD
  obtain ⟨AB, cB, hBe, -, -, -⟩ := hD.1.at_
  obtain ⟨M, hR, hP⟩ := hD.2
  obtain ⟨AR, cR, hRe, -, -, hr⟩ := hR.at_
  have hl : M.length = 1 := hP.1
  rw [hl] at hRe hr
  have hBe2 : B = .slice AB 2 cB := hBe
  subst hBe2 hRe
  obtain ⟨b, o, rfl, hc⟩ := hr (by omega)
  obtain ⟨V, hM0, hV⟩ := hP.at_ (i := 0) (by decide)
  obtain ⟨AV, cV, hVe, -, -, -⟩ := hV.at_
  have hVe2 : V = .slice AV 2 cV := hVe
  subst hVe2
  have c2 := (hc 0 _ hM0).2.2
  simp only [Nat.zero_mul, Nat.add_zero] at c2
  have HC := Lib.hid c2
  have HM1 := Lib.hid (cell_later B1 HM.out)
  have HT1 := Lib.hid (tab_later HT.out B1)
  have HB1 := Lib.hid B1
  clear B1 hD hr hc hM0 hV hR hP hl c2 HM HT
  have hb : Below w1.heap.size w1 (w1.alloc (.cells #[.slice AB 2 cB, .slice (some ⟨b, o, none⟩) 1 cR] 45)) := (Below.refl _ _).alloc (Nat.le_refl _) _
  have HBA := Lib.hid hb
  clear hb
  go_wp2_with fail
  refine (print_any (HD1.out.later HBA.out) (by decide) (by decide) (by decide) (tab_later HT1.out HBA.out)).mono ?_
  rw [wk1_print]
  simp only [toB_data]
  obtain ⟨S, hS⟩ : ∃ S, wk1 = S := ⟨_, rfl⟩
  have HSF : Hid (Lib.hasSuffix S.data.toList (⟨#[114, 111, 117, 116, 101, 32, 48, 32, 49, 32, 48, 32, 48, 32, 49, 32, 48, 10, 101, 110, 100, 10]⟩ : ByteArray).data.toList = true) := Lib.hid (by rw [← hS]; exact wk_suf)
  have HSZ : Hid (S.size ≤ 9223372036854775807) := Lib.hid (by rw [← hS]; decide)
  rw [hS]
  clear hS
  rintro e w2 ⟨rfl, B2⟩
  have hg : w2.heap[w1.heap.size]? = some (.cells #[.slice AB 2 cB, .slice (some ⟨b, o, none⟩) 1 cR] 45) := block_later B2 (heap_at rfl)
  have HG2 := Lib.hid hg
  have HB12 := Lib.hid (below_then HBA.out HBA.out.size B2)
  have HM2 := Lib.hid (cell_later HB12.out HM1.out)
  have HB2 := Lib.hid (below_then HB1.out HB1.out.size HB12.out)
  clear hg B2 HM1 HT1 HBA
  go_wp2_with fail
  refine (parse_any wk2 (by decide) HM2.out).mono ?_
  rw [wk2_parse]
  rintro e w3 ⟨B', R', rfl, hD3, B3⟩
  obtain ⟨A3, c3, hB3e, -, -, -⟩ := hD3.1.at_
  obtain ⟨M3, hR3, hP3⟩ := hD3.2
  obtain ⟨A4, c4, hR3e, -, -, -⟩ := hR3.at_
  subst hB3e hR3e
  have hb4 : Below w3.heap.size w3 (w3.alloc (.cells #[.slice A3 0 c3, .slice A4 M3.length c4] 45)) := (Below.refl _ _).alloc (Nat.le_refl _) _
  have hg4 := block_later hb4 (block_later B3 HG2.out)
  have q0 := (Cl.of_block hg4 (j := 0) rfl).cell
  have q1 := (Cl.of_block hg4 (j := 1) rfl).cell
  have q2 := cell_later hb4 (cell_later B3 (cell_later HB12.out HC.out))
  have HB3 := Lib.hid (below_then (below_then HB2.out HB2.out.size B3) (by have := HB2.out.size; have := B3.size; omega) hb4)
  clear hb4 hg4 B3 hD3 hR3 hP3 HM2
  go_wp2_with fail
  refine (Tryd.strings_HasSuffix S ⟨#[114, 111, 117, 116, 101, 32, 48, 32, 49, 32, 48, 32, 48, 32, 49, 32, 48, 10, 101, 110, 100, 10]⟩ _ HSZ.out).mono ?_
  rw [HSF.out]
  rintro e w5 ⟨rfl, rfl⟩
  go_wp2_with fail
  go_ret
  exact ⟨rfl, HB3.out⟩
end Go.Proofs.YtkpgjgmlhcipeaaDoor
