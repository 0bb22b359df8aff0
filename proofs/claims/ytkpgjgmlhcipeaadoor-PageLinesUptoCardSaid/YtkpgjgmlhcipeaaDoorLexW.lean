/- What the document fixes of lex: muntinlaw07.wakes tells true. -/
import Derived.Test.YtkpgjgmlhcipeaaDoorLexB
namespace Go.Proofs.YtkpgjgmlhcipeaaDoor
open Go.RowKit
abbrev Tab (w : World) : Prop := Lib.TabIs Tryd.prog w "internal/strconv.uint64pow10" .u64 Lib.pow10Tab
theorem tab_later {w w' : World} (h : Tab w) (B : Below w.heap.size w w') : Tab w' := by
  unfold Tab Lib.TabIs World.var? at h ⊢
  cases hg : Tryd.prog.globalNamed "internal/strconv.uint64pow10" with
  | none =>
    rw [hg] at h
    cases h
  | some g =>
    rw [hg] at h
    simp only [Option.bind_some] at h ⊢
    have hlt : g < w.heap.size := by
      rcases Nat.lt_or_ge g w.heap.size with h' | h'
      · exact h'
      · rw [Array.getElem?_eq_none h'] at h; cases h
    rw [B.block g hlt]
    exact h
theorem lexNumber_some {w : World} {s : ByteArray} {most : Int} {m : Nat} (h : numO s.data.toList most = some m) :
    Calls Tryd.prog 13 #[.string s, .int .i64 most] w fun e w' => e = .returned (.tuple #[.int .i64 (m : Int), .bool true]) ∧ Below w.heap.size w w' := by
  have := lexNumber_any (w := w) s most
  rw [h] at this
  exact this
theorem lexNumber_none {w : World} {s : ByteArray} {most : Int} (h : numO s.data.toList most = none) :
    Calls Tryd.prog 13 #[.string s, .int .i64 most] w fun e w' => e = .returned (.tuple #[.int .i64 0, .bool false]) ∧ Below w.heap.size w w' := by
  have := lexNumber_any (w := w) s most
  rw [h] at this
  exact this
theorem itoa_7 : toB (Lib.itoa (-7)) = ⟨#[45, 55]⟩ := by
  unfold Lib.itoa
  rw [if_pos (by decide)]
  show toB (45 :: Lib.decDigits 7) = _
  rw [dig_small (by decide)]
  rfl
set_option maxRecDepth 100000 in
set_option maxHeartbeats 1000000 in
theorem lexWakes_ok {w : World} {m : Int} (hm : w.cell? ⟨0, 0, none⟩ = some (.int .i64 m)) (ht : Tab w) :
    Calls Tryd.prog 14 #[] w fun e w' => e = .returned (.bool true) ∧ Below w.heap.size w w' := by
  have HM := Lib.hid hm
  have HT := Lib.hid ht
  clear hm ht
  go_enter Tryd.func14, Tryd.ntmps14
  go_wp2_with fail
  refine (lexWords_any (s := ⟨#[48, 32, 69, 32, 49]⟩) (by decide) HM.out).mono ?_
  rw [show wdO (⟨#[48, 32, 69, 32, 49]⟩ : ByteArray).data.toList = true from by decide, show wdL (⟨#[48, 32, 69, 32, 49]⟩ : ByteArray).data.toList = [toB [48], toB [69], toB [49]] from by decide]
  rintro e w1 ⟨V1, rfl, S1, B1⟩
  obtain ⟨A1, c1, rfl, -⟩ := S1.at_
  have HM1 := Lib.hid (cell_later B1 HM.out)
  have HT1 := Lib.hid (tab_later HT.out B1)
  have HB1 := Lib.hid B1
  clear S1 B1 HM HT
  go_wp2_with fail
  refine (lexWords_any (s := ⟨#[48, 32, 32, 69]⟩) (by decide) HM1.out).mono ?_
  rw [show wdO (⟨#[48, 32, 32, 69]⟩ : ByteArray).data.toList = false from by decide]
  rintro e w2 ⟨V2, rfl, S2, B2⟩
  have HM2 := Lib.hid (cell_later B2 HM1.out)
  have HT2 := Lib.hid (tab_later HT1.out B2)
  have HB2 := Lib.hid (below_then HB1.out HB1.out.size B2)
  clear S2 B2 HM1 HT1 HB1
  go_wp2_with fail
  refine (lexLines_any (s := ⟨#[97, 10, 10]⟩) (by decide) HM2.out).mono ?_
  rw [show lnE (⟨#[97, 10, 10]⟩ : ByteArray).data.toList = 0 from by decide, show lnL (⟨#[97, 10, 10]⟩ : ByteArray).data.toList = [toB [97], toB []] from by decide]
  rintro e w3 ⟨V3, rfl, S3, B3⟩
  obtain ⟨A3, c3, rfl, -⟩ := S3.at_
  have HM3 := Lib.hid (cell_later B3 HM2.out)
  have HT3 := Lib.hid (tab_later HT2.out B3)
  have HB3 := Lib.hid (below_then HB2.out HB2.out.size B3)
  clear S3 B3 HM2 HT2 HB2
  go_wp2_with fail
  refine (lexLines_any (s := ⟨#[97]⟩) (by decide) HM3.out).mono ?_
  rw [show lnE (⟨#[97]⟩ : ByteArray).data.toList = 4 from by decide]
  rintro e w4 ⟨V4, rfl, S4, B4⟩
  have HT4 := Lib.hid (tab_later HT3.out B4)
  have HB4 := Lib.hid (below_then HB3.out HB3.out.size B4)
  clear S4 B4 HM3 HT3 HB3
  go_wp2_with fail
  refine (lexNumber_some (s := ⟨#[49, 50]⟩) (most := 12) (m := 12) (by decide)).mono ?_
  rintro e w5 ⟨rfl, B5⟩
  have HT5 := Lib.hid (tab_later HT4.out B5)
  have HB5 := Lib.hid (below_then HB4.out HB4.out.size B5)
  clear B5 HT4 HB4
  go_wp2_with fail
  refine (digits_any (-7) (by decide) (by decide) HT5.out).mono ?_
  rw [itoa_7]
  obtain ⟨S, hS⟩ : ∃ S : ByteArray, ⟨#[45, 55]⟩ = S := ⟨_, rfl⟩
  rw [hS]
  have hSe : (S.toList == [45, 55]) = true := by rw [← hS]; simp
  clear hS
  rintro e w6 ⟨rfl, B6⟩
  have HB6 := Lib.hid (below_then HB5.out HB5.out.size B6)
  clear B6 HT5 HB5
  go_wp2_with fail
  go_ret
  exact ⟨rfl, HB6.out⟩
end Go.Proofs.YtkpgjgmlhcipeaaDoor
