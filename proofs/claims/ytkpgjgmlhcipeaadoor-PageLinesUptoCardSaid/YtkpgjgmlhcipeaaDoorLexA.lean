/- lex: lines, words, numbers, digits. -/
import Derived.Test.YtkpgjgmlhcipeaaDoorStr
import Derived.Test.YtkpgjgmlhcipeaaDoorShelf
import Derived.Shelf.Strings.FuncGrows
import Derived.Lib.AppendIntMem
namespace Go.Proofs.YtkpgjgmlhcipeaaDoor
open Go.RowKit
def bNl : ByteArray := ⟨#[10]⟩
def bSp : ByteArray := ⟨#[32]⟩
theorem digits_any {w : World} (n : Int) (h0 : -9223372036854775808 ≤ n) (h1 : n ≤ 9223372036854775807) (ht : Lib.TabIs Tryd.prog w "internal/strconv.uint64pow10" .u64 Lib.pow10Tab) :
    Calls Tryd.prog 12 #[.int .i64 n] w fun e w' => e = .returned (.string (toB (Lib.itoa n))) ∧ Below w.heap.size w w' := by
  have HT := Lib.hid ht
  clear ht
  go_enter Tryd.func12, Tryd.ntmps12
  go_wp2_with fail
  refine (Tryd.strconv_Itoa n h0 h1 _ HT.out).mono ?_
  rintro e w1 ⟨rfl, k, os, hw⟩
  have B1 : Below w.heap.size w w1 := by rw [hw]; exact Lib.below_grow _ _ (Nat.le_refl _) k os
  have HB := Lib.hid B1
  clear B1 hw
  go_wp2_with fail
  go_ret
  exact ⟨rfl, HB.out⟩
/-- Lines. -/
def lnE (l : List UInt8) : Int := if 1048576 < l.length then 16 else if l = [] then 0 else if Lib.hasSuffix l [10] = true then 0 else 4
def lnL (l : List UInt8) : List ByteArray := if lnE l = 0 ∧ l ≠ [] then (cut 10 l.dropLast).map toB else []
theorem piece_len (c : UInt8) (s : ByteArray) : ((cut c s.data.toList).map toB).length = Lib.countB s ⟨#[c]⟩ + 1 := by
  rw [← split_cutB]
  exact Lib.splitB_all ⟨#[c]⟩ (Nat.le_refl 1) 0 _ s rfl
theorem str_nil {s : ByteArray} : s.toList.isEmpty = decide (s.data.toList = []) := by
  rw [ByteArray.toList_eq]
  cases h : s.data.toList with
  | nil => rfl
  | cons a t => rfl
theorem suf_one {l : List UInt8} {c : UInt8} (h : Lib.hasSuffix l [c] = true) : l = l.dropLast ++ [c] := by
  unfold Lib.hasSuffix at h
  have h1 := List.isSuffixOf_iff_suffix.1 h
  obtain ⟨t, rfl⟩ := h1
  simp
theorem trim_one {l : List UInt8} {c : UInt8} (h : Lib.hasSuffix l [c] = true) : Lib.trimSuffix l [c] = l.dropLast := by
  unfold Lib.trimSuffix
  rw [if_pos h, List.dropLast_eq_take]
  rfl
section
variable {w : World} {s : ByteArray} {m : Int}
set_option maxRecDepth 100000 in
set_option maxHeartbeats 1000000 in
theorem lexLines_any (hs : s.size < 4294967281) (hm : w.cell? ⟨0, 0, none⟩ = some (.int .i64 m)) :
    Calls Tryd.prog 15 #[.string s] w fun e w' => ∃ V, e = .returned (.tuple #[V, .int .i64 (lnE s.data.toList)]) ∧ Strs w' V (lnL s.data.toList) ∧ Below w.heap.size w w' := by
  have HM := Lib.hid hm
  clear hm
  have HSZ := Lib.hid (Lib.size_eq s)
  obtain ⟨E, hE⟩ : ∃ E, lnE s.data.toList = E := ⟨_, rfl⟩
  obtain ⟨LL, hLL⟩ : ∃ LL, lnL s.data.toList = LL := ⟨_, rfl⟩
  rw [hE, hLL]
  have HE := Lib.hid hE
  have HLL := Lib.hid hLL
  clear hE hLL
  have HN : Hid (s.toList.isEmpty = decide (s.data.toList = [])) := Lib.hid str_nil
  go_enter Tryd.func15, Tryd.ntmps15
  by_cases h1 : 1048576 < s.size
  · have hd : decide ((1048576 : Int) < (s.size : Int)) = true := by simp; omega
    have H1 := Lib.hid h1
    clear h1
    go_wp2_with fail
    go_ret2
    have hE : lnE s.data.toList = 16 := by unfold lnE; rw [if_pos (by have := HSZ.out; have := H1.out; omega)]
    obtain rfl := HE.out.symm.trans hE
    refine ⟨_, rfl, ?_, Below.refl _ _⟩
    rw [← HLL.out]
    unfold lnL
    rw [hE, if_neg (by simp)]
    exact Strs.nil _
  · have hd : decide ((1048576 : Int) < (s.size : Int)) = false := by simp; omega
    have H1 := Lib.hid h1
    clear h1
    by_cases h2 : s.data.toList = []
    · have hn : s.toList.isEmpty = true := by rw [HN.out, decide_eq_true h2]
      have H2 := Lib.hid h2
      clear h2
      go_wp2_with fail
      go_ret2
      have hE : lnE s.data.toList = 0 := by unfold lnE; rw [if_neg (by have := HSZ.out; have := H1.out; omega), if_pos H2.out]
      obtain rfl := HE.out.symm.trans hE
      refine ⟨_, rfl, ?_, Below.refl _ _⟩
      rw [← HLL.out]
      unfold lnL
      rw [if_neg (fun h => h.2 H2.out)]
      exact Strs.nil _
    · have hn : s.toList.isEmpty = false := by rw [HN.out, decide_eq_false h2]
      have H2 := Lib.hid h2
      obtain ⟨q, hq⟩ : ∃ q, Lib.hasSuffix s.data.toList [10] = q := ⟨_, rfl⟩
      have HQ := Lib.hid hq
      clear h2 hq
      go_wp2_with fail
      refine (Tryd.strings_HasSuffix s bNl w (by have := HSZ.out; have := H1.out; omega)).mono ?_
      rw [show bNl.data.toList = [10] from rfl, HQ.out]
      rintro e w1 ⟨rfl, hw1⟩
      subst hw1
      cases q with
      | false =>
        go_wp2_with fail
        go_ret2
        have hE : lnE s.data.toList = 4 := by unfold lnE; rw [if_neg (by have := HSZ.out; have := H1.out; omega), if_neg H2.out, if_neg (by rw [HQ.out]; decide)]
        obtain rfl := HE.out.symm.trans hE
        refine ⟨_, rfl, ?_, Below.refl _ _⟩
        rw [← HLL.out]
        unfold lnL
        rw [hE, if_neg (by simp)]
        exact Strs.nil _
      | true =>
        go_wp2_with fail
        refine (Tryd.strings_TrimSuffix s bNl w1 (by have := HSZ.out; have := H1.out; omega)).mono ?_
        rw [show bNl.data.toList = [10] from rfl, trim_one HQ.out]
        obtain ⟨t, ht⟩ : ∃ t, (⟨s.data.toList.dropLast.toArray⟩ : ByteArray) = t := ⟨_, rfl⟩
        have htd : s.data.toList.dropLast = t.data.toList := by rw [← ht]
        have htl : t.size < 4294967281 := by
          have e1 := Lib.size_eq t
          have e2 := HSZ.out
          rw [← htd, List.length_dropLast] at e1
          omega
        rw [ht]
        have HTD := Lib.hid htd
        clear ht htd
        rintro e w2 ⟨rfl, hw2⟩
        subst hw2
        go_wp2_with fail
        refine (Tryd.strings_Split t bNl m w2 htl HM.out (by decide)).mono ?_
        rintro e w3 ⟨rfl, hw3⟩
        rw [show bNl = ⟨#[10]⟩ from rfl, split_cutB] at hw3
        have B3 : Below w2.heap.size w2 w3 := by rw [hw3]; exact (Below.refl _ _).alloc (Nat.le_refl _) _
        have S3 : Strs w3 (.slice (some ⟨w2.heap.size, 0, none⟩) (Lib.countB t bNl + 1) (Lib.countB t bNl + 1)) ((cut 10 t.data.toList).map toB) := Strs.lit (t := 9) (by rw [hw3]; exact heap_at rfl) (piece_len 10 t).symm
        have HB3 := Lib.hid B3
        have HS3 := Lib.hid S3
        clear hw3 B3 S3
        go_wp2_with fail
        go_ret2
        have hE : lnE s.data.toList = 0 := by unfold lnE; rw [if_neg (by have := HSZ.out; have := H1.out; omega), if_neg H2.out, if_pos HQ.out]
        obtain rfl := HE.out.symm.trans hE
        refine ⟨_, rfl, ?_, HB3.out⟩
        rw [← HLL.out]
        unfold lnL
        rw [if_pos ⟨hE, H2.out⟩, HTD.out]
        exact HS3.out
/-- Words. -/
def wdO (l : List UInt8) : Bool := (cut 32 l).all fun p => !p.isEmpty
def wdL (l : List UInt8) : List ByteArray := if wdO l = true then (cut 32 l).map toB else []
theorem contains_nil (L : List (List UInt8)) : Lib.containsS (L.map toB) ByteArray.empty = !(L.all fun p => !p.isEmpty) := by
  rw [Bool.eq_iff_iff, Lib.containsS_iff]
  simp only [List.mem_map, Bool.not_eq_true', ← Bool.not_eq_true, List.all_eq_true, Bool.not_eq_true']
  constructor
  · rintro ⟨p, hp, e⟩ h
    have h1 := h p hp
    have h2 : p = [] := by
      have := congrArg (fun b : ByteArray => b.data.toList) e
      simpa [data_toB] using this
    subst h2
    simp at h1
  · intro h
    rcases Classical.em (∃ p ∈ L, p = []) with ⟨p, hp, rfl⟩ | hne
    · exact ⟨[], hp, rfl⟩
    · exfalso
      apply h
      intro p hp
      cases p with
      | nil => exact absurd ⟨[], hp, rfl⟩ hne
      | cons a t => simp
set_option maxRecDepth 100000 in
set_option maxHeartbeats 1000000 in
theorem lexWords_any (hs : s.size < 4294967281) (hm : w.cell? ⟨0, 0, none⟩ = some (.int .i64 m)) :
    Calls Tryd.prog 17 #[.string s] w fun e w' => ∃ V, e = .returned (.tuple #[V, .bool (wdO s.data.toList)]) ∧ Strs w' V (wdL s.data.toList) ∧ Below w.heap.size w w' := by
  have HM := Lib.hid hm
  clear hm
  obtain ⟨q, hq⟩ : ∃ q, wdO s.data.toList = q := ⟨_, rfl⟩
  obtain ⟨LL, hLL⟩ : ∃ LL, wdL s.data.toList = LL := ⟨_, rfl⟩
  rw [hq, hLL]
  have HQ := Lib.hid hq
  have HLL := Lib.hid hLL
  clear hq hLL
  go_enter Tryd.func17, Tryd.ntmps17
  go_wp2_with fail
  refine (Tryd.strings_Split s bSp m w hs HM.out (by decide)).mono ?_
  rintro e w3 ⟨rfl, hw3⟩
  rw [show bSp = ⟨#[32]⟩ from rfl, split_cutB] at hw3
  have B3 : Below w.heap.size w w3 := by rw [hw3]; exact (Below.refl _ _).alloc (Nat.le_refl _) _
  have S3 : Strs w3 (.slice (some ⟨w.heap.size, 0, none⟩) (Lib.countB s bSp + 1) (Lib.countB s bSp + 1)) ((cut 32 s.data.toList).map toB) := Strs.lit (t := 9) (by rw [hw3]; exact heap_at rfl) (piece_len 32 s).symm
  have HB3 := Lib.hid B3
  have HS3 := Lib.hid S3
  have HPL := Lib.hid (piece_len 32 s)
  have HCN := Lib.hid (contains_nil (cut 32 s.data.toList))
  have hk : Lib.countB s bSp + 1 ≤ 4294967282 := by have := Lib.countB_le bSp (by decide) s.size s (Nat.le_refl _); omega
  clear hw3 B3 S3
  obtain ⟨k, hkk⟩ : ∃ k, Lib.countB s bSp + 1 = k := ⟨_, rfl⟩
  have hkl : ((cut 32 s.data.toList).map toB).length = k := by rw [← hkk]; exact HPL.out
  rw [hkk] at HS3 hk ⊢
  have HKL := Lib.hid hkl
  clear hkk hkl HPL
  go_wp2_with fail
  refine (Tryd.slices_Contains_string w.heap.size 0 k k ((cut 32 s.data.toList).map toB) ByteArray.empty w3 (by rw [HKL.out]; exact Nat.le_refl _) (by omega) (fun j hj => ?_)).mono ?_
  · obtain ⟨A', c', e, -, -, hc⟩ := Strs.at_ HS3.out
    obtain ⟨b, off, e2, hc⟩ := hc (by omega)
    injection e with e1 e3 e4
    rw [e2] at e1
    cases e1
    rw [hc j _ (List.getElem?_eq_getElem hj)]
    rw [List.getD_eq_getElem?_getD, List.getElem?_eq_getElem hj]
    rfl
  rw [List.take_of_length_le (by rw [HKL.out]; exact Nat.le_refl _), HCN.out, show ((cut 32 s.data.toList).all fun p => !p.isEmpty) = q from HQ.out]
  rintro e w4 ⟨rfl, hw4⟩
  subst hw4
  cases q with
  | true =>
    go_wp2_with fail
    go_ret2
    refine ⟨_, rfl, ?_, HB3.out⟩
    rw [← HLL.out]
    unfold wdL
    rw [if_pos HQ.out]
    exact HS3.out
  | false =>
    go_wp2_with fail
    go_ret2
    refine ⟨_, rfl, ?_, HB3.out⟩
    rw [← HLL.out]
    unfold wdL
    rw [if_neg (by rw [HQ.out]; decide)]
    exact Strs.nil _
end
end Go.Proofs.YtkpgjgmlhcipeaaDoor
