/- What HeapSorts needs beside: a heap of strings and other rows side by side, slices.Clone of strings. -/
import Derived.Test.YtmnfefebbadflaaSrtP
namespace Go.Proofs.Ytmnfefebbadflaa
open Go.RowKit
abbrev gf : Value := .func (.func 38) #[] #[]
theorem enter38 (args : Array Value) (w : World) : (callFunc 38 args).run Try.prog w = .ok (.enter 38 args) w := by kernel_rfl
set_option maxHeartbeats 1000000 in
theorem less38 : HStr.Less 38 ltG := ⟨enter38, fun a b w => by
  have e : Hid ((!Op.bytesLess a.toList b.toList && !(a.toList == b.toList)) = ltG a b) := by show _ = _; rw [ByteArray.toList_eq, ByteArray.toList_eq]; unfold ltG; rw [Bool.not_or]
  go_enter Try.func38, Try.ntmps38
  go_wp2
  go_ret
  exact ⟨ret_bool e.out, Below.refl _ _⟩⟩
section
variable {w w' : World} {hb gb B B' B'' n : Nat} {F F' V V' U : Value} {t t' : Int} {l : List (One × Int)} {l' : List (ByteArray × Int)} {xs : List Value}
theorem rep1_keep (H : HOne.Rep w hb F V t B l) (R : HStr.Rep w gb F' V' t' B' l') (C : Chg (fun b => b = gb ∨ V'.ownBlock = some b) w w') : HOne.Rep w' hb F V t B l :=
  H.chg C (by
    rintro (e | e)
    · subst e
      have h1 := H.blk
      rw [R.blk] at h1; cases h1
    · obtain ⟨cur, hc⟩ := row_block R.row e
      rw [H.blk] at hc; cases hc) (fun q hq => by
    obtain ⟨cur, hc⟩ := row_block H.row hq
    rintro (e | e)
    · subst e
      rw [R.blk] at hc; cases hc
    · obtain ⟨cur', hc'⟩ := row_block R.row e
      rw [hc] at hc'; cases hc')
theorem rowS_keep (O : w.ownsRow B'' 9 1 U n xs) (R : HStr.Rep w gb F' V' t' B' l') (C : Chg (fun b => b = gb ∨ V'.ownBlock = some b) w w') : w'.ownsRow B'' 9 1 U n xs :=
  row_chg O C (fun q hq => by
    obtain ⟨cur, hc⟩ := row_block O hq
    rintro (e | e)
    · subst e
      rw [R.blk] at hc; cases hc
    · obtain ⟨cur', hc'⟩ := row_block R.row e
      rw [hc] at hc'; cases hc')
theorem rep1_grown (H : HOne.Rep w hb F V t B l) (O : w.ownsRow B'' 9 1 U n xs) (h : w.grownBy w' U.ownBlock) : HOne.Rep w' hb F V t B l :=
  H.chg (Chg.of_grown h (S := fun b => U.ownBlock = some b) (fun _ e => e)) (fun e => by
    obtain ⟨cur, hc⟩ := row_block O e
    rw [H.blk] at hc; cases hc) (fun q hq e => by
    obtain ⟨cur, hc⟩ := row_block O e
    obtain ⟨cur', hc'⟩ := row_block H.row hq
    rw [hc] at hc'; cases hc')
theorem repS_grown (R : HStr.Rep w gb F' V' t' B' l') (O : w.ownsRow B'' 9 1 U n xs) (h : w.grownBy w' U.ownBlock) : HStr.Rep w' gb F' V' t' B' l' :=
  R.chg (Chg.of_grown h (S := fun b => U.ownBlock = some b) (fun _ e => e)) (fun e => by
    obtain ⟨cur, hc⟩ := row_block O e
    rw [R.blk] at hc; cases hc) (fun q hq e => by
    obtain ⟨cur, hc⟩ := row_block O e
    obtain ⟨cur', hc'⟩ := row_block R.row hq
    rw [hc] at hc'; cases hc')
theorem belowS_grown (hB : B'' ≤ w.heap.size) (O : w.ownsRow B'' 9 1 U n xs) (h : w.grownBy w' U.ownBlock) : Below B'' w w' :=
  (Chg.of_grown h (S := fun b => U.ownBlock = some b) (fun _ e => e)).below hB (fun _ h => own_ge O h)
theorem belowS_rep (hB : B'' ≤ w.heap.size) (h1 : B'' ≤ gb) (h2 : B'' ≤ B') (R : HStr.Rep w gb F' V' t' B' l') (C : Chg (fun b => b = gb ∨ V'.ownBlock = some b) w w') : Below B'' w w' :=
  C.below hB (fun k h => by
    rcases h with h | h
    · omega
    · have := own_ge R.row h; omega)
end
theorem strs_at {w : World} {b off n : Nat} (h : ∀ i, i < n → ∃ s : ByteArray, w.cell? ⟨b, off + i, none⟩ = some (.string s)) : ∃ zs : List ByteArray, zs.length = n ∧ ∀ j, j < zs.length → w.cell? ⟨b, off + j, none⟩ = some (.string (zs.getD j ByteArray.empty)) := by
  haveI : Inhabited ByteArray := ⟨ByteArray.empty⟩
  obtain ⟨p, hp⟩ := Deep.choose_lt h
  refine ⟨(List.range n).map p, by simp, fun j hj => ?_⟩
  have hj' : j < n := by simpa using hj
  rw [hp j hj', List.getD_eq_getElem?_getD, List.getElem?_map, List.getElem?_range hj']
  rfl
theorem cloneS_any {w : World} {B : Option Addr} {n cb : Nat} (hB : 0 < n → ∃ b off, B = some ⟨b, off, none⟩ ∧ ∀ i, i < n → ∃ s : ByteArray, w.cell? ⟨b, off + i, none⟩ = some (.string s)) (hn : n ≤ 50) :
    Calls Try.prog 39 #[.slice B n cb] w fun e w' => ∃ (v' : Value) (zs : List ByteArray), e = .returned v' ∧ zs.length = n ∧ w'.ownsRow w.heap.size 9 1 v' zs.length (zs.map Value.string) ∧ Below w.heap.size w w' := by
  by_cases h0 : 0 < n
  · obtain ⟨b, off, rfl, hc⟩ := hB h0
    obtain ⟨zs, hz, hc'⟩ := strs_at hc
    refine (Try.slices_Clone_string b off n cb zs w (by omega) (by omega) hc').mono ?_
    rintro e w' ⟨v', rfl, O, _, Bl⟩
    refine ⟨v', zs, rfl, hz, ?_, Bl⟩
    rw [List.take_of_length_le (by omega)] at O
    rw [hz]
    exact O
  · obtain rfl : n = 0 := by omega
    cases B with
    | none =>
      refine (Try.slices_Clone_string_nil 0 cb w).mono ?_
      rintro e w' ⟨rfl, rfl⟩
      exact ⟨_, [], rfl, rfl, World.ownsRow_nil _ _ _ _, Below.refl _ _⟩
    | some a =>
      refine (Try.slices_Clone_string_zero a cb w).mono ?_
      rintro e w' ⟨v', rfl, O, _, Bl⟩
      exact ⟨v', [], rfl, rfl, O, Bl⟩
theorem popS_any {w : World} {gb B : Nat} {V : Value} {t : Int} {hl : List (ByteArray × Int)} {d : ByteArray} {D : List ByteArray} (R : HStr.Rep w gb gf V t B hl) (S : SimS hl (d :: D)) (hs : ∀ y ∈ D, ltG y d = false) (hn : hl.length ≤ 1000) :
    Calls Try.prog 43 #[.pointer (some ⟨gb, 0, none⟩)] w fun e w' => e = .returned (.tuple #[.string d, .bool true]) ∧ ∃ V' hl', HStr.Rep w' gb gf V' t B hl' ∧ SimS hl' D ∧ Chg (fun b => b = gb ∨ V.ownBlock = some b) w w' := by
  match hl, R, S with
  | [], R, S => exact absurd S.len (by simp)
  | a :: r, R, S =>
    obtain ⟨e1, S'⟩ := S.pop hs
    refine (HStr.pop_some less38 R (by simp at hn; omega)).mono ?_
    rintro e w' ⟨rfl, ⟨V', hv, R'⟩, C⟩
    exact ⟨by rw [← e1], V', _, R', S', C⟩
end Go.Proofs.Ytmnfefebbadflaa
