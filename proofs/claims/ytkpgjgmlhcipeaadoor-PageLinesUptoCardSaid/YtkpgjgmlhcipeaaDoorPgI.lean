/- page.lines: the lines of a drawing. -/
import Derived.Test.YtkpgjgmlhcipeaaDoorPgL
import Derived.Test.YtkpgjgmlhcipeaaDoorPgA
import Derived.Test.YtkpgjgmlhcipeaaDoorPgB
namespace Go.Proofs.YtkpgjgmlhcipeaaDoor
open Go.RowKit
/-- A line's own cells: its word, the slice of its numbers. -/
abbrev Lm := ByteArray × Value
def encL (m : Lm) : List Value := [.string m.1, m.2]
theorem encL_length (m : Lm) : (encL m).length = 2 := rfl
/-- The lines' cells and what they stand for: the numbers are rows of one's own. -/
def LnsO (w : World) (base : Nat) (K : List Lm) (xs : List Ln) : Prop := K.length = xs.length ∧ ∀ (i : Nat) (m : Lm) (x : Ln), K[i]? = some m → xs[i]? = some x → m.1 = x.1 ∧ w.ownsRow base 3 1 m.2 x.2.length (flat encI x.2)
theorem LnsO.later {w w' : World} {base : Nat} {K : List Lm} {xs : List Ln} (h : LnsO w base K xs) (B : Below w.heap.size w w') : LnsO w' base K xs :=
  ⟨h.1, fun i m x hm hx => ⟨(h.2 i m x hm hx).1, own_later (h.2 i m x hm hx).2 B⟩⟩
theorem LnsO.nil (w : World) (base : Nat) : LnsO w base [] [] := ⟨rfl, fun i m x h => by simp at h⟩
/-- .. a block is written that is none of ints. -/
theorem LnsO.other {w w' : World} {base : Nat} {K : List Lm} {xs : List Ln} {row : Option Nat} (h : LnsO w base K xs) (hg : w.grownBy w' row) (hr : ∀ b, row = some b → ∃ cs t, w.heap[b]? = some (.cells cs t) ∧ t ≠ 3) : LnsO w' base K xs :=
  ⟨h.1, fun i m x hm hx => ⟨(h.2 i m x hm hx).1, row_other (h.2 i m x hm hx).2 hg hr⟩⟩
theorem LnsO.snoc {w : World} {base : Nat} {K : List Lm} {xs : List Ln} (h : LnsO w base K xs) {m : Lm} {x : Ln} (h1 : m.1 = x.1) (h3 : w.ownsRow base 3 1 m.2 x.2.length (flat encI x.2)) : LnsO w base (K ++ [m]) (xs ++ [x]) := by
  refine ⟨by simp [h.1], fun i m' x' hm hx => ?_⟩
  by_cases hi : i < K.length
  · rw [List.getElem?_append_left hi] at hm
    rw [List.getElem?_append_left (by rw [← h.1]; exact hi)] at hx
    exact h.2 i m' x' hm hx
  · rw [List.getElem?_append_right (by omega)] at hm
    rw [List.getElem?_append_right (by rw [← h.1]; omega)] at hx
    rw [h.1] at hm
    by_cases h0 : i - xs.length = 0
    · rw [h0] at hm hx
      simp at hm hx
      subst hm
      subst hx
      exact ⟨h1, h3⟩
    · rw [List.getElem?_eq_none (by simp; omega)] at hm
      cases hm
theorem LnsO.at_ {w : World} {base : Nat} {K : List Lm} {xs : List Ln} (h : LnsO w base K xs) {i : Nat} (hi : i < xs.length) : ∃ V, K[i]? = some (xs[i].1, V) ∧ Ints w V xs[i].2 := by
  have hm : i < K.length := by rw [h.1]; exact hi
  obtain ⟨h1, h3⟩ := h.2 i K[i] xs[i] (List.getElem?_eq_getElem hm) (List.getElem?_eq_getElem hi)
  refine ⟨K[i].2, ?_, Sl.of_own encI_length h3⟩
  rw [List.getElem?_eq_getElem hm, ← h1]
theorem info_line : (Tryd.prog.info? 103).map (fun i => (i.zero, i.size, i.bytes)) = some (some (.agg #[.string ByteArray.empty, .slice none 0 0]), 2, 40) := by kernel_rfl
end Go.Proofs.YtkpgjgmlhcipeaaDoor
