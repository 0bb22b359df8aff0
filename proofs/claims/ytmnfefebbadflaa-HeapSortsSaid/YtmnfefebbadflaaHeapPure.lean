/- Heaps as lists: what comes ahead of what, an exchange, an item that goes up, an item that goes down, a push, a pop. Plain functions and laws. -/
import Derived.Test.YtmnfefebbadflaaFnd
namespace Go.Proofs.Ytmnfefebbadflaa
section
variable {α : Type}
def ahd (lt : α → α → Bool) (a b : α × Int) : Bool := if lt a.1 b.1 then true else (!lt b.1 a.1 && decide (a.2 < b.2))
def swp [Inhabited α] (l : List α) (i k : Nat) : List α := (l.set i l[k]!).set k l[i]!
def up [Inhabited α] (lt : α → α → Bool) : Nat → List (α × Int) → Nat → List (α × Int)
  | 0, l, _ => l
  | f + 1, l, i => if 0 < i ∧ ahd lt l[i]! l[(i - 1) / 2]! = true then up lt f (swp l i ((i - 1) / 2)) ((i - 1) / 2) else l
/-- Which child goes up. -/
def child [Inhabited α] (lt : α → α → Bool) (l : List (α × Int)) (i : Nat) : Nat := if 2 * i + 2 < l.length ∧ ahd lt l[2 * i + 2]! l[2 * i + 1]! = true then 2 * i + 2 else 2 * i + 1
def down [Inhabited α] (lt : α → α → Bool) : Nat → List (α × Int) → Nat → List (α × Int)
  | 0, l, _ => l
  | f + 1, l, i => if 2 * i + 1 < l.length ∧ ahd lt l[child lt l i]! l[i]! = true then down lt f (swp l i (child lt l i)) (child lt l i) else l
def pushL [Inhabited α] (lt : α → α → Bool) (l : List (α × Int)) (x : α) (t : Int) : List (α × Int) := up lt l.length (l ++ [(x, t)]) l.length
def popL [Inhabited α] (lt : α → α → Bool) (l : List (α × Int)) : List (α × Int) := down lt (l.length - 1) ((swp l 0 (l.length - 1)).take (l.length - 1)) 0
theorem swp_length [Inhabited α] (l : List α) (i k : Nat) : (swp l i k).length = l.length := by simp [swp]
theorem up_length [Inhabited α] (lt : α → α → Bool) (f : Nat) (l : List (α × Int)) (i : Nat) : (up lt f l i).length = l.length := by
  induction f generalizing l i with
  | zero => rfl
  | succ f ih => simp only [up]; split <;> simp [ih, swp_length]
theorem down_length [Inhabited α] (lt : α → α → Bool) (f : Nat) (l : List (α × Int)) (i : Nat) : (down lt f l i).length = l.length := by
  induction f generalizing l i with
  | zero => rfl
  | succ f ih => simp only [down]; split <;> simp [ih, swp_length]
theorem up_go [Inhabited α] {lt : α → α → Bool} {f : Nat} {l : List (α × Int)} {i : Nat} (hf : i ≤ f) (h0 : 0 < i) (h : ahd lt l[i]! l[(i - 1) / 2]! = true) : up lt f l i = up lt (f - 1) (swp l i ((i - 1) / 2)) ((i - 1) / 2) := by
  obtain ⟨g, rfl⟩ : ∃ g, f = g + 1 := ⟨f - 1, by omega⟩
  simp only [up, Nat.add_sub_cancel]
  rw [if_pos ⟨h0, h⟩]
theorem up_stop [Inhabited α] {lt : α → α → Bool} {f : Nat} {l : List (α × Int)} {i : Nat} (h : ¬ (0 < i ∧ ahd lt l[i]! l[(i - 1) / 2]! = true)) : up lt f l i = l := by
  cases f with
  | zero => rfl
  | succ g => simp only [up]; rw [if_neg h]
theorem down_go [Inhabited α] {lt : α → α → Bool} {f : Nat} {l : List (α × Int)} {i c : Nat} (hf : l.length ≤ i + f) (hc : child lt l i = c) (h0 : 2 * i + 1 < l.length) (h : ahd lt l[c]! l[i]! = true) : down lt f l i = down lt (f - 1) (swp l i c) c := by
  subst hc
  obtain ⟨g, rfl⟩ : ∃ g, f = g + 1 := ⟨f - 1, by omega⟩
  simp only [down, Nat.add_sub_cancel]
  rw [if_pos ⟨h0, h⟩]
theorem down_stop [Inhabited α] {lt : α → α → Bool} {f : Nat} {l : List (α × Int)} {i : Nat} (h : ¬ (2 * i + 1 < l.length ∧ ahd lt l[child lt l i]! l[i]! = true)) : down lt f l i = l := by
  cases f with
  | zero => rfl
  | succ g => simp only [down]; rw [if_neg h]
end
end Go.Proofs.Ytmnfefebbadflaa
