/- Several rows of one's own, each in a block of its own: one grows. No program in sight. -/
import Derived.Test.YtkpgjgmlhcipeaaDoorSl
namespace Go.Proofs.YtkpgjgmlhcipeaaDoor
open Go.RowKit
structure RS (w : World) (base E sz m : Nat) (VV : Nat → Value) (K : Nat → Nat) (X : Nat → List Value) : Prop where
  rows : ∀ j, j < m → w.ownsRow base E sz (VV j) (K j) (X j)
  apart : ∀ u v, u < m → v < m → u ≠ v → ∀ g, (VV u).ownBlock = some g → (VV v).ownBlock ≠ some g
def upd {α : Type} (f : Nat → α) (j : Nat) (x : α) : Nat → α := fun i => if i = j then x else f i
theorem RS.later {w w' : World} {base E sz m : Nat} {VV : Nat → Value} {K : Nat → Nat} {X : Nat → List Value} (h : RS w base E sz m VV K X) (b : Below w.heap.size w w') : RS w' base E sz m VV K X :=
  ⟨fun j hj => own_later (h.rows j hj) b, h.apart⟩
theorem RS.push {wx w' : World} {base E sz m : Nat} {VV : Nat → Value} {K : Nat → Nat} {X : Nat → List Value} (h : RS wx base E sz m VV K X) (j : Nat) (hj : j < m) {q cq k' : Nat} {ys : List Value}
    (hown : w'.ownsRow base E sz (.slice (some ⟨q, 0, none⟩) k' cq) k' ys) (hg : wx.grownBy w' (VV j).ownBlock) (hat : (VV j).ownBlock = some q ∨ wx.heap.size ≤ q) :
    RS w' base E sz m (upd VV j (.slice (some ⟨q, 0, none⟩) k' cq)) (upd K j k') (upd X j ys) := by
  refine ⟨fun v hv => ?_, fun u v hu hv hne g hgu hgv => ?_⟩
  · unfold upd
    by_cases e : v = j
    · rw [if_pos e, if_pos e, if_pos e]; exact hown
    · rw [if_neg e, if_neg e, if_neg e]
      refine row_typ (h.rows v hv) (fun b cur hc hb => ?_)
      exact hg.block b (Array.getElem?_eq_some_iff.1 hc).1 (fun e' => h.apart v j hv hj e b hb e'.symm)
  · unfold upd at hgu hgv
    have fresh : ∀ x, x < m → x ≠ j → (VV x).ownBlock = some q → False := fun x hx hxj hq => by
      rcases hat with h' | h'
      · exact h.apart x j hx hj hxj q hq h'
      · have := own_lt (h.rows x hx) hq; omega
    by_cases e1 : u = j
    · by_cases e2 : v = j
      · omega
      · rw [if_pos e1] at hgu
        rw [if_neg e2] at hgv
        have : q = g := by simpa [Value.ownBlock] using hgu
        subst this
        exact fresh v hv e2 hgv
    · rw [if_neg e1] at hgu
      by_cases e2 : v = j
      · rw [if_pos e2] at hgv
        have : q = g := by simpa [Value.ownBlock] using hgv
        subst this
        exact fresh u hu e1 hgu
      · rw [if_neg e2] at hgv
        exact h.apart u v hu hv hne g hgu hgv
def four {α : Type} (a b c d : α) : Nat → α := fun j => if j = 0 then a else if j = 1 then b else if j = 2 then c else d
theorem upd0 {α : Type} (a b c d x : α) : upd (four a b c d) 0 x = four x b c d := by
  funext j; unfold upd four; by_cases h : j = 0 <;> simp [h]
theorem upd1 {α : Type} (a b c d x : α) : upd (four a b c d) 1 x = four a x c d := by
  funext j; unfold upd four; by_cases h : j = 1 <;> simp [h]
theorem upd2 {α : Type} (a b c d x : α) : upd (four a b c d) 2 x = four a b x d := by
  funext j; unfold upd four; by_cases h : j = 2 <;> simp [h]
/-- Four rows, one after another grown. -/
theorem RS.congr4 {w : World} {base E sz : Nat} {V W : Nat → Value} {K J : Nat → Nat} {X Y : Nat → List Value} (h : RS w base E sz 4 V K X)
    (v0 : V 0 = W 0) (v1 : V 1 = W 1) (v2 : V 2 = W 2) (v3 : V 3 = W 3) (k0 : K 0 = J 0 ∧ X 0 = Y 0) (k1 : K 1 = J 1 ∧ X 1 = Y 1) (k2 : K 2 = J 2 ∧ X 2 = Y 2) (k3 : K 3 = J 3 ∧ X 3 = Y 3) : RS w base E sz 4 W J Y := by
  have e : ∀ j, j < 4 → V j = W j ∧ K j = J j ∧ X j = Y j := by
    intro j hj
    have : j = 0 ∨ j = 1 ∨ j = 2 ∨ j = 3 := by omega
    rcases this with rfl | rfl | rfl | rfl
    · exact ⟨v0, k0⟩
    · exact ⟨v1, k1⟩
    · exact ⟨v2, k2⟩
    · exact ⟨v3, k3⟩
  refine ⟨fun j hj => ?_, fun u v hu hv hne g hgu => ?_⟩
  · obtain ⟨e1, e2, e3⟩ := e j hj
    rw [← e1, ← e2, ← e3]
    exact h.rows j hj
  · rw [← (e u hu).1] at hgu
    rw [← (e v hv).1]
    exact h.apart u v hu hv hne g hgu
end Go.Proofs.YtkpgjgmlhcipeaaDoor
