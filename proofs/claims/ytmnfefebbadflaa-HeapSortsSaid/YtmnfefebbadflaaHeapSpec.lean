/- Heaps as lists: a push and a pop keep what is in the heap, and its order; the first item is the least. Plain laws. -/
import Derived.Test.YtmnfefebbadflaaHeapPure
namespace Go.Proofs.Ytmnfefebbadflaa
section
variable {α : Type} [Inhabited α] {lt : α → α → Bool}
/-- What comes ahead is an order in which any two can be told. -/
structure Tot (lt : α → α → Bool) : Prop where
  asym : ∀ a b : α × Int, ahd lt a b = true → ahd lt b a = false
  tr : ∀ a b c : α × Int, ahd lt b a = false → ahd lt c b = false → ahd lt c a = false
omit [Inhabited α] in
theorem Tot.refl (h : Tot lt) (a : α × Int) : ahd lt a a = false := by
  cases e : ahd lt a a with
  | false => rfl
  | true => exact absurd (e.symm.trans (h.asym a a e)) (by simp)
def Heapy (lt : α → α → Bool) (l : List (α × Int)) : Prop := ∀ j, 0 < j → j < l.length → ahd lt l[j]! l[(j - 1) / 2]! = false
theorem get_bang {β : Type} [Inhabited β] (l : List β) (j : Nat) : l[j]! = (l[j]?).getD default := List.getElem!_eq_getElem?_getD
theorem swp_get {β : Type} [Inhabited β] (l : List β) (i k j : Nat) (hi : i < l.length) (hk : k < l.length) : (swp l i k)[j]! = if j = k then l[i]! else if j = i then l[k]! else l[j]! := by
  simp only [swp, get_bang, List.getElem?_set, List.length_set]
  by_cases h1 : k = j
  · subst h1; simp [hk]
  · by_cases h2 : i = j
    · subst h2; simp [h1, hi, Ne.symm h1]
    · simp [h1, h2, Ne.symm h1, Ne.symm h2]
theorem swp_perm {β : Type} [Inhabited β] (l : List β) (i k : Nat) (hi : i < l.length) (hk : k < l.length) : (swp l i k).Perm l := by
  have h := @List.set_set_perm _ l i k hi hk
  have e : swp l i k = (l.set i l[k]).set k l[i] := by simp [swp, getElem!_pos, hi, hk]
  rw [e]; exact h
theorem up_perm (f : Nat) (l : List (α × Int)) (i : Nat) (hi : i < l.length) : (up lt f l i).Perm l := by
  induction f generalizing l i with
  | zero => exact List.Perm.refl _
  | succ f ih =>
    simp only [up]
    split
    · exact (ih _ _ (by rw [swp_length]; omega)).trans (swp_perm l i _ hi (by omega))
    · exact List.Perm.refl _
theorem child_lt (l : List (α × Int)) (i : Nat) (h : 2 * i + 1 < l.length) : child lt l i < l.length ∧ (child lt l i = 2 * i + 1 ∨ child lt l i = 2 * i + 2) := by
  unfold child; split <;> omega
theorem down_perm (f : Nat) (l : List (α × Int)) (i : Nat) : (down lt f l i).Perm l := by
  induction f generalizing l i with
  | zero => exact List.Perm.refl _
  | succ f ih =>
    simp only [down]
    split
    · rename_i h
      have hc := child_lt (lt := lt) l i h.1
      exact (ih _ _).trans (swp_perm l i _ (by omega) hc.1)
    · exact List.Perm.refl _
theorem up_heapy (hT : Tot lt) (f : Nat) : ∀ (l : List (α × Int)) (i : Nat), i ≤ f → i < l.length → (∀ j, 0 < j → j < l.length → j ≠ i → ahd lt l[j]! l[(j - 1) / 2]! = false) →
    (0 < i → ∀ j, 0 < j → j < l.length → (j - 1) / 2 = i → ahd lt l[j]! l[(i - 1) / 2]! = false) → Heapy lt (up lt f l i) := by
  induction f with
  | zero =>
    intro l i hf hi h1 _ j hj0 hj
    simp only [up] at *
    exact h1 j hj0 hj (by omega)
  | succ f ih =>
    intro l i hf hi h1 h2
    simp only [up]
    split
    · rename_i h
      obtain ⟨h0, ha⟩ := h
      have hp : (i - 1) / 2 < l.length := by omega
      have hb := hT.asym _ _ ha
      refine ih _ _ (by omega) (by rw [swp_length]; exact hp) ?_ ?_
      · intro j hj0 hj hjp
        rw [swp_length] at hj
        rw [swp_get l i _ j hi hp, swp_get l i _ _ hi hp, if_neg hjp]
        by_cases e1 : j = i
        · subst e1
          rw [if_pos rfl, if_pos rfl]
          exact hb
        · rw [if_neg e1]
          by_cases e2 : (j - 1) / 2 = (i - 1) / 2
          · rw [if_pos e2]
            have h3 := h1 j hj0 hj e1
            rw [e2] at h3
            exact hT.tr _ _ _ hb h3
          · rw [if_neg e2]
            by_cases e3 : (j - 1) / 2 = i
            · rw [if_pos e3]
              exact h2 h0 j hj0 hj e3
            · rw [if_neg e3]
              exact h1 j hj0 hj e1
      · intro hp0 j hj0 hj hjp
        rw [swp_length] at hj
        rw [swp_get l i _ j hi hp, swp_get l i _ _ hi hp, if_neg (by omega : ¬ j = (i - 1) / 2), if_neg (by omega : ¬ ((i - 1) / 2 - 1) / 2 = (i - 1) / 2), if_neg (by omega : ¬ ((i - 1) / 2 - 1) / 2 = i)]
        have h4 := h1 ((i - 1) / 2) hp0 hp (by omega)
        by_cases e1 : j = i
        · rw [if_pos e1]; exact h4
        · rw [if_neg e1]
          have h3 := h1 j hj0 hj e1
          rw [hjp] at h3
          exact hT.tr _ _ _ h4 h3
    · rename_i h
      intro j hj0 hj
      by_cases e : j = i
      · subst e
        cases hx : ahd lt l[j]! l[(j - 1) / 2]! with
        | false => rfl
        | true => exact absurd ⟨hj0, hx⟩ h
      · exact h1 j hj0 hj e
theorem sib (hT : Tot lt) (l : List (α × Int)) (i j : Nat) (hj : j < l.length) (hj0 : 0 < j) (hp : (j - 1) / 2 = i) (hc : j ≠ child lt l i) : ahd lt l[j]! l[child lt l i]! = false := by
  have h2 : j = 2 * i + 1 ∨ j = 2 * i + 2 := by omega
  unfold child at *
  split
  · rename_i h
    rw [if_pos h] at hc
    obtain rfl : j = 2 * i + 1 := by omega
    exact hT.asym _ _ h.2
  · rename_i h
    rw [if_neg h] at hc
    obtain rfl : j = 2 * i + 2 := by omega
    cases hx : ahd lt l[2 * i + 2]! l[2 * i + 1]! with
    | false => rfl
    | true => exact absurd ⟨hj, hx⟩ h
theorem down_heapy (hT : Tot lt) (f : Nat) : ∀ (l : List (α × Int)) (i : Nat), l.length ≤ i + f → (∀ j, 0 < j → j < l.length → (j - 1) / 2 ≠ i → ahd lt l[j]! l[(j - 1) / 2]! = false) →
    (0 < i → ∀ j, 0 < j → j < l.length → (j - 1) / 2 = i → ahd lt l[j]! l[(i - 1) / 2]! = false) → Heapy lt (down lt f l i) := by
  induction f with
  | zero =>
    intro l i hf h1 _ j hj0 hj
    simp only [down] at *
    exact h1 j hj0 hj (by omega)
  | succ f ih =>
    intro l i hf h1 h2
    simp only [down]
    split
    · rename_i h
      obtain ⟨h0, ha⟩ := h
      obtain ⟨hcl, hc2⟩ := child_lt (lt := lt) l i h0
      have hs := sib hT l i
      generalize child lt l i = c at *
      have hb := hT.asym _ _ ha
      have hi : i < l.length := by omega
      refine ih _ _ (by rw [swp_length]; omega) ?_ ?_
      · intro j hj0 hj hjp
        rw [swp_length] at hj
        rw [swp_get l i _ j hi hcl, swp_get l i _ _ hi hcl, if_neg hjp]
        by_cases e1 : j = c
        · subst e1
          rw [if_pos rfl, if_pos (by omega)]
          exact hb
        · rw [if_neg e1]
          by_cases e2 : j = i
          · subst e2
            rw [if_pos rfl, if_neg (by omega)]
            exact h2 hj0 c (by omega) hcl (by omega)
          · rw [if_neg e2]
            by_cases e3 : (j - 1) / 2 = i
            · rw [if_pos e3]
              exact hs j hj hj0 e3 e1
            · rw [if_neg e3]
              exact h1 j hj0 hj e3
      · intro hp0 j hj0 hj hjp
        rw [swp_length] at hj
        rw [swp_get l i _ j hi hcl, swp_get l i _ _ hi hcl, if_neg (by omega : ¬ j = c), if_neg (by omega : ¬ j = i), if_neg (by omega : ¬ (c - 1) / 2 = c), if_pos (by omega : (c - 1) / 2 = i)]
        have h3 := h1 j hj0 hj (by omega)
        rw [hjp] at h3
        exact h3
    · rename_i h
      intro j hj0 hj
      by_cases e : (j - 1) / 2 = i
      · have h0 : 2 * i + 1 < l.length := by omega
        have hx : ahd lt l[child lt l i]! l[i]! = false := by
          cases hx : ahd lt l[child lt l i]! l[i]! with
          | false => rfl
          | true => exact absurd ⟨h0, hx⟩ h
        rw [e]
        by_cases e1 : j = child lt l i
        · rw [e1]; exact hx
        · exact hT.tr _ _ _ hx (sib hT l i j hj hj0 e e1)
      · exact h1 j hj0 hj e
theorem heapy_min (hT : Tot lt) {l : List (α × Int)} (h : Heapy lt l) : ∀ j, j < l.length → ahd lt l[j]! l[0]! = false := by
  intro j
  induction j using Nat.strongRecOn with
  | _ j ih =>
    intro hj
    by_cases h0 : j = 0
    · subst h0; exact hT.refl _
    · exact hT.tr _ _ _ (ih ((j - 1) / 2) (by omega) (by omega)) (h j (by omega) hj)
theorem push_perm (l : List (α × Int)) (x : α) (t : Int) : (pushL lt l x t).Perm (l ++ [(x, t)]) := up_perm _ _ _ (by simp)
theorem push_heapy (hT : Tot lt) {l : List (α × Int)} (h : Heapy lt l) (x : α) (t : Int) : Heapy lt (pushL lt l x t) := by
  refine up_heapy hT _ _ _ (Nat.le_refl _) (by simp) ?_ ?_
  · intro j hj0 hj hne
    simp at hj
    have h1 := h j hj0 (by omega)
    rw [get_bang, get_bang] at *
    rw [List.getElem?_append_left (by omega), List.getElem?_append_left (by omega)]
    exact h1
  · intro _ j hj0 hj hp
    simp at hj
    omega
theorem swp_take (a : α × Int) (r : List (α × Int)) : swp (a :: r) 0 r.length = (swp (a :: r) 0 r.length).take r.length ++ [a] := by
  have h1 := List.take_append_drop r.length (swp (a :: r) 0 r.length)
  have hl : (swp (a :: r) 0 r.length).length = r.length + 1 := by rw [swp_length]; rfl
  have h2 : (swp (a :: r) 0 r.length).drop r.length = [a] := by
    rw [List.drop_eq_getElem_cons (by omega), List.drop_eq_nil_of_le (by omega)]
    have h3 := swp_get (a :: r) 0 r.length r.length (by simp) (by simp)
    rw [if_pos rfl] at h3
    rw [getElem!_pos _ _ (by omega)] at h3
    rw [h3]
    simp
  rw [h2] at h1
  exact h1.symm
theorem pop_perm (a : α × Int) (r : List (α × Int)) : (popL lt (a :: r)).Perm r := by
  have h1 : (popL lt (a :: r)).Perm ((swp (a :: r) 0 r.length).take r.length) := by
    have := down_perm (lt := lt) r.length ((swp (a :: r) 0 r.length).take r.length) 0
    simpa [popL] using this
  have h2 : (swp (a :: r) 0 r.length).Perm (a :: r) := swp_perm _ _ _ (by simp) (by simp)
  rw [swp_take] at h2
  have h3 : (a :: (swp (a :: r) 0 r.length).take r.length).Perm (a :: r) := (List.perm_append_comm.trans h2 : ([a] ++ (swp (a :: r) 0 r.length).take r.length).Perm (a :: r))
  exact h1.trans ((List.perm_cons a).1 h3)
theorem pop_heapy (hT : Tot lt) {a : α × Int} {r : List (α × Int)} (h : Heapy lt (a :: r)) : Heapy lt (popL lt (a :: r)) := by
  have hl : ((swp (a :: r) 0 r.length).take r.length).length = r.length := by rw [List.length_take, swp_length]; simp
  have hd : popL lt (a :: r) = down lt r.length ((swp (a :: r) 0 r.length).take r.length) 0 := by simp [popL]
  rw [hd]
  refine down_heapy hT _ _ _ (by rw [hl]; omega) ?_ (by omega)
  intro j hj0 hj hp
  rw [hl] at hj
  have hg : ∀ q, 0 < q → q < r.length → ((swp (a :: r) 0 r.length).take r.length)[q]! = (a :: r)[q]! := by
    intro q h0 h1
    have h2 := swp_get (a :: r) 0 r.length q (by simp) (by simp)
    rw [if_neg (by omega), if_neg (by omega)] at h2
    rw [← h2, get_bang, get_bang, List.getElem?_take, if_pos h1]
  rw [hg j hj0 hj, hg _ (by omega) (by omega)]
  exact h j hj0 (by simp; omega)
theorem popL_one (lt : α → α → Bool) (a : α × Int) (r : List (α × Int)) : (popL lt (a :: r)).length = r.length := (pop_perm a r).length_eq
end
end Go.Proofs.Ytmnfefebbadflaa
