/- Heaps as lists: what comes ahead of what, an exchange, an item that goes up, an item that goes down, a push, a pop. Plain functions and laws. -/
import Derived.Test.YtjgloineooadoaaGreatDoorMgZ0
import Derived.Deep.QuietTactic
import Derived.BigQuiet
import Derived.BigRegion
import Derived.Deep.RegionHeld3
import Derived.Deep.DeepCutAuto
import Derived.StillTailTactics
import Derived.Deep.RegionWith
import Derived.Deep.RegionLaw
import Derived.Deep.LoopGhost
import Derived.Laws.EntriesVeiled
namespace Go.Proofs.YtjgloineooadoaaGreatDoor
section
variable {α : Type}
def ahd (lt : α → α → Bool) (a b : α × Int) : Bool := if lt a.1 b.1 then true else (!lt b.1 a.1 && decide (a.2 < b.2))
def swp [Inhabited α] (l : List α) (i k : Nat) : List α := (l.set i l[k]!).set k l[i]!
def up [Inhabited α] (lt : α → α → Bool) : Nat → List (α × Int) → Nat → List (α × Int)
  | 0, l, _ => l
  | f + 1, l, i => if 0 < i ∧ ahd lt l[i]! l[(i - 1) / 2]! = true then up lt f (swp l i ((i - 1) / 2)) ((i - 1) / 2) else l
/-- Which child goes up. -/
def child [Inhabited α] (lt : α → α → Bool) (l : List (α × Int)) (i : Nat) : Nat := if 2 * i + 2 < l.length ∧ ahd lt l[2 * i + 2]! l[2 * i + 1]! = true then 2 * i + 2 else 2 * i + 1
def down [Inhabited α] (lt : α → α → Bool) : Nat → List (α × Int) → Nat → List (α × Int)
  | 0, l, _ => l
  | f + 1, l, i => if 2 * i + 1 < l.length ∧ ahd lt l[child lt l i]! l[i]! = true then down lt f (swp l i (child lt l i)) (child lt l i) else l
def pushL [Inhabited α] (lt : α → α → Bool) (l : List (α × Int)) (x : α) (t : Int) : List (α × Int) := up lt l.length (l ++ [(x, t)]) l.length
def popL [Inhabited α] (lt : α → α → Bool) (l : List (α × Int)) : List (α × Int) := down lt (l.length - 1) ((swp l 0 (l.length - 1)).take (l.length - 1)) 0
theorem swp_length [Inhabited α] (l : List α) (i k : Nat) : (swp l i k).length = l.length := by simp [swp]
theorem up_length [Inhabited α] (lt : α → α → Bool) (f : Nat) (l : List (α × Int)) (i : Nat) : (up lt f l i).length = l.length := by
  induction f generalizing l i with
  | zero => rfl
  | succ f ih => simp only [up]; split <;> simp [ih, swp_length]
theorem down_length [Inhabited α] (lt : α → α → Bool) (f : Nat) (l : List (α × Int)) (i : Nat) : (down lt f l i).length = l.length := by
  induction f generalizing l i with
  | zero => rfl
  | succ f ih => simp only [down]; split <;> simp [ih, swp_length]
theorem up_go [Inhabited α] {lt : α → α → Bool} {f : Nat} {l : List (α × Int)} {i : Nat} (hf : i ≤ f) (h0 : 0 < i) (h : ahd lt l[i]! l[(i - 1) / 2]! = true) : up lt f l i = up lt (f - 1) (swp l i ((i - 1) / 2)) ((i - 1) / 2) := by
  obtain ⟨g, rfl⟩ : ∃ g, f = g + 1 := ⟨f - 1, by omega⟩
  simp only [up, Nat.add_sub_cancel]
  rw [if_pos ⟨h0, h⟩]
theorem up_stop [Inhabited α] {lt : α → α → Bool} {f : Nat} {l : List (α × Int)} {i : Nat} (h : ¬ (0 < i ∧ ahd lt l[i]! l[(i - 1) / 2]! = true)) : up lt f l i = l := by
  cases f with
  | zero => rfl
  | succ g => simp only [up]; rw [if_neg h]
theorem down_go [Inhabited α] {lt : α → α → Bool} {f : Nat} {l : List (α × Int)} {i c : Nat} (hf : l.length ≤ i + f) (hc : child lt l i = c) (h0 : 2 * i + 1 < l.length) (h : ahd lt l[c]! l[i]! = true) : down lt f l i = down lt (f - 1) (swp l i c) c := by
  subst hc
  obtain ⟨g, rfl⟩ : ∃ g, f = g + 1 := ⟨f - 1, by omega⟩
  simp only [down, Nat.add_sub_cancel]
  rw [if_pos ⟨h0, h⟩]
theorem down_stop [Inhabited α] {lt : α → α → Bool} {f : Nat} {l : List (α × Int)} {i : Nat} (h : ¬ (2 * i + 1 < l.length ∧ ahd lt l[child lt l i]! l[i]! = true)) : down lt f l i = l := by
  cases f with
  | zero => rfl
  | succ g => simp only [down]; rw [if_neg h]
end
end Go.Proofs.YtjgloineooadoaaGreatDoor
/- Heaps as lists: a push and a pop keep what is in the heap, and its order; the first item is the least. Plain laws. -/
namespace Go.Proofs.YtjgloineooadoaaGreatDoor
section
variable {α : Type} [Inhabited α] {lt : α → α → Bool}
/-- What comes ahead is an order in which any two can be told. -/
structure Tot (lt : α → α → Bool) : Prop where
  asym : ∀ a b : α × Int, ahd lt a b = true → ahd lt b a = false
  tr : ∀ a b c : α × Int, ahd lt b a = false → ahd lt c b = false → ahd lt c a = false
omit [Inhabited α] in
theorem Tot.refl (h : Tot lt) (a : α × Int) : ahd lt a a = false := by
  cases e : ahd lt a a with
  | false => rfl
  | true => exact absurd (e.symm.trans (h.asym a a e)) (by simp)
def Heapy (lt : α → α → Bool) (l : List (α × Int)) : Prop := ∀ j, 0 < j → j < l.length → ahd lt l[j]! l[(j - 1) / 2]! = false
theorem get_bang {β : Type} [Inhabited β] (l : List β) (j : Nat) : l[j]! = (l[j]?).getD default := List.getElem!_eq_getElem?_getD
theorem swp_get {β : Type} [Inhabited β] (l : List β) (i k j : Nat) (hi : i < l.length) (hk : k < l.length) : (swp l i k)[j]! = if j = k then l[i]! else if j = i then l[k]! else l[j]! := by
  simp only [swp, get_bang, List.getElem?_set, List.length_set]
  by_cases h1 : k = j
  · subst h1; simp [hk]
  · by_cases h2 : i = j
    · subst h2; simp [h1, hi, Ne.symm h1]
    · simp [h1, h2, Ne.symm h1, Ne.symm h2]
theorem swp_perm {β : Type} [Inhabited β] (l : List β) (i k : Nat) (hi : i < l.length) (hk : k < l.length) : (swp l i k).Perm l := by
  have h := @List.set_set_perm _ l i k hi hk
  have e : swp l i k = (l.set i l[k]).set k l[i] := by simp [swp, getElem!_pos, hi, hk]
  rw [e]; exact h
theorem up_perm (f : Nat) (l : List (α × Int)) (i : Nat) (hi : i < l.length) : (up lt f l i).Perm l := by
  induction f generalizing l i with
  | zero => exact List.Perm.refl _
  | succ f ih =>
    simp only [up]
    split
    · exact (ih _ _ (by rw [swp_length]; omega)).trans (swp_perm l i _ hi (by omega))
    · exact List.Perm.refl _
theorem child_lt (l : List (α × Int)) (i : Nat) (h : 2 * i + 1 < l.length) : child lt l i < l.length ∧ (child lt l i = 2 * i + 1 ∨ child lt l i = 2 * i + 2) := by
  unfold child; split <;> omega
theorem down_perm (f : Nat) (l : List (α × Int)) (i : Nat) : (down lt f l i).Perm l := by
  induction f generalizing l i with
  | zero => exact List.Perm.refl _
  | succ f ih =>
    simp only [down]
    split
    · rename_i h
      have hc := child_lt (lt := lt) l i h.1
      exact (ih _ _).trans (swp_perm l i _ (by omega) hc.1)
    · exact List.Perm.refl _
theorem up_heapy (hT : Tot lt) (f : Nat) : ∀ (l : List (α × Int)) (i : Nat), i ≤ f → i < l.length → (∀ j, 0 < j → j < l.length → j ≠ i → ahd lt l[j]! l[(j - 1) / 2]! = false) →
    (0 < i → ∀ j, 0 < j → j < l.length → (j - 1) / 2 = i → ahd lt l[j]! l[(i - 1) / 2]! = false) → Heapy lt (up lt f l i) := by
  induction f with
  | zero =>
    intro l i hf hi h1 _ j hj0 hj
    simp only [up] at *
    exact h1 j hj0 hj (by omega)
  | succ f ih =>
    intro l i hf hi h1 h2
    simp only [up]
    split
    · rename_i h
      obtain ⟨h0, ha⟩ := h
      have hp : (i - 1) / 2 < l.length := by omega
      have hb := hT.asym _ _ ha
      refine ih _ _ (by omega) (by rw [swp_length]; exact hp) ?_ ?_
      · intro j hj0 hj hjp
        rw [swp_length] at hj
        rw [swp_get l i _ j hi hp, swp_get l i _ _ hi hp, if_neg hjp]
        by_cases e1 : j = i
        · subst e1
          rw [if_pos rfl, if_pos rfl]
          exact hb
        · rw [if_neg e1]
          by_cases e2 : (j - 1) / 2 = (i - 1) / 2
          · rw [if_pos e2]
            have h3 := h1 j hj0 hj e1
            rw [e2] at h3
            exact hT.tr _ _ _ hb h3
          · rw [if_neg e2]
            by_cases e3 : (j - 1) / 2 = i
            · rw [if_pos e3]
              exact h2 h0 j hj0 hj e3
            · rw [if_neg e3]
              exact h1 j hj0 hj e1
      · intro hp0 j hj0 hj hjp
        rw [swp_length] at hj
        rw [swp_get l i _ j hi hp, swp_get l i _ _ hi hp, if_neg (by omega : ¬ j = (i - 1) / 2), if_neg (by omega : ¬ ((i - 1) / 2 - 1) / 2 = (i - 1) / 2), if_neg (by omega : ¬ ((i - 1) / 2 - 1) / 2 = i)]
        have h4 := h1 ((i - 1) / 2) hp0 hp (by omega)
        by_cases e1 : j = i
        · rw [if_pos e1]; exact h4
        · rw [if_neg e1]
          have h3 := h1 j hj0 hj e1
          rw [hjp] at h3
          exact hT.tr _ _ _ h4 h3
    · rename_i h
      intro j hj0 hj
      by_cases e : j = i
      · subst e
        cases hx : ahd lt l[j]! l[(j - 1) / 2]! with
        | false => rfl
        | true => exact absurd ⟨hj0, hx⟩ h
      · exact h1 j hj0 hj e
theorem sib (hT : Tot lt) (l : List (α × Int)) (i j : Nat) (hj : j < l.length) (hj0 : 0 < j) (hp : (j - 1) / 2 = i) (hc : j ≠ child lt l i) : ahd lt l[j]! l[child lt l i]! = false := by
  have h2 : j = 2 * i + 1 ∨ j = 2 * i + 2 := by omega
  unfold child at *
  split
  · rename_i h
    rw [if_pos h] at hc
    obtain rfl : j = 2 * i + 1 := by omega
    exact hT.asym _ _ h.2
  · rename_i h
    rw [if_neg h] at hc
    obtain rfl : j = 2 * i + 2 := by omega
    cases hx : ahd lt l[2 * i + 2]! l[2 * i + 1]! with
    | false => rfl
    | true => exact absurd ⟨hj, hx⟩ h
theorem down_heapy (hT : Tot lt) (f : Nat) : ∀ (l : List (α × Int)) (i : Nat), l.length ≤ i + f → (∀ j, 0 < j → j < l.length → (j - 1) / 2 ≠ i → ahd lt l[j]! l[(j - 1) / 2]! = false) →
    (0 < i → ∀ j, 0 < j → j < l.length → (j - 1) / 2 = i → ahd lt l[j]! l[(i - 1) / 2]! = false) → Heapy lt (down lt f l i) := by
  induction f with
  | zero =>
    intro l i hf h1 _ j hj0 hj
    simp only [down] at *
    exact h1 j hj0 hj (by omega)
  | succ f ih =>
    intro l i hf h1 h2
    simp only [down]
    split
    · rename_i h
      obtain ⟨h0, ha⟩ := h
      obtain ⟨hcl, hc2⟩ := child_lt (lt := lt) l i h0
      have hs := sib hT l i
      generalize child lt l i = c at *
      have hb := hT.asym _ _ ha
      have hi : i < l.length := by omega
      refine ih _ _ (by rw [swp_length]; omega) ?_ ?_
      · intro j hj0 hj hjp
        rw [swp_length] at hj
        rw [swp_get l i _ j hi hcl, swp_get l i _ _ hi hcl, if_neg hjp]
        by_cases e1 : j = c
        · subst e1
          rw [if_pos rfl, if_pos (by omega)]
          exact hb
        · rw [if_neg e1]
          by_cases e2 : j = i
          · subst e2
            rw [if_pos rfl, if_neg (by omega)]
            exact h2 hj0 c (by omega) hcl (by omega)
          · rw [if_neg e2]
            by_cases e3 : (j - 1) / 2 = i
            · rw [if_pos e3]
              exact hs j hj hj0 e3 e1
            · rw [if_neg e3]
              exact h1 j hj0 hj e3
      · intro hp0 j hj0 hj hjp
        rw [swp_length] at hj
        rw [swp_get l i _ j hi hcl, swp_get l i _ _ hi hcl, if_neg (by omega : ¬ j = c), if_neg (by omega : ¬ j = i), if_neg (by omega : ¬ (c - 1) / 2 = c), if_pos (by omega : (c - 1) / 2 = i)]
        have h3 := h1 j hj0 hj (by omega)
        rw [hjp] at h3
        exact h3
    · rename_i h
      intro j hj0 hj
      by_cases e : (j - 1) / 2 = i
      · have h0 : 2 * i + 1 < l.length := by omega
        have hx : ahd lt l[child lt l i]! l[i]! = false := by
          cases hx : ahd lt l[child lt l i]! l[i]! with
          | false => rfl
          | true => exact absurd ⟨h0, hx⟩ h
        rw [e]
        by_cases e1 : j = child lt l i
        · rw [e1]; exact hx
        · exact hT.tr _ _ _ hx (sib hT l i j hj hj0 e e1)
      · exact h1 j hj0 hj e
theorem heapy_min (hT : Tot lt) {l : List (α × Int)} (h : Heapy lt l) : ∀ j, j < l.length → ahd lt l[j]! l[0]! = false := by
  intro j
  induction j using Nat.strongRecOn with
  | _ j ih =>
    intro hj
    by_cases h0 : j = 0
    · subst h0; exact hT.refl _
    · exact hT.tr _ _ _ (ih ((j - 1) / 2) (by omega) (by omega)) (h j (by omega) hj)
theorem push_perm (l : List (α × Int)) (x : α) (t : Int) : (pushL lt l x t).Perm (l ++ [(x, t)]) := up_perm _ _ _ (by simp)
theorem push_heapy (hT : Tot lt) {l : List (α × Int)} (h : Heapy lt l) (x : α) (t : Int) : Heapy lt (pushL lt l x t) := by
  refine up_heapy hT _ _ _ (Nat.le_refl _) (by simp) ?_ ?_
  · intro j hj0 hj hne
    simp at hj
    have h1 := h j hj0 (by omega)
    rw [get_bang, get_bang] at *
    rw [List.getElem?_append_left (by omega), List.getElem?_append_left (by omega)]
    exact h1
  · intro _ j hj0 hj hp
    simp at hj
    omega
theorem swp_take (a : α × Int) (r : List (α × Int)) : swp (a :: r) 0 r.length = (swp (a :: r) 0 r.length).take r.length ++ [a] := by
  have h1 := List.take_append_drop r.length (swp (a :: r) 0 r.length)
  have hl : (swp (a :: r) 0 r.length).length = r.length + 1 := by rw [swp_length]; rfl
  have h2 : (swp (a :: r) 0 r.length).drop r.length = [a] := by
    rw [List.drop_eq_getElem_cons (by omega), List.drop_eq_nil_of_le (by omega)]
    have h3 := swp_get (a :: r) 0 r.length r.length (by simp) (by simp)
    rw [if_pos rfl] at h3
    rw [getElem!_pos _ _ (by omega)] at h3
    rw [h3]
    simp
  rw [h2] at h1
  exact h1.symm
theorem pop_perm (a : α × Int) (r : List (α × Int)) : (popL lt (a :: r)).Perm r := by
  have h1 : (popL lt (a :: r)).Perm ((swp (a :: r) 0 r.length).take r.length) := by
    have := down_perm (lt := lt) r.length ((swp (a :: r) 0 r.length).take r.length) 0
    simpa [popL] using this
  have h2 : (swp (a :: r) 0 r.length).Perm (a :: r) := swp_perm _ _ _ (by simp) (by simp)
  rw [swp_take] at h2
  have h3 : (a :: (swp (a :: r) 0 r.length).take r.length).Perm (a :: r) := (List.perm_append_comm.trans h2 : ([a] ++ (swp (a :: r) 0 r.length).take r.length).Perm (a :: r))
  exact h1.trans ((List.perm_cons a).1 h3)
theorem pop_heapy (hT : Tot lt) {a : α × Int} {r : List (α × Int)} (h : Heapy lt (a :: r)) : Heapy lt (popL lt (a :: r)) := by
  have hl : ((swp (a :: r) 0 r.length).take r.length).length = r.length := by rw [List.length_take, swp_length]; simp
  have hd : popL lt (a :: r) = down lt r.length ((swp (a :: r) 0 r.length).take r.length) 0 := by simp [popL]
  rw [hd]
  refine down_heapy hT _ _ _ (by rw [hl]; omega) ?_ (by omega)
  intro j hj0 hj hp
  rw [hl] at hj
  have hg : ∀ q, 0 < q → q < r.length → ((swp (a :: r) 0 r.length).take r.length)[q]! = (a :: r)[q]! := by
    intro q h0 h1
    have h2 := swp_get (a :: r) 0 r.length q (by simp) (by simp)
    rw [if_neg (by omega), if_neg (by omega)] at h2
    rw [← h2, get_bang, get_bang, List.getElem?_take, if_pos h1]
  rw [hg j hj0 hj, hg _ (by omega) (by omega)]
  exact h j hj0 (by simp; omega)
theorem popL_one (lt : α → α → Bool) (a : α × Int) (r : List (α × Int)) : (popL lt (a :: r)).length = r.length := (pop_perm a r).length_eq
end
end Go.Proofs.YtjgloineooadoaaGreatDoor
/- The heap's functions at one element type, what each call does: how many, which comes ahead, an exchange. No condition but that the heap is one. -/
namespace Go.Proofs.YtjgloineooadoaaGreatDoor.HInt
open Go.RowKit
abbrev El := Int
def enc (a : El × Int) : List Value := [.int .i64 a.1, .int .i64 a.2]
theorem enc_length (a : El × Int) : (enc a).length = 2 := rfl
abbrev Rep (w : World) (hb : Nat) (F V : Value) (t : Int) (base : Nat) (l : List (El × Int)) : Prop := HRep 137 139 2 enc w hb F V t base l
/-- What a call of what is less does. -/
structure Less (lf : Nat) (lt : El → El → Bool) : Prop where
  enter : ∀ (args : Array Value) (w : World), (callFunc lf args).run Tryz.prog w = .ok (.enter lf args) w
  calls : ∀ (a b : El) (w : World), Calls Tryz.prog lf #[.int .i64 a, .int .i64 b] w fun e w' => e = .returned (.bool (lt a b)) ∧ Below w.heap.size w w'

set_option maxHeartbeats 400000 in
theorem len_any {w : World} {hb : Nat} {F V : Value} {t : Int} {base : Nat} {l : List (El × Int)} (H : Rep w hb F V t base l) :
    Calls Tryz.prog 97 #[.pointer (some ⟨hb, 0, none⟩)] w fun e w' => e = .returned (.int .i64 (l.length : Int)) ∧ w = w' := by
  have h1 : ∃ A cap, V = .slice A l.length cap := by
    rcases H.row.2 with ⟨h, h0⟩ | ⟨g, cap, cur, h, _⟩
    · exact ⟨none, 0, by rw [h, h0]⟩
    · exact ⟨_, cap, h⟩
  obtain ⟨A, cap, rfl⟩ := h1
  have c1 := (Cl.of_block H.blk (j := 1) (v := .slice A l.length cap) rfl).cell
  go_enter Tryz.func97, Tryz.ntmps97
  go_wp2
  go_ret
  exact ⟨rfl, rfl⟩
set_option maxHeartbeats 400000 in
theorem len_nil (w : World) : Calls Tryz.prog 97 #[.pointer none] w fun e w' => e = .returned (.int .i64 0) ∧ w = w' := by
  go_enter Tryz.func97, Tryz.ntmps97
  go_wp2
  go_ret
  exact ⟨rfl, rfl⟩

theorem two_blocks (w : World) (X Y : Obj) : Below w.heap.size w ((w.alloc X).alloc Y).drew ∧ ((w.alloc X).alloc Y).drew.heap[w.heap.size]? = some X ∧ ((w.alloc X).alloc Y).drew.heap[w.heap.size + 1]? = some Y :=
  ⟨(((Below.refl _ _).alloc (Nat.le_refl _) _).alloc (by simp) _).drew, (Below.heap_alloc _ _ _ (by simp)).trans (heap_at rfl), heap_at (by simp)⟩
set_option maxRecDepth 100000 in
set_option maxHeartbeats 1000000 in
theorem ahead_any {lf : Nat} {lt : El → El → Bool} (hless : Less lf lt) {w : World} {hb : Nat} {V : Value} {t : Int} {base : Nat} {l : List (El × Int)}
    (H : Rep w hb (.func (.func lf) #[] #[]) V t base l) (i k : Int) (i0 : 0 ≤ i) (i1 : i < l.length) (k0 : 0 ≤ k) (k1 : k < l.length) :
    Calls Tryz.prog 77 #[.pointer (some ⟨hb, 0, none⟩), .int .i64 i, .int .i64 k] w fun e w' => e = .returned (.bool (ahd lt l[i.toNat]! l[k.toNat]!)) ∧ Below w.heap.size w w' := by
  obtain ⟨g, cap, rfl, hg, hgl, hne⟩ := H.slice (by omega)
  obtain ⟨a, ha⟩ : ∃ a, l[i.toNat]? = some a := ⟨_, List.getElem?_eq_getElem (by omega)⟩
  obtain ⟨b, hb'⟩ : ∃ b, l[k.toNat]? = some b := ⟨_, List.getElem?_eq_getElem (by omega)⟩
  have HR : Hid (ahd lt l[i.toNat]! l[k.toNat]! = ahd lt a b) := by unfold Hid; simp [getElem!_def, ha, hb']
  have cF := (Cl.of_block H.blk (j := 0) (v := .func (.func lf) #[] #[]) rfl).cell
  have cV := (Cl.of_block H.blk (j := 1) (v := .slice (some ⟨g, 0, none⟩) l.length cap) rfl).cell
  have ca0 := (H.item enc_length rfl ha (r := 0) (by omega) (v := .int .i64 a.1) rfl).cell
  rw [Nat.add_zero] at ca0
  have ca1 := (H.item enc_length rfl ha (r := 1) (by omega) (v := .int .i64 a.2) rfl).cell
  have cb0 := (H.item enc_length rfl hb' (r := 0) (by omega) (v := .int .i64 b.1) rfl).cell
  rw [Nat.add_zero] at cb0
  have cb1 := (H.item enc_length rfl hb' (r := 1) (by omega) (v := .int .i64 b.2) rfl).cell
  have z1 := H.lt
  have z2 := hgl
  have z3 : hb < w.heap.size + 1 := by omega
  have z4 : g < w.heap.size + 1 := by omega
  have HL := Lib.hid hless
  clear H hless ha hb'
  go_enter Tryz.func77, Tryz.ntmps77
  go_upto_region 1 with fail
  go_cut [7, 8] (fun p q wx => ∃ b1 b2 : Nat, p = .pointer (some ⟨b1, 0, none⟩) ∧ q = .pointer (some ⟨b2, 0, none⟩) ∧ Below w.heap.size w wx ∧ wx.heap[b1]? = some (.cells #[.int .i64 a.1, .int .i64 a.2] 139) ∧ wx.heap[b2]? = some (.cells #[.int .i64 b.1, .int .i64 b.2] 139))
  case first =>
    have T1 := two_blocks w (.cells #[.int .i64 a.1, .int .i64 a.2] 139) (.cells #[.int .i64 b.1, .int .i64 b.2] 139)
    have T2 := two_blocks w (.cells #[.int .i64 b.1, .int .i64 b.2] 139) (.cells #[.int .i64 a.1, .int .i64 a.2] 139)
    have T1' := Lib.hid T1
    have T2' := Lib.hid T2
    clear T1 T2
    go_region
    · go_wp2_with fail
      go_meet
      exact ⟨_, _, rfl, rfl, T1'.out.1, T1'.out.2.1, T1'.out.2.2⟩
    · go_wp2_with fail
      go_meet
      exact ⟨_, _, rfl, rfl, T2'.out.1, T2'.out.2.2, T2'.out.2.1⟩
  case rest =>
    rename World => wA
    obtain ⟨b1, b2, rfl, rfl, hw, h1, h2⟩ := hcut
    have HW := Lib.hid hw
    have H1 := Lib.hid h1
    have H2 := Lib.hid h2
    have cF' := cell_later hw cF
    have da0 := (Cl.of_block h1 (j := 0) (v := .int .i64 a.1) rfl).cell
    have da1 := (Cl.of_block h1 (j := 1) (v := .int .i64 a.2) rfl).cell
    have db0 := (Cl.of_block h2 (j := 0) (v := .int .i64 b.1) rfl).cell
    have db1 := (Cl.of_block h2 (j := 1) (v := .int .i64 b.2) rfl).cell
    clear ca0 cV cF hw h1 h2
    go_upto_region 2 with fail
    go_cut [31] (fun r wx => r = .bool (lt a.1 b.1) ∧ Below wA.heap.size wA wx)
    case first =>
      have HE := HL.out.enter
      go_still_tail 8, (by kernel_rfl)
      change wpList _ _ _ _ _ wA.drew
      generalize hwd : wA.drew = w2
      have HD := Lib.hid hwd
      clear hwd da0 db0 cF'
      go_wp2_with fail
      refine (HL.out.calls a.1 b.1 _).mono ?_
      rintro e w' ⟨rfl, hbw⟩
      go_wp2_with fail
      go_meet
      exact ⟨rfl, by rw [← HD.out] at hbw; exact (Below.refl _ _).drew.trans hbw⟩
    case rest =>
      rename World => wB
      obtain ⟨rfl, hw1⟩ := hcut
      have cF2 := cell_later hw1 cF'
      have g1 := block_later hw1 H1.out
      have g2 := block_later hw1 H2.out
      have HB := Lib.hid (below_then HW.out HW.out.size hw1)
      obtain ⟨x1, hx1⟩ : ∃ x, lt a.1 b.1 = x := ⟨_, rfl⟩
      rw [hx1]
      have HX := Lib.hid hx1
      clear hx1 ca1 cb0 cb1 da0 db0
      cases x1
      · obtain ⟨x2, hx2⟩ : ∃ x, lt b.1 a.1 = x := ⟨_, rfl⟩
        have HX2 := Lib.hid hx2
        clear hx2
        have ea0 := (Cl.of_block g1 (j := 0) (v := .int .i64 a.1) rfl).cell
        have ea1 := (Cl.of_block g1 (j := 1) (v := .int .i64 a.2) rfl).cell
        have eb0 := (Cl.of_block g2 (j := 0) (v := .int .i64 b.1) rfl).cell
        have eb1 := (Cl.of_block g2 (j := 1) (v := .int .i64 b.2) rfl).cell
        have hB := HB.out.size
        have f0 := grow_cell cF2
        have fea0 := grow_cell ea0
        have fea1 := grow_cell ea1
        have feb0 := grow_cell eb0
        have feb1 := grow_cell eb1
        have HF : Hid (ahd lt l[i.toNat]! l[k.toNat]! = (!x2 && decide (a.2 < b.2))) := by show _ = _; rw [HR.out]; simp [ahd, HX.out, HX2.out]
        have HC : Hid (∀ W : World, Calls Tryz.prog lf #[.int .i64 b.1, .int .i64 a.1] W fun e w' => e = .returned (.bool x2) ∧ Below W.heap.size W w') := by rw [← HX2.out]; exact fun W => HL.out.calls b.1 a.1 W
        have HE := HL.out.enter
        go_upto_region 4 with fail
        clear ea0 eb0 cF2 hw1 g1 g2 HX2
        cases x2
        all_goals
          refine wp_region_grow (by kernel_rfl) (by kernel_rfl) ?_
          repeat (quiet_step (exact grow_calls (HC.out _)))
          refine wpQuiet_nil ?_
          rintro _ ⟨X, rfl⟩
          go_wp2_with fail
          go_ret
          exact ⟨ret_bool (by rw [HF.out]; simp), below_then HB.out hB (grow_below _ _)⟩
      · go_wp2_with fail
        go_ret
        exact ⟨ret_bool (by rw [HR.out]; simp [ahd, HX.out]), HB.out⟩
end Go.Proofs.YtjgloineooadoaaGreatDoor.HInt
/- The heap's functions at one element type, what each call does: an exchange of two items, an item that sinks. -/
namespace Go.Proofs.YtjgloineooadoaaGreatDoor.HInt
open Go.RowKit
set_option maxRecDepth 100000 in
set_option maxHeartbeats 1000000 in
theorem swap_any {w : World} {hb : Nat} {F V : Value} {t : Int} {base : Nat} {l : List (El × Int)}
    (H : Rep w hb F V t base l) (i k : Int) (i0 : 0 ≤ i) (i1 : i < l.length) (k0 : 0 ≤ k) (k1 : k < l.length) :
    Calls Tryz.prog 78 #[.pointer (some ⟨hb, 0, none⟩), .int .i64 i, .int .i64 k] w fun e w' => e = .returned (.tuple #[]) ∧ Rep w' hb F V t base (swp l i.toNat k.toNat) ∧ Chg (fun b => V.ownBlock = some b) w w' := by
  obtain ⟨g, cap, rfl, hg, hgl, hne⟩ := H.slice (by omega)
  obtain ⟨a, ha⟩ : ∃ a, l[i.toNat]? = some a := ⟨_, List.getElem?_eq_getElem (by omega)⟩
  obtain ⟨b, hb'⟩ : ∃ b, l[k.toNat]? = some b := ⟨_, List.getElem?_eq_getElem (by omega)⟩
  have cV := (Cl.of_block H.blk (j := 1) (v := .slice (some ⟨g, 0, none⟩) l.length cap) rfl).cell
  have ca0 := H.item enc_length rfl ha (r := 0) (by omega) (v := .int .i64 a.1) rfl
  rw [Nat.add_zero] at ca0
  obtain ⟨ca0c, ca0f⟩ := ca0
  have ca1 := H.item enc_length rfl ha (r := 1) (by omega) (v := .int .i64 a.2) rfl
  obtain ⟨ca1c, ca1f⟩ := ca1
  have cb0 := H.item enc_length rfl hb' (r := 0) (by omega) (v := .int .i64 b.1) rfl
  rw [Nat.add_zero] at cb0
  obtain ⟨cb0c, cb0f⟩ := cb0
  have cb1 := H.item enc_length rfl hb' (r := 1) (by omega) (v := .int .i64 b.2) rfl
  obtain ⟨cb1c, cb1f⟩ := cb1
  have HH := Lib.hid H
  have HA := Lib.hid ha
  have HB := Lib.hid hb'
  have hne' : hb ≠ g := Ne.symm hne
  clear H ha hb'
  obtain ⟨u00, hu00⟩ := cell?_setCell_some (w := w) (p := ⟨g, i.toNat * 2, none⟩) (x := .int .i64 b.1) (q := ⟨g, k.toNat * 2, none⟩) cb0c
  obtain ⟨u10, hu10⟩ := cell?_setCell_some (w := w) (p := ⟨g, i.toNat * 2, none⟩) (x := .int .i64 b.1) (q := ⟨g, k.toNat * 2 + 1, none⟩) cb1c
  obtain ⟨u11, hu11⟩ := cell?_setCell_some (w := (w.setCell ⟨g, i.toNat * 2, none⟩ (.int .i64 b.1))) (p := ⟨g, i.toNat * 2 + 1, none⟩) (x := .int .i64 b.2) (q := ⟨g, k.toNat * 2 + 1, none⟩) hu10
  clear hu10
  go_enter Tryz.func78, Tryz.ntmps78
  go_region
  go_end0
  have hi : i.toNat < l.length := by omega
  have hk : k.toNat < l.length := by omega
  have S1 := HH.out.store enc_length rfl i.toNat b hi
  have S2 := S1.1.store enc_length (by rw [List.length_set]) k.toNat a (by rw [List.length_set]; exact hk)
  have es : swp l i.toNat k.toNat = (l.set i.toNat b).set k.toNat a := by simp [swp, getElem!_def, HA.out, HB.out]
  rw [es]
  refine ⟨rfl, HRep.later S2.1 (Below.refl _ _).drew, (S1.2.trans S2.2 (fun _ _ h => h)).drew⟩

theorem ahead_nat {lf : Nat} {lt : El → El → Bool} (hless : Less lf lt) {w : World} {hb : Nat} {V : Value} {t : Int} {base : Nat} {l : List (El × Int)}
    (H : Rep w hb (.func (.func lf) #[] #[]) V t base l) (i k : Nat) (i' k' : Int) (hi : i' = i) (hk : k' = k) (i1 : i < l.length) (k1 : k < l.length) :
    Calls Tryz.prog 77 #[.pointer (some ⟨hb, 0, none⟩), .int .i64 i', .int .i64 k'] w fun e w' => e = .returned (.bool (ahd lt l[i]! l[k]!)) ∧ Below w.heap.size w w' := by
  subst hi hk
  exact ahead_any hless H i k (by omega) (by omega) (by omega) (by omega)
theorem swap_nat {w : World} {hb : Nat} {F V : Value} {t : Int} {base : Nat} {l : List (El × Int)}
    (H : Rep w hb F V t base l) (i k : Nat) (i' k' : Int) (hi : i' = i) (hk : k' = k) (i1 : i < l.length) (k1 : k < l.length) :
    Calls Tryz.prog 78 #[.pointer (some ⟨hb, 0, none⟩), .int .i64 i', .int .i64 k'] w fun e w' => e = .returned (.tuple #[]) ∧ Rep w' hb F V t base (swp l i k) ∧ Chg (fun b => V.ownBlock = some b) w w' := by
  subst hi hk
  exact swap_any H i k (by omega) (by omega) (by omega) (by omega)
set_option maxRecDepth 100000 in
set_option maxHeartbeats 1000000 in
theorem sink_any {lf : Nat} {lt : El → El → Bool} (hless : Less lf lt) {w : World} {hb : Nat} {V : Value} {t : Int} {base : Nat} {l : List (El × Int)}
    (H : Rep w hb (.func (.func lf) #[] #[]) V t base l) (hn : l.length ≤ 9000000000000) :
    Calls Tryz.prog 80 #[.pointer (some ⟨hb, 0, none⟩)] w fun e w' => e = .returned (.tuple #[]) ∧ Rep w' hb (.func (.func lf) #[] #[]) V t base (down lt l.length l 0) ∧ Chg (fun b => V.ownBlock = some b) w w' := by
  obtain ⟨A, cap, rfl⟩ : ∃ A cap, V = .slice A l.length cap := by
    rcases H.row.2 with ⟨h, h0⟩ | ⟨g, cap, cur, h, _⟩
    · exact ⟨none, 0, by rw [h, h0]⟩
    · exact ⟨_, cap, h⟩
  generalize hN : l.length = n at hn
  have HN := Lib.hid hN
  have HL := Lib.hid hless
  clear hN hless
  go_enter Tryz.func80, Tryz.ntmps80
  go_wp2_with fail
  go_loopg [2] n (fun f s wr => ∃ (i : Nat) (m : List (El × Int)), s = .int .i64 i ∧ Hid (m.length = n) ∧ i ≤ n ∧ n ≤ i + f ∧ Rep wr hb (.func (.func lf) #[] #[]) (.slice A n cap) t base m ∧ Chg (fun b => (Value.slice A n cap).ownBlock = some b) w wr ∧ Hid (down lt n l 0 = down lt f m i))
  case atStart => exact ⟨0, l, rfl, HN, by omega, by omega, by have h := H; rw [HN.out] at h; exact h, Chg.refl _ _, rfl⟩
  case round =>
    obtain ⟨i, m, rfl, hm, him, hgk, HM, hch, HD⟩ := hrel
    have cV := (Cl.of_block HM.blk (j := 1) (v := .slice A n cap) rfl).cell
    have HC := Lib.hid hch
    have HM' := Lib.hid HM
    clear hch HM
    by_cases c1 : 2 * i + 1 < n
    · have hb1 : ∃ x, ahd lt m[2 * i + 2]! m[2 * i + 1]! = x := ⟨_, rfl⟩
      by_cases c2 : 2 * i + 2 < n
      · obtain ⟨b1, hb1⟩ := hb1
        have HB1 := Lib.hid hb1
        clear hb1
        cases b1
        · have hc : Hid (child lt m i = 2 * i + 1) := by show _ = _; unfold child; rw [if_neg (by rw [HB1.out]; simp)]
          go_wp2_with fail
          refine (ahead_nat HL.out HM'.out (2 * i + 2) (2 * i + 1) _ _ (by omega) (by omega) (by rw [hm.out]; omega) (by rw [hm.out]; omega)).mono ?_
          rw [HB1.out]
          rintro e w1 ⟨rfl, hw1⟩
          have HM1 := Lib.hid (HM'.out.later hw1)
          have HC1 := Lib.hid (HC.out.trans (chg_below hw1 (fun b => (Value.slice A n cap).ownBlock = some b)) (fun _ _ h => h))
          clear hw1
          go_wp2_with fail
          obtain ⟨b2, hb2⟩ : ∃ x, ahd lt m[2 * i + 1]! m[i]! = x := ⟨_, rfl⟩
          have HB2 := Lib.hid hb2
          clear hb2
          refine (ahead_nat HL.out HM1.out (2 * i + 1) i _ _ (by omega) (by omega) (by rw [hm.out]; omega) (by rw [hm.out]; omega)).mono ?_
          rw [HB2.out]
          rintro e w2 ⟨rfl, hw2⟩
          have HM2 := Lib.hid (HM1.out.later hw2)
          have HC2 := Lib.hid (HC1.out.trans (chg_below hw2 (fun b => (Value.slice A n cap).ownBlock = some b)) (fun _ _ h => h))
          clear hw2
          cases b2
          · have hs : Hid (down lt gk m i = m) := down_stop (by rw [hc.out, HB2.out]; simp)
            go_wp2_with fail
            (try simp only [Exit.inBlock, Exit.then])
            refine bodyPost_ret (results_none rfl _ _ _) rfl ?_
            exact ⟨rfl, by rw [HD.out, hs.out]; exact HM2.out, HC2.out⟩
          · have hs : Hid (down lt gk m i = down lt (gk - 1) (swp m i (2 * i + 1)) (2 * i + 1)) := down_go (by rw [hm.out]; exact hgk) hc.out (by rw [hm.out]; exact c1) HB2.out
            go_wp2_with fail
            refine (swap_nat HM2.out i (2 * i + 1) _ _ (by omega) (by omega) (by rw [hm.out]; omega) (by rw [hm.out]; omega)).mono ?_
            rintro e w3 ⟨rfl, hw3, hc3⟩
            have HM3 := Lib.hid hw3
            have HC3 := Lib.hid (HC2.out.trans hc3 (fun _ _ h => h))
            clear hw3 hc3
            go_wp2_with fail
            go_roundg (gk - 1)
            case measure => omega
            case rel => exact ⟨2 * i + 1, swp m i (2 * i + 1), by go_num, by rw [swp_length]; exact hm, by omega, by omega, HM3.out, HC3.out, HD.out.trans hs.out⟩
        · have hc : Hid (child lt m i = 2 * i + 2) := by show _ = _; unfold child; rw [if_pos ⟨by rw [hm.out]; exact c2, HB1.out⟩]
          go_wp2_with fail
          refine (ahead_nat HL.out HM'.out (2 * i + 2) (2 * i + 1) _ _ (by omega) (by omega) (by rw [hm.out]; omega) (by rw [hm.out]; omega)).mono ?_
          rw [HB1.out]
          rintro e w1 ⟨rfl, hw1⟩
          have HM1 := Lib.hid (HM'.out.later hw1)
          have HC1 := Lib.hid (HC.out.trans (chg_below hw1 (fun b => (Value.slice A n cap).ownBlock = some b)) (fun _ _ h => h))
          clear hw1
          go_wp2_with fail
          obtain ⟨b2, hb2⟩ : ∃ x, ahd lt m[2 * i + 2]! m[i]! = x := ⟨_, rfl⟩
          have HB2 := Lib.hid hb2
          clear hb2
          refine (ahead_nat HL.out HM1.out (2 * i + 2) i _ _ (by omega) (by omega) (by rw [hm.out]; omega) (by rw [hm.out]; omega)).mono ?_
          rw [HB2.out]
          rintro e w2 ⟨rfl, hw2⟩
          have HM2 := Lib.hid (HM1.out.later hw2)
          have HC2 := Lib.hid (HC1.out.trans (chg_below hw2 (fun b => (Value.slice A n cap).ownBlock = some b)) (fun _ _ h => h))
          clear hw2
          cases b2
          · have hs : Hid (down lt gk m i = m) := down_stop (by rw [hc.out, HB2.out]; simp)
            go_wp2_with fail
            (try simp only [Exit.inBlock, Exit.then])
            refine bodyPost_ret (results_none rfl _ _ _) rfl ?_
            exact ⟨rfl, by rw [HD.out, hs.out]; exact HM2.out, HC2.out⟩
          · have hs : Hid (down lt gk m i = down lt (gk - 1) (swp m i (2 * i + 2)) (2 * i + 2)) := down_go (by rw [hm.out]; exact hgk) hc.out (by rw [hm.out]; exact c1) HB2.out
            go_wp2_with fail
            refine (swap_nat HM2.out i (2 * i + 2) _ _ (by omega) (by omega) (by rw [hm.out]; omega) (by rw [hm.out]; omega)).mono ?_
            rintro e w3 ⟨rfl, hw3, hc3⟩
            have HM3 := Lib.hid hw3
            have HC3 := Lib.hid (HC2.out.trans hc3 (fun _ _ h => h))
            clear hw3 hc3
            go_wp2_with fail
            go_roundg (gk - 1)
            case measure => omega
            case rel => exact ⟨2 * i + 2, swp m i (2 * i + 2), by go_num, by rw [swp_length]; exact hm, by omega, by omega, HM3.out, HC3.out, HD.out.trans hs.out⟩
      · have hc : Hid (child lt m i = 2 * i + 1) := by show _ = _; unfold child; rw [if_neg (by rw [hm.out]; omega)]
        have c2' : ¬ (2 * (i : Int) + 2 < (n : Int)) := by omega
        clear hb1
        go_wp2_with fail
        obtain ⟨b2, hb2⟩ : ∃ x, ahd lt m[2 * i + 1]! m[i]! = x := ⟨_, rfl⟩
        have HB2 := Lib.hid hb2
        clear hb2
        refine (ahead_nat HL.out HM'.out (2 * i + 1) i _ _ (by omega) (by omega) (by rw [hm.out]; omega) (by rw [hm.out]; omega)).mono ?_
        rw [HB2.out]
        rintro e w2 ⟨rfl, hw2⟩
        have HM2 := Lib.hid (HM'.out.later hw2)
        have HC2 := Lib.hid (HC.out.trans (chg_below hw2 (fun b => (Value.slice A n cap).ownBlock = some b)) (fun _ _ h => h))
        clear hw2
        cases b2
        · have hs : Hid (down lt gk m i = m) := down_stop (by rw [hc.out, HB2.out]; simp)
          go_wp2_with fail
          (try simp only [Exit.inBlock, Exit.then])
          refine bodyPost_ret (results_none rfl _ _ _) rfl ?_
          exact ⟨rfl, by rw [HD.out, hs.out]; exact HM2.out, HC2.out⟩
        · have hs : Hid (down lt gk m i = down lt (gk - 1) (swp m i (2 * i + 1)) (2 * i + 1)) := down_go (by rw [hm.out]; exact hgk) hc.out (by rw [hm.out]; exact c1) HB2.out
          go_wp2_with fail
          refine (swap_nat HM2.out i (2 * i + 1) _ _ (by omega) (by omega) (by rw [hm.out]; omega) (by rw [hm.out]; omega)).mono ?_
          rintro e w3 ⟨rfl, hw3, hc3⟩
          have HM3 := Lib.hid hw3
          have HC3 := Lib.hid (HC2.out.trans hc3 (fun _ _ h => h))
          clear hw3 hc3
          go_wp2_with fail
          go_roundg (gk - 1)
          case measure => omega
          case rel => exact ⟨2 * i + 1, swp m i (2 * i + 1), by go_num, by rw [swp_length]; exact hm, by omega, by omega, HM3.out, HC3.out, HD.out.trans hs.out⟩
    · have hs : Hid (down lt gk m i = m) := down_stop (by rw [hm.out]; omega)
      have c1' : ¬ (2 * (i : Int) + 1 < (n : Int)) := by omega
      go_wp2_with fail
      (try simp only [Exit.inBlock, Exit.then])
      refine bodyPost_ret (results_none rfl _ _ _) rfl ?_
      exact ⟨rfl, by rw [HD.out, hs.out]; exact HM'.out, HC.out⟩
end Go.Proofs.YtjgloineooadoaaGreatDoor.HInt
/- The heap's functions at one element type, what each call does: a new one, the top, a pop. -/
namespace Go.Proofs.YtjgloineooadoaaGreatDoor.HInt
open Go.RowKit
set_option maxRecDepth 100000 in
set_option maxHeartbeats 1000000 in
theorem new_any (lf : Nat) (w : World) : Calls Tryz.prog 54 #[.func (.func lf) #[] #[]] w fun e w' => e = .returned (.pointer (some ⟨w.heap.size, 0, none⟩)) ∧ w' = w.alloc (.cells #[.func (.func lf) #[] #[], .slice none 0 0, .int .i64 0] 137) := by
  go_enter Tryz.func54, Tryz.ntmps54
  go_wp2
  go_ret
  exact ⟨rfl, rfl⟩
theorem new_rep (F : Value) (w : World) (base : Nat) : Rep (w.alloc (.cells #[F, .slice none 0 0, .int .i64 0] 137)) w.heap.size F (.slice none 0 0) 0 base [] :=
  ⟨heap_at rfl, World.ownsRow_nil _ _ _ _, by simp [Value.ownBlock]⟩
set_option maxRecDepth 100000 in
set_option maxHeartbeats 1000000 in
theorem top_some {w : World} {hb : Nat} {F V : Value} {t : Int} {base : Nat} {a : El × Int} {l : List (El × Int)} (H : Rep w hb F V t base (a :: l)) :
    Calls Tryz.prog 79 #[.pointer (some ⟨hb, 0, none⟩)] w fun e w' => e = .returned (.tuple #[.int .i64 a.1, .bool true]) ∧ Below w.heap.size w w' := by
  obtain ⟨g, cap, rfl, hg, hgl, hne⟩ := H.slice (by simp)
  have cV := (Cl.of_block H.blk (j := 1) (v := .slice (some ⟨g, 0, none⟩) (l.length + 1) cap) rfl).cell
  have ca0 : w.cell? ⟨g, 0, none⟩ = some (.int .i64 a.1) := by simpa using (H.item enc_length rfl (j := 0) (a := a) rfl (r := 0) (by omega) (v := .int .i64 a.1) rfl).cell
  have ca1 : w.cell? ⟨g, 1, none⟩ = some (.int .i64 a.2) := by simpa using (H.item enc_length rfl (j := 0) (a := a) rfl (r := 1) (by omega) (v := .int .i64 a.2) rfl).cell
  have z1 := H.lt
  have hn : ((l.length : Int) + 1 == 0) = false := by simp; omega
  have HH := Lib.hid H
  clear H
  go_enter Tryz.func79, Tryz.ntmps79
  go_wp2_with fail
  refine (len_any (HH.out.later (Below.refl _ _))).mono ?_
  rintro e w' ⟨rfl, rfl⟩
  go_wp2_with fail
  go_ret2
  exact ⟨rfl, Below.refl _ _⟩
set_option maxRecDepth 100000 in
set_option maxHeartbeats 1000000 in
theorem top_none {w : World} {hb : Nat} {F V : Value} {t : Int} {base : Nat} (H : Rep w hb F V t base []) :
    Calls Tryz.prog 79 #[.pointer (some ⟨hb, 0, none⟩)] w fun e w' => e = .returned (.tuple #[.int .i64 0, .bool false]) ∧ Below w.heap.size w w' := by
  have HH := Lib.hid H
  clear H
  go_enter Tryz.func79, Tryz.ntmps79
  go_wp2_with fail
  refine (len_any (HH.out.later (Below.refl _ _))).mono ?_
  rintro e w' ⟨rfl, rfl⟩
  go_wp2_with fail
  go_ret2
  exact ⟨rfl, Below.refl _ _⟩
set_option maxRecDepth 100000 in
set_option maxHeartbeats 1000000 in
theorem top_nil (w : World) : Calls Tryz.prog 79 #[.pointer none] w fun e w' => e = .returned (.tuple #[.int .i64 0, .bool false]) ∧ Below w.heap.size w w' := by
  go_enter Tryz.func79, Tryz.ntmps79
  go_wp2_with fail
  refine (len_nil _).mono ?_
  rintro e w' ⟨rfl, rfl⟩
  go_wp2_with fail
  go_ret2
  exact ⟨rfl, Below.refl _ _⟩
end Go.Proofs.YtjgloineooadoaaGreatDoor.HInt
/- The heap's functions at one element type, what each call does: a pop of the least one. -/
namespace Go.Proofs.YtjgloineooadoaaGreatDoor.HInt
open Go.RowKit
theorem Cl_chg {w w' : World} {a : Addr} {v : Value} {S : Nat → Prop} (h : Cl w a v) (hc : Chg S w w') (hs : ¬ S a.block) : Cl w' a v := by
  have hl := World.block_lt_of_cell? w a h.cell
  have hb := hc.block a.block hl hs
  exact ⟨(World.cell?_of_block hb).trans h.cell, (World.frozen?_of_block hb).trans h.free⟩
set_option maxRecDepth 100000 in
set_option maxHeartbeats 1000000 in
theorem pop_some {lf : Nat} {lt : El → El → Bool} (hless : Less lf lt) {w : World} {hb : Nat} {V : Value} {t : Int} {base : Nat} {a : El × Int} {r : List (El × Int)}
    (H : Rep w hb (.func (.func lf) #[] #[]) V t base (a :: r)) (hn : r.length + 1 ≤ 9000000000000) :
    Calls Tryz.prog 57 #[.pointer (some ⟨hb, 0, none⟩)] w fun e w' => e = .returned (.tuple #[.int .i64 a.1, .bool true]) ∧ (∃ V', V'.ownBlock = V.ownBlock ∧ Rep w' hb (.func (.func lf) #[] #[]) V' t base (popL lt (a :: r))) ∧ Chg (fun b => b = hb ∨ V.ownBlock = some b) w w' := by
  obtain ⟨g, cap, rfl, hg, hgl, hne⟩ := H.slice (by simp)
  have hcap : r.length + 1 ≤ cap := by
    rcases H.row.2 with ⟨h0, _⟩ | ⟨g', cap', cur, hv, _, _, h, _⟩
    · cases h0
    · cases hv; exact h
  have HP : Hid (popL lt (a :: r) = down lt ((swp (a :: r) 0 r.length).take r.length).length ((swp (a :: r) 0 r.length).take r.length) 0) := by
    show _ = _
    simp [popL, swp_length]
  have z0 := H.lt
  have HH := Lib.hid H
  have HL := Lib.hid hless
  clear H hless
  go_enter Tryz.func57, Tryz.ntmps57
  go_wp2_with fail
  refine (top_some (HH.out.later (Below.refl _ _))).mono ?_
  rintro e w1 ⟨rfl, hb1⟩
  have hB : Below w.heap.size w w1 := hb1
  have HH1 := Lib.hid (HH.out.later hB)
  have HB := Lib.hid hB
  have hs := hB.size
  have cV1 := (Cl.of_block HH1.out.blk (j := 1) (v := .slice (some ⟨g, 0, none⟩) (r.length + 1) cap) rfl).cell
  have z1 : hb < w1.heap.size := by omega
  have z2 : g < w1.heap.size := by omega
  clear hb1 hB
  go_wp2_with fail
  have HH2 := HH1
  have C2 : Chg (fun b => b = hb ∨ g = b) w w1 := chg_below HB.out _
  refine (swap_nat HH2.out 0 r.length _ _ rfl (by omega) (by simp) (by simp)).mono ?_
  rintro e w2 ⟨rfl, hr2, hc2⟩
  have C3 := Lib.hid (C2.trans hc2 (fun b _ h => .inr (by simpa [Value.ownBlock] using h)))
  have HH3 := Lib.hid hr2
  obtain ⟨cV2, fV2⟩ := Cl.of_block HH3.out.blk (j := 1) (v := .slice (some ⟨g, 0, none⟩) (r.length + 1) cap) rfl
  clear hr2 hc2 cV1 C2
  go_wp2_with fail
  have S := HH3.out.shrink enc_length (by rw [swp_length]) r.length (by rw [swp_length]; simp)
  have C4 := Lib.hid (C3.out.setCell (p := ⟨hb, 1, none⟩) (fun _ => .inl rfl) (.slice (some ⟨g, 0, none⟩) r.length cap))
  have SL := sink_any HL.out (l := (swp (a :: r) 0 r.length).take r.length) (w := w2.setCell ⟨hb, 1, none⟩ (.slice (some ⟨g, 0, none⟩) r.length cap)) S (by rw [List.length_take, swp_length]; omega)
  refine SL.mono ?_
  rintro e w3 ⟨rfl, hr3, hc3⟩
  have C5 := Lib.hid (C4.out.trans hc3 (fun b _ h => .inr (by simpa [Value.ownBlock] using h)))
  rw [← HP.out] at hr3
  have HH4 := Lib.hid hr3
  clear hr3 hc3 cV2 fV2 S SL
  go_wp2_with fail
  go_ret2
  exact ⟨rfl, ⟨.slice (some ⟨g, 0, none⟩) r.length cap, rfl, HH4.out⟩, C5.out.mono (fun k _ h => h.imp id (fun e => congrArg some e))⟩

set_option maxRecDepth 100000 in
set_option maxHeartbeats 1000000 in
theorem pop_none {w : World} {hb : Nat} {F V : Value} {t : Int} {base : Nat} (H : Rep w hb F V t base []) :
    Calls Tryz.prog 57 #[.pointer (some ⟨hb, 0, none⟩)] w fun e w' => e = .returned (.tuple #[.int .i64 0, .bool false]) ∧ Below w.heap.size w w' := by
  have HH := Lib.hid H
  clear H
  go_enter Tryz.func57, Tryz.ntmps57
  go_wp2_with fail
  refine (top_none (HH.out.later (Below.refl _ _))).mono ?_
  rintro e w1 ⟨rfl, hb1⟩
  have hB : Below w.heap.size w w1 := hb1
  have HB := Lib.hid hB
  clear hb1 hB
  go_wp2_with fail
  go_ret2
  exact ⟨rfl, HB.out⟩

set_option maxRecDepth 100000 in
set_option maxHeartbeats 1000000 in
theorem pop_nil (w : World) :
    Calls Tryz.prog 57 #[.pointer none] w fun e w' => e = .returned (.tuple #[.int .i64 0, .bool false]) ∧ Below w.heap.size w w' := by
  go_enter Tryz.func57, Tryz.ntmps57
  go_wp2_with fail
  refine (top_nil _).mono ?_
  rintro e w1 ⟨rfl, hb1⟩
  have hB : Below w.heap.size w w1 := hb1
  have HB := Lib.hid hB
  clear hb1 hB
  go_wp2_with fail
  go_ret2
  exact ⟨rfl, HB.out⟩
end Go.Proofs.YtjgloineooadoaaGreatDoor.HInt
/- The heap's functions at one element type, what each call does: a push. -/
namespace Go.Proofs.YtjgloineooadoaaGreatDoor.HInt
open Go.RowKit
theorem info_item : (Tryz.prog.info? 139).map (fun i => (i.zero, i.size, i.bytes)) = some (some (.agg #[.int .i64 0, .int .i64 0]), 2, 16) := by kernel_rfl
/-- Behind an append the struct still holds its old row. -/
theorem after_append {wA wx w' : World} {hb : Nat} {F V : Value} {t : Int} {base : Nat} {l : List (El × Int)} (H : Rep wA hb F V t base l) (hx : Below wA.heap.size wA wx) (hg : wx.grownBy w' V.ownBlock) :
    w'.heap[hb]? = some (.cells #[F, V, .int .i64 t] 137) := by
  have h1 := (hx.block hb H.lt).trans H.blk
  rw [hg.block hb (Array.getElem?_eq_some_iff.1 h1).1 (fun e => H.ne e.symm)]
  exact h1
/-- The row stored back. -/
theorem push_row {wA wx w' : World} {hb g cap : Nat} {F V : Value} {t : Int} {base : Nat} {l : List (El × Int)} {x : El × Int} (H : Rep wA hb F V t base l) (hx : Below wA.heap.size wA wx) (hg : wx.grownBy w' V.ownBlock)
    (hown : w'.ownsRow base 139 2 (.slice (some ⟨g, 0, none⟩) (l.length + 1) cap) (l.length + 1) (flat enc l ++ enc x)) (hat : V.ownBlock = some g ∨ wA.heap.size ≤ g) :
    Rep (w'.setCell ⟨hb, 1, none⟩ (.slice (some ⟨g, 0, none⟩) (l.length + 1) cap)) hb F (.slice (some ⟨g, 0, none⟩) (l.length + 1) cap) t base (l ++ [x]) ∧
      Chg (fun b => b = hb ∨ V.ownBlock = some b) wA (w'.setCell ⟨hb, 1, none⟩ (.slice (some ⟨g, 0, none⟩) (l.length + 1) cap)) := by
  have hb2 := after_append H hx hg
  have hlt := H.lt
  have hne : g ≠ hb := by
    rcases hat with h | h
    · exact fun e => H.ne (by rw [h, e])
    · omega
  refine ⟨⟨heap_setCell_same w' hb 1 _ _ _ hb2, ?_, fun e => hne (by cases e; rfl)⟩, ?_⟩
  · rw [List.length_append, flat_append]
    have : flat enc [x] = enc x := by simp [flat]
    rw [this]
    refine ⟨hown.1, ?_⟩
    rcases hown.2 with ⟨h0, _⟩ | ⟨g', cap', cur, hv, hg', hh, r⟩
    · cases h0
    · cases hv
      exact .inr ⟨g, cap, cur, rfl, hg', by rw [Below.heap_setCell _ _ _ _ hne]; exact hh, r⟩
  · refine Chg.setCell ?_ (fun _ => .inl rfl) _
    exact (chg_below hx _).trans (Chg.of_grown hg (S := fun b => V.ownBlock = some b) (fun k e => e)) (fun b _ h => .inr h)
set_option maxRecDepth 100000 in
set_option maxHeartbeats 1000000 in
theorem push_any {lf : Nat} {lt : El → El → Bool} (hless : Less lf lt) {w : World} {hb : Nat} {V : Value} {t : Int} {base : Nat} {x : El} {l : List (El × Int)}
    (H : Rep w hb (.func (.func lf) #[] #[]) V t base l) (hn : l.length ≤ 1000000000) (ht0 : 0 ≤ t) (ht : t ≤ 1000000000) (hbase : base ≤ w.heap.size) :
    Calls Tryz.prog 56 #[.pointer (some ⟨hb, 0, none⟩), .int .i64 x] w fun e w' => e = .returned (.tuple #[]) ∧ (∃ V', (V'.ownBlock = V.ownBlock ∨ ∃ k, V'.ownBlock = some k ∧ w.heap.size ≤ k) ∧ Rep w' hb (.func (.func lf) #[] #[]) V' (t + 1) base (pushL lt l x (t + 1))) ∧ Chg (fun b => b = hb ∨ V.ownBlock = some b) w w' := by
  obtain ⟨A, cap, rfl⟩ : ∃ A cap, V = .slice A l.length cap := by
    rcases H.row.2 with ⟨h, h0⟩ | ⟨g, cap, cur, h, _⟩
    · exact ⟨none, 0, by rw [h, h0]⟩
    · exact ⟨_, cap, h⟩
  have z0 := H.lt
  obtain ⟨cT, fT⟩ := Cl.of_block H.blk (j := 2) (v := .int .i64 t) rfl
  have HH := Lib.hid H
  have HL := Lib.hid hless
  clear H hless
  go_enter Tryz.func56, Tryz.ntmps56
  go_upto_region 2 with fail
  have hW : ∃ wA : World, wA = w.setCell ⟨hb, 2, none⟩ (.int .i64 (t + 1)) := ⟨_, rfl⟩
  obtain ⟨wA, hwA⟩ := hW
  rw [← hwA]
  have RS : Rep (w.setCell ⟨hb, 2, none⟩ (.int .i64 (t + 1))) hb (.func (.func lf) #[] #[]) (.slice A l.length cap) (t + 1) base l := by
    have h2 : HRep 137 139 2 enc w hb (.func (.func lf) #[] #[]) (.slice A l.length cap) t base l := HH.out
    refine ⟨heap_setCell_same _ hb 2 _ _ _ h2.blk, ?_, h2.ne⟩
    refine ⟨h2.row.1, ?_⟩
    rcases h2.row.2 with h0 | ⟨g', cap', cur, hv, hg', hh, r⟩
    · exact .inl h0
    · cases hv
      exact .inr ⟨g', cap, cur, rfl, hg', by rw [Below.heap_setCell _ _ _ _ (fun e => h2.ne (by rw [e]; rfl))]; exact hh, r⟩
  have CS : Chg (fun b => b = hb ∨ (Value.slice A l.length cap).ownBlock = some b) w (w.setCell ⟨hb, 2, none⟩ (.int .i64 (t + 1))) := (Chg.refl _ w).setCell (fun _ => .inl rfl) _
  have RA : Rep wA hb (.func (.func lf) #[] #[]) (.slice A l.length cap) (t + 1) base l := by rw [hwA]; exact RS
  have CA : Chg (fun b => b = hb ∨ (Value.slice A l.length cap).ownBlock = some b) w wA := by rw [hwA]; exact CS
  have sA := CA.size
  obtain ⟨cV, fV⟩ := Cl.of_block RA.blk (j := 1) (v := .slice A l.length cap) rfl
  have cT' := (Cl.of_block RA.blk (j := 2) (v := .int .i64 (t + 1)) rfl).cell
  have zA : hb < wA.heap.size := by omega
  have HA := Lib.hid RA
  have HC := Lib.hid CA
  clear hwA RA CA RS CS cT fT
  go_cut [] (fun wx => ∃ (g cap' : Nat), ((Value.slice A l.length cap).ownBlock = some g ∨ w.heap.size ≤ g) ∧ Rep wx hb (.func (.func lf) #[] #[]) (.slice (some ⟨g, 0, none⟩) (l.length + 1) cap') (t + 1) base (l ++ [(x, t + 1)]) ∧ Chg (fun b => b = hb ∨ (Value.slice A l.length cap).ownBlock = some b) w wx)
  case first =>
    obtain ⟨i0, hi, hz0, hz1, hz2⟩ := info_parts info_item
    have hbA : base ≤ wA.heap.size := by omega
    go_region_law (first | (refine step_append_lies _ rfl (.tmp 18) (.tmp 25) 135 rfl base 139 i0 (.agg #[.int .i64 0, .int .i64 0]) 2 16 Tryz.underlying135 hi hz0 hz1 hz2 rfl (by decide) (.slice A l.length cap) l.length (flat enc l) (by rfl) (HRep.row (HRep.later HA.out ((Below.refl _ _).alloc (Nat.le_refl _) _).drew)) ⟨wA.heap.size, 0, none⟩ 1 1 (enc (x, t + 1)) (by rfl) rfl (World.news_of_block (heap_at rfl)) (by intro u hu; simp [enc] at hu; rcases hu with rfl | rfl <;> rfl) (by omega) (by simp only [maxLen]; omega) (by omega) (by simp; omega) _ rfl ?_; intro g cap' w' hown hgrow hat hlt; have hblk := after_append HA.out ((Below.refl _ _).alloc (Nat.le_refl _) _).drew hgrow; obtain ⟨k1, k2⟩ := Cl.of_block hblk (j := 1) (v := .slice A l.length cap) rfl))
    all_goals
      go_wp2_with fail
      go_meet
      have hat' : (Value.slice A l.length cap).ownBlock = some g ∨ wA.heap.size ≤ g := hat.imp id (fun e => by rw [e]; show wA.heap.size ≤ (wA.alloc _).heap.size; rw [World.size_alloc]; omega)
      have PR := push_row HA.out ((Below.refl _ _).alloc (Nat.le_refl _) _).drew hgrow hown hat'
      exact ⟨g, cap', hat'.imp id (fun e => by omega), PR.1, HC.out.trans PR.2 (fun _ _ h => h)⟩
  case rest =>
    rename World => wB
    obtain ⟨g, cap', hg, RB, CB⟩ := hcut
    obtain ⟨cV2, fV2⟩ := Cl.of_block RB.blk (j := 1) (v := .slice (some ⟨g, 0, none⟩) (l.length + 1) cap') rfl
    have HB := Lib.hid RB
    have HCB := Lib.hid CB
    have HG := Lib.hid hg
    have HN : Hid ((l ++ [(x, t + 1)]).length = l.length + 1) := by show _ = _; simp
    have HPu : Hid (pushL lt l x (t + 1) = up lt l.length (l ++ [(x, t + 1)]) l.length) := rfl
    generalize hm0 : l ++ [(x, t + 1)] = m0 at HB HN HPu
    clear RB CB hg cV fV cT' hm0
    go_wp2_with fail
    go_loopg [4] l.length (fun f s wr => ∃ (i : Nat) (m : List (El × Int)), s = .int .i64 i ∧ Hid (m.length = l.length + 1) ∧ i ≤ l.length ∧ i ≤ f ∧ Rep wr hb (.func (.func lf) #[] #[]) (.slice (some ⟨g, 0, none⟩) (l.length + 1) cap') (t + 1) base m ∧ Chg (fun b => b = hb ∨ (Value.slice A l.length cap).ownBlock = some b) w wr ∧ Hid (pushL lt l x (t + 1) = up lt f m i))
    case atStart => exact ⟨l.length, m0, rfl, HN, Nat.le_refl _, Nat.le_refl _, HB.out, HCB.out, HPu⟩
    case round =>
      obtain ⟨i, m, rfl, hm, hil, hif, hrep, hch, HU⟩ := hrel
      have HR := Lib.hid hrep
      have HCR := Lib.hid hch
      clear hrep hch
      by_cases hi : 0 < i
      · have hi' : (0 : Int) < i := by omega
        obtain ⟨b1, hb1⟩ : ∃ b, ahd lt m[i]! m[(i - 1) / 2]! = b := ⟨_, rfl⟩
        have HB1 := Lib.hid hb1
        clear hb1
        go_wp2_with fail
        refine (ahead_nat HL.out HR.out i ((i - 1) / 2) _ _ (by omega) (by omega) (by rw [hm.out]; omega) (by rw [hm.out]; omega)).mono ?_
        rw [HB1.out]
        rintro e w1 ⟨rfl, hw1⟩
        have HR1 := Lib.hid (HR.out.later hw1)
        have HC1 := Lib.hid (HCR.out.trans (chg_below hw1 (fun b => b = hb ∨ (Value.slice A l.length cap).ownBlock = some b)) (fun _ _ h => h))
        clear hw1
        cases b1
        · have hs : Hid (up lt gk m i = m) := up_stop (by rw [HB1.out]; simp)
          go_wp2_with fail
          (try simp only [Exit.inBlock, Exit.then])
          refine bodyPost_end (results_none rfl _ _ _) rfl ?_
          exact ⟨rfl, ⟨.slice (some ⟨g, 0, none⟩) (l.length + 1) cap', HG.out.imp (fun h => h.symm) (fun h => ⟨g, rfl, h⟩), by rw [HU.out, hs.out]; exact HR1.out⟩, HC1.out⟩
        · have hs : Hid (up lt gk m i = up lt (gk - 1) (swp m i ((i - 1) / 2)) ((i - 1) / 2)) := up_go hif hi HB1.out
          go_wp2_with fail
          refine (swap_nat HR1.out i ((i - 1) / 2) _ _ (by omega) (by omega) (by rw [hm.out]; omega) (by rw [hm.out]; omega)).mono ?_
          rintro e w2 ⟨rfl, hw2, hc2⟩
          have HR2 := Lib.hid hw2
          have HC2 := Lib.hid (HC1.out.trans hc2 (fun b hb' h => by
            rcases HG.out with h' | h'
            · exact .inr (h'.trans h)
            · have e : g = b := by simpa [Value.ownBlock] using h
              omega))
          clear hw2 hc2
          go_wp2_with fail
          go_roundg (gk - 1)
          case measure => omega
          case rel => exact ⟨(i - 1) / 2, swp m i ((i - 1) / 2), congrArg (Value.int .i64) (by omega), by rw [swp_length]; exact hm, by omega, by omega, HR2.out, HC2.out, HU.out.trans hs.out⟩
      · obtain rfl : i = 0 := by omega
        have hs : Hid (up lt gk m 0 = m) := up_stop (by simp)
        go_wp2_with fail
        (try simp only [Exit.inBlock, Exit.then])
        refine bodyPost_end (results_none rfl _ _ _) rfl ?_
        exact ⟨rfl, ⟨.slice (some ⟨g, 0, none⟩) (l.length + 1) cap', HG.out.imp (fun h => h.symm) (fun h => ⟨g, rfl, h⟩), by rw [HU.out, hs.out]; exact HR.out⟩, HCR.out⟩

set_option maxHeartbeats 1000000 in
theorem push_nil (x : El) (w : World) : Calls Tryz.prog 56 #[.pointer none, .int .i64 x] w fun e w' => e = .returned (.tuple #[]) ∧ Below w.heap.size w w' := by
  go_enter Tryz.func56, Tryz.ntmps56
  go_wp2
  exact bodyPost_ret (results_none rfl _ _ _) rfl ⟨rfl, Below.refl w.heap.size w⟩
end Go.Proofs.YtjgloineooadoaaGreatDoor.HInt
/- A heap of nodes: which are there; the least comes. Plain laws, and what is less. -/
namespace Go.Proofs.YtjgloineooadoaaGreatDoor
open Go.RowKit
def ltI (a b : Int) : Bool := decide (a < b)
theorem ahdI_false {a b : Int × Int} : ahd ltI a b = false ↔ (b.1 ≤ a.1 ∧ (a.1 ≤ b.1 → b.2 ≤ a.2)) := by
  unfold ahd ltI
  by_cases h1 : a.1 < b.1
  · simp [h1]; omega
  · by_cases h2 : b.1 < a.1
    · simp [h1, h2]; omega
    · simp [h1, h2]; omega
theorem ahdI_true {a b : Int × Int} : ahd ltI a b = true ↔ ¬ (b.1 ≤ a.1 ∧ (a.1 ≤ b.1 → b.2 ≤ a.2)) := by
  rw [← ahdI_false]; simp
theorem totI : Tot ltI := by
  refine ⟨fun a b h => ?_, fun a b c h1 h2 => ?_⟩
  · rw [ahdI_true] at h; rw [ahdI_false]; omega
  · rw [ahdI_false] at *; omega
theorem head_min {a : Int × Int} {r : List (Int × Int)} (h : Heapy ltI (a :: r)) : ∀ p ∈ a :: r, a.1 ≤ p.1 := by
  intro p hp
  obtain ⟨j, hj, rfl⟩ := List.mem_iff_getElem.1 hp
  have := heapy_min totI h j hj
  rw [getElem!_pos (a :: r) j hj, getElem!_pos (a :: r) 0 (by simp)] at this
  exact (ahdI_false.1 this).1
/-- A heap that holds just the nodes of S, each once. -/
structure Ct (hl : List (Int × Int)) (S : Nat → Bool) : Prop where
  heapy : Heapy ltI hl
  nodup : (hl.map (·.1)).Nodup
  mem : ∀ x : Int, x ∈ hl.map (·.1) ↔ ∃ v : Nat, x = v ∧ S v = true
theorem Ct.nil : Ct [] (fun _ => false) := ⟨fun j _ hj => by simp at hj, by simp, by simp⟩
theorem Ct.congr {hl : List (Int × Int)} {S T : Nat → Bool} (h : Ct hl S) (e : ∀ v, S v = T v) : Ct hl T := ⟨h.heapy, h.nodup, fun x => by rw [h.mem]; simp [e]⟩
theorem Ct.push {hl : List (Int × Int)} {S : Nat → Bool} (h : Ct hl S) (v : Nat) (t : Int) (hv : S v = false) : Ct (pushL ltI hl v t) (fun u => S u || u == v) := by
  have hp := (push_perm (lt := ltI) hl (v : Int) t).map (·.1)
  refine ⟨push_heapy totI h.heapy _ _, hp.nodup_iff.2 ?_, fun x => ?_⟩
  · rw [List.map_append, List.nodup_append]
    refine ⟨h.nodup, by simp, fun a ha b hb e => ?_⟩
    simp at hb
    subst hb
    subst e
    obtain ⟨u, e1, hu⟩ := (h.mem _).1 ha
    have : u = v := by omega
    rw [this, hv] at hu
    cases hu
  · rw [hp.mem_iff, List.map_append, List.mem_append, h.mem]
    simp only [List.map_cons, List.map_nil, List.mem_singleton, Bool.or_eq_true, beq_iff_eq]
    constructor
    · rintro (⟨u, e, hu⟩ | e)
      · exact ⟨u, e, .inl hu⟩
      · exact ⟨v, e, .inr rfl⟩
    · rintro ⟨u, e, hu | rfl⟩
      · exact .inl ⟨u, e, hu⟩
      · exact .inr e
theorem Ct.pop {a : Int × Int} {r : List (Int × Int)} {S : Nat → Bool} (h : Ct (a :: r) S) : ∃ v : Nat, a.1 = v ∧ S v = true ∧ (∀ u, u < v → S u = false) ∧ Ct (popL ltI (a :: r)) (fun u => S u && u != v) := by
  obtain ⟨v, hv, hS⟩ := (h.mem a.1).1 (by simp)
  have hp := (pop_perm (lt := ltI) a r).map (·.1)
  have hd := h.nodup
  rw [List.map_cons, List.nodup_cons] at hd
  refine ⟨v, hv, hS, fun u hu => ?_, pop_heapy totI h.heapy, hp.nodup_iff.2 hd.2, fun x => ?_⟩
  · cases e : S u with
    | false => rfl
    | true =>
      obtain ⟨p, hp1, hp2⟩ := List.mem_map.1 ((h.mem (u : Int)).2 ⟨u, rfl, e⟩)
      have := head_min h.heapy p hp1
      omega
  · rw [hp.mem_iff]
    have hm := h.mem x
    rw [List.map_cons, List.mem_cons] at hm
    simp only [Bool.and_eq_true, bne_iff_ne]
    constructor
    · intro hx
      obtain ⟨u, e, hu⟩ := hm.1 (.inr hx)
      refine ⟨u, e, hu, fun e2 => hd.1 ?_⟩
      rw [hv, ← e2, ← e]
      exact hx
    · rintro ⟨u, e, hu, hne⟩
      rcases hm.2 ⟨u, e, hu⟩ with h2 | h2
      · omega
      · exact h2
theorem Ct.none {S : Nat → Bool} (h : Ct [] S) (v : Nat) : S v = false := by
  cases e : S v with
  | false => rfl
  | true => have := (h.mem (v : Int)).2 ⟨v, rfl, e⟩; simp at this
theorem Ct.len {hl : List (Int × Int)} {S : Nat → Bool} {n : Nat} (h : Ct hl S) (hS : ∀ v, S v = true → v < n) : hl.length ≤ n := by
  have key : ∀ (l : List Int), l.Nodup → (∀ x ∈ l, ∃ v : Nat, x = v ∧ v < n) → l.length ≤ n := by
    intro l hd hl
    have h1 : (l.map Int.toNat).Nodup := by
      rw [List.nodup_iff_pairwise_ne, List.pairwise_map]
      refine (List.nodup_iff_pairwise_ne.1 hd).imp_of_mem ?_
      intro x y hx hy hxy e
      obtain ⟨u, rfl, _⟩ := hl x hx
      obtain ⟨v, rfl, _⟩ := hl y hy
      simp at e
      exact hxy (by rw [e])
    have h2 : ∀ (n : Nat) (l : List Nat), l.Nodup → (∀ u ∈ l, u < n) → l.length ≤ n := by
      intro n
      induction n with
      | zero => intro l _ h; cases l with
        | nil => exact Nat.le_refl _
        | cons a l => exact absurd (h a (by simp)) (by omega)
      | succ n ih =>
        intro l hd h
        have h1 := ih (l.erase n) (hd.erase n) (fun u hu => by
          have h2 := (List.Nodup.mem_erase_iff hd).1 hu
          have := h u h2.2
          have := h2.1
          omega)
        have h2 := List.length_erase (a := n) (l := l)
        split at h2 <;> omega
    have := h2 n (l.map Int.toNat) h1 (fun u hu => by
      obtain ⟨x, hx, rfl⟩ := List.mem_map.1 hu
      obtain ⟨v, rfl, hv⟩ := hl x hx
      simpa using hv)
    simpa using this
  have := key _ h.nodup (fun x hx => by
    obtain ⟨v, e, hv⟩ := (h.mem x).1 hx
    exact ⟨v, e, hS v hv⟩)
  simpa using this
theorem enterO (args : Array Value) (w : World) : (callFunc 55 args).run Tryz.prog w = .ok (.enter 55 args) w := by kernel_rfl
theorem lessO : HInt.Less 55 ltI := ⟨enterO, fun a b w => by
  go_enter Tryz.func55, Tryz.ntmps55
  go_wp2
  go_ret
  exact ⟨rfl, Below.refl _ _⟩⟩
end Go.Proofs.YtjgloineooadoaaGreatDoor
