/- A graph whose arcs lead upwards, by any measure, is a dag: its order has all its nodes. -/
import Derived.Test.YtimffpnfhkobkaaDagW
namespace Go.Proofs.Ytimffpnfhkobkaa
theorem exists_min (r : Nat → Nat) (P : Nat → Prop) : ∀ k v, r v ≤ k → P v → ∃ v, P v ∧ ∀ u, P u → r v ≤ r u := by
  intro k
  induction k with
  | zero => exact fun v hv hp => ⟨v, hp, fun u _ => by omega⟩
  | succ k ih =>
    intro v hv hp
    by_cases h : ∃ u, P u ∧ r u < r v
    · obtain ⟨u, hu, hlt⟩ := h
      exact ih u (by omega) hu
    · exact ⟨v, hp, fun u hu => by
        apply Classical.byContradiction
        intro hc
        exact h ⟨u, hu, by omega⟩⟩
theorem nodup_sub : ∀ (a b : List Nat), a.Nodup → (∀ x ∈ a, x ∈ b) → a.length ≤ b.length := by
  intro a
  induction a with
  | nil => intro b _ _; simp
  | cons x a ih =>
    intro b hn hs
    obtain ⟨hx, hn⟩ := List.nodup_cons.1 hn
    have hb : x ∈ b := hs x (by simp)
    have := ih (b.erase x) hn (fun y hy => (List.mem_erase_of_ne (by rintro rfl; exact hx hy)).2 (hs y (by simp [hy])))
    have h2 := List.length_erase_of_mem hb
    have h3 : 0 < b.length := List.length_pos_of_mem hb
    simp only [List.length_cons]
    omega
theorem gr_full {G : Gr} {n : Nat} (r : Nat → Nat) (hr : ∀ a ∈ G, r a.1 < r a.2) (hi : ∀ a ∈ G, a.1 < n) : ∀ k l, Tk G n l → n - l.length ≤ k → (gr G n k l).length = n := by
  intro k
  induction k with
  | zero => exact fun l h hk => by have := h.len; simp only [gr]; omega
  | succ k ih =>
    intro l h hk
    have hlen := h.len
    cases hx : nextN G n l with
    | some w =>
      have e : gr G n (k + 1) l = gr G n k (l ++ [w]) := by simp only [gr, hx]
      rw [e]
      unfold nextN at hx
      have h1 := List.find?_some hx
      have h2 : w < n := by simpa using List.mem_of_find?_eq_some hx
      exact ih _ (h.add h2 h1) (by simp; omega)
    | none =>
      have e : gr G n (k + 1) l = l := by simp only [gr, hx]
      rw [e]
      by_cases hl : l.length < n
      · exfalso
        obtain ⟨v, hv, hvl⟩ : ∃ v, v < n ∧ v ∉ l := by
          apply Classical.byContradiction
          intro hc
          have := nodup_sub (List.range n) l List.nodup_range (fun x hx => by
            apply Classical.byContradiction
            intro h2
            exact hc ⟨x, by simpa using hx, h2⟩)
          simp at this
          omega
        obtain ⟨v, ⟨hv, hvl⟩, hmin⟩ := exists_min r (fun v => v < n ∧ v ∉ l) (r v) v (Nat.le_refl _) ⟨hv, hvl⟩
        have hz : cnt G l v = 0 := List.countP_eq_zero.2 (fun a ha hc => by
          simp only [Bool.and_eq_true, beq_iff_eq, Bool.not_eq_true', List.contains_eq_mem, decide_eq_false_iff_not] at hc
          have h1 := hmin a.1 ⟨hi a ha, hc.2⟩
          have h2 := hr a ha
          rw [hc.1] at h2
          omega)
        unfold nextN at hx
        have := List.find?_eq_none.1 hx v (by simpa using hv)
        simp [rdy, hvl, hz] at this
      · omega
theorem ord_full {G : Gr} {n : Nat} (r : Nat → Nat) (hr : ∀ a ∈ G, r a.1 < r a.2) (hi : ∀ a ∈ G, a.1 < n) : (ordL G n).length = n := gr_full r hr hi n [] (Tk.nil _ _) (by simp)
theorem ordE_dag {n : Int} {L : List Arc} (hR : rightB n L = true) (r : Nat → Nat) (hr : ∀ a ∈ L, r a.1.toNat < r a.2.1.toNat) : ordE n L = 0 := by
  unfold ordE
  rw [if_pos hR, if_neg]
  obtain ⟨m, rfl, hm, hl, hG⟩ := right_gr hR
  rw [ord_full r]
  · omega
  · intro a ha
    unfold gOf at ha
    obtain ⟨b, hb, rfl⟩ := List.mem_map.1 ha
    exact hr b hb
  · intro a ha
    obtain ⟨i, hi⟩ := List.getElem?_of_mem ha
    unfold gOf at hi
    rw [List.getElem?_map] at hi
    cases hb : L[i]? with
    | none => rw [hb] at hi; cases hi
    | some b =>
      rw [hb] at hi
      obtain ⟨f, t, x, rfl, hf, ht, _⟩ := hG i b hb
      simp at hi
      subst hi
      simpa using hf
def manyL (c : Nat) : List Arc := List.replicate c (0, 1, 0)
theorem many_law (k c : Nat) : ordE k (manyL c) = if 4096 < k ∨ 16384 < c ∨ (k < 2 ∧ 0 < c) then 2 else 0 := by
  by_cases h : 4096 < k ∨ 16384 < c ∨ (k < 2 ∧ 0 < c)
  · rw [if_pos h]
    unfold ordE
    rw [if_neg]
    intro hR
    obtain ⟨m, hm0, hm, hl, hG⟩ := right_gr hR
    have hkm : k = m := by omega
    subst hkm
    simp only [manyL, List.length_replicate] at hl
    rcases h with h | h | ⟨h1, h2⟩
    · omega
    · omega
    · obtain ⟨f, t, x, e, hf, ht, _⟩ := hG 0 (0, 1, 0) (by simp [manyL, h2])
      simp only [Prod.mk.injEq] at e
      omega
  · rw [if_neg h]
    refine ordE_dag ?_ id ?_
    · have hb : (manyL c).any (badA k) = false := by
        rw [List.any_eq_false]
        intro a ha
        obtain ⟨hc, rfl⟩ := List.mem_replicate.1 ha
        simp [badA]
        omega
      unfold rightB
      rw [hb]
      simp [manyL]
      omega
    · intro a ha
      obtain ⟨hc, rfl⟩ := List.mem_replicate.1 ha
      decide
#print axioms many_law
end Go.Proofs.Ytimffpnfhkobkaa
