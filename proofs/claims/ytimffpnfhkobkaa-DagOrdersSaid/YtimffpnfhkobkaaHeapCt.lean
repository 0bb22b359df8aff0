/- A heap of nodes: which are there; the least comes. Plain laws, and what is less. -/
import Derived.Test.YtimffpnfhkobkaaHeapSpec
import Derived.Test.YtimffpnfhkobkaaHeapEInt
namespace Go.Proofs.Ytimffpnfhkobkaa
open Go.RowKit
def ltI (a b : Int) : Bool := decide (a < b)
theorem ahdI_false {a b : Int × Int} : ahd ltI a b = false ↔ (b.1 ≤ a.1 ∧ (a.1 ≤ b.1 → b.2 ≤ a.2)) := by
  unfold ahd ltI
  by_cases h1 : a.1 < b.1
  · simp [h1]; omega
  · by_cases h2 : b.1 < a.1
    · simp [h1, h2]; omega
    · simp [h1, h2]; omega
theorem ahdI_true {a b : Int × Int} : ahd ltI a b = true ↔ ¬ (b.1 ≤ a.1 ∧ (a.1 ≤ b.1 → b.2 ≤ a.2)) := by
  rw [← ahdI_false]; simp
theorem totI : Tot ltI := by
  refine ⟨fun a b h => ?_, fun a b c h1 h2 => ?_⟩
  · rw [ahdI_true] at h; rw [ahdI_false]; omega
  · rw [ahdI_false] at *; omega
theorem head_min {a : Int × Int} {r : List (Int × Int)} (h : Heapy ltI (a :: r)) : ∀ p ∈ a :: r, a.1 ≤ p.1 := by
  intro p hp
  obtain ⟨j, hj, rfl⟩ := List.mem_iff_getElem.1 hp
  have := heapy_min totI h j hj
  rw [getElem!_pos (a :: r) j hj, getElem!_pos (a :: r) 0 (by simp)] at this
  exact (ahdI_false.1 this).1
/-- A heap that holds just the nodes of S, each once. -/
structure Ct (hl : List (Int × Int)) (S : Nat → Bool) : Prop where
  heapy : Heapy ltI hl
  nodup : (hl.map (·.1)).Nodup
  mem : ∀ x : Int, x ∈ hl.map (·.1) ↔ ∃ v : Nat, x = v ∧ S v = true
theorem Ct.nil : Ct [] (fun _ => false) := ⟨fun j _ hj => by simp at hj, by simp, by simp⟩
theorem Ct.congr {hl : List (Int × Int)} {S T : Nat → Bool} (h : Ct hl S) (e : ∀ v, S v = T v) : Ct hl T := ⟨h.heapy, h.nodup, fun x => by rw [h.mem]; simp [e]⟩
theorem Ct.push {hl : List (Int × Int)} {S : Nat → Bool} (h : Ct hl S) (v : Nat) (t : Int) (hv : S v = false) : Ct (pushL ltI hl v t) (fun u => S u || u == v) := by
  have hp := (push_perm (lt := ltI) hl (v : Int) t).map (·.1)
  refine ⟨push_heapy totI h.heapy _ _, hp.nodup_iff.2 ?_, fun x => ?_⟩
  · rw [List.map_append, List.nodup_append]
    refine ⟨h.nodup, by simp, fun a ha b hb e => ?_⟩
    simp at hb
    subst hb
    subst e
    obtain ⟨u, e1, hu⟩ := (h.mem _).1 ha
    have : u = v := by omega
    rw [this, hv] at hu
    cases hu
  · rw [hp.mem_iff, List.map_append, List.mem_append, h.mem]
    simp only [List.map_cons, List.map_nil, List.mem_singleton, Bool.or_eq_true, beq_iff_eq]
    constructor
    · rintro (⟨u, e, hu⟩ | e)
      · exact ⟨u, e, .inl hu⟩
      · exact ⟨v, e, .inr rfl⟩
    · rintro ⟨u, e, hu | rfl⟩
      · exact .inl ⟨u, e, hu⟩
      · exact .inr e
theorem Ct.pop {a : Int × Int} {r : List (Int × Int)} {S : Nat → Bool} (h : Ct (a :: r) S) : ∃ v : Nat, a.1 = v ∧ S v = true ∧ (∀ u, u < v → S u = false) ∧ Ct (popL ltI (a :: r)) (fun u => S u && u != v) := by
  obtain ⟨v, hv, hS⟩ := (h.mem a.1).1 (by simp)
  have hp := (pop_perm (lt := ltI) a r).map (·.1)
  have hd := h.nodup
  rw [List.map_cons, List.nodup_cons] at hd
  refine ⟨v, hv, hS, fun u hu => ?_, pop_heapy totI h.heapy, hp.nodup_iff.2 hd.2, fun x => ?_⟩
  · cases e : S u with
    | false => rfl
    | true =>
      obtain ⟨p, hp1, hp2⟩ := List.mem_map.1 ((h.mem (u : Int)).2 ⟨u, rfl, e⟩)
      have := head_min h.heapy p hp1
      omega
  · rw [hp.mem_iff]
    have hm := h.mem x
    rw [List.map_cons, List.mem_cons] at hm
    simp only [Bool.and_eq_true, bne_iff_ne]
    constructor
    · intro hx
      obtain ⟨u, e, hu⟩ := hm.1 (.inr hx)
      refine ⟨u, e, hu, fun e2 => hd.1 ?_⟩
      rw [hv, ← e2, ← e]
      exact hx
    · rintro ⟨u, e, hu, hne⟩
      rcases hm.2 ⟨u, e, hu⟩ with h2 | h2
      · omega
      · exact h2
theorem Ct.none {S : Nat → Bool} (h : Ct [] S) (v : Nat) : S v = false := by
  cases e : S v with
  | false => rfl
  | true => have := (h.mem (v : Int)).2 ⟨v, rfl, e⟩; simp at this
theorem Ct.len {hl : List (Int × Int)} {S : Nat → Bool} {n : Nat} (h : Ct hl S) (hS : ∀ v, S v = true → v < n) : hl.length ≤ n := by
  have key : ∀ (l : List Int), l.Nodup → (∀ x ∈ l, ∃ v : Nat, x = v ∧ v < n) → l.length ≤ n := by
    intro l hd hl
    have h1 : (l.map Int.toNat).Nodup := by
      rw [List.nodup_iff_pairwise_ne, List.pairwise_map]
      refine (List.nodup_iff_pairwise_ne.1 hd).imp_of_mem ?_
      intro x y hx hy hxy e
      obtain ⟨u, rfl, _⟩ := hl x hx
      obtain ⟨v, rfl, _⟩ := hl y hy
      simp at e
      exact hxy (by rw [e])
    have h2 : ∀ (n : Nat) (l : List Nat), l.Nodup → (∀ u ∈ l, u < n) → l.length ≤ n := by
      intro n
      induction n with
      | zero => intro l _ h; cases l with
        | nil => exact Nat.le_refl _
        | cons a l => exact absurd (h a (by simp)) (by omega)
      | succ n ih =>
        intro l hd h
        have h1 := ih (l.erase n) (hd.erase n) (fun u hu => by
          have h2 := (List.Nodup.mem_erase_iff hd).1 hu
          have := h u h2.2
          have := h2.1
          omega)
        have h2 := List.length_erase (a := n) (l := l)
        split at h2 <;> omega
    have := h2 n (l.map Int.toNat) h1 (fun u hu => by
      obtain ⟨x, hx, rfl⟩ := List.mem_map.1 hu
      obtain ⟨v, rfl, hv⟩ := hl x hx
      simpa using hv)
    simpa using this
  have := key _ h.nodup (fun x hx => by
    obtain ⟨v, e, hv⟩ := (h.mem x).1 hx
    exact ⟨v, e, hS v hv⟩)
  simpa using this
theorem enterO (args : Array Value) (w : World) : (callFunc 38 args).run Try.prog w = .ok (.enter 38 args) w := by kernel_rfl
theorem lessO : HInt.Less 38 ltI := ⟨enterO, fun a b w => by
  go_enter Try.func38, Try.ntmps38
  go_wp2
  go_ret
  exact ⟨rfl, Below.refl _ _⟩⟩
end Go.Proofs.Ytimffpnfhkobkaa
