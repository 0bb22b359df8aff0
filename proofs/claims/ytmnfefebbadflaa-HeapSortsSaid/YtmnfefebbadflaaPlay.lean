/- A heap and the reference's list side by side: what is pushed, popped and looked at is the same. Plain laws. -/
import Derived.Test.YtmnfefebbadflaaHeapSpec
import Derived.Test.YtmnfefebbadflaaRefA
namespace Go.Proofs.Ytmnfefebbadflaa
def ltO (a b : One) : Bool := decide (a.1 < b.1)
theorem ahd_false {a b : One × Int} : ahd ltO a b = false ↔ (b.1.1 ≤ a.1.1 ∧ (a.1.1 ≤ b.1.1 → b.2 ≤ a.2)) := by
  unfold ahd ltO
  by_cases h1 : a.1.1 < b.1.1
  · simp [h1]; omega
  · by_cases h2 : b.1.1 < a.1.1
    · simp [h1, h2]; omega
    · simp [h1, h2]; omega
theorem ahd_true {a b : One × Int} : ahd ltO a b = true ↔ ¬ (b.1.1 ≤ a.1.1 ∧ (a.1.1 ≤ b.1.1 → b.2 ≤ a.2)) := by
  rw [← ahd_false]; simp
theorem totO : Tot ltO := by
  refine ⟨fun a b h => ?_, fun a b c h1 h2 => ?_⟩
  · rw [ahd_true] at h; rw [ahd_false]; omega
  · rw [ahd_false] at *; omega
structure Sim (hl : List (One × Int)) (t : Int) (m : List One) (s : List (One × Int)) : Prop where
  fst : s.map (·.1) = m
  times : s.Pairwise (fun a b => a.2 < b.2)
  perm : s.Perm hl
  bound : ∀ a ∈ s, a.2 ≤ t
  heap : Heapy ltO hl
theorem Sim.nil : Sim [] 0 [] [] := ⟨rfl, List.Pairwise.nil, List.Perm.refl _, by simp, fun j _ h => by simp at h⟩
theorem Sim.len {hl : List (One × Int)} {t : Int} {m : List One} {s : List (One × Int)} (h : Sim hl t m s) : hl.length = m.length := by
  rw [← h.fst, List.length_map, h.perm.length_eq]
theorem Sim.push {hl : List (One × Int)} {t : Int} {m : List One} {s : List (One × Int)} (h : Sim hl t m s) (x : One) : Sim (pushL ltO hl x (t + 1)) (t + 1) (m ++ [x]) (s ++ [(x, t + 1)]) := by
  refine ⟨by simp [h.fst], ?_, ?_, ?_, push_heapy totO h.heap x _⟩
  · rw [List.pairwise_append]
    refine ⟨h.times, by simp, fun a ha b hb => ?_⟩
    simp at hb
    subst hb
    have := h.bound a ha
    simp; omega
  · exact (h.perm.append_right _).trans (push_perm hl x _).symm
  · intro a ha
    simp at ha
    rcases ha with ha | rfl
    · have := h.bound a ha; omega
    · simp
theorem least_spec (m : List One) (k : Nat) (hk : k ≤ m.length) (h0 : 0 < k) : ∃ p : Nat, leastTo m k = p ∧ p < k ∧ (∀ q, q < p → m[p]!.1 < m[q]!.1) ∧ (∀ q, q < k → m[p]!.1 ≤ m[q]!.1) := by
  induction k with
  | zero => omega
  | succ k ih =>
    by_cases hk0 : k = 0
    · subst hk0
      refine ⟨0, by simp [leastTo], by omega, by omega, fun q hq => ?_⟩
      obtain rfl : q = 0 := by omega
      exact Int.le_refl _
    · obtain ⟨p, hp, hpk, h1, h2⟩ := ih (by omega) (by omega)
      by_cases hc : m[k]!.1 < m[p]!.1
      · refine ⟨k, by simp only [leastTo]; rw [hp, if_pos (.inr (by simpa using hc))], by omega, fun q hq => ?_, fun q hq => ?_⟩
        · have := h2 q hq; omega
        · by_cases e : q = k
          · subst e; exact Int.le_refl _
          · have := h2 q (by omega); omega
      · refine ⟨p, by simp only [leastTo]; rw [hp, if_neg (fun h => by rcases h with h | h; (· omega); (· rw [Int.toNat_natCast] at h; omega))], by omega, h1, fun q hq => ?_⟩
        by_cases e : q = k
        · subst e; omega
        · exact h2 q (by omega)
theorem wTo_erase (m : List One) (p : Nat) (k : Nat) (hk : k ≤ m.length) : wTo m p k = (m.take k).eraseIdx p := by
  induction k with
  | zero => simp [wTo]
  | succ k ih =>
    have e : m.take (k + 1) = m.take k ++ [m[k]!] := by rw [List.take_succ_eq_append_getElem (by omega), getElem!_pos m k (by omega)]
    simp only [wTo]
    rw [ih (by omega), e]
    have hl : (m.take k).length = k := by simp; omega
    by_cases h : (k : Int) = p
    · rw [if_pos h]
      obtain rfl : k = p := by omega
      rw [List.eraseIdx_append_of_length_le (by omega), hl, List.eraseIdx_of_length_le (by omega)]
      simp
    · rw [if_neg h]
      by_cases h2 : p < k
      · rw [List.eraseIdx_append_of_lt_length (by omega)]
      · rw [List.eraseIdx_of_length_le (by omega), List.eraseIdx_of_length_le (by simp; omega)]
theorem erase_perm {α : Type} (s : List α) (p : Nat) (hp : p < s.length) : (s[p] :: s.eraseIdx p).Perm s := by
  have h : s = s.take p ++ s[p] :: s.drop (p + 1) := by rw [← List.drop_eq_getElem_cons hp, List.take_append_drop]
  rw [List.eraseIdx_eq_take_drop_succ]
  have h2 := (List.perm_middle (a := s[p]) (l₁ := s.take p) (l₂ := s.drop (p + 1))).symm
  rwa [← h] at h2
theorem Sim.pop {a : One × Int} {r : List (One × Int)} {t : Int} {m : List One} {s : List (One × Int)} (h : Sim (a :: r) t m s) :
    ∃ (p : Nat) (s' : List (One × Int)), leastTo m m.length = p ∧ p < m.length ∧ m[p]? = some a.1 ∧ Sim (popL ltO (a :: r)) t (wTo m p m.length) s' := by
  have hm : ∀ b ∈ s, ahd ltO b a = false := by
    intro b hb
    have hb' := h.perm.mem_iff.1 hb
    obtain ⟨j, hj, rfl⟩ := List.mem_iff_getElem.1 hb'
    have := heapy_min totO h.heap j hj
    rw [getElem!_pos (a :: r) j hj] at this
    simpa using this
  have ha : a ∈ s := h.perm.mem_iff.2 (by simp)
  obtain ⟨p, hp, hpa⟩ := List.mem_iff_getElem.1 ha
  have hl : m.length = s.length := by rw [← h.fst]; simp
  have key : ∀ q (hq : q < s.length), m[q]! = s[q].1 := by
    intro q hq
    rw [getElem!_pos m q (by omega)]
    simp [← h.fst]
  obtain ⟨p', h1, h2, h3, h4⟩ := least_spec m m.length (Nat.le_refl _) (by omega)
  have hlow : ∀ q (hq : q < s.length), a.1.1 ≤ s[q].1.1 ∧ (s[q].1.1 ≤ a.1.1 → a.2 ≤ s[q].2) := fun q hq => ahd_false.1 (hm _ (List.getElem_mem hq))
  have hfirst : ∀ q (hq : q < s.length), q < p → a.1.1 < s[q].1.1 := by
    intro q hq hqp
    have h5 := List.pairwise_iff_getElem.1 h.times q p hq hp hqp
    rw [hpa] at h5
    have := hlow q hq
    omega
  have hpp : p' = p := by
    have k1 := key p hp
    rw [hpa] at k1
    have k2 := key p' (by omega)
    rcases Nat.lt_trichotomy p' p with hlt | heq | hgt
    · have h5 := hfirst p' (by omega) hlt
      have h6 := h4 p (by omega)
      rw [k1, k2] at h6
      omega
    · exact heq
    · have h5 := h3 p hgt
      have h6 := (hlow p' (by omega)).1
      rw [k1, k2] at h5
      omega
  subst hpp
  refine ⟨p', s.eraseIdx p', h1, by omega, ?_, ?_⟩
  · rw [← h.fst]; simp [hp, hpa]
  · have hper : (s[p'] :: s.eraseIdx p').Perm s := erase_perm s p' hp
    rw [hpa] at hper
    refine ⟨?_, h.times.sublist (List.eraseIdx_sublist ..), ?_, fun b hb => h.bound b (List.mem_of_mem_eraseIdx hb), pop_heapy totO h.heap⟩
    · rw [wTo_erase m p' _ (Nat.le_refl _), List.take_length, ← h.fst, List.eraseIdx_eq_take_drop_succ, List.eraseIdx_eq_take_drop_succ]
      simp [List.map_take, List.map_drop]
    · exact ((List.perm_cons a).1 (hper.trans h.perm)).trans (pop_perm a r).symm
end Go.Proofs.Ytmnfefebbadflaa
