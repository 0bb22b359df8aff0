/- DagCosts' plain facts: what Cost tells of the graphs that plain data make. -/
import Derived.Test.YtimffpnfhkobkaaLCostA
namespace Go.Proofs.Ytimffpnfhkobkaa
theorem costE_len {n : Int} {L : List Arc} {xs : List Int} (h0 : ordE n L = 0) (h : (xs.length : Int) ≠ n) : costE n L xs = 2 := by
  unfold costE
  rw [if_pos h0, if_neg (fun q => h q.1)]
theorem costE_far {n : Int} {L : List Arc} {xs : List Int} (h0 : ordE n L = 0) (h : xs.any farB = true) : costE n L xs = 2 := by
  unfold costE
  rw [if_pos h0, if_neg (fun q => by have := q.2; rw [h] at this; cases this)]
theorem costE_fit {n : Int} {L : List Arc} {xs : List Int} (h0 : ordE n L = 0) (hl : (xs.length : Int) = n) (hf : xs.any farB = false) : costE n L xs = if L.all (fitA xs) = true then 0 else 15 := by
  unfold costE
  rw [if_pos h0, if_pos ⟨hl, hf⟩]
theorem costV_ok {n : Int} {L : List Arc} {xs : List Int} (h : costE n L xs = 0) : costV n L xs = costL xs L := by
  unfold costV
  rw [if_pos h]
theorem makeL_length (N most : Nat) (T : List Tri) : (makeL N most T).length ≤ 40 := by
  have hl := mkL_length (mkN N most) (T.take 40)
  rw [List.length_take] at hl
  unfold makeL
  omega
theorem makeL_in (N most : Nat) (T : List Tri) : InX (makeL N most T) (mkN N most) := by
  intro a ha
  obtain ⟨f, t, x, rfl, h1, h2, h3⟩ := mkL_mem (by unfold mkN; omega) ha
  exact ⟨f, t, rfl, rfl, by omega, h2⟩
theorem makeL_w (N most : Nat) (T : List Tri) : ∀ a ∈ makeL N most T, 0 ≤ a.2.2 ∧ a.2.2 ≤ 7 := by
  intro a ha
  obtain ⟨f, t, x, rfl, h1, h2, h3⟩ := mkL_mem (by unfold mkN; omega) ha
  simp only
  omega
theorem near_of {xs : List Int} (h : xs.any farB = false) : ∀ v ∈ xs, -1000000 ≤ v ∧ v ≤ 1000000 := by
  intro v hv
  have := List.any_eq_false.1 h v hv
  simp only [farB, Bool.not_eq_true, Bool.or_eq_false_iff, decide_eq_false_iff_not] at this
  omega
theorem valC_no {big : Bool} {x : List Int} {i : Nat} (h : ¬ i < x.length) : valC big x i = if big then (i : Int) else (i : Int).tmod 50 + 100 * i := by
  unfold valC
  simp [h]
theorem valC_yes {big : Bool} {x : List Int} {i : Nat} {a : Int} (h : x[i]? = some a) (hb : big = true ∨ a.tmod 2 = 0) : valC big x i = if big then a else a.tmod 50 + 100 * i := by
  have hl := (List.getElem?_eq_some_iff.1 h).1
  have e : (if i < x.length ∧ (big = true ∨ (x[i]?.getD 0).tmod 2 = 0) then x[i]?.getD 0 else (i : Int)) = a := by
    rw [h]
    exact if_pos ⟨hl, hb⟩
  unfold valC
  simp only [e]
theorem valC_odd {x : List Int} {i : Nat} {a : Int} (h : x[i]? = some a) (hb : a.tmod 2 ≠ 0) : valC false x i = (i : Int).tmod 50 + 100 * i := by
  have e : (if i < x.length ∧ (false = true ∨ (x[i]?.getD 0).tmod 2 = 0) then x[i]?.getD 0 else (i : Int)) = (i : Int) := by
    rw [h]
    exact if_neg (fun q => by rcases q.2 with h | h; cases h; exact hb h)
  unfold valC
  simp only [e]
  rfl
end Go.Proofs.Ytimffpnfhkobkaa
