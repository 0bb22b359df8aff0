/- A region that draws its order: some operations that wait for nothing of one another, in whatever order. No program in sight. -/
import Derived.Test.YtmnfefebbadflaaHeldIx
namespace Go.Proofs.Ytmnfefebbadflaa
section
variable {P : Program} {md : Region.Mode} {ops : Array Oper} {Q : Exit → Act → World → Prop} {S : World → Prop}
def allB : Nat → List (List Bool)
  | 0 => [[]]
  | n + 1 => (allB n).flatMap fun l => [false :: l, true :: l]
theorem mem_allB : ∀ {n : Nat} {bs : List Bool}, bs.length = n → bs ∈ allB n
  | 0, [], _ => by simp [allB]
  | n + 1, b :: bs, h => by
    refine List.mem_flatMap.2 ⟨bs, mem_allB (by simpa using h), ?_⟩
    cases b <;> simp
def bagMk (T : List Nat) (base : Array Bool) (bs : List Bool) : Array Bool := (T.zip bs).foldl (fun l p => if p.2 then l.setIfInBounds p.1 true else l) base
def bagOK (md : Region.Mode) (ops : Array Oper) (T : List Nat) (base : Array Bool) : Bool :=
  (allB T.length).all fun bs => bs.all id || (Region.ready md ops (bagMk T base bs) == (T.zip bs).filterMap (fun p => if p.2 then none else some p.1)) &&
    (List.range T.length).all fun j => (bs.getD j true) || (bagMk T base bs).setIfInBounds (T.getD j 0) true == bagMk T base (bs.set j true)
theorem bag_unset {T : List Nat} {bs : List Bool} (h : T.length = bs.length) {i : Nat} (hi : i ∈ (T.zip bs).filterMap (fun p => if p.2 then none else some p.1)) : ∃ j, j < T.length ∧ T[j]? = some i ∧ bs[j]? = some false := by
  obtain ⟨p, hp, hpi⟩ := List.mem_filterMap.1 hi
  obtain ⟨j, hj, hje⟩ := List.mem_iff_getElem.1 hp
  rw [List.length_zip] at hj
  rw [List.getElem_zip] at hje
  subst hje
  simp only at hpi
  split at hpi
  · cases hpi
  · rename_i hb
    refine ⟨j, by omega, ?_, ?_⟩
    · rw [List.getElem?_eq_getElem (by omega)]; exact hpi
    · rw [List.getElem?_eq_getElem (by omega)]; simpa using hb
theorem count_set_lt {bs : List Bool} {j : Nat} (h : bs[j]? = some false) : (bs.set j true).count false + 1 = bs.count false := by
  obtain ⟨h1, h2⟩ := List.getElem?_eq_some_iff.1 h
  induction bs generalizing j with
  | nil => simp at h1
  | cons b bs ih =>
    cases j with
    | zero => simp at h2; subst h2; simp
    | succ j =>
      simp only [List.set_cons_succ, List.count_cons]
      have := ih (j := j) (by simpa using h) (by simpa using h1) (by simpa using h2)
      omega
theorem count_zero {bs : List Bool} (h : bs.all id = true) : bs.count false = 0 := by
  rw [List.count_eq_zero]
  intro hm
  have := List.all_eq_true.1 h false hm
  simp at this
theorem wpAnyH_bag (T : List Nat) (base : Array Bool) (hB : bagOK md ops T base = true) (J : List Bool → Act → World → Prop) (fuel : Nat)
    (hstep : ∀ (bs : List Bool) (j i : Nat) (a : Act) (w : World), bs.length = T.length → T[j]? = some i → bs[j]? = some false → J bs a w → wpOp P ops Q i (fun a' w' => S w' ∧ J (bs.set j true) a' w') a w)
    (hend : ∀ (bs : List Bool) (a : Act) (w : World), bs.length = T.length → bs.all id = true → J bs a w → wpAnyH P md ops Q S fuel (bagMk T base bs) a w) :
    ∀ (k : Nat) (bs : List Bool) (a : Act) (w : World), bs.length = T.length → bs.count false = k → J bs a w → wpAnyH P md ops Q S (k + fuel) (bagMk T base bs) a w := by
  intro k
  induction k with
  | zero =>
    intro bs a w hl hc hJ
    rw [Nat.zero_add]
    refine hend bs a w hl (List.all_eq_true.2 (fun b hb => ?_)) hJ
    cases b with
    | true => rfl
    | false => exact absurd hb (List.count_eq_zero.1 hc)
  | succ k ih =>
    intro bs a w hl hc hJ
    have h0 := List.all_eq_true.1 hB bs (mem_allB hl)
    have hna : bs.all id = false := by
      cases e : bs.all id with
      | false => rfl
      | true => have := count_zero e; omega
    rw [hna, Bool.false_or, Bool.and_eq_true, beq_iff_eq] at h0
    obtain ⟨hr, hs⟩ := h0
    rw [show k + 1 + fuel = (k + fuel) + 1 by omega]
    have key : ∀ i ∈ Region.ready md ops (bagMk T base bs), wpOp P ops Q i (fun a' w' => S w' ∧ wpAnyH P md ops Q S (k + fuel) ((bagMk T base bs).setIfInBounds i true) a' w') a w := fun i hi => by
      rw [hr] at hi
      obtain ⟨j, hj, h1, h2⟩ := bag_unset hl.symm hi
      have hset := List.all_eq_true.1 hs j (List.mem_range.2 hj)
      have e1 : bs.getD j true = false := by rw [List.getD_eq_getElem?_getD, h2]; rfl
      have e2 : T.getD j 0 = i := by rw [List.getD_eq_getElem?_getD, h1]; rfl
      rw [e1, e2, Bool.false_or, beq_iff_eq] at hset
      rw [hset]
      refine wpOp_mono (fun a' w' h => ⟨h.1, ih _ a' w' (by simpa using hl) (by have := count_set_lt h2; omega) h.2⟩) (hstep bs j i a w hl h1 h2 hJ)
    refine ⟨fun h => ?_, key⟩
    exfalso
    rw [hr] at h
    have : bs.count false ≠ 0 := by omega
    have hm : false ∈ bs := by
      apply Classical.byContradiction
      intro hm
      exact this (List.count_eq_zero.2 hm)
    obtain ⟨j, hj, hje⟩ := List.mem_iff_getElem.1 hm
    have hz : (T[j]'(by omega), false) ∈ T.zip bs := by
      rw [List.mem_iff_getElem]
      exact ⟨j, by rw [List.length_zip]; omega, by rw [List.getElem_zip, hje]⟩
    have : T[j]'(by omega) ∈ (T.zip bs).filterMap (fun p => if p.2 then none else some p.1) := List.mem_filterMap.2 ⟨_, hz, by simp⟩
    rw [h] at this
    cases this
end
end Go.Proofs.Ytmnfefebbadflaa
