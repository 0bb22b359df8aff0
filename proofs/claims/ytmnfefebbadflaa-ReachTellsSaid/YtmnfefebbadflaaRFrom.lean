/- Bits counted tell words apart; marks that spread till nothing changes are the ways: plain laws, no walk. -/
import Derived.Test.YtmnfefebbadflaaRLaw
namespace Go.Proofs.Ytmnfefebbadflaa
theorem popN_sub : ∀ (n x y : Nat), (∀ k, k < n → x.testBit k = true → y.testBit k = true) → popN n x ≤ popN n y ∧ (popN n x = popN n y → ∀ k, k < n → x.testBit k = y.testBit k)
  | 0, _, _, _ => ⟨Nat.le_refl _, fun _ k hk => absurd hk (by omega)⟩
  | n + 1, x, y, h => by
    obtain ⟨h1, h2⟩ := popN_sub n (x / 2) (y / 2) (fun k hk hx => by
      have := h (k + 1) (by omega)
      rw [Nat.testBit_succ, Nat.testBit_succ] at this
      exact this hx)
    have h0 := h 0 (by omega)
    rw [Nat.testBit_zero, Nat.testBit_zero] at h0
    simp only [decide_eq_true_eq] at h0
    simp only [popN]
    refine ⟨by omega, fun e k hk => ?_⟩
    cases k with
    | zero => rw [Nat.testBit_zero, Nat.testBit_zero]; rw [Bool.eq_iff_iff]; simp only [decide_eq_true_eq]; omega
    | succ k => rw [Nat.testBit_succ, Nat.testBit_succ]; exact h2 (by omega) k (by omega)
theorem rowC_sub {x y : Nat → Nat} : ∀ m, (∀ j, j < m → ∀ k, (x j).testBit k = true → (y j).testBit k = true) → rowC x m ≤ rowC y m ∧ (rowC x m = rowC y m → ∀ j, j < m → ∀ k, k < 64 → (x j).testBit k = (y j).testBit k)
  | 0, _ => ⟨Nat.le_refl _, fun _ j hj => absurd hj (by omega)⟩
  | m + 1, h => by
    obtain ⟨h1, h2⟩ := rowC_sub m (fun j hj => h j (by omega))
    obtain ⟨h3, h4⟩ := popN_sub 64 (x m) (y m) (fun k _ => h m (by omega) k)
    simp only [rowC]
    refine ⟨by omega, fun e j hj k hk => ?_⟩
    by_cases hjm : j = m
    · subst hjm; exact h4 (by omega) k hk
    · exact h2 (by omega) j (by omega) k hk
theorem cntC_sub {X Y : Nat → Nat → Nat} {m : Nat} : ∀ n, (∀ i, i < n → ∀ j, j < m → ∀ k, (X i j).testBit k = true → (Y i j).testBit k = true) → cntC X m n ≤ cntC Y m n ∧ (cntC X m n = cntC Y m n → ∀ i, i < n → ∀ j, j < m → ∀ k, k < 64 → (X i j).testBit k = (Y i j).testBit k)
  | 0, _ => ⟨Nat.le_refl _, fun _ j hj => absurd hj (by omega)⟩
  | n + 1, h => by
    obtain ⟨h1, h2⟩ := cntC_sub n (fun j hj => h j (by omega))
    obtain ⟨h3, h4⟩ := rowC_sub m (h n (by omega))
    simp only [cntC]
    refine ⟨by omega, fun e i hi => ?_⟩
    by_cases hin : i = n
    · subst hin; exact h4 (by omega)
    · exact h2 (by omega) i (by omega)
/-- An arc more, between what isn't reached: there is more. -/
theorem cnt_more {n m : Nat} {X : Nat → Nat → Nat} {L : List (Nat × Nat)} (I : Inv n X L) (hm : n ≤ m * 64) {u v : Nat} (hu : u < n) (hv : v < n) : (cntC (addX n X u v) m n = cntC X m n) ↔ hasX X u v = true := by
  constructor
  · intro e
    obtain ⟨_, h⟩ := cntC_sub (X := X) (Y := addX n X u v) (m := m) n (fun i hi j _ k hk => by
      have h1 := has_addX I hu hv hi (j * 64 + k)
      have h2 := more_bit X v (j * 64 + k)
      unfold addX
      split
      · exact hk
      · unfold addJ
        split
        · rw [Nat.testBit_or, hk]; rfl
        · exact hk)
    have h1 := h e.symm u hu (v / 64) (by omega) (v % 64) (by omega)
    have h2 := has_addX I hu hv hu v
    unfold hasX at h2 ⊢
    rw [h1, h2]
    simp
  · intro h
    unfold addX
    rw [if_pos h]
/-- One arc in a round of marks. -/
def stepM (u : Nat) (met : Nat → Bool) (p : Nat × Nat) : Nat → Bool := if (p.1 == u || met p.1) = true then fun v => v == p.2 || met v else met
def roundM (u : Nat) (met : Nat → Bool) (L : List (Nat × Nat)) : Nat → Bool := L.foldl (stepM u) met
def fromM (L : List (Nat × Nat)) (u : Nat) : Nat → Nat → Bool
  | 0 => fun _ => false
  | k + 1 => roundM u (fromM L u k) L
theorem stepM_up {u : Nat} {met : Nat → Bool} {p : Nat × Nat} {v : Nat} (h : met v = true) : stepM u met p v = true := by
  unfold stepM; split
  · simp [h]
  · exact h
theorem roundM_up {u : Nat} {v : Nat} : ∀ (L : List (Nat × Nat)) (met : Nat → Bool), met v = true → roundM u met L v = true
  | [], _, h => h
  | p :: L, met, h => roundM_up L (stepM u met p) (stepM_up h)
theorem closed_of_fix {u : Nat} : ∀ (L : List (Nat × Nat)) (met : Nat → Bool), (∀ v, roundM u met L v = true → met v = true) → ∀ p ∈ L, (p.1 = u ∨ met p.1 = true) → met p.2 = true
  | [], _, _, p, hp, _ => by cases hp
  | q :: L, met, h, p, hp, hc => by
    have e : stepM u met q = met := by
      funext v
      rw [Bool.eq_iff_iff]
      exact ⟨fun hv => h v (roundM_up L _ hv), stepM_up⟩
    have h' : ∀ v, roundM u met L v = true → met v = true := fun v hv => h v (by show roundM u (stepM u met q) L v = true; rw [e]; exact hv)
    rcases List.mem_cons.1 hp with rfl | hp
    · have : stepM u met p p.2 = true := by
        unfold stepM
        rw [if_pos (by simpa using hc)]
        simp
      rw [e] at this
      exact this
    · exact closed_of_fix L met h' p hp hc
def cntM (met : Nat → Bool) : Nat → Nat
  | 0 => 0
  | k + 1 => cntM met k + if met k = true then 1 else 0
theorem cntM_le (met : Nat → Bool) : ∀ n, cntM met n ≤ n
  | 0 => Nat.le_refl _
  | n + 1 => by have := cntM_le met n; simp only [cntM]; split <;> omega
theorem cntM_sub {a b : Nat → Bool} (h : ∀ v, a v = true → b v = true) : ∀ n, cntM a n ≤ cntM b n ∧ (∀ v, v < n → a v = false → b v = true → cntM a n < cntM b n)
  | 0 => ⟨Nat.le_refl _, fun v hv => absurd hv (by omega)⟩
  | n + 1 => by
    obtain ⟨h1, h2⟩ := cntM_sub h n
    have hn := h n
    simp only [cntM]
    refine ⟨?_, fun v hv ha hb => ?_⟩
    · split <;> split <;> simp_all <;> omega
    · by_cases e : v = n
      · subst e; rw [if_neg (by rw [ha]; simp), if_pos hb]; omega
      · have := h2 v (by omega) ha hb
        split <;> split <;> simp_all <;> omega
theorem roundM_in {n u : Nat} {v : Nat} : ∀ (L : List (Nat × Nat)) (met : Nat → Bool), (∀ p ∈ L, p.1 < n ∧ p.2 < n) → (∀ v, met v = true → v < n) → roundM u met L v = true → v < n
  | [], _, _, hm, h => hm _ h
  | p :: L, met, hL, hm, h => by
    refine roundM_in L (stepM u met p) (fun q hq => hL q (by simp [hq])) (fun v hv => ?_) h
    unfold stepM at hv
    split at hv
    · simp only [Bool.or_eq_true, beq_iff_eq] at hv
      rcases hv with rfl | hv
      · exact (hL p (by simp)).2
      · exact hm v hv
    · exact hm v hv
theorem fromM_in {n u : Nat} {L : List (Nat × Nat)} (hL : ∀ p ∈ L, p.1 < n ∧ p.2 < n) : ∀ k v, fromM L u k v = true → v < n
  | 0, v, h => by simp [fromM] at h
  | k + 1, v, h => roundM_in L _ hL (fromM_in hL k) h
theorem fromM_grows {n u : Nat} {L : List (Nat × Nat)} (hL : ∀ p ∈ L, p.1 < n ∧ p.2 < n) : ∀ k, (∀ v, roundM u (fromM L u k) L v = true → fromM L u k v = true) ∨ k ≤ cntM (fromM L u k) n
  | 0 => .inr (Nat.zero_le _)
  | k + 1 => by
    rcases fromM_grows hL k with h | h
    · have e : fromM L u (k + 1) = fromM L u k := by
        funext v
        rw [Bool.eq_iff_iff]
        exact ⟨h v, roundM_up L _⟩
      rw [e]
      exact .inl h
    · by_cases hc : ∀ v, fromM L u (k + 1) v = true → fromM L u k v = true
      · have e : fromM L u (k + 1) = fromM L u k := by
          funext v
          rw [Bool.eq_iff_iff]
          exact ⟨hc v, roundM_up L _⟩
        rw [e]
        exact .inl hc
      · obtain ⟨v, hv⟩ := Classical.not_forall.1 hc
        obtain ⟨h1, h2⟩ := Classical.not_imp.1 hv
        have h3 := (cntM_sub (a := fromM L u k) (b := fromM L u (k + 1)) (fun v => roundM_up L _) n).2 v (fromM_in hL _ v h1) (by simpa using h2) h1
        exact .inr (by omega)
theorem roundM_sound {u : Nat} {M : List (Nat × Nat)} : ∀ (L : List (Nat × Nat)) (met : Nat → Bool), (∀ p ∈ L, p ∈ M) → (∀ v, met v = true → Way M u v) → ∀ v, roundM u met L v = true → Way M u v
  | [], _, _, hm, v, h => hm v h
  | p :: L, met, hL, hm, v, h => by
    refine roundM_sound L (stepM u met p) (fun q hq => hL q (by simp [hq])) (fun v hv => ?_) v h
    unfold stepM at hv
    split at hv
    · rename_i hc
      simp only [Bool.or_eq_true, beq_iff_eq] at hv hc
      have hp : Way M p.1 p.2 := .arc (hL p (by simp))
      rcases hv with rfl | hv
      · rcases hc with hc | hc
        · rw [hc] at hp; exact hp
        · exact .trans (hm _ hc) hp
      · exact hm v hv
    · exact hm v hv
theorem fromM_sound {L : List (Nat × Nat)} (u : Nat) : ∀ k v, fromM L u k v = true → Way L u v
  | 0, v, h => by simp [fromM] at h
  | k + 1, v, h => roundM_sound L _ (fun _ h => h) (fromM_sound u k) v h
theorem fromM_way {n : Nat} {L : List (Nat × Nat)} (hL : ∀ p ∈ L, p.1 < n ∧ p.2 < n) (u v : Nat) : fromM L u (n + 1) v = true ↔ Way L u v := by
  refine ⟨fromM_sound u (n + 1) v, fun w => ?_⟩
  have hfix : ∀ v, roundM u (fromM L u (n + 1)) L v = true → fromM L u (n + 1) v = true := by
    rcases fromM_grows (u := u) hL (n + 1) with h | h
    · exact h
    · have := cntM_le (fromM L u (n + 1)) n; omega
  have hcl := closed_of_fix L _ hfix
  have key : ∀ a b, Way L a b → (a = u ∨ fromM L u (n + 1) a = true) → fromM L u (n + 1) b = true := by
    intro a b w
    induction w with
    | arc h => exact fun hc => hcl _ h hc
    | trans _ _ i j => exact fun hc => j (.inr (i hc))
  exact key u v w (.inl rfl)
end Go.Proofs.Ytmnfefebbadflaa
