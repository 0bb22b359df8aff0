/- What Add comes to, said of ways along arcs: plain laws, no walk. -/
import Derived.Test.YtmnfefebbadflaaRCount
namespace Go.Proofs.Ytmnfefebbadflaa
theorem more_bit (X : Nat → Nat → Nat) (v b : Nat) : (moreX X v (b / 64)).testBit (b % 64) = (hasX X v b || decide (b = v)) := by
  unfold moreX
  by_cases e : b / 64 = v / 64
  · rw [if_pos e, Nat.testBit_or, Nat.testBit_two_pow]
    have : (v % 64 = b % 64) ↔ b = v := by omega
    simp only [this]
    unfold hasX
    rw [e]
  · rw [if_neg e]
    have : ¬ b = v := fun h => e (by rw [h])
    simp [this, hasX]
theorem has_addJ_full (n : Nat) (X : Nat → Nat → Nat) (u v : Nat) {a : Nat} (ha : a < n) (b : Nat) :
    hasX (addJ X u v n 0) a b = (hasX X a b || (hitX X u a && (hasX X v b || decide (b = v)))) := by
  unfold hasX addJ
  by_cases h : hitX X u a = true
  · rw [if_pos ⟨Or.inl ha, h⟩, Nat.testBit_or, more_bit, h]
    simp [hasX]
  · rw [if_neg (fun h' => h h'.2)]
    simp [h]
/-- What is reached from what: as arcs lead. -/
inductive Way (L : List (Nat × Nat)) : Nat → Nat → Prop
  | arc {u v : Nat} : (u, v) ∈ L → Way L u v
  | trans {a b c : Nat} : Way L a b → Way L b c → Way L a c
theorem Way.mono {L M : List (Nat × Nat)} (h : ∀ p ∈ L, p ∈ M) {a b : Nat} (w : Way L a b) : Way M a b := by
  induction w with
  | arc h' => exact .arc (h _ h')
  | trans _ _ i j => exact .trans i j
structure Inv (n : Nat) (X : Nat → Nat → Nat) (L : List (Nat × Nat)) : Prop where
  iff : ∀ a b, a < n → (hasX X a b = true ↔ Way L a b)
  ok : ∀ p ∈ L, p.1 < n ∧ p.2 < n
theorem Way.ok {n : Nat} {L : List (Nat × Nat)} (h : ∀ p ∈ L, p.1 < n ∧ p.2 < n) {a b : Nat} (w : Way L a b) : a < n ∧ b < n := by
  induction w with
  | arc h' => exact h _ h'
  | trans _ _ i j => exact ⟨i.1, j.2⟩
theorem Inv.zero (n : Nat) : Inv n (fun _ _ => 0) [] := by
  refine ⟨fun a b _ => ⟨fun h => by simp [hasX] at h, fun h => ?_⟩, fun p h => by cases h⟩
  have : ∀ a b, Way [] a b → False := by
    intro a b w
    induction w with
    | arc h' => cases h'
    | trans _ _ i _ => exact i
  exact (this _ _ h).elim
theorem Inv.trans {n : Nat} {X : Nat → Nat → Nat} {L : List (Nat × Nat)} (I : Inv n X L) {a b c : Nat} (ha : a < n) (h1 : hasX X a b = true) (h2 : hasX X b c = true) : hasX X a c = true := by
  have w1 := (I.iff a b ha).1 h1
  have hb := (w1.ok I.ok).2
  exact (I.iff a c ha).2 (.trans w1 ((I.iff b c hb).1 h2))
/-- What Add makes of it. -/
theorem has_addX {n : Nat} {X : Nat → Nat → Nat} {L : List (Nat × Nat)} (I : Inv n X L) {u v : Nat} (hu : u < n) (hv : v < n) {a : Nat} (ha : a < n) (b : Nat) :
    hasX (addX n X u v) a b = (hasX X a b || ((a == u || hasX X a u) && (hasX X v b || decide (b = v)))) := by
  unfold addX
  by_cases h : hasX X u v = true
  · rw [if_pos h]
    by_cases h2 : ((a == u || hasX X a u) && (hasX X v b || decide (b = v))) = true
    · rw [h2, Bool.or_true]
      simp only [Bool.and_eq_true, Bool.or_eq_true, beq_iff_eq, decide_eq_true_eq] at h2
      have h3 : hasX X a v = true := by
        rcases h2.1 with rfl | h3
        · exact h
        · exact I.trans ha h3 h
      rcases h2.2 with h4 | rfl
      · exact I.trans ha h3 h4
      · exact h3
    · rw [Bool.not_eq_true] at h2
      rw [h2, Bool.or_false]
  · rw [if_neg h, has_addJ_full n X u v ha b]
    rfl
theorem Inv.add {n : Nat} {X : Nat → Nat → Nat} {L M : List (Nat × Nat)} (I : Inv n X L) {u v : Nat} (hu : u < n) (hv : v < n) (hM : ∀ p, p ∈ M ↔ p = (u, v) ∨ p ∈ L) : Inv n (addX n X u v) M := by
  have hok : ∀ p ∈ M, p.1 < n ∧ p.2 < n := fun p hp => by
    rcases (hM p).1 hp with rfl | hp
    · exact ⟨hu, hv⟩
    · exact I.ok p hp
  have key : ∀ a b, Way M a b → a < n → hasX (addX n X u v) a b = true := by
    intro a b w
    induction w with
    | @arc a b h' =>
      intro ha
      rw [has_addX I hu hv ha]
      rcases (hM _).1 h' with e | h'
      · cases e; simp
      · rw [(I.iff a b ha).2 (.arc h')]; rfl
    | @trans a b c w1 w2 i j =>
      intro ha
      have hb := (w1.ok hok).2
      have h1 := i ha
      have h2 := j hb
      rw [has_addX I hu hv ha] at h1
      rw [has_addX I hu hv hb] at h2
      rw [has_addX I hu hv ha]
      simp only [Bool.and_eq_true, Bool.or_eq_true, beq_iff_eq, decide_eq_true_eq] at *
      rcases h1 with h1 | ⟨h1, h1'⟩
      · rcases h2 with h2 | ⟨h2, h2'⟩
        · exact .inl (I.trans ha h1 h2)
        · refine .inr ⟨?_, h2'⟩
          rcases h2 with rfl | h2
          · exact .inr h1
          · exact .inr (I.trans ha h1 h2)
      · rcases h2 with h2 | ⟨h2, h2'⟩
        · refine .inr ⟨h1, ?_⟩
          rcases h1' with h1' | rfl
          · exact .inl (I.trans hv h1' h2)
          · exact .inl h2
        · exact .inr ⟨h1, h2'⟩
  refine ⟨fun a b ha => ⟨fun h => ?_, fun w => key a b w ha⟩, hok⟩
  rw [has_addX I hu hv ha] at h
  simp only [Bool.and_eq_true, Bool.or_eq_true, beq_iff_eq, decide_eq_true_eq] at h
  have up : ∀ {a b}, Way L a b → Way M a b := fun w => w.mono (fun p hp => (hM p).2 (.inr hp))
  rcases h with h | ⟨h1, h2⟩
  · exact up ((I.iff a b ha).1 h)
  · have m : Way M u v := .arc ((hM _).2 (.inl rfl))
    have m1 : Way M a v := by
      rcases h1 with rfl | h1
      · exact m
      · exact .trans (up ((I.iff a u ha).1 h1)) m
    rcases h2 with h2 | rfl
    · exact .trans m1 (up ((I.iff v b hv).1 h2))
    · exact m1
theorem Inv.congr {n : Nat} {X : Nat → Nat → Nat} {L M : List (Nat × Nat)} (I : Inv n X L) (hM : ∀ p, p ∈ M ↔ p ∈ L) : Inv n X M :=
  ⟨fun a b ha => (I.iff a b ha).trans ⟨fun w => w.mono (fun p h => (hM p).2 h), fun w => w.mono (fun p h => (hM p).1 h)⟩, fun p hp => I.ok p ((hM p).1 hp)⟩
theorem Inv.same {n : Nat} {X Y : Nat → Nat → Nat} {L : List (Nat × Nat)} (I : Inv n X L) (J : Inv n Y L) {a : Nat} (ha : a < n) (b : Nat) : hasX X a b = hasX Y a b := by
  rw [Bool.eq_iff_iff, I.iff a b ha, J.iff a b ha]
theorem word_eq {X Y : Nat → Nat → Nat} {i j : Nat} (hx : X i j < 2 ^ 64) (hy : Y i j < 2 ^ 64) (h : ∀ b, hasX X i b = hasX Y i b) : X i j = Y i j := by
  apply Nat.eq_of_testBit_eq
  intro k
  by_cases hk : k < 64
  · have := h (j * 64 + k)
    unfold hasX at this
    rw [show (j * 64 + k) / 64 = j by omega, show (j * 64 + k) % 64 = k by omega] at this
    exact this
  · rw [Nat.testBit_lt_two_pow (Nat.lt_of_lt_of_le hx (Nat.pow_le_pow_right (by omega) (by omega))), Nat.testBit_lt_two_pow (Nat.lt_of_lt_of_le hy (Nat.pow_le_pow_right (by omega) (by omega)))]
theorem rowC_congr {x y : Nat → Nat} : ∀ m, (∀ j, j < m → x j = y j) → rowC x m = rowC y m
  | 0, _ => rfl
  | m + 1, h => by simp only [rowC]; rw [rowC_congr m (fun j hj => h j (by omega)), h m (by omega)]
theorem cntC_congr {X Y : Nat → Nat → Nat} {m : Nat} : ∀ k, (∀ i, i < k → ∀ j, j < m → X i j = Y i j) → cntC X m k = cntC Y m k
  | 0, _ => rfl
  | k + 1, h => by simp only [cntC]; rw [cntC_congr k (fun i hi => h i (by omega)), rowC_congr m (h k (by omega))]
theorem cnt_same {n m : Nat} {X Y : Nat → Nat → Nat} {L : List (Nat × Nat)} (I : Inv n X L) (J : Inv n Y L) (bx : Bnd n m X) (bY : Bnd n m Y) : cntC X m n = cntC Y m n :=
  cntC_congr n (fun i hi j hj => word_eq (bx i hi j hj) (bY i hi j hj) (fun b => I.same J hi b))
end Go.Proofs.Ytmnfefebbadflaa
