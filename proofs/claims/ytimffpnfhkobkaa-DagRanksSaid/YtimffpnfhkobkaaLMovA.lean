/- What Cost tells of coordinates moved, turned, stretched. No program in sight. -/
import Derived.Test.YtimffpnfhkobkaaLCostB
namespace Go.Proofs.Ytimffpnfhkobkaa
/-- Coordinates near 's' times each node's number. -/
def valG (s m : Int) (x : List Int) (i : Nat) : Int := s * i + (x[i]?.getD 0).tmod m
def valsG (s m : Int) (x : List Int) (n : Nat) : List Int := (List.range n).map (valG s m x)
theorem valsG_length (s m : Int) (x : List Int) (n : Nat) : (valsG s m x n).length = n := by simp [valsG]
theorem valsG_succ (s m : Int) (x : List Int) (n : Nat) : valsG s m x (n + 1) = valsG s m x n ++ [valG s m x n] := by simp [valsG, List.range_succ]
theorem valG_yes {s m : Int} {x : List Int} {i : Nat} {a : Int} (h : x[i]? = some a) : valG s m x i = s * i + a.tmod m := by unfold valG; rw [h]; rfl
theorem valG_no {s m : Int} {x : List Int} {i : Nat} (h : ¬ i < x.length) : valG s m x i = s * i := by unfold valG; rw [List.getElem?_eq_none (by omega)]; simp
theorem tmod_bounds (a m : Int) (h : 0 < m) : -m < a.tmod m ∧ a.tmod m < m := by
  rcases Int.le_total 0 a with h0 | h0
  · rw [Int.tmod_eq_emod_of_nonneg h0]
    have := Int.emod_nonneg a (show m ≠ 0 by omega)
    have := Int.emod_lt_of_pos a h
    omega
  · have e : a.tmod m = -((-a).tmod m) := by rw [Int.neg_tmod]; omega
    rw [e, Int.tmod_eq_emod_of_nonneg (by omega)]
    have := Int.emod_nonneg (-a) (show m ≠ 0 by omega)
    have := Int.emod_lt_of_pos (-a) h
    omega
theorem at_map (f : Int → Int) {l : List Int} {i : Nat} (h : i < l.length) : at_ (l.map f) (i : Int) = f (at_ l (i : Int)) := by
  unfold at_
  simp [h]
/-- All arcs turned. -/
def backL (L : List Arc) : List Arc := L.map fun a => (a.2.1, a.1, a.2.2)
theorem backL_snoc (L : List Arc) (a : Arc) : backL (L ++ [a]) = backL L ++ [(a.2.1, a.1, a.2.2)] := by simp [backL]
theorem backL_right {n : Int} {L : List Arc} (h : rightB n L = true) : rightB n (backL L) = true := by
  simp only [rightB, Bool.and_eq_true, decide_eq_true_eq, Bool.not_eq_true', List.any_eq_false] at *
  refine ⟨⟨h.1.1, by simpa [backL] using h.1.2⟩, ?_⟩
  intro a ha
  obtain ⟨b, hb, rfl⟩ := List.mem_map.1 ha
  have := h.2 b hb
  simp only [badA, Bool.or_eq_true, decide_eq_true_eq, not_or] at *
  omega
theorem backL_dag {n : Nat} {L : List Arc} (h : rightB n L = true) (hd : ∀ a ∈ L, a.1.toNat < a.2.1.toNat) : ordE n (backL L) = 0 := by
  refine ordE_dag (backL_right h) (fun v => n - v) ?_
  intro a ha
  obtain ⟨b, hb, rfl⟩ := List.mem_map.1 ha
  have h1 := hd b hb
  simp only [rightB, Bool.and_eq_true, decide_eq_true_eq, Bool.not_eq_true', List.any_eq_false] at h
  have h2 := h.2 b hb
  simp only [badA, Bool.or_eq_true, decide_eq_true_eq, not_or] at h2
  simp only
  omega
theorem makeL_up (N most : Nat) (T : List Tri) : ∀ a ∈ makeL N most T, a.1.toNat < a.2.1.toNat := by
  intro a ha
  obtain ⟨f, t, x, rfl, h1, h2, h3⟩ := mkL_mem (by unfold mkN; omega) ha
  simpa using h1
theorem makeL_back (N most : Nat) (hm : 0 < most) (hm2 : most ≤ 1000) (T : List Tri) : ordE (mkN N most : Nat) (backL (makeL N most T)) = 0 :=
  backL_dag (makeL_right N most hm hm2 T) (makeL_up N most T)
theorem fit_map {L : List Arc} {l : List Int} (f : Int → Int) (hf : ∀ a b, f a < f b ↔ a < b) (hin : InX L l.length) : L.all (fitA (l.map f)) = L.all (fitA l) := by
  rw [Bool.eq_iff_iff, List.all_eq_true, List.all_eq_true]
  have e : ∀ a ∈ L, fitA (l.map f) a = fitA l a := by
    intro a ha
    obtain ⟨x, y, h1, h2, h3, h4⟩ := hin a ha
    unfold fitA
    rw [h1, h2, at_map f h3, at_map f h4]
    simp [hf]
  constructor
  · intro h a ha; rw [← e a ha]; exact h a ha
  · intro h a ha; rw [e a ha]; exact h a ha
theorem fit_back {L : List Arc} {l : List Int} (hin : InX L l.length) : (backL L).all (fitA (l.map fun v => -v)) = L.all (fitA l) := by
  rw [Bool.eq_iff_iff, List.all_eq_true, List.all_eq_true]
  have e : ∀ a ∈ L, fitA (l.map fun v => -v) (a.2.1, a.1, a.2.2) = fitA l a := by
    intro a ha
    obtain ⟨x, y, h1, h2, h3, h4⟩ := hin a ha
    unfold fitA
    simp only
    rw [h1, h2, at_map _ h3, at_map _ h4]
    rw [decide_eq_decide]
    omega
  constructor
  · intro h a ha; rw [← e a ha]; exact h _ (List.mem_map.2 ⟨a, ha, rfl⟩)
  · intro h a ha
    obtain ⟨b, hb, rfl⟩ := List.mem_map.1 ha
    rw [e b hb]; exact h b hb
theorem InX.tail {a : Arc} {L : List Arc} {m : Nat} (h : InX (a :: L) m) : InX L m := fun b hb => h b (List.mem_cons_of_mem _ hb)
theorem cost_map (k by_ : Int) {l : List Int} : ∀ {L : List Arc}, InX L l.length → costL (l.map fun v => k * v + by_) L = k * costL l L := by
  intro L
  induction L with
  | nil => intro _; simp [costL]
  | cons a L ih =>
    intro hin
    obtain ⟨x, y, h1, h2, h3, h4⟩ := hin a (by simp)
    simp only [costL]
    rw [ih hin.tail, h1, h2, at_map _ h3, at_map _ h4, Int.mul_add]
    generalize at_ l (x : Int) = X
    generalize at_ l (y : Int) = Y
    have e : k * Y + by_ - (k * X + by_) = k * (Y - X) := by rw [Int.mul_sub]; omega
    rw [e, ← Int.mul_assoc, Int.mul_comm a.2.2 k, Int.mul_assoc]
theorem cost_back {l : List Int} : ∀ {L : List Arc}, InX L l.length → costL (l.map fun v => -v) (backL L) = costL l L := by
  intro L
  induction L with
  | nil => intro _; rfl
  | cons a L ih =>
    intro hin
    obtain ⟨x, y, h1, h2, h3, h4⟩ := hin a (by simp)
    have := ih hin.tail
    simp only [backL, List.map_cons, costL] at *
    rw [this, h1, h2, at_map _ h3, at_map _ h4]
    congr 2
    omega
theorem any_map_far {l : List Int} (f : Int → Int) (h : ∀ v ∈ l, -1000000 ≤ f v ∧ f v ≤ 1000000) : (l.map f).any farB = false := by
  rw [List.any_eq_false]
  intro v hv
  obtain ⟨u, hu, rfl⟩ := List.mem_map.1 hv
  have := h u hu
  simp [farB]
  omega
theorem valsG_bd {s m : Int} (hs : 0 ≤ s) (hs2 : s ≤ 100) (hm : 0 < m) (hm2 : m ≤ 1000) (x : List Int) {n : Nat} (hn : n ≤ 100) : ∀ v ∈ valsG s m x n, -1000 ≤ v ∧ v ≤ 11000 := by
  intro v hv
  obtain ⟨i, hi, rfl⟩ := List.mem_map.1 hv
  have hi' := List.mem_range.1 hi
  unfold valG
  have := tmod_bounds (x[i]?.getD 0) m hm
  have h1 : 0 ≤ s * (i : Int) := Int.mul_nonneg hs (by omega)
  have h2 : s * (i : Int) ≤ 100 * 100 := Int.mul_le_mul hs2 (by omega) (by omega) (by omega)
  omega
/-- Moved, turned, stretched: what Cost tells of each. -/
theorem moved_law {n : Nat} {L : List Arc} {l : List Int} {b : Int} (h0 : ordE n L = 0) (h1 : ordE n (backL L) = 0) (hl : l.length = n) (hin : InX L n) (hb : ∀ v ∈ l, -1000 ≤ v ∧ v ≤ 11000) (b0 : -32768 ≤ b) (b1 : b ≤ 32767) :
    costE n L (l.map fun v => v + b) = costE n L l ∧ costE n (backL L) (l.map fun v => -v) = costE n L l ∧ costE n L (l.map fun v => 3 * v) = costE n L l ∧
    costV n L (l.map fun v => v + b) = costV n L l ∧ costV n (backL L) (l.map fun v => -v) = costV n L l ∧ costV n L (l.map fun v => 3 * v) = 3 * costV n L l := by
  rw [← hl] at hin
  have e0 := costE_fit (xs := l) h0 (by omega) (by
    have := any_map_far (l := l) id (fun v hv => by have := hb v hv; simp only [id]; omega)
    rwa [List.map_id] at this)
  have e1 := costE_fit (xs := l.map fun v => v + b) h0 (by simp; omega) (any_map_far _ (fun v hv => by have := hb v hv; omega))
  have e2 := costE_fit (xs := l.map fun v => -v) h1 (by simp; omega) (any_map_far _ (fun v hv => by have := hb v hv; omega))
  have e3 := costE_fit (xs := l.map fun v => 3 * v) h0 (by simp; omega) (any_map_far _ (fun v hv => by have := hb v hv; omega))
  rw [fit_map _ (fun a b => by omega) hin] at e1
  rw [fit_back hin] at e2
  rw [fit_map _ (fun a b => by omega) hin] at e3
  have g1 := e1.trans e0.symm
  have g2 := e2.trans e0.symm
  have g3 := e3.trans e0.symm
  refine ⟨g1, g2, g3, ?_, ?_, ?_⟩
  · unfold costV
    rw [g1]
    have := cost_map 1 b hin
    simp only [Int.one_mul] at this
    rw [this]
  · unfold costV
    rw [g2, cost_back hin]
  · unfold costV
    rw [g3]
    have := cost_map 3 0 hin
    simp only [Int.add_zero] at this
    rw [this]
    split <;> omega
theorem moved_bd {n : Int} {L : List Arc} {l : List Int} (hn : L.length ≤ 40) (hw : ∀ a ∈ L, 0 ≤ a.2.2 ∧ a.2.2 ≤ 7) (hin : InX L l.length) (hb : ∀ v ∈ l, -1000 ≤ v ∧ v ≤ 11000) : -100000000 ≤ costV n L l ∧ costV n L l ≤ 100000000 := by
  have key : ∀ L : List Arc, (∀ a ∈ L, 0 ≤ a.2.2 ∧ a.2.2 ≤ 7) → InX L l.length → -(L.length * 84000 : Int) ≤ costL l L ∧ costL l L ≤ L.length * 84000 := by
    intro L
    induction L with
    | nil => intro _ _; simp [costL]
    | cons a L ih =>
      intro hw hin
      obtain ⟨i1, i2⟩ := ih (fun b hb => hw b (List.mem_cons_of_mem _ hb)) hin.tail
      obtain ⟨x, y, h1, h2, h3, h4⟩ := hin a (by simp)
      have hx : ∀ {i : Nat}, i < l.length → -1000 ≤ at_ l (i : Int) ∧ at_ l (i : Int) ≤ 11000 := by
        intro i hi
        unfold at_
        simp only [Int.toNat_natCast, List.getElem?_eq_getElem hi, Option.getD_some]
        exact hb _ (List.getElem_mem hi)
      have b1 := hx h3
      have b2 := hx h4
      simp only [costL, List.length_cons]
      rw [h1, h2]
      obtain ⟨w0, w1⟩ := hw a (by simp)
      have d0 : a.2.2 * (at_ l (y : Int) - at_ l (x : Int)) ≤ 84000 ∧ -84000 ≤ a.2.2 * (at_ l (y : Int) - at_ l (x : Int)) := by
        have c1 : a.2.2 * (at_ l (y : Int) - at_ l (x : Int)) ≤ 7 * 12000 := Int.le_trans (Int.mul_le_mul_of_nonneg_left (show at_ l (y : Int) - at_ l (x : Int) ≤ 12000 by omega) w0) (Int.mul_le_mul_of_nonneg_right w1 (by omega))
        have c2 : a.2.2 * (-(at_ l (y : Int) - at_ l (x : Int))) ≤ 7 * 12000 := Int.le_trans (Int.mul_le_mul_of_nonneg_left (show -(at_ l (y : Int) - at_ l (x : Int)) ≤ 12000 by omega) w0) (Int.mul_le_mul_of_nonneg_right w1 (by omega))
        rw [Int.mul_neg] at c2
        omega
      omega
  obtain ⟨k1, k2⟩ := key L hw hin
  unfold costV
  split <;> omega
/-- A list less its first. -/
theorem Ints.drop1 {w : World} {g k c : Nat} {l : List Int} (h : Ints w (.slice (some ⟨g, 0, none⟩) k c) l) (hk : 1 ≤ k) : Ints w (.slice (some ⟨g, 1, none⟩) (k - 1) (c - 1)) l.tail ∧ (c = 1 → Ints w (.slice (some ⟨g, 0, none⟩) (k - 1) 0) l.tail) := by
  obtain ⟨A, cap, e, h1, h2, h3⟩ := id h
  cases e
  cases l with
  | nil => simp at hk
  | cons x xs =>
    refine ⟨Ints.tail h, fun hc => ?_⟩
    have hx : xs = [] := by
      cases xs with
      | nil => rfl
      | cons y ys => simp only [List.length_cons] at h1; omega
    subst hx
    exact ⟨_, 0, rfl, by simp, (fun h => by cases h), fun hl => by simp at hl⟩
end Go.Proofs.Ytimffpnfhkobkaa
