/- A graph whose arcs lead upwards, by any measure, is a dag: its order has all its nodes. -/
import Derived.Test.YtjgloineooadoaaGreatDoorMgZ10
import Derived.Test.YtjgloineooadoaaGreatDoorMgZ11
import Derived.Test.YtjgloineooadoaaGreatDoorMgZ9
import Derived.Test.YtjgloineooadoaaGreatDoorMgZ8
import Derived.Test.YtjgloineooadoaaGreatDoorMgZ6
import Derived.StillTailTactics
namespace Go.Proofs.YtjgloineooadoaaGreatDoor
theorem exists_min (r : Nat → Nat) (P : Nat → Prop) : ∀ k v, r v ≤ k → P v → ∃ v, P v ∧ ∀ u, P u → r v ≤ r u := by
  intro k
  induction k with
  | zero => exact fun v hv hp => ⟨v, hp, fun u _ => by omega⟩
  | succ k ih =>
    intro v hv hp
    by_cases h : ∃ u, P u ∧ r u < r v
    · obtain ⟨u, hu, hlt⟩ := h
      exact ih u (by omega) hu
    · exact ⟨v, hp, fun u hu => by
        apply Classical.byContradiction
        intro hc
        exact h ⟨u, hu, by omega⟩⟩
theorem nodup_sub : ∀ (a b : List Nat), a.Nodup → (∀ x ∈ a, x ∈ b) → a.length ≤ b.length := by
  intro a
  induction a with
  | nil => intro b _ _; simp
  | cons x a ih =>
    intro b hn hs
    obtain ⟨hx, hn⟩ := List.nodup_cons.1 hn
    have hb : x ∈ b := hs x (by simp)
    have := ih (b.erase x) hn (fun y hy => (List.mem_erase_of_ne (by rintro rfl; exact hx hy)).2 (hs y (by simp [hy])))
    have h2 := List.length_erase_of_mem hb
    have h3 : 0 < b.length := List.length_pos_of_mem hb
    simp only [List.length_cons]
    omega
theorem gr_full {G : Gr} {n : Nat} (r : Nat → Nat) (hr : ∀ a ∈ G, r a.1 < r a.2) (hi : ∀ a ∈ G, a.1 < n) : ∀ k l, Tk G n l → n - l.length ≤ k → (gr G n k l).length = n := by
  intro k
  induction k with
  | zero => exact fun l h hk => by have := h.len; simp only [gr]; omega
  | succ k ih =>
    intro l h hk
    have hlen := h.len
    cases hx : nextN G n l with
    | some w =>
      have e : gr G n (k + 1) l = gr G n k (l ++ [w]) := by simp only [gr, hx]
      rw [e]
      unfold nextN at hx
      have h1 := List.find?_some hx
      have h2 : w < n := by simpa using List.mem_of_find?_eq_some hx
      exact ih _ (h.add h2 h1) (by simp; omega)
    | none =>
      have e : gr G n (k + 1) l = l := by simp only [gr, hx]
      rw [e]
      by_cases hl : l.length < n
      · exfalso
        obtain ⟨v, hv, hvl⟩ : ∃ v, v < n ∧ v ∉ l := by
          apply Classical.byContradiction
          intro hc
          have := nodup_sub (List.range n) l List.nodup_range (fun x hx => by
            apply Classical.byContradiction
            intro h2
            exact hc ⟨x, by simpa using hx, h2⟩)
          simp at this
          omega
        obtain ⟨v, ⟨hv, hvl⟩, hmin⟩ := exists_min r (fun v => v < n ∧ v ∉ l) (r v) v (Nat.le_refl _) ⟨hv, hvl⟩
        have hz : cnt G l v = 0 := List.countP_eq_zero.2 (fun a ha hc => by
          simp only [Bool.and_eq_true, beq_iff_eq, Bool.not_eq_true', List.contains_eq_mem, decide_eq_false_iff_not] at hc
          have h1 := hmin a.1 ⟨hi a ha, hc.2⟩
          have h2 := hr a ha
          rw [hc.1] at h2
          omega)
        unfold nextN at hx
        have := List.find?_eq_none.1 hx v (by simpa using hv)
        simp [rdy, hvl, hz] at this
      · omega
theorem ord_full {G : Gr} {n : Nat} (r : Nat → Nat) (hr : ∀ a ∈ G, r a.1 < r a.2) (hi : ∀ a ∈ G, a.1 < n) : (ordL G n).length = n := gr_full r hr hi n [] (Tk.nil _ _) (by simp)
theorem ordE_dag {n : Int} {L : List Arc} (hR : rightB n L = true) (r : Nat → Nat) (hr : ∀ a ∈ L, r a.1.toNat < r a.2.1.toNat) : ordE n L = 0 := by
  unfold ordE
  rw [if_pos hR, if_neg]
  obtain ⟨m, rfl, hm, hl, hG⟩ := right_gr hR
  rw [ord_full r]
  · omega
  · intro a ha
    unfold gOf at ha
    obtain ⟨b, hb, rfl⟩ := List.mem_map.1 ha
    exact hr b hb
  · intro a ha
    obtain ⟨i, hi⟩ := List.getElem?_of_mem ha
    unfold gOf at hi
    rw [List.getElem?_map] at hi
    cases hb : L[i]? with
    | none => rw [hb] at hi; cases hi
    | some b =>
      rw [hb] at hi
      obtain ⟨f, t, x, rfl, hf, ht, _⟩ := hG i b hb
      simp at hi
      subst hi
      simpa using hf
def manyL (c : Nat) : List Arc := List.replicate c (0, 1, 0)
theorem many_law (k c : Nat) : ordE k (manyL c) = if 4096 < k ∨ 16384 < c ∨ (k < 2 ∧ 0 < c) then 2 else 0 := by
  by_cases h : 4096 < k ∨ 16384 < c ∨ (k < 2 ∧ 0 < c)
  · rw [if_pos h]
    unfold ordE
    rw [if_neg]
    intro hR
    obtain ⟨m, hm0, hm, hl, hG⟩ := right_gr hR
    have hkm : k = m := by omega
    subst hkm
    simp only [manyL, List.length_replicate] at hl
    rcases h with h | h | ⟨h1, h2⟩
    · omega
    · omega
    · obtain ⟨f, t, x, e, hf, ht, _⟩ := hG 0 (0, 1, 0) (by simp [manyL, h2])
      simp only [Prod.mk.injEq] at e
      omega
  · rw [if_neg h]
    refine ordE_dag ?_ id ?_
    · have hb : (manyL c).any (badA k) = false := by
        rw [List.any_eq_false]
        intro a ha
        obtain ⟨hc, rfl⟩ := List.mem_replicate.1 ha
        simp [badA]
        omega
      unfold rightB
      rw [hb]
      simp [manyL]
      omega
    · intro a ha
      obtain ⟨hc, rfl⟩ := List.mem_replicate.1 ha
      decide
end Go.Proofs.YtjgloineooadoaaGreatDoor
/- The graph that plain data make is a dag. -/
namespace Go.Proofs.YtjgloineooadoaaGreatDoor
theorem mkL_mem {n : Nat} {T : List Tri} {a : Arc} (hn : 0 < n) (h : a ∈ mkL n T) : ∃ f t x : Nat, a = ((f : Int), (t : Int), (x : Int)) ∧ f < t ∧ t < n ∧ x < 8 := by
  unfold mkL at h
  obtain ⟨t, _, ha⟩ := List.mem_flatMap.1 h
  unfold mkA at ha
  split at ha
  · cases ha
  · rename_i hne
    have := List.mem_singleton.1 ha
    subst this
    have h1 := Nat.mod_lt t.1 hn
    have h2 := Nat.mod_lt t.2.1 hn
    exact ⟨_, _, _, rfl, by omega, by omega, Nat.mod_lt _ (by omega)⟩
theorem makeL_right (N most : Nat) (hm : 0 < most) (hm2 : most ≤ 1000) (T : List Tri) : rightB (mkN N most : Nat) (makeL N most T) = true := by
  have hN : N % most < most := Nat.mod_lt _ hm
  have hb : (makeL N most T).any (badA (mkN N most : Nat)) = false := by
    rw [List.any_eq_false]
    intro a ha
    obtain ⟨f, t, x, rfl, h1, h2, h3⟩ := mkL_mem (by unfold mkN; omega) ha
    simp [badA]
    omega
  have hl := mkL_length (mkN N most) (T.take 40)
  rw [List.length_take] at hl
  unfold rightB
  rw [hb]
  simp
  unfold makeL
  refine ⟨?_, by omega⟩
  unfold mkN
  omega
theorem makeL_dag (N most : Nat) (hm : 0 < most) (hm2 : most ≤ 1000) (T : List Tri) : ordE (mkN N most : Nat) (makeL N most T) = 0 := by
  refine ordE_dag (makeL_right N most hm hm2 T) id ?_
  intro a ha
  obtain ⟨f, t, x, rfl, h1, h2, h3⟩ := mkL_mem (by unfold mkN; omega) ha
  simpa using h1
end Go.Proofs.YtjgloineooadoaaGreatDoor
/- DagCosts' parts: its closure; a slice less its first. -/
namespace Go.Proofs.YtjgloineooadoaaGreatDoor
open Go.RowKit
theorem Ints.tail {w : World} {b n c : Nat} {xs : List Int} {x : Int} (h : Ints w (.slice (some ⟨b, 0, none⟩) n c) (x :: xs)) : Ints w (.slice (some ⟨b, 1, none⟩) (n - 1) (c - 1)) xs := by
  obtain ⟨A, cap, e, h1, h2, h⟩ := h
  cases e
  obtain ⟨b2, off, e2, hc⟩ := h (by simp)
  cases e2
  refine ⟨some ⟨b, 1, none⟩, c - 1, by simp, by simp at h1; omega, (fun h => by cases h), fun hl => ⟨b, 1, rfl, fun i a hi r v hv => ?_⟩⟩
  have h3 := hc (i + 1) a (by simpa using hi) r v hv
  have e3 : 0 + (i + 1) * 1 + r = 1 + i * 1 + r := by omega
  rwa [e3] at h3
def valC (big : Bool) (x : List Int) (i : Nat) : Int :=
  let v : Int := if i < x.length ∧ (big = true ∨ (x[i]?.getD 0).tmod 2 = 0) then x[i]?.getD 0 else i
  if big then v else v.tmod 50 + 100 * i
def valsC (big : Bool) (x : List Int) (n : Nat) : List Int := (List.range n).map (valC big x)
theorem valsC_length (big : Bool) (x : List Int) (n : Nat) : (valsC big x n).length = n := by simp [valsC]
theorem valsC_succ (big : Bool) (x : List Int) (n : Nat) : valsC big x (n + 1) = valsC big x n ++ [valC big x n] := by simp [valsC, List.range_succ]
end Go.Proofs.YtjgloineooadoaaGreatDoor
/- DagCosts' plain facts: what Cost tells of the graphs that plain data make. -/
namespace Go.Proofs.YtjgloineooadoaaGreatDoor
theorem costE_len {n : Int} {L : List Arc} {xs : List Int} (h0 : ordE n L = 0) (h : (xs.length : Int) ≠ n) : costE n L xs = 2 := by
  unfold costE
  rw [if_pos h0, if_neg (fun q => h q.1)]
theorem costE_far {n : Int} {L : List Arc} {xs : List Int} (h0 : ordE n L = 0) (h : xs.any farB = true) : costE n L xs = 2 := by
  unfold costE
  rw [if_pos h0, if_neg (fun q => by have := q.2; rw [h] at this; cases this)]
theorem costE_fit {n : Int} {L : List Arc} {xs : List Int} (h0 : ordE n L = 0) (hl : (xs.length : Int) = n) (hf : xs.any farB = false) : costE n L xs = if L.all (fitA xs) = true then 0 else 15 := by
  unfold costE
  rw [if_pos h0, if_pos ⟨hl, hf⟩]
theorem costV_ok {n : Int} {L : List Arc} {xs : List Int} (h : costE n L xs = 0) : costV n L xs = costL xs L := by
  unfold costV
  rw [if_pos h]
theorem makeL_length (N most : Nat) (T : List Tri) : (makeL N most T).length ≤ 40 := by
  have hl := mkL_length (mkN N most) (T.take 40)
  rw [List.length_take] at hl
  unfold makeL
  omega
theorem makeL_in (N most : Nat) (T : List Tri) : InX (makeL N most T) (mkN N most) := by
  intro a ha
  obtain ⟨f, t, x, rfl, h1, h2, h3⟩ := mkL_mem (by unfold mkN; omega) ha
  exact ⟨f, t, rfl, rfl, by omega, h2⟩
theorem makeL_w (N most : Nat) (T : List Tri) : ∀ a ∈ makeL N most T, 0 ≤ a.2.2 ∧ a.2.2 ≤ 7 := by
  intro a ha
  obtain ⟨f, t, x, rfl, h1, h2, h3⟩ := mkL_mem (by unfold mkN; omega) ha
  simp only
  omega
theorem near_of {xs : List Int} (h : xs.any farB = false) : ∀ v ∈ xs, -1000000 ≤ v ∧ v ≤ 1000000 := by
  intro v hv
  have := List.any_eq_false.1 h v hv
  simp only [farB, Bool.not_eq_true, Bool.or_eq_false_iff, decide_eq_false_iff_not] at this
  omega
theorem valC_no {big : Bool} {x : List Int} {i : Nat} (h : ¬ i < x.length) : valC big x i = if big then (i : Int) else (i : Int).tmod 50 + 100 * i := by
  unfold valC
  simp [h]
theorem valC_yes {big : Bool} {x : List Int} {i : Nat} {a : Int} (h : x[i]? = some a) (hb : big = true ∨ a.tmod 2 = 0) : valC big x i = if big then a else a.tmod 50 + 100 * i := by
  have hl := (List.getElem?_eq_some_iff.1 h).1
  have e : (if i < x.length ∧ (big = true ∨ (x[i]?.getD 0).tmod 2 = 0) then x[i]?.getD 0 else (i : Int)) = a := by
    rw [h]
    exact if_pos ⟨hl, hb⟩
  unfold valC
  simp only [e]
theorem valC_odd {x : List Int} {i : Nat} {a : Int} (h : x[i]? = some a) (hb : a.tmod 2 ≠ 0) : valC false x i = (i : Int).tmod 50 + 100 * i := by
  have e : (if i < x.length ∧ (false = true ∨ (x[i]?.getD 0).tmod 2 = 0) then x[i]?.getD 0 else (i : Int)) = (i : Int) := by
    rw [h]
    exact if_neg (fun q => by rcases q.2 with h | h; cases h; exact hb h)
  unfold valC
  simp only [e]
  rfl
end Go.Proofs.YtjgloineooadoaaGreatDoor
/- What Cost tells of coordinates moved, turned, stretched. No program in sight. -/
namespace Go.Proofs.YtjgloineooadoaaGreatDoor
/-- Coordinates near 's' times each node's number. -/
def valG (s m : Int) (x : List Int) (i : Nat) : Int := s * i + (x[i]?.getD 0).tmod m
def valsG (s m : Int) (x : List Int) (n : Nat) : List Int := (List.range n).map (valG s m x)
theorem valsG_length (s m : Int) (x : List Int) (n : Nat) : (valsG s m x n).length = n := by simp [valsG]
theorem valsG_succ (s m : Int) (x : List Int) (n : Nat) : valsG s m x (n + 1) = valsG s m x n ++ [valG s m x n] := by simp [valsG, List.range_succ]
theorem valG_yes {s m : Int} {x : List Int} {i : Nat} {a : Int} (h : x[i]? = some a) : valG s m x i = s * i + a.tmod m := by unfold valG; rw [h]; rfl
theorem valG_no {s m : Int} {x : List Int} {i : Nat} (h : ¬ i < x.length) : valG s m x i = s * i := by unfold valG; rw [List.getElem?_eq_none (by omega)]; simp
theorem tmod_bounds (a m : Int) (h : 0 < m) : -m < a.tmod m ∧ a.tmod m < m := by
  rcases Int.le_total 0 a with h0 | h0
  · rw [Int.tmod_eq_emod_of_nonneg h0]
    have := Int.emod_nonneg a (show m ≠ 0 by omega)
    have := Int.emod_lt_of_pos a h
    omega
  · have e : a.tmod m = -((-a).tmod m) := by rw [Int.neg_tmod]; omega
    rw [e, Int.tmod_eq_emod_of_nonneg (by omega)]
    have := Int.emod_nonneg (-a) (show m ≠ 0 by omega)
    have := Int.emod_lt_of_pos (-a) h
    omega
theorem at_map (f : Int → Int) {l : List Int} {i : Nat} (h : i < l.length) : at_ (l.map f) (i : Int) = f (at_ l (i : Int)) := by
  unfold at_
  simp [h]
/-- All arcs turned. -/
def backL (L : List Arc) : List Arc := L.map fun a => (a.2.1, a.1, a.2.2)
theorem backL_snoc (L : List Arc) (a : Arc) : backL (L ++ [a]) = backL L ++ [(a.2.1, a.1, a.2.2)] := by simp [backL]
theorem backL_right {n : Int} {L : List Arc} (h : rightB n L = true) : rightB n (backL L) = true := by
  simp only [rightB, Bool.and_eq_true, decide_eq_true_eq, Bool.not_eq_true', List.any_eq_false] at *
  refine ⟨⟨h.1.1, by simpa [backL] using h.1.2⟩, ?_⟩
  intro a ha
  obtain ⟨b, hb, rfl⟩ := List.mem_map.1 ha
  have := h.2 b hb
  simp only [badA, Bool.or_eq_true, decide_eq_true_eq, not_or] at *
  omega
theorem backL_dag {n : Nat} {L : List Arc} (h : rightB n L = true) (hd : ∀ a ∈ L, a.1.toNat < a.2.1.toNat) : ordE n (backL L) = 0 := by
  refine ordE_dag (backL_right h) (fun v => n - v) ?_
  intro a ha
  obtain ⟨b, hb, rfl⟩ := List.mem_map.1 ha
  have h1 := hd b hb
  simp only [rightB, Bool.and_eq_true, decide_eq_true_eq, Bool.not_eq_true', List.any_eq_false] at h
  have h2 := h.2 b hb
  simp only [badA, Bool.or_eq_true, decide_eq_true_eq, not_or] at h2
  simp only
  omega
theorem makeL_up (N most : Nat) (T : List Tri) : ∀ a ∈ makeL N most T, a.1.toNat < a.2.1.toNat := by
  intro a ha
  obtain ⟨f, t, x, rfl, h1, h2, h3⟩ := mkL_mem (by unfold mkN; omega) ha
  simpa using h1
theorem makeL_back (N most : Nat) (hm : 0 < most) (hm2 : most ≤ 1000) (T : List Tri) : ordE (mkN N most : Nat) (backL (makeL N most T)) = 0 :=
  backL_dag (makeL_right N most hm hm2 T) (makeL_up N most T)
theorem fit_map {L : List Arc} {l : List Int} (f : Int → Int) (hf : ∀ a b, f a < f b ↔ a < b) (hin : InX L l.length) : L.all (fitA (l.map f)) = L.all (fitA l) := by
  rw [Bool.eq_iff_iff, List.all_eq_true, List.all_eq_true]
  have e : ∀ a ∈ L, fitA (l.map f) a = fitA l a := by
    intro a ha
    obtain ⟨x, y, h1, h2, h3, h4⟩ := hin a ha
    unfold fitA
    rw [h1, h2, at_map f h3, at_map f h4]
    simp [hf]
  constructor
  · intro h a ha; rw [← e a ha]; exact h a ha
  · intro h a ha; rw [e a ha]; exact h a ha
theorem fit_back {L : List Arc} {l : List Int} (hin : InX L l.length) : (backL L).all (fitA (l.map fun v => -v)) = L.all (fitA l) := by
  rw [Bool.eq_iff_iff, List.all_eq_true, List.all_eq_true]
  have e : ∀ a ∈ L, fitA (l.map fun v => -v) (a.2.1, a.1, a.2.2) = fitA l a := by
    intro a ha
    obtain ⟨x, y, h1, h2, h3, h4⟩ := hin a ha
    unfold fitA
    simp only
    rw [h1, h2, at_map _ h3, at_map _ h4]
    rw [decide_eq_decide]
    omega
  constructor
  · intro h a ha; rw [← e a ha]; exact h _ (List.mem_map.2 ⟨a, ha, rfl⟩)
  · intro h a ha
    obtain ⟨b, hb, rfl⟩ := List.mem_map.1 ha
    rw [e b hb]; exact h b hb
theorem InX.tail {a : Arc} {L : List Arc} {m : Nat} (h : InX (a :: L) m) : InX L m := fun b hb => h b (List.mem_cons_of_mem _ hb)
theorem cost_map (k by_ : Int) {l : List Int} : ∀ {L : List Arc}, InX L l.length → costL (l.map fun v => k * v + by_) L = k * costL l L := by
  intro L
  induction L with
  | nil => intro _; simp [costL]
  | cons a L ih =>
    intro hin
    obtain ⟨x, y, h1, h2, h3, h4⟩ := hin a (by simp)
    simp only [costL]
    rw [ih hin.tail, h1, h2, at_map _ h3, at_map _ h4, Int.mul_add]
    generalize at_ l (x : Int) = X
    generalize at_ l (y : Int) = Y
    have e : k * Y + by_ - (k * X + by_) = k * (Y - X) := by rw [Int.mul_sub]; omega
    rw [e, ← Int.mul_assoc, Int.mul_comm a.2.2 k, Int.mul_assoc]
theorem cost_back {l : List Int} : ∀ {L : List Arc}, InX L l.length → costL (l.map fun v => -v) (backL L) = costL l L := by
  intro L
  induction L with
  | nil => intro _; rfl
  | cons a L ih =>
    intro hin
    obtain ⟨x, y, h1, h2, h3, h4⟩ := hin a (by simp)
    have := ih hin.tail
    simp only [backL, List.map_cons, costL] at *
    rw [this, h1, h2, at_map _ h3, at_map _ h4]
    congr 2
    omega
theorem any_map_far {l : List Int} (f : Int → Int) (h : ∀ v ∈ l, -1000000 ≤ f v ∧ f v ≤ 1000000) : (l.map f).any farB = false := by
  rw [List.any_eq_false]
  intro v hv
  obtain ⟨u, hu, rfl⟩ := List.mem_map.1 hv
  have := h u hu
  simp [farB]
  omega
theorem valsG_bd {s m : Int} (hs : 0 ≤ s) (hs2 : s ≤ 100) (hm : 0 < m) (hm2 : m ≤ 1000) (x : List Int) {n : Nat} (hn : n ≤ 100) : ∀ v ∈ valsG s m x n, -1000 ≤ v ∧ v ≤ 11000 := by
  intro v hv
  obtain ⟨i, hi, rfl⟩ := List.mem_map.1 hv
  have hi' := List.mem_range.1 hi
  unfold valG
  have := tmod_bounds (x[i]?.getD 0) m hm
  have h1 : 0 ≤ s * (i : Int) := Int.mul_nonneg hs (by omega)
  have h2 : s * (i : Int) ≤ 100 * 100 := Int.mul_le_mul hs2 (by omega) (by omega) (by omega)
  omega
/-- Moved, turned, stretched: what Cost tells of each. -/
theorem moved_law {n : Nat} {L : List Arc} {l : List Int} {b : Int} (h0 : ordE n L = 0) (h1 : ordE n (backL L) = 0) (hl : l.length = n) (hin : InX L n) (hb : ∀ v ∈ l, -1000 ≤ v ∧ v ≤ 11000) (b0 : -32768 ≤ b) (b1 : b ≤ 32767) :
    costE n L (l.map fun v => v + b) = costE n L l ∧ costE n (backL L) (l.map fun v => -v) = costE n L l ∧ costE n L (l.map fun v => 3 * v) = costE n L l ∧
    costV n L (l.map fun v => v + b) = costV n L l ∧ costV n (backL L) (l.map fun v => -v) = costV n L l ∧ costV n L (l.map fun v => 3 * v) = 3 * costV n L l := by
  rw [← hl] at hin
  have e0 := costE_fit (xs := l) h0 (by omega) (by
    have := any_map_far (l := l) id (fun v hv => by have := hb v hv; simp only [id]; omega)
    rwa [List.map_id] at this)
  have e1 := costE_fit (xs := l.map fun v => v + b) h0 (by simp; omega) (any_map_far _ (fun v hv => by have := hb v hv; omega))
  have e2 := costE_fit (xs := l.map fun v => -v) h1 (by simp; omega) (any_map_far _ (fun v hv => by have := hb v hv; omega))
  have e3 := costE_fit (xs := l.map fun v => 3 * v) h0 (by simp; omega) (any_map_far _ (fun v hv => by have := hb v hv; omega))
  rw [fit_map _ (fun a b => by omega) hin] at e1
  rw [fit_back hin] at e2
  rw [fit_map _ (fun a b => by omega) hin] at e3
  have g1 := e1.trans e0.symm
  have g2 := e2.trans e0.symm
  have g3 := e3.trans e0.symm
  refine ⟨g1, g2, g3, ?_, ?_, ?_⟩
  · unfold costV
    rw [g1]
    have := cost_map 1 b hin
    simp only [Int.one_mul] at this
    rw [this]
  · unfold costV
    rw [g2, cost_back hin]
  · unfold costV
    rw [g3]
    have := cost_map 3 0 hin
    simp only [Int.add_zero] at this
    rw [this]
    split <;> omega
theorem moved_bd {n : Int} {L : List Arc} {l : List Int} (hn : L.length ≤ 40) (hw : ∀ a ∈ L, 0 ≤ a.2.2 ∧ a.2.2 ≤ 7) (hin : InX L l.length) (hb : ∀ v ∈ l, -1000 ≤ v ∧ v ≤ 11000) : -100000000 ≤ costV n L l ∧ costV n L l ≤ 100000000 := by
  have key : ∀ L : List Arc, (∀ a ∈ L, 0 ≤ a.2.2 ∧ a.2.2 ≤ 7) → InX L l.length → -(L.length * 84000 : Int) ≤ costL l L ∧ costL l L ≤ L.length * 84000 := by
    intro L
    induction L with
    | nil => intro _ _; simp [costL]
    | cons a L ih =>
      intro hw hin
      obtain ⟨i1, i2⟩ := ih (fun b hb => hw b (List.mem_cons_of_mem _ hb)) hin.tail
      obtain ⟨x, y, h1, h2, h3, h4⟩ := hin a (by simp)
      have hx : ∀ {i : Nat}, i < l.length → -1000 ≤ at_ l (i : Int) ∧ at_ l (i : Int) ≤ 11000 := by
        intro i hi
        unfold at_
        simp only [Int.toNat_natCast, List.getElem?_eq_getElem hi, Option.getD_some]
        exact hb _ (List.getElem_mem hi)
      have b1 := hx h3
      have b2 := hx h4
      simp only [costL, List.length_cons]
      rw [h1, h2]
      obtain ⟨w0, w1⟩ := hw a (by simp)
      have d0 : a.2.2 * (at_ l (y : Int) - at_ l (x : Int)) ≤ 84000 ∧ -84000 ≤ a.2.2 * (at_ l (y : Int) - at_ l (x : Int)) := by
        have c1 : a.2.2 * (at_ l (y : Int) - at_ l (x : Int)) ≤ 7 * 12000 := Int.le_trans (Int.mul_le_mul_of_nonneg_left (show at_ l (y : Int) - at_ l (x : Int) ≤ 12000 by omega) w0) (Int.mul_le_mul_of_nonneg_right w1 (by omega))
        have c2 : a.2.2 * (-(at_ l (y : Int) - at_ l (x : Int))) ≤ 7 * 12000 := Int.le_trans (Int.mul_le_mul_of_nonneg_left (show -(at_ l (y : Int) - at_ l (x : Int)) ≤ 12000 by omega) w0) (Int.mul_le_mul_of_nonneg_right w1 (by omega))
        rw [Int.mul_neg] at c2
        omega
      omega
  obtain ⟨k1, k2⟩ := key L hw hin
  unfold costV
  split <;> omega
/-- A list less its first. -/
theorem Ints.drop1 {w : World} {g k c : Nat} {l : List Int} (h : Ints w (.slice (some ⟨g, 0, none⟩) k c) l) (hk : 1 ≤ k) : Ints w (.slice (some ⟨g, 1, none⟩) (k - 1) (c - 1)) l.tail ∧ (c = 1 → Ints w (.slice (some ⟨g, 0, none⟩) (k - 1) 0) l.tail) := by
  obtain ⟨A, cap, e, h1, h2, h3⟩ := id h
  cases e
  cases l with
  | nil => simp at hk
  | cons x xs =>
    refine ⟨Ints.tail h, fun hc => ?_⟩
    have hx : xs = [] := by
      cases xs with
      | nil => rfl
      | cons y ys => simp only [List.length_cons] at h1; omega
    subst hx
    exact ⟨_, 0, rfl, by simp, (fun h => by cases h), fun hl => by simp at hl⟩
end Go.Proofs.YtjgloineooadoaaGreatDoor
/- Ranks: how many different numbers are less. No program in sight. -/
namespace Go.Proofs.YtjgloineooadoaaGreatDoor
open Go.Lib
theorem nodup_subI : ∀ (a b : List Int), a.Nodup → (∀ x ∈ a, x ∈ b) → a.length ≤ b.length := by
  intro a
  induction a with
  | nil => intro b _ _; simp
  | cons x a ih =>
    intro b hn hs
    obtain ⟨hx, hn⟩ := List.nodup_cons.1 hn
    have hb : x ∈ b := hs x (by simp)
    have := ih (b.erase x) hn (fun y hy => (List.mem_erase_of_ne (by rintro rfl; exact hx hy)).2 (hs y (by simp [hy])))
    have h2 := List.length_erase_of_mem hb
    have h3 : 0 < b.length := List.length_pos_of_mem hb
    simp only [List.length_cons]
    omega
theorem getI {zs : List Int} {j : Nat} (h : j < zs.length) : zs.toArray[j]! = zs[j] := by simp [h]
theorem sorted_getI {zs : List Int} (hs : zs.Pairwise (· ≤ ·)) {i j : Nat} (hij : i ≤ j) (hj : j < zs.length) : zs[i]'(by omega) ≤ zs[j] := by
  rcases Nat.lt_or_ge i j with h | h
  · exact List.pairwise_iff_getElem.1 hs i j (by omega) hj h
  · have : i = j := by omega
    subst this
    exact Int.le_refl _
/-- Of a sorted list's first m elements: those that are kept. -/
theorem compact_inv {zs : List Int} (hs : zs.Pairwise (· ≤ ·)) : ∀ m, m ≤ zs.length → (∀ x, x ∈ compactUpTo zs.toArray m ↔ x ∈ zs.take m) ∧ (compactUpTo zs.toArray m).Pairwise (· < ·)
  | 0, _ => by simp [compactUpTo]
  | m + 1, hm => by
    obtain ⟨h1, h2⟩ := compact_inv hs m (by omega)
    have ht : zs.take (m + 1) = zs.take m ++ [zs[m]'(by omega)] := List.take_succ_eq_append_getElem (by omega)
    rw [compactUpTo_succ]
    by_cases hk : keeps zs.toArray m = true
    · rw [if_pos hk, getI (by omega)]
      refine ⟨fun x => by rw [ht, List.mem_append, List.mem_append, h1], ?_⟩
      rw [List.pairwise_append]
      refine ⟨h2, by simp, fun x hx y hy => ?_⟩
      have hy' : y = zs[m]'(by omega) := by simpa using hy
      subst hy'
      obtain ⟨j, hj, rfl⟩ := List.getElem_of_mem ((h1 x).1 hx)
      have hj' : j < m := by rw [List.length_take] at hj; omega
      rw [List.getElem_take]
      have hp : zs.toArray[m]! ≠ zs.toArray[m - 1]! := by
        have := hk
        simp only [keeps, decide_eq_true_eq] at this
        rcases this with h | h
        · omega
        · exact h
      rw [getI (by omega), getI (by omega)] at hp
      have a1 := sorted_getI hs (i := j) (j := m - 1) (by omega) (by omega)
      have a2 := sorted_getI hs (i := m - 1) (j := m) (by omega) (by omega)
      omega
    · rw [if_neg hk, List.append_nil]
      refine ⟨fun x => ?_, h2⟩
      rw [h1, ht, List.mem_append]
      refine ⟨.inl, fun h => ?_⟩
      rcases h with h | h
      · exact h
      · have hx : x = zs[m]'(by omega) := by simpa using h
        have hk' : ¬ (m = 0 ∨ zs.toArray[m]! ≠ zs.toArray[m - 1]!) := by simpa [keeps] using hk
        have h0 : m ≠ 0 := fun e => hk' (.inl e)
        have he : zs.toArray[m]! = zs.toArray[m - 1]! := Classical.byContradiction (fun e => hk' (.inr e))
        rw [getI (by omega), getI (by omega)] at he
        rw [hx, he]
        rw [List.mem_iff_getElem]
        exact ⟨m - 1, by rw [List.length_take]; omega, by rw [List.getElem_take]⟩
theorem rks_mem (zs : List Int) (x : Int) : x ∈ rks zs ↔ x ∈ zs := by
  have := (compact_inv (srt_sorted zs) (srt zs).length (Nat.le_refl _)).1 x
  rw [List.take_of_length_le (Nat.le_refl _)] at this
  unfold rks compact
  rw [this]
  exact List.mem_mergeSort
theorem rks_strict (zs : List Int) : (rks zs).Pairwise (· < ·) := (compact_inv (srt_sorted zs) (srt zs).length (Nat.le_refl _)).2
theorem rks_nodup (zs : List Int) : (rks zs).Nodup := (rks_strict zs).imp (fun h => by omega)
/-- A rank is how many there are in any list of the different numbers that are less. -/
theorem rk_unique {zs D : List Int} {z : Int} (hn : D.Nodup) (hm : ∀ x, x ∈ D ↔ x ∈ zs ∧ x < z) : rkOf zs z = (D.length : Nat) := by
  unfold rkOf
  rw [List.countP_eq_length_filter]
  have e : ((rks zs).filter fun x => decide (x < z)).length = D.length := by
    apply Nat.le_antisymm
    · refine nodup_subI _ _ ((rks_nodup zs).filter _) (fun x hx => ?_)
      obtain ⟨h1, h2⟩ := List.mem_filter.1 hx
      exact (hm x).2 ⟨(rks_mem zs x).1 h1, by simpa using h2⟩
    · refine nodup_subI _ _ hn (fun x hx => ?_)
      obtain ⟨h1, h2⟩ := (hm x).1 hx
      exact List.mem_filter.2 ⟨(rks_mem zs x).2 h1, by simpa using h2⟩
  rw [e]
theorem countP_step (R : List Int) (a : Int) : R.countP (· < a + 1) = R.countP (· < a) + R.count a := by
  induction R with
  | nil => simp
  | cons b R ih =>
    rw [List.countP_cons, List.countP_cons, List.count_cons, ih]
    by_cases h1 : b < a
    · have h2 : b < a + 1 := by omega
      have h3 : ¬ b = a := by omega
      simp [h1, h2, h3]
      omega
    · by_cases h3 : b = a
      · subst h3
        have h2 : b < b + 1 := by omega
        simp [h2]
        omega
      · have h2 : ¬ b < a + 1 := by omega
        simp [h1, h2, h3]
theorem rk_step (zs : List Int) (a : Int) : rkOf zs (a + 1) = rkOf zs a + if a ∈ zs then 1 else 0 := by
  unfold rkOf
  rw [countP_step]
  by_cases h : a ∈ zs
  · rw [if_pos h, (rks_nodup zs).count, if_pos ((rks_mem zs a).2 h)]
    omega
  · rw [if_neg h, List.count_eq_zero_of_not_mem (fun q => h ((rks_mem zs a).1 q))]
    omega
theorem rk_diff (zs : List Int) (a : Int) : ∀ k : Nat, rkOf zs a ≤ rkOf zs (a + k) ∧ rkOf zs (a + k) ≤ rkOf zs a + k
  | 0 => by simp
  | k + 1 => by
    obtain ⟨h1, h2⟩ := rk_diff zs a k
    have := rk_step zs (a + k)
    have e : a + (k : Int) + 1 = a + ((k + 1 : Nat) : Int) := by omega
    rw [e] at this
    split at this <;> omega
theorem rk_mono (zs : List Int) {a b : Int} (h : a ≤ b) : rkOf zs a ≤ rkOf zs b ∧ rkOf zs b - rkOf zs a ≤ b - a := by
  have := rk_diff zs a (b - a).toNat
  have e : a + ((b - a).toNat : Int) = b := by omega
  rw [e] at this
  omega
theorem rk_lt (zs : List Int) {a b : Int} (ha : a ∈ zs) (h : a < b) : rkOf zs a < rkOf zs b := by
  have h1 := rk_step zs a
  rw [if_pos ha] at h1
  have h2 := (rk_mono zs (show a + 1 ≤ b by omega)).1
  omega
theorem rk_nonneg (zs : List Int) (a : Int) : 0 ≤ rkOf zs a := by unfold rkOf; omega
theorem rk_le (zs : List Int) (a : Int) : rkOf zs a ≤ zs.length := by
  unfold rkOf
  have h1 := List.countP_le_length (p := fun x => decide (x < a)) (l := rks zs)
  have h2 := rks_length zs
  omega
/-- Below a rank there is no gap. -/
theorem rk_gap (zs : List Int) : ∀ (n : Nat) (z : Int), rkOf zs z = (n : Nat) → ∀ k : Nat, k < n → ∃ x, x ∈ zs ∧ x < z ∧ rkOf zs x = (k : Nat) := by
  intro n
  induction n with
  | zero => intro z _ k hk; omega
  | succ n ih =>
    intro z hz k hk
    have hex : ∃ x, x ∈ zs ∧ x < z ∧ rkOf zs x = (n : Nat) := by
      have hpos : 0 < ((rks zs).filter fun x => decide (x < z)).length := by
        have := hz
        unfold rkOf at this
        rw [List.countP_eq_length_filter] at this
        omega
      obtain ⟨x, hx, hmax⟩ : ∃ x, x ∈ (rks zs).filter (fun x => decide (x < z)) ∧ ∀ y ∈ (rks zs).filter (fun x => decide (x < z)), y ≤ x := by
        have key : ∀ l : List Int, 0 < l.length → ∃ x, x ∈ l ∧ ∀ y ∈ l, y ≤ x := by
          intro l
          induction l with
          | nil => simp
          | cons a l ih2 =>
            intro _
            by_cases hl : 0 < l.length
            · obtain ⟨x, h1, h2⟩ := ih2 hl
              by_cases hax : a ≤ x
              · exact ⟨x, by simp [h1], fun y hy => by rcases List.mem_cons.1 hy with rfl | hy; exact hax; exact h2 y hy⟩
              · exact ⟨a, by simp, fun y hy => by rcases List.mem_cons.1 hy with rfl | hy; exact Int.le_refl _; have := h2 y hy; omega⟩
            · have : l = [] := List.length_eq_zero_iff.1 (by omega)
              subst this
              exact ⟨a, by simp, by simp⟩
        exact key _ hpos
      obtain ⟨h1, h2⟩ := List.mem_filter.1 hx
      have h2' : x < z := by simpa using h2
      have hxz := (rks_mem zs x).1 h1
      refine ⟨x, hxz, h2', ?_⟩
      have h3 := rk_step zs x
      rw [if_pos hxz] at h3
      have h4 : rkOf zs (x + 1) = rkOf zs z := by
        unfold rkOf
        congr 1
        apply List.countP_congr
        intro y hy
        simp only [decide_eq_true_eq]
        constructor
        · intro h; omega
        · intro h
          have := hmax y (List.mem_filter.2 ⟨hy, by simpa using h⟩)
          omega
      rw [h4, hz] at h3
      omega
    obtain ⟨x, h1, h2, h3⟩ := hex
    by_cases e : k = n
    · subst e; exact ⟨x, h1, h2, h3⟩
    · obtain ⟨y, g1, g2, g3⟩ := ih x h3 k (by omega)
      exact ⟨y, g1, by omega, g3⟩
/-- Ranks of ranks are the ranks. -/
theorem rk_again (zs : List Int) (z : Int) : rkOf (zs.map (rkOf zs)) (rkOf zs z) = rkOf zs z := by
  obtain ⟨n, hn⟩ : ∃ n : Nat, rkOf zs z = n := ⟨(rkOf zs z).toNat, by have := rk_nonneg zs z; omega⟩
  have h := rk_unique (zs := zs.map (rkOf zs)) (D := (List.range n).map (fun k : Nat => (k : Int))) (z := rkOf zs z)
    (by
      exact List.pairwise_map.2 (List.nodup_range.imp (fun h e => h (by omega))))
    (fun x => by
      simp only [List.mem_map, List.mem_range]
      constructor
      · rintro ⟨k, hk, rfl⟩
        obtain ⟨y, h1, h2, h3⟩ := rk_gap zs n z hn k hk
        exact ⟨⟨y, h1, h3⟩, by omega⟩
      · rintro ⟨⟨y, h1, rfl⟩, h2⟩
        exact ⟨(rkOf zs y).toNat, by have := rk_nonneg zs y; omega, by have := rk_nonneg zs y; omega⟩)
  rw [h, hn]
  simp
theorem rk_again_all (zs : List Int) : (zs.map (rkOf zs)).map (rkOf (zs.map (rkOf zs))) = zs.map (rkOf zs) := by
  rw [List.map_map]
  exact List.map_congr_left (fun z _ => rk_again zs z)
theorem at_mem {l : List Int} {i : Nat} (h : i < l.length) : at_ l (i : Int) ∈ l := by
  unfold at_
  simp [h]
/-- Ranks of coordinates that fit fit, and cost no more. -/
theorem rk_fit {L : List Arc} {l : List Int} (hin : InX L l.length) (hf : L.all (fitA l) = true) : L.all (fitA (l.map (rkOf l))) = true := by
  rw [List.all_eq_true] at *
  intro a ha
  have h := hf a ha
  obtain ⟨x, y, h1, h2, h3, h4⟩ := hin a ha
  unfold fitA at h ⊢
  rw [h1, h2] at h ⊢
  rw [at_map _ h3, at_map _ h4]
  simp only [decide_eq_true_eq] at h ⊢
  exact rk_lt l (at_mem h3) h
theorem rk_cost {l : List Int} : ∀ {L : List Arc}, InX L l.length → (∀ a ∈ L, 0 ≤ a.2.2) → L.all (fitA l) = true → costL (l.map (rkOf l)) L ≤ costL l L := by
  intro L
  induction L with
  | nil => intro _ _ _; simp [costL]
  | cons a L ih =>
    intro hin hw hf
    simp only [List.all_cons, Bool.and_eq_true] at hf
    obtain ⟨x, y, h1, h2, h3, h4⟩ := hin a (by simp)
    have h5 := ih hin.tail (fun b hb => hw b (by simp [hb])) hf.2
    have h6 := hf.1
    unfold fitA at h6
    simp only [decide_eq_true_eq] at h6
    simp only [costL]
    rw [h1, h2] at h6 ⊢
    rw [at_map _ h3, at_map _ h4]
    have h7 := (rk_mono l (show at_ l (x : Int) ≤ at_ l (y : Int) by omega)).2
    have h8 := Int.mul_le_mul_of_nonneg_left h7 (hw a (by simp))
    omega
end Go.Proofs.YtjgloineooadoaaGreatDoor
/- What Solve tells of a dag: the coordinates cost the least, the flow proves it. No program in sight. -/
namespace Go.Proofs.YtjgloineooadoaaGreatDoor
open Go.RowKit
def ff (fs : List Int) (i : Nat) : Int := fs[i]?.getD 0
structure Sol (n : Nat) (L : List Arc) (xs fs : List Int) (ways : Nat) : Prop where
  lx : xs.length = n
  lf : fs.length = L.length
  fit : L.all (fitA xs) = true
  ag : xs.map (rkOf xs) = xs
  lo : ∀ a ∈ xs, 0 ≤ a ∧ a ≤ n
  nn : ∀ i, i < L.length → 0 ≤ ff fs i ∧ ff fs i ≤ 20000000000
  bal : ∀ u, u < n → nf (gfL n L) (wtL L) u L.length = nf (gfL n L) (ff fs) u L.length
  tight : ∀ i, i < L.length → 0 < ff fs i → at_ xs (ttL L i : Int) - at_ xs (frL L i : Int) = 1
  ways : (ways : Int) ≤ spN (fun v => nf (gfL n L) (wtL L) v L.length) n
theorem sumN_front (f : Nat → Int) : ∀ n, sumN f (n + 1) = f 0 + sumN (fun i => f (i + 1)) n
  | 0 => by simp [sumN]
  | n + 1 => by
    show sumN f (n + 1) + f (n + 1) = f 0 + (sumN (fun i => f (i + 1)) n + f (n + 1))
    rw [sumN_front f n]; omega
theorem costL_sum (xs : List Int) : ∀ L : List Arc, costL xs L = sumN (fun i => wtL L i * (at_ xs (ttL L i : Int) - at_ xs (frL L i : Int))) L.length
  | [] => rfl
  | a :: L => by
    show _ = sumN _ (L.length + 1)
    rw [sumN_front]
    simp only [costL]
    rw [costL_sum xs L]
    have e1 : at_ xs (ttL (a :: L) 0 : Int) = at_ xs a.2.1 := by
      have : ((max a.2.1 0).toNat) = a.2.1.toNat := by omega
      simp [at_, ttL, this]
    have e2 : at_ xs (frL (a :: L) 0 : Int) = at_ xs a.1 := by
      have : ((max a.1 0).toNat) = a.1.toNat := by omega
      simp [at_, frL, this]
    have e3 : wtL (a :: L) 0 = a.2.2 := by simp [wtL]
    rw [e1, e2, e3]
    first | rfl | (congr 1; exact sumN_congr (fun i _ => by simp [wtL, ttL, frL]))
theorem cost_arcS {n : Nat} {L : List Arc} (xs : List Int) : costL xs L = -arcS (gfL n L) (wtL L) (fun v => at_ xs (v : Int)) L.length := by
  rw [costL_sum]
  unfold arcS
  rw [← sumN_neg]
  refine sumN_congr (fun i _ => ?_)
  show wtL L i * (at_ xs (ttL L i : Int) - at_ xs (frL L i : Int)) = -(wtL L i * (at_ xs (frL L i : Int) - at_ xs (ttL L i : Int)))
  rw [← Int.mul_neg]
  congr 1
  omega
/-- Weak duality. -/
theorem flow_le {n : Nat} {L : List Arc} (k : Okg n L) {g : Nat → Int} (nn : ∀ i, i < L.length → 0 ≤ g i) (bal : ∀ u, u < n → nf (gfL n L) (wtL L) u L.length = nf (gfL n L) g u L.length) {ys : List Int} (hf : L.all (fitA ys) = true) : sumN g L.length ≤ costL ys L := by
  have hA : arcS (gfL n L) (wtL L) (fun v => at_ ys (v : Int)) L.length = arcS (gfL n L) g (fun v => at_ ys (v : Int)) L.length := arcS_same k.g bal _
  rw [cost_arcS (n := n) ys, hA]
  unfold arcS
  rw [← sumN_neg]
  refine sumN_le (fun i hi => ?_)
  show g i ≤ -(g i * (at_ ys (frL L i : Int) - at_ ys (ttL L i : Int)))
  rw [← Int.mul_neg]
  have h1 := List.all_eq_true.1 hf _ (List.mem_of_getElem? (k.at_ hi).1)
  unfold fitA at h1
  simp only [decide_eq_true_eq] at h1
  have h2 := Int.mul_le_mul_of_nonneg_left (show (1 : Int) ≤ -(at_ ys (frL L i : Int) - at_ ys (ttL L i : Int)) by omega) (nn i hi)
  omega
section
variable {n : Nat} {L : List Arc} {xs fs : List Int} {ways : Nat}
theorem Sol.sum (h : Sol n L xs fs ways) (k : Okg n L) : sumN (ff fs) L.length = costL xs L := by
  have hA : arcS (gfL n L) (wtL L) (fun v => at_ xs (v : Int)) L.length = arcS (gfL n L) (ff fs) (fun v => at_ xs (v : Int)) L.length := arcS_same k.g h.bal _
  rw [cost_arcS (n := n) xs, hA]
  unfold arcS
  rw [← sumN_neg]
  refine sumN_congr (fun i hi => ?_)
  show ff fs i = -(ff fs i * (at_ xs (frL L i : Int) - at_ xs (ttL L i : Int)))
  rw [← Int.mul_neg]
  by_cases hp : 0 < ff fs i
  · have h1 := h.tight i hi hp
    have e : -(at_ xs (frL L i : Int) - at_ xs (ttL L i : Int)) = 1 := by omega
    rw [e]; omega
  · have h0 : ff fs i = 0 := by have := (h.nn i hi).1; omega
    rw [h0]; omega
theorem Sol.best (h : Sol n L xs fs ways) (k : Okg n L) {ys : List Int} (hf : L.all (fitA ys) = true) : costL xs L ≤ costL ys L := by
  rw [← h.sum k]
  exact flow_le k (fun i hi => (h.nn i hi).1) h.bal hf
theorem Okg.inX (k : Okg n L) : InX L n := fun a ha => by
  obtain ⟨i, hi⟩ := List.getElem?_of_mem ha
  obtain ⟨f, t, x, rfl, h1, h2, h3⟩ := k.arc i a hi
  exact ⟨f, t, rfl, rfl, h1, h2⟩
theorem at_row (x : Nat → Int) {n v : Nat} (hv : v < n) : at_ ((List.range n).map x) (v : Int) = x v := by
  unfold at_
  simp [hv]
theorem ff_row (x : Nat → Int) {n v : Nat} (hv : v < n) : ff ((List.range n).map x) v = x v := by
  unfold ff
  simp [hv]
theorem Sl.at_block {α : Type} {sz : Nat} {enc : α → List Value} {w w' : World} {L : List α} {b o n c : Nat} (h : Sl sz enc w (.slice (some ⟨b, o, none⟩) n c) L) (hk : ∀ off v, w.cell? ⟨b, off, none⟩ = some v → w'.cell? ⟨b, off, none⟩ = some v) : Sl sz enc w' (.slice (some ⟨b, o, none⟩) n c) L := by
  obtain ⟨A, cap, e, h1, h2, h3⟩ := h
  injection e with e1 e2 e3
  subst e1
  subst e3
  refine ⟨_, _, by rw [e2], h1, h2, fun hl => ?_⟩
  obtain ⟨b', off, e4, hc⟩ := h3 hl
  cases e4
  exact ⟨b, o, rfl, fun i a hi r v hv => hk _ _ (hc i a hi r v hv)⟩
/-- What the main loop leaves. -/
theorem Rnd.sol {s : Sv} {wS w : World} {ways : Nat} {left fl x : Nat → Int} (hok : s.ok) (R : Rnd s (wtL s.L) wS (spN (fun v => nf s.G (wtL s.L) v s.L.length) s.n) ways left fl x w) (hS : spN (fun v => nf s.G (wtL s.L) v s.L.length) s.n ≤ 20000000000) {cl : Nat → Bool} (F : Fin s.G left fl cl) :
    Sol s.n s.L (((List.range s.n).map x).map (rkOf ((List.range s.n).map x))) ((List.range s.L.length).map fl) ways := by
  have k := hok.g
  have hw : ∀ i, i < s.L.length → 0 ≤ wtL s.L i := fun i hi => (k.at_ hi).2.2.2.1
  have h0 := R.fin hok hw F
  have hsp0 := spN_nonneg left s.n
  have hfit : s.L.all (fitA ((List.range s.n).map x)) = true := by
    rw [List.all_eq_true]
    intro a ha
    obtain ⟨i, hi⟩ := List.getElem?_of_mem ha
    have hil := (List.getElem?_eq_some_iff.1 hi).1
    obtain ⟨e, h1, h2, -⟩ := k.at_ hil
    rw [e] at hi
    cases hi
    unfold fitA
    simp only [decide_eq_true_eq]
    rw [at_row x h1, at_row x h2]
    have := R.P.sl i hil
    have : 0 ≤ x (ttL s.L i) - x (frL s.L i) - 1 := this
    omega
  have hin : InX s.L ((List.range s.n).map x).length := by
    rw [List.length_map, List.length_range]; exact k.inX
  refine ⟨by simp, by simp, rk_fit hin hfit, rk_again_all _, fun a ha => ?_, fun i hi => ?_, fun u hu => ?_, fun i hi hp => ?_, ?_⟩
  · obtain ⟨b, -, rfl⟩ := List.mem_map.1 ha
    have h1 := rk_nonneg ((List.range s.n).map x) b
    have h2 := rk_le ((List.range s.n).map x) b
    rw [List.length_map, List.length_range] at h2
    exact ⟨h1, h2⟩
  · rw [ff_row fl hi]
    have := R.fb i hi
    have := R.P.nn i hi
    omega
  · have h1 := R.bal u hu
    rw [h0 u hu] at h1
    have h2 : nf (gfL s.n s.L) (ff ((List.range s.L.length).map fl)) u s.L.length = nf (gfL s.n s.L) fl u s.L.length := nf_congr (fun i hi => ff_row fl hi)
    rw [h2]
    have h1 : nf (gfL s.n s.L) (wtL s.L) u s.L.length - nf (gfL s.n s.L) fl u s.L.length = 0 := h1
    omega
  · rw [ff_row fl hi] at hp
    obtain ⟨-, h1, h2, -⟩ := k.at_ hi
    have hs := R.P.cs i hi hp
    have hs : x (ttL s.L i) - x (frL s.L i) - 1 = 0 := hs
    rw [at_map _ (by simpa using h2), at_map _ (by simpa using h1), at_row x h1, at_row x h2]
    have e : x (ttL s.L i) = x (frL s.L i) + 1 := by omega
    rw [e, rk_step, if_pos (List.mem_map.2 ⟨_, List.mem_range.2 h1, rfl⟩)]
    omega
  · have h1 := R.sp
    show (ways : Int) ≤ spN (fun v => nf s.G (wtL s.L) v s.L.length) s.n
    omega
end
end Go.Proofs.YtjgloineooadoaaGreatDoor
/- What each node supplies. -/
namespace Go.Proofs.YtjgloineooadoaaGreatDoor
open Go.RowKit
theorem nf_bd {G : Gf} {g : Nat → Int} {B : Int} (v : Nat) : ∀ m : Nat, (∀ i, i < m → 0 ≤ g i ∧ g i ≤ B) → -(m * B) ≤ nf G g v m ∧ nf G g v m ≤ m * B
  | 0, _ => by simp [nf]
  | m + 1, h => by
    obtain ⟨h1, h2⟩ := nf_bd (G := G) (g := g) (B := B) v m (fun i hi => h i (by omega))
    obtain ⟨h3, h4⟩ := h m (by omega)
    have e : ((m + 1 : Nat) : Int) * B = m * B + B := by push_cast; rw [Int.add_mul, Int.one_mul]
    rw [e]
    simp only [nf, ind]
    split <;> split <;> omega
/-- A right graph of some nodes. -/
theorem okg_of {n : Nat} {L : List Arc} (h : rightB n L = true) (hn : 1 ≤ n) : Okg n L := by
  obtain ⟨m, e, hm, hL, hG⟩ := right_gr h
  have : n = m := by omega
  subst this
  refine ⟨hn, hm, hL, fun i a hi => ?_⟩
  obtain ⟨f, t, x, h1, h2, h3, h4, _⟩ := hG i a hi
  exact ⟨f, t, x, h1, h2, h3, h4⟩
section
variable {w : World} {V : Value} {L : List Arc}
set_option maxRecDepth 100000 in
set_option maxHeartbeats 2000000 in
theorem supply_any (n : Nat) (h : Arcs w V L) (k : Okg n L) (he : ordE n L ≠ 2) :
    Calls Tryz.prog 18 #[.int .i64 (n : Int), V] w fun e w' => ∃ b, e = .returned (.slice (some ⟨b, 0, none⟩) n n) ∧ w.heap.size ≤ b ∧ w'.rowIs b 3 n (fun v => .int .i64 (nf (gfL n L) (wtL L) v L.length)) ∧ Below w.heap.size w w' := by
  have hn0 := k.n0
  have hn1 := k.n1
  have hm1 := k.m1
  have HK := Lib.hid k
  have HH := Lib.hid h
  obtain ⟨A, cap, rfl, -, -, hA⟩ := h.at_
  have HA := Lib.hid hA
  have hmk2 := run_make_row' (P := Tryz.prog) 29 3 (.int .i64 0) 8 Tryz.underlying29 info_int rfl .i64 .i64 n (by omega) (by omega)
  have hne : (ordE n L == 2) = false := by simp; exact he
  clear h hA k he
  go_enter Tryz.func18, Tryz.ntmps18
  go_wp2_with fail
  refine (check_any _ HH.out).mono ?_
  rintro e w0 ⟨rfl, B0⟩
  have HB0 := Lib.hid B0
  clear B0
  go_wp2_with fail
  clear hmk2
  have R0 : (w0.alloc (.cells (madeCells #[.int .i64 0] n) 3)).rowIs w0.heap.size 3 n (fun v => .int .i64 (nf (gfL n L) (wtL L) v 0)) := (World.rowIs_made w0 (.int .i64 0) n 3).congr (fun v _ => by simp [nf])
  have HR0 := Lib.hid R0
  clear R0
  go_loopw [16] (fun q wr => ∃ i : Nat, i ≤ L.length ∧ q = .int .i64 i ∧ wr.rowIs w0.heap.size 3 n (fun v => .int .i64 (nf (gfL n L) (wtL L) v i)) ∧ Below w0.heap.size w0 wr) (fun q _ => L.length - (intOf q).toNat)
  case atStart => exact ⟨0, by omega, rfl, HR0.out, (Below.refl _ _).alloc (Nat.le_refl _) _⟩
  case round =>
    obtain ⟨i, hi, rfl, R, B⟩ := hrel
    obtain ⟨wo, rfl⟩ : ∃ q : World, q = wr := ⟨_, rfl⟩
    have HR := Lib.hid R
    have HB := Lib.hid B
    have hwo := B.size
    have hrl := R.lt
    clear R B
    by_cases hil : i < L.length
    · have hd : decide ((i : Int) < L.length) = true := by simp; omega
      obtain ⟨ba, off, rfl, hc⟩ := HA.out (by omega)
      obtain ⟨hat, hf, ht, hw0, hw1⟩ := HK.out.at_ hil
      obtain ⟨c0, c1, c2⟩ := hc i _ hat
      have c0 := cell_later HB.out (cell_later HB0.out c0)
      have c1 := cell_later HB.out (cell_later HB0.out c1)
      have c2 := cell_later HB.out (cell_later HB0.out c2)
      have HNF : Hid (∀ v, nf (gfL n L) (wtL L) v (i + 1) = nf (gfL n L) (wtL L) v i + ind (frL L i = v) (wtL L i) - ind (ttL L i = v) (wtL L i)) := Lib.hid (fun v => rfl)
      have HBD : Hid (∀ v, -20000000000 ≤ nf (gfL n L) (wtL L) v i ∧ nf (gfL n L) (wtL L) v i ≤ 20000000000) := Lib.hid (fun v => by
        have := nf_bd (G := gfL n L) (g := wtL L) (B := 1000000) v i (fun q hq => by have := HK.out.at_ (i := q) (by omega); omega)
        omega)
      generalize frL L i = f at *
      generalize ttL L i = t at *
      generalize wtL L i = x at *
      obtain ⟨F, hF⟩ : ∃ F : Nat → Int, (fun v => nf (gfL n L) (wtL L) v i) = F := ⟨_, rfl⟩
      have hFv : ∀ v, nf (gfL n L) (wtL L) v i = F v := fun v => by rw [← hF]
      have HR' : Hid (wo.rowIs w0.heap.size 3 n (fun v => .int .i64 (F v))) := Lib.hid (HR.out.congr (fun v _ => by rw [hFv]))
      have HNF' : Hid (∀ v, nf (gfL n L) (wtL L) v (i + 1) = F v + ind (f = v) x - ind (t = v) x) := Lib.hid (fun v => by rw [HNF.out, hFv])
      have bF := HBD.out f
      have bT := HBD.out t
      rw [hFv] at bF bT
      clear HNF HBD HR hF hFv hat hc
      simp only at c0 c1 c2
      obtain ⟨wA, hwA⟩ : ∃ wA, wo.alloc (.cells #[.int .i64 (f : Nat), .int .i64 (t : Nat), .int .i64 x] 40) = wA := ⟨_, rfl⟩
      have BA : Below wo.heap.size wo wA := by rw [← hwA]; exact (Below.refl _ _).alloc (Nat.le_refl _) _
      have hG : wA.heap[wo.heap.size]? = some (.cells #[.int .i64 (f : Nat), .int .i64 (t : Nat), .int .i64 x] 40) := by rw [← hwA]; exact heap_at rfl
      have g0 : wA.cell? ⟨wo.heap.size, 0, none⟩ = some (.int .i64 (f : Nat)) := (Cl.of_block hG (j := 0) rfl).cell
      have g2 : wA.cell? ⟨wo.heap.size, 2, none⟩ = some (.int .i64 x) := (Cl.of_block hG (j := 2) rfl).cell
      have RA := HR'.out.of_block (BA.block _ hrl)
      have q0 := RA.cell hf
      have i1 : (0 : Int) ≤ (i : Int) := by omega
      have i2 : (i : Int) < (L.length : Int) := by omega
      have i3 : (0 : Int) ≤ (f : Int) := by omega
      have i4 : (f : Int) < (n : Int) := by omega
      have i5 : (0 : Int) ≤ (t : Int) := by omega
      have i6 : (t : Int) < (n : Int) := by omega
      have e1 : IntKind.i64.wrap (F f + x) = F f + x := IntWalk.i64_in _ (by omega)
      have HBA := Lib.hid (HB.out.trans (BA.mono hwo))
      have HG := Lib.hid hG
      have HRA := Lib.hid RA
      have hwA2 := HBA.out.size
      clear hG BA RA HR'
      go_upto_region 7 with fail
      clear hwA c0 c1 c2
      go_still_tail 9, (by kernel_rfl)
      change wpList _ _ _ _ _ wA.drew
      have BD : Below wA.heap.size wA wA.drew := (Below.refl _ _).drew
      generalize wA.drew = wd at *
      have fA := (HRA.out.of_block (BD.block _ HRA.out.lt))
      have f1 := fA.frozen f
      have f2 := fA.cell hf
      have HRD := Lib.hid fA
      have HBD := Lib.hid (HBA.out.trans (BD.mono hwA2))
      have HGD := Lib.hid (block_later BD HG.out)
      clear BD fA g0 g2 q0
      obtain ⟨ws, hws⟩ : ∃ ws, wd.setCell ⟨w0.heap.size, f, none⟩ (.int .i64 (F f + x)) = ws := ⟨_, rfl⟩
      have cs : Chg (fun b => b = w0.heap.size) wd ws := by rw [← hws]; exact chg_set _ ⟨w0.heap.size, f, none⟩ _
      have RS : ws.rowIs w0.heap.size 3 n (fun v => .int .i64 (upd F f (F f + x) v)) := by rw [← hws]; exact row_upd (F := fun z => .int .i64 z) HRD.out f (F f + x)
      have hGs : ws.heap[wo.heap.size]? = some (.cells #[.int .i64 (f : Nat), .int .i64 (t : Nat), .int .i64 x] 40) := (cs.block _ (Array.getElem?_eq_some_iff.1 HGD.out).1 (fun e => by omega)).trans HGD.out
      have g1 : ws.cell? ⟨wo.heap.size, 1, none⟩ = some (.int .i64 (t : Nat)) := (Cl.of_block hGs (j := 1) rfl).cell
      have g2 : ws.cell? ⟨wo.heap.size, 2, none⟩ = some (.int .i64 x) := (Cl.of_block hGs (j := 2) rfl).cell
      have q1 := RS.cell ht
      have bU : -40000000000 ≤ upd F f (F f + x) t ∧ upd F f (F f + x) t ≤ 40000000000 := by unfold upd; split <;> omega
      have HRS := Lib.hid RS
      have HBS : Hid (Below w0.heap.size w0 ws) := Lib.hid (by rw [← hws]; exact HBD.out.setCell (p := ⟨w0.heap.size, f, none⟩) (Nat.le_refl _) _)
      obtain ⟨y, hy⟩ : ∃ y, upd F f (F f + x) t = y := ⟨_, rfl⟩
      have HY := Lib.hid hy
      rw [hy] at q1 bU
      have e2 : IntKind.i64.wrap (y - x) = y - x := IntWalk.i64_in _ (by omega)
      clear RS hGs cs hy
      go_upto_region 8 with fail
      clear hws f1 f2
      go_still_tail 9, (by kernel_rfl)
      change wpList _ _ _ _ _ ws.drew
      have BE : Below ws.heap.size ws ws.drew := (Below.refl _ _).drew
      generalize ws.drew = we at *
      have fE := (HRS.out.of_block (BE.block _ HRS.out.lt))
      have f3 := fE.frozen t
      have f4 := fE.cell ht
      have HRE := Lib.hid fE
      have HBE := Lib.hid (HBS.out.trans (BE.mono HBS.out.size))
      clear BE fE g1 g2 q1
      go_wp2_with fail
      refine ⟨⟨i + 1, by omega, by go_num, ?_, HBE.out.setCell (p := ⟨w0.heap.size, t, none⟩) (Nat.le_refl _) _⟩, by simp [intOf]; omega⟩
      refine (row_upd (F := fun z => .int .i64 z) HRE.out t (y - x)).congr (fun v _ => ?_)
      rw [HNF'.out v, ← HY.out]
      congr 1
      unfold upd ind
      by_cases h1 : v = t
      · subst h1
        by_cases h2 : v = f
        · subst h2; simp
        · simp [h2, Ne.symm h2]
      · by_cases h2 : v = f
        · subst h2; simp [h1, Ne.symm h1]
        · simp [h1, h2, Ne.symm h1, Ne.symm h2]
    · obtain rfl : i = L.length := by omega
      have hd : decide ((L.length : Int) < L.length) = false := by simp
      go_wp2_with fail
      go_ret
      exact ⟨_, rfl, HB0.out.size, HR.out, HB0.out.trans (HB.out.mono HB0.out.size)⟩
set_option maxHeartbeats 1000000 in
theorem supply_err (n : Int) (h : Arcs w V L) (he : ordE n L = 2) : Calls Tryz.prog 18 #[.int .i64 n, V] w fun e w' => e = .returned (.slice none 0 0) ∧ Below w.heap.size w w' := by
  have HH := Lib.hid h
  have HE := Lib.hid he
  obtain ⟨A, cap, rfl, -, -, -⟩ := h.at_
  clear h he
  go_enter Tryz.func18, Tryz.ntmps18
  go_wp2_with fail
  refine (check_any _ HH.out).mono ?_
  rw [HE.out]
  rintro e w0 ⟨rfl, B0⟩
  have HB0 := Lib.hid B0
  clear B0
  go_wp2_with fail
  go_ret
  exact ⟨rfl, HB0.out⟩
end
end Go.Proofs.YtjgloineooadoaaGreatDoor
/- The reference's supply. -/
namespace Go.Proofs.YtjgloineooadoaaGreatDoor
open Go.RowKit
theorem upd_two (F : Nat → Int) (f t : Nat) (x : Int) (v : Nat) : upd (upd F f (F f + x)) t (upd F f (F f + x) t - x) v = F v + ind (f = v) x - ind (t = v) x := by
  unfold upd ind
  by_cases h1 : v = t
  · subst h1
    by_cases h2 : v = f
    · subst h2; simp
    · simp [h2, Ne.symm h2]
  · by_cases h2 : v = f
    · subst h2; simp [h1, Ne.symm h1]
    · simp [h1, h2, Ne.symm h1, Ne.symm h2]
theorem upd_two' (F : Nat → Int) (f t : Nat) (x : Int) (v : Nat) : upd (upd F f (F f - x)) t (upd F f (F f - x) t + x) v = F v - ind (f = v) x + ind (t = v) x := by
  unfold upd ind
  by_cases h1 : v = t
  · subst h1
    by_cases h2 : v = f
    · subst h2; simp
    · simp [h2, Ne.symm h2]
  · by_cases h2 : v = f
    · subst h2; simp [h1, Ne.symm h1]
    · simp [h1, h2, Ne.symm h1, Ne.symm h2]
section
variable {w : World} {V Vf : Value} {L : List Arc} {fs : List Int}
set_option maxRecDepth 100000 in
set_option maxHeartbeats 2000000 in
theorem refSupply_any (n : Nat) (h : Arcs w V L) (k : Okg n L) :
    Calls Tryz.prog 52 #[.int .i64 (n : Int), V] w fun e w' => ∃ b, e = .returned (.slice (some ⟨b, 0, none⟩) n n) ∧ w.heap.size ≤ b ∧ w'.rowIs b 3 n (fun v => .int .i64 (nf (gfL n L) (wtL L) v L.length)) ∧ Below w.heap.size w w' := by
  have hn0 := k.n0
  have hn1 := k.n1
  have hm1 := k.m1
  have HK := Lib.hid k
  have HH := Lib.hid h
  obtain ⟨A, cap, rfl, -, -, hA⟩ := h.at_
  have HA := Lib.hid hA
  have hmk2 := run_make_row' (P := Tryz.prog) 29 3 (.int .i64 0) 8 Tryz.underlying29 info_int rfl .i64 .i64 n (by omega) (by omega)
  clear h hA k
  go_enter Tryz.func52, Tryz.ntmps52
  go_wp2_with fail
  clear hmk2
  have R0 : (w.alloc (.cells (madeCells #[.int .i64 0] n) 3)).rowIs w.heap.size 3 n (fun v => .int .i64 (nf (gfL n L) (wtL L) v 0)) := (World.rowIs_made w (.int .i64 0) n 3).congr (fun v _ => by simp [nf])
  have HR0 := Lib.hid R0
  clear R0
  go_loopw [6] (fun q wr => ∃ i : Nat, i ≤ L.length ∧ q = .int .i64 i ∧ wr.rowIs w.heap.size 3 n (fun v => .int .i64 (nf (gfL n L) (wtL L) v i)) ∧ Below w.heap.size w wr) (fun q _ => L.length - (intOf q).toNat)
  case atStart => exact ⟨0, by omega, rfl, HR0.out, (Below.refl _ _).alloc (Nat.le_refl _) _⟩
  case round =>
    obtain ⟨i, hi, rfl, R, B⟩ := hrel
    obtain ⟨wo, rfl⟩ : ∃ q : World, q = wr := ⟨_, rfl⟩
    have HR := Lib.hid R
    have HB := Lib.hid B
    have hwo := B.size
    have hrl := R.lt
    clear R B
    by_cases hil : i < L.length
    · have hd : decide ((i : Int) < L.length) = true := by simp; omega
      obtain ⟨ba, off, rfl, hc⟩ := HA.out (by omega)
      obtain ⟨hat, hf, ht, hw0, hw1⟩ := HK.out.at_ hil
      obtain ⟨c0', c1', c2'⟩ := hc i _ hat
      have hba : ba < w.heap.size := World.block_lt_of_cell? _ _ c0'
      have c0 := cell_later HB.out c0'
      have c1 := cell_later HB.out c1'
      have c2 := cell_later HB.out c2'
      have HNF : Hid (∀ v, nf (gfL n L) (wtL L) v (i + 1) = nf (gfL n L) (wtL L) v i + ind (frL L i = v) (wtL L i) - ind (ttL L i = v) (wtL L i)) := Lib.hid (fun v => rfl)
      have HBD : Hid (∀ v, -20000000000 ≤ nf (gfL n L) (wtL L) v i ∧ nf (gfL n L) (wtL L) v i ≤ 20000000000) := Lib.hid (fun v => by
        have := nf_bd (G := gfL n L) (g := wtL L) (B := 1000000) v i (fun q hq => by have := HK.out.at_ (i := q) (by omega); omega)
        omega)
      generalize frL L i = f at *
      generalize ttL L i = t at *
      generalize wtL L i = x at *
      obtain ⟨F, hF⟩ : ∃ F : Nat → Int, (fun v => nf (gfL n L) (wtL L) v i) = F := ⟨_, rfl⟩
      have hFv : ∀ v, nf (gfL n L) (wtL L) v i = F v := fun v => by rw [← hF]
      have RA : wo.rowIs w.heap.size 3 n (fun v => .int .i64 (F v)) := HR.out.congr (fun v _ => by rw [hFv])
      have HNF' : Hid (∀ v, nf (gfL n L) (wtL L) v (i + 1) = F v + ind (f = v) x - ind (t = v) x) := Lib.hid (fun v => by rw [HNF.out, hFv])
      have bF := HBD.out f
      have bT := HBD.out t
      rw [hFv] at bF bT
      clear HNF HBD HR hF hFv hat hc
      simp only at c0 c1 c2
      have q0 := RA.cell hf
      have i1 : (0 : Int) ≤ (i : Int) := by omega
      have i2 : (i : Int) < (L.length : Int) := by omega
      have i3 : (0 : Int) ≤ (f : Int) := by omega
      have i4 : (f : Int) < (n : Int) := by omega
      have i5 : (0 : Int) ≤ (t : Int) := by omega
      have i6 : (t : Int) < (n : Int) := by omega
      have e1 : IntKind.i64.wrap (F f + x) = F f + x := IntWalk.i64_in _ (by omega)
      have HRA := Lib.hid RA
      have HC1 := Lib.hid c1'
      have HC2 := Lib.hid c2'
      clear RA c0' c1' c2'
      go_upto_region 5 with fail
      clear c1
      go_still_tail 20, (by kernel_rfl)
      change wpList _ _ _ _ _ wo.drew
      have BD : Below wo.heap.size wo wo.drew := (Below.refl _ _).drew
      generalize wo.drew = wd at *
      have fA := (HRA.out.of_block (BD.block _ HRA.out.lt))
      have f1 := fA.frozen f
      have f2 := fA.cell hf
      have HRD := Lib.hid fA
      have HBD := Lib.hid (HB.out.trans (BD.mono hwo))
      clear BD fA q0 c0 c2
      obtain ⟨ws, hws⟩ : ∃ ws, wd.setCell ⟨w.heap.size, f, none⟩ (.int .i64 (F f + x)) = ws := ⟨_, rfl⟩
      have RS : ws.rowIs w.heap.size 3 n (fun v => .int .i64 (upd F f (F f + x) v)) := by rw [← hws]; exact row_upd (F := fun z => .int .i64 z) HRD.out f (F f + x)
      have HBS : Hid (Below w.heap.size w ws) := Lib.hid (by rw [← hws]; exact HBD.out.setCell (p := ⟨w.heap.size, f, none⟩) (Nat.le_refl _) _)
      have g1 := cell_later HBS.out HC1.out
      have g2 := cell_later HBS.out HC2.out
      simp only at g1 g2
      have q1 := RS.cell ht
      have bU : -40000000000 ≤ upd F f (F f + x) t ∧ upd F f (F f + x) t ≤ 40000000000 := by unfold upd; split <;> omega
      have HRS := Lib.hid RS
      obtain ⟨y, hy⟩ : ∃ y, upd F f (F f + x) t = y := ⟨_, rfl⟩
      have HY := Lib.hid hy
      rw [hy] at q1 bU
      have e2 : IntKind.i64.wrap (y - x) = y - x := IntWalk.i64_in _ (by omega)
      clear RS hy
      go_upto_region 6 with fail
      clear hws f1 f2
      go_still_tail 20, (by kernel_rfl)
      change wpList _ _ _ _ _ ws.drew
      have BE : Below ws.heap.size ws ws.drew := (Below.refl _ _).drew
      generalize ws.drew = we at *
      have fE := (HRS.out.of_block (BE.block _ HRS.out.lt))
      have f3 := fE.frozen t
      have f4 := fE.cell ht
      have HRE := Lib.hid fE
      have HBE := Lib.hid (HBS.out.trans (BE.mono HBS.out.size))
      clear BE fE g1 g2 q1
      go_wp2_with fail
      refine ⟨⟨i + 1, by omega, by go_num, ?_, HBE.out.setCell (p := ⟨w.heap.size, t, none⟩) (Nat.le_refl _) _⟩, by simp [intOf]; omega⟩
      refine (row_upd (F := fun z => .int .i64 z) HRE.out t (y - x)).congr (fun v _ => ?_)
      rw [HNF'.out v, ← HY.out, upd_two]
    · obtain rfl : i = L.length := by omega
      have hd : decide ((L.length : Int) < L.length) = false := by simp
      go_wp2_with fail
      go_ret
      exact ⟨_, rfl, Nat.le_refl _, HR.out, HB.out⟩
end
end Go.Proofs.YtjgloineooadoaaGreatDoor
