/- Ranks: how many different numbers are less. No program in sight. -/
import Derived.Test.YtimffpnfhkobkaaRanksC
import Derived.Test.YtimffpnfhkobkaaLMovA
namespace Go.Proofs.Ytimffpnfhkobkaa
open Go.Lib
theorem nodup_subI : ∀ (a b : List Int), a.Nodup → (∀ x ∈ a, x ∈ b) → a.length ≤ b.length := by
  intro a
  induction a with
  | nil => intro b _ _; simp
  | cons x a ih =>
    intro b hn hs
    obtain ⟨hx, hn⟩ := List.nodup_cons.1 hn
    have hb : x ∈ b := hs x (by simp)
    have := ih (b.erase x) hn (fun y hy => (List.mem_erase_of_ne (by rintro rfl; exact hx hy)).2 (hs y (by simp [hy])))
    have h2 := List.length_erase_of_mem hb
    have h3 : 0 < b.length := List.length_pos_of_mem hb
    simp only [List.length_cons]
    omega
theorem getI {zs : List Int} {j : Nat} (h : j < zs.length) : zs.toArray[j]! = zs[j] := by simp [h]
theorem sorted_getI {zs : List Int} (hs : zs.Pairwise (· ≤ ·)) {i j : Nat} (hij : i ≤ j) (hj : j < zs.length) : zs[i]'(by omega) ≤ zs[j] := by
  rcases Nat.lt_or_ge i j with h | h
  · exact List.pairwise_iff_getElem.1 hs i j (by omega) hj h
  · have : i = j := by omega
    subst this
    exact Int.le_refl _
/-- Of a sorted list's first m elements: those that are kept. -/
theorem compact_inv {zs : List Int} (hs : zs.Pairwise (· ≤ ·)) : ∀ m, m ≤ zs.length → (∀ x, x ∈ compactUpTo zs.toArray m ↔ x ∈ zs.take m) ∧ (compactUpTo zs.toArray m).Pairwise (· < ·)
  | 0, _ => by simp [compactUpTo]
  | m + 1, hm => by
    obtain ⟨h1, h2⟩ := compact_inv hs m (by omega)
    have ht : zs.take (m + 1) = zs.take m ++ [zs[m]'(by omega)] := List.take_succ_eq_append_getElem (by omega)
    rw [compactUpTo_succ]
    by_cases hk : keeps zs.toArray m = true
    · rw [if_pos hk, getI (by omega)]
      refine ⟨fun x => by rw [ht, List.mem_append, List.mem_append, h1], ?_⟩
      rw [List.pairwise_append]
      refine ⟨h2, by simp, fun x hx y hy => ?_⟩
      have hy' : y = zs[m]'(by omega) := by simpa using hy
      subst hy'
      obtain ⟨j, hj, rfl⟩ := List.getElem_of_mem ((h1 x).1 hx)
      have hj' : j < m := by rw [List.length_take] at hj; omega
      rw [List.getElem_take]
      have hp : zs.toArray[m]! ≠ zs.toArray[m - 1]! := by
        have := hk
        simp only [keeps, decide_eq_true_eq] at this
        rcases this with h | h
        · omega
        · exact h
      rw [getI (by omega), getI (by omega)] at hp
      have a1 := sorted_getI hs (i := j) (j := m - 1) (by omega) (by omega)
      have a2 := sorted_getI hs (i := m - 1) (j := m) (by omega) (by omega)
      omega
    · rw [if_neg hk, List.append_nil]
      refine ⟨fun x => ?_, h2⟩
      rw [h1, ht, List.mem_append]
      refine ⟨.inl, fun h => ?_⟩
      rcases h with h | h
      · exact h
      · have hx : x = zs[m]'(by omega) := by simpa using h
        have hk' : ¬ (m = 0 ∨ zs.toArray[m]! ≠ zs.toArray[m - 1]!) := by simpa [keeps] using hk
        have h0 : m ≠ 0 := fun e => hk' (.inl e)
        have he : zs.toArray[m]! = zs.toArray[m - 1]! := Classical.byContradiction (fun e => hk' (.inr e))
        rw [getI (by omega), getI (by omega)] at he
        rw [hx, he]
        rw [List.mem_iff_getElem]
        exact ⟨m - 1, by rw [List.length_take]; omega, by rw [List.getElem_take]⟩
theorem rks_mem (zs : List Int) (x : Int) : x ∈ rks zs ↔ x ∈ zs := by
  have := (compact_inv (srt_sorted zs) (srt zs).length (Nat.le_refl _)).1 x
  rw [List.take_of_length_le (Nat.le_refl _)] at this
  unfold rks compact
  rw [this]
  exact List.mem_mergeSort
theorem rks_strict (zs : List Int) : (rks zs).Pairwise (· < ·) := (compact_inv (srt_sorted zs) (srt zs).length (Nat.le_refl _)).2
theorem rks_nodup (zs : List Int) : (rks zs).Nodup := (rks_strict zs).imp (fun h => by omega)
/-- A rank is how many there are in any list of the different numbers that are less. -/
theorem rk_unique {zs D : List Int} {z : Int} (hn : D.Nodup) (hm : ∀ x, x ∈ D ↔ x ∈ zs ∧ x < z) : rkOf zs z = (D.length : Nat) := by
  unfold rkOf
  rw [List.countP_eq_length_filter]
  have e : ((rks zs).filter fun x => decide (x < z)).length = D.length := by
    apply Nat.le_antisymm
    · refine nodup_subI _ _ ((rks_nodup zs).filter _) (fun x hx => ?_)
      obtain ⟨h1, h2⟩ := List.mem_filter.1 hx
      exact (hm x).2 ⟨(rks_mem zs x).1 h1, by simpa using h2⟩
    · refine nodup_subI _ _ hn (fun x hx => ?_)
      obtain ⟨h1, h2⟩ := (hm x).1 hx
      exact List.mem_filter.2 ⟨(rks_mem zs x).2 h1, by simpa using h2⟩
  rw [e]
theorem countP_step (R : List Int) (a : Int) : R.countP (· < a + 1) = R.countP (· < a) + R.count a := by
  induction R with
  | nil => simp
  | cons b R ih =>
    rw [List.countP_cons, List.countP_cons, List.count_cons, ih]
    by_cases h1 : b < a
    · have h2 : b < a + 1 := by omega
      have h3 : ¬ b = a := by omega
      simp [h1, h2, h3]
      omega
    · by_cases h3 : b = a
      · subst h3
        have h2 : b < b + 1 := by omega
        simp [h2]
        omega
      · have h2 : ¬ b < a + 1 := by omega
        simp [h1, h2, h3]
theorem rk_step (zs : List Int) (a : Int) : rkOf zs (a + 1) = rkOf zs a + if a ∈ zs then 1 else 0 := by
  unfold rkOf
  rw [countP_step]
  by_cases h : a ∈ zs
  · rw [if_pos h, (rks_nodup zs).count, if_pos ((rks_mem zs a).2 h)]
    omega
  · rw [if_neg h, List.count_eq_zero_of_not_mem (fun q => h ((rks_mem zs a).1 q))]
    omega
theorem rk_diff (zs : List Int) (a : Int) : ∀ k : Nat, rkOf zs a ≤ rkOf zs (a + k) ∧ rkOf zs (a + k) ≤ rkOf zs a + k
  | 0 => by simp
  | k + 1 => by
    obtain ⟨h1, h2⟩ := rk_diff zs a k
    have := rk_step zs (a + k)
    have e : a + (k : Int) + 1 = a + ((k + 1 : Nat) : Int) := by omega
    rw [e] at this
    split at this <;> omega
theorem rk_mono (zs : List Int) {a b : Int} (h : a ≤ b) : rkOf zs a ≤ rkOf zs b ∧ rkOf zs b - rkOf zs a ≤ b - a := by
  have := rk_diff zs a (b - a).toNat
  have e : a + ((b - a).toNat : Int) = b := by omega
  rw [e] at this
  omega
theorem rk_lt (zs : List Int) {a b : Int} (ha : a ∈ zs) (h : a < b) : rkOf zs a < rkOf zs b := by
  have h1 := rk_step zs a
  rw [if_pos ha] at h1
  have h2 := (rk_mono zs (show a + 1 ≤ b by omega)).1
  omega
theorem rk_nonneg (zs : List Int) (a : Int) : 0 ≤ rkOf zs a := by unfold rkOf; omega
theorem rk_le (zs : List Int) (a : Int) : rkOf zs a ≤ zs.length := by
  unfold rkOf
  have h1 := List.countP_le_length (p := fun x => decide (x < a)) (l := rks zs)
  have h2 := rks_length zs
  omega
/-- Below a rank there is no gap. -/
theorem rk_gap (zs : List Int) : ∀ (n : Nat) (z : Int), rkOf zs z = (n : Nat) → ∀ k : Nat, k < n → ∃ x, x ∈ zs ∧ x < z ∧ rkOf zs x = (k : Nat) := by
  intro n
  induction n with
  | zero => intro z _ k hk; omega
  | succ n ih =>
    intro z hz k hk
    have hex : ∃ x, x ∈ zs ∧ x < z ∧ rkOf zs x = (n : Nat) := by
      have hpos : 0 < ((rks zs).filter fun x => decide (x < z)).length := by
        have := hz
        unfold rkOf at this
        rw [List.countP_eq_length_filter] at this
        omega
      obtain ⟨x, hx, hmax⟩ : ∃ x, x ∈ (rks zs).filter (fun x => decide (x < z)) ∧ ∀ y ∈ (rks zs).filter (fun x => decide (x < z)), y ≤ x := by
        have key : ∀ l : List Int, 0 < l.length → ∃ x, x ∈ l ∧ ∀ y ∈ l, y ≤ x := by
          intro l
          induction l with
          | nil => simp
          | cons a l ih2 =>
            intro _
            by_cases hl : 0 < l.length
            · obtain ⟨x, h1, h2⟩ := ih2 hl
              by_cases hax : a ≤ x
              · exact ⟨x, by simp [h1], fun y hy => by rcases List.mem_cons.1 hy with rfl | hy; exact hax; exact h2 y hy⟩
              · exact ⟨a, by simp, fun y hy => by rcases List.mem_cons.1 hy with rfl | hy; exact Int.le_refl _; have := h2 y hy; omega⟩
            · have : l = [] := List.length_eq_zero_iff.1 (by omega)
              subst this
              exact ⟨a, by simp, by simp⟩
        exact key _ hpos
      obtain ⟨h1, h2⟩ := List.mem_filter.1 hx
      have h2' : x < z := by simpa using h2
      have hxz := (rks_mem zs x).1 h1
      refine ⟨x, hxz, h2', ?_⟩
      have h3 := rk_step zs x
      rw [if_pos hxz] at h3
      have h4 : rkOf zs (x + 1) = rkOf zs z := by
        unfold rkOf
        congr 1
        apply List.countP_congr
        intro y hy
        simp only [decide_eq_true_eq]
        constructor
        · intro h; omega
        · intro h
          have := hmax y (List.mem_filter.2 ⟨hy, by simpa using h⟩)
          omega
      rw [h4, hz] at h3
      omega
    obtain ⟨x, h1, h2, h3⟩ := hex
    by_cases e : k = n
    · subst e; exact ⟨x, h1, h2, h3⟩
    · obtain ⟨y, g1, g2, g3⟩ := ih x h3 k (by omega)
      exact ⟨y, g1, by omega, g3⟩
/-- Ranks of ranks are the ranks. -/
theorem rk_again (zs : List Int) (z : Int) : rkOf (zs.map (rkOf zs)) (rkOf zs z) = rkOf zs z := by
  obtain ⟨n, hn⟩ : ∃ n : Nat, rkOf zs z = n := ⟨(rkOf zs z).toNat, by have := rk_nonneg zs z; omega⟩
  have h := rk_unique (zs := zs.map (rkOf zs)) (D := (List.range n).map (fun k : Nat => (k : Int))) (z := rkOf zs z)
    (by
      exact List.pairwise_map.2 (List.nodup_range.imp (fun h e => h (by omega))))
    (fun x => by
      simp only [List.mem_map, List.mem_range]
      constructor
      · rintro ⟨k, hk, rfl⟩
        obtain ⟨y, h1, h2, h3⟩ := rk_gap zs n z hn k hk
        exact ⟨⟨y, h1, h3⟩, by omega⟩
      · rintro ⟨⟨y, h1, rfl⟩, h2⟩
        exact ⟨(rkOf zs y).toNat, by have := rk_nonneg zs y; omega, by have := rk_nonneg zs y; omega⟩)
  rw [h, hn]
  simp
theorem rk_again_all (zs : List Int) : (zs.map (rkOf zs)).map (rkOf (zs.map (rkOf zs))) = zs.map (rkOf zs) := by
  rw [List.map_map]
  exact List.map_congr_left (fun z _ => rk_again zs z)
theorem at_mem {l : List Int} {i : Nat} (h : i < l.length) : at_ l (i : Int) ∈ l := by
  unfold at_
  simp [h]
/-- Ranks of coordinates that fit fit, and cost no more. -/
theorem rk_fit {L : List Arc} {l : List Int} (hin : InX L l.length) (hf : L.all (fitA l) = true) : L.all (fitA (l.map (rkOf l))) = true := by
  rw [List.all_eq_true] at *
  intro a ha
  have h := hf a ha
  obtain ⟨x, y, h1, h2, h3, h4⟩ := hin a ha
  unfold fitA at h ⊢
  rw [h1, h2] at h ⊢
  rw [at_map _ h3, at_map _ h4]
  simp only [decide_eq_true_eq] at h ⊢
  exact rk_lt l (at_mem h3) h
theorem rk_cost {l : List Int} : ∀ {L : List Arc}, InX L l.length → (∀ a ∈ L, 0 ≤ a.2.2) → L.all (fitA l) = true → costL (l.map (rkOf l)) L ≤ costL l L := by
  intro L
  induction L with
  | nil => intro _ _ _; simp [costL]
  | cons a L ih =>
    intro hin hw hf
    simp only [List.all_cons, Bool.and_eq_true] at hf
    obtain ⟨x, y, h1, h2, h3, h4⟩ := hin a (by simp)
    have h5 := ih hin.tail (fun b hb => hw b (by simp [hb])) hf.2
    have h6 := hf.1
    unfold fitA at h6
    simp only [decide_eq_true_eq] at h6
    simp only [costL]
    rw [h1, h2] at h6 ⊢
    rw [at_map _ h3, at_map _ h4]
    have h7 := (rk_mono l (show at_ l (x : Int) ≤ at_ l (y : Int) by omega)).2
    have h8 := Int.mul_le_mul_of_nonneg_left h7 (hw a (by simp))
    omega
end Go.Proofs.Ytimffpnfhkobkaa
