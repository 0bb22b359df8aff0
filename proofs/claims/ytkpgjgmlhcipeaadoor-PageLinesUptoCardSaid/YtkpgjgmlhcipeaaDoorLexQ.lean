/- Digits of a number, read again. No program in sight. -/
import Derived.Test.YtkpgjgmlhcipeaaDoorLexP
namespace Go.Proofs.YtkpgjgmlhcipeaaDoor
open Go
theorem dig_small {u : Nat} (h : u < 10) : Lib.decDigits u = [UInt8.ofNat (48 + u)] := by rw [Lib.decDigits, dif_pos h]
theorem dig_big {u : Nat} (h : ¬u < 10) : Lib.decDigits u = Lib.decDigits (u / 10) ++ [UInt8.ofNat (48 + u % 10)] := by rw [Lib.decDigits, dif_neg h]
theorem dv_of {d : Nat} (h : d < 10) : Lib.digitVal (UInt8.ofNat (48 + d)) = some d := by
  have e : (UInt8.ofNat (48 + d)).toNat = 48 + d := by
    rw [UInt8.toNat_ofNat']
    omega
  unfold Lib.digitVal
  rw [e, if_pos (by omega)]
  congr 1
  omega
theorem dec_app : ∀ (l r : List UInt8) (acc : Nat), Lib.decFrom acc (l ++ r) = (Lib.decFrom acc l).bind fun m => Lib.decFrom m r
  | [], r, acc => rfl
  | b :: l, r, acc => by
    show (match Lib.digitVal b with | some d => Lib.decFrom (acc * 10 + d) (l ++ r) | none => none) = (match Lib.digitVal b with | some d => Lib.decFrom (acc * 10 + d) l | none => none).bind _
    cases Lib.digitVal b with
    | none => rfl
    | some d => exact dec_app l r _
theorem dec_snoc {l : List UInt8} {b : UInt8} {acc m d : Nat} (h : Lib.decFrom acc l = some m) (hb : Lib.digitVal b = some d) : Lib.decFrom acc (l ++ [b]) = some (m * 10 + d) := by
  rw [dec_app, h]
  show (match Lib.digitVal b with | some d => Lib.decFrom (m * 10 + d) [] | none => none) = _
  rw [hb]
  rfl
theorem dec_digits (u : Nat) : Lib.decFrom 0 (Lib.decDigits u) = some u := by
  induction u using Nat.strongRecOn with
  | ind u ih =>
    by_cases h : u < 10
    · rw [dig_small h]
      have := dec_snoc (l := []) (acc := 0) (m := 0) rfl (dv_of h)
      simpa using this
    · rw [dig_big h, dec_snoc (ih (u / 10) (by omega)) (dv_of (by omega))]
      congr 1
      omega
theorem dig_len : ∀ (k u : Nat), u < 10 ^ (k + 1) → (Lib.decDigits u).length ≤ k + 1
  | 0, u, h => by rw [dig_small (by simpa using h)]; simp
  | k + 1, u, h => by
    by_cases h10 : u < 10
    · rw [dig_small h10]; simp
    · rw [dig_big h10]
      have := dig_len k (u / 10) (by rw [Nat.pow_succ] at h; omega)
      simp
      omega
theorem dig_pos (u : Nat) : 1 ≤ (Lib.decDigits u).length := by
  by_cases h : u < 10
  · rw [dig_small h]; simp
  · rw [dig_big h]; simp
theorem dig_head (u : Nat) (hu : 1 ≤ u) : (Lib.decDigits u)[0]? ≠ some 48 := by
  induction u using Nat.strongRecOn with
  | ind u ih =>
    by_cases h : u < 10
    · rw [dig_small h]
      intro e
      have e2 : UInt8.ofNat (48 + u) = 48 := by simpa using e
      have := dv_of h
      rw [e2] at this
      have : (0 : Nat) = u := by simpa [Lib.digitVal] using this
      omega
    · rw [dig_big h, List.getElem?_append_left (dig_pos _)]
      exact ih (u / 10) (by omega) (by omega)
theorem dv_back {b : UInt8} {d : Nat} (h : Lib.digitVal b = some d) : d < 10 ∧ UInt8.ofNat (48 + d) = b := by
  unfold Lib.digitVal at h
  split at h
  · rename_i h1
    cases h
    refine ⟨by omega, ?_⟩
    rw [show 48 + (b.toNat - 48) = b.toNat by omega]
    exact UInt8.ofNat_toNat
  · cases h
theorem dig_canon : ∀ (n : Nat) (l : List UInt8) (m : Nat), l.length = n + 1 → Lib.decFrom 0 l = some m → (l.length = 1 ∨ l[0]? ≠ some 48) → Lib.decDigits m = l
  | 0, l, m, hl, h, _ => by
    match l, hl with
    | [b], _ =>
      cases hb : Lib.digitVal b with
      | none => simp [Lib.decFrom, hb] at h
      | some d =>
        obtain ⟨h1, h2⟩ := dv_back hb
        have : d = m := by simpa [Lib.decFrom, hb] using h
        subst this
        rw [dig_small h1, h2]
  | n + 1, l, m, hl, h, hh => by
    have hne : l ≠ [] := by intro e; subst e; simp at hl
    obtain ⟨r, b, rfl⟩ : ∃ r b, l = r ++ [b] := ⟨l.dropLast, l.getLast hne, (List.dropLast_concat_getLast hne).symm⟩
    have hr : r.length = n + 1 := by simpa using hl
    rw [dec_app] at h
    cases hm : Lib.decFrom 0 r with
    | none => rw [hm] at h; cases h
    | some m1 =>
      rw [hm] at h
      have h' : (match Lib.digitVal b with | some d => some (m1 * 10 + d) | none => none) = some m := h
      cases hb : Lib.digitVal b with
      | none => rw [hb] at h'; cases h'
      | some d =>
        rw [hb] at h'
        cases h'
        obtain ⟨h1, h2⟩ := dv_back hb
        have h0 : r[0]? ≠ some 48 := by
          rcases hh with hh | hh
          · have e : (r ++ [b]).length = r.length + 1 := by simp
            omega
          · rwa [List.getElem?_append_left (by omega)] at hh
        have ih := dig_canon n r m1 hr hm (.inr h0)
        have hm1 : m1 ≠ 0 := by
          intro e
          subst e
          rw [dig_small (by decide)] at ih
          rw [← ih] at h0
          exact h0 rfl
        rw [dig_big (by omega), show (m1 * 10 + d) / 10 = m1 by omega, show (m1 * 10 + d) % 10 = d by omega, ih, h2]
theorem numO_some {l : List UInt8} {most : Int} {m : Nat} (h : numO l most = some m) : (1 ≤ l.length ∧ l.length ≤ 7 ∧ ¬(1 < l.length ∧ l[0]? = some 48)) ∧ Lib.decFrom 0 l = some m ∧ (m : Int) ≤ most := by
  unfold numO at h
  split at h
  · rename_i h1
    cases hd : Lib.decFrom 0 l with
    | none => rw [hd] at h; cases h
    | some k =>
      rw [hd] at h
      have h' : (if (k : Int) ≤ most then some k else none) = some m := h
      split at h'
      · cases h'; exact ⟨h1, rfl, by assumption⟩
      · cases h'
  · cases h
theorem numO_of {l : List UInt8} {most : Int} {m : Nat} (h1 : 1 ≤ l.length ∧ l.length ≤ 7 ∧ ¬(1 < l.length ∧ l[0]? = some 48)) (h2 : Lib.decFrom 0 l = some m) : numO l most = if (m : Int) ≤ most then some m else none := by
  unfold numO
  rw [if_pos h1, h2]
theorem numO_bad {l : List UInt8} {most : Int} (h : Lib.decFrom 0 l = none) : numO l most = none := by
  unfold numO
  split
  · rw [h]
  · rfl
theorem numO_shape {l : List UInt8} {most : Int} (h : ¬(1 ≤ l.length ∧ l.length ≤ 7 ∧ ¬(1 < l.length ∧ l[0]? = some 48))) : numO l most = none := by
  unfold numO
  rw [if_neg h]
/-- Whatever is read is printed again. -/
theorem numO_itoa {l : List UInt8} {most : Int} {m : Nat} (h : numO l most = some m) : Lib.itoa (m : Int) = l := by
  obtain ⟨⟨h1, h2, h3⟩, h4, -⟩ := numO_some h
  rw [Lib.itoa_nonneg]
  exact dig_canon (l.length - 1) l m (by omega) h4 (by
    by_cases e : l.length = 1
    · exact .inl e
    · exact .inr (fun e2 => h3 ⟨by omega, e2⟩))
/-- Digits of any number are read as it, if they may be. -/
theorem itoa_numO (n : Int) (most : Int) (hm : most ≤ 9999999) : numO (Lib.itoa n) most = if 0 ≤ n ∧ n ≤ most then some n.toNat else none := by
  by_cases h0 : 0 ≤ n
  · obtain ⟨u, rfl⟩ : ∃ u : Nat, n = u := ⟨n.toNat, by omega⟩
    rw [Lib.itoa_nonneg]
    by_cases hu : u ≤ 9999999
    · rw [numO_of ⟨dig_pos u, dig_len 6 u (by omega), ?_⟩ (dec_digits u)]
      · by_cases hl : (u : Int) ≤ most
        · rw [if_pos hl, if_pos ⟨h0, hl⟩]; simp
        · rw [if_neg hl, if_neg (fun h => hl h.2)]
      · rintro ⟨h1, h2⟩
        by_cases hz : u = 0
        · subst hz
          rw [dig_small (by decide)] at h1
          simp at h1
        · exact dig_head u (by omega) h2
    · rw [if_neg (fun h => by omega)]
      cases hq : numO (Lib.decDigits u) most with
      | none => rfl
      | some m =>
        obtain ⟨-, h4, h5⟩ := numO_some hq
        rw [dec_digits] at h4
        cases h4
        omega
  · rw [if_neg (fun h => h0 h.1)]
    refine numO_bad (dec_bad _ 0 ?_)
    unfold Lib.itoa
    rw [if_pos (by omega), List.any_cons]
    rfl
end Go.Proofs.YtkpgjgmlhcipeaaDoor
