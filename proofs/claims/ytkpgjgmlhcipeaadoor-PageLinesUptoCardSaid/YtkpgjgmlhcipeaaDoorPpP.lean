/- Drawings with few and small numbers: what they are printed as, and read again. No program in sight. -/
import Derived.Test.YtkpgjgmlhcipeaaDoorMovP
namespace Go.Proofs.YtkpgjgmlhcipeaaDoor
open Go.RowKit
def Bd (n : Int) : Prop := -3000000 ≤ n ∧ n ≤ 3000000
/-- A small drawing. -/
structure Smal (D : Dr) : Prop where
  bx : D.1.length ≤ 8
  rt : D.2.length ≤ 8
  pt : ∀ r ∈ D.2, r.2.length ≤ 9
  nb : ∀ b ∈ D.1, Bd b.1.1 ∧ Bd b.1.2 ∧ Bd b.2.1 ∧ Bd b.2.2
  nr : ∀ r ∈ D.2, Bd r.1.1 ∧ Bd r.1.2 ∧ ∀ p ∈ r.2, Bd p.1 ∧ Bd p.2
theorem totP_bd : ∀ (rs : List Rt), (∀ r ∈ rs, r.2.length ≤ 9) → totP rs ≤ 9 * rs.length
  | [], _ => by simp [totP]
  | r :: t, h => by
    have h1 := totP_bd t (fun x hx => h x (List.mem_cons_of_mem _ hx))
    have h2 := h r (by simp)
    unfold totP at h1 ⊢
    rw [List.map_cons, List.sum_cons, List.length_cons]
    omega
theorem Smal.tot {D : Dr} (h : Smal D) : totP D.2 ≤ 72 := by
  have h1 := totP_bd D.2 h.pt
  have h2 := h.rt
  omega
theorem Smal.lns {D : Dr} (h : Smal D) : (∀ x ∈ lnsP D, (∀ n ∈ x.2, Bd n) ∧ x.2.length ≤ 22) ∧ (lnsP D).length ≤ 16 := by
  have h1 := h.bx
  have h2 := h.rt
  refine ⟨fun x hx => ?_, by unfold lnsP; simp; omega⟩
  unfold lnsP at hx
  rcases List.mem_append.1 hx with hx | hx
  · obtain ⟨b, hb, rfl⟩ := List.mem_map.1 hx
    obtain ⟨n1, n2, n3, n4⟩ := h.nb b hb
    unfold bxLn
    split
    · refine ⟨fun n hn => ?_, by simp [ptL]⟩
      simp [ptL] at hn
      rcases hn with rfl | rfl <;> assumption
    · refine ⟨fun n hn => ?_, by simp [ptL]⟩
      simp [ptL] at hn
      rcases hn with rfl | rfl | rfl | rfl <;> assumption
  · obtain ⟨r, hr, rfl⟩ := List.mem_map.1 hx
    obtain ⟨n1, n2, n3⟩ := h.nr r hr
    have hl := h.pt r hr
    have hfl : ∀ L : List Pt, (L.flatMap ptL).length = 2 * L.length := by
      intro L
      induction L with
      | nil => rfl
      | cons a t ih => rw [List.flatMap_cons, List.length_append, ih]; simp [ptL]; omega
    unfold rtLn
    refine ⟨fun n hn => ?_, by rw [List.length_append, hfl]; simp; omega⟩
    rcases List.mem_append.1 hn with hn | hn
    · simp at hn
      rcases hn with rfl | rfl <;> assumption
    · obtain ⟨p, hp, hn⟩ := List.mem_flatMap.1 hn
      have h3 := n3 p hp
      simp [ptL] at hn
      rcases hn with rfl | rfl
      · exact h3.1
      · exact h3.2
theorem Smal.i64 {D : Dr} (h : Smal D) : ∀ x ∈ lnsP D, ∀ n ∈ x.2, I64 n := fun x hx n hn => by
  obtain ⟨h1, h2⟩ := (h.lns.1 x hx).1 n hn
  exact ⟨by omega, by omega⟩
theorem Smal.many {D : Dr} (h : Smal D) : manyD D = false := by
  have h1 := h.bx
  have h2 := h.rt
  have h3 := h.tot
  exact manyD_iff.2 ⟨by omega, by omega, by omega⟩
theorem Smal.print {D : Dr} (h : Smal D) : ((lnsP D).all okL = true ∧ printP D = (textP D, 0) ∧ parseP (textP D) = (D, 0, 0) ∧ (textP D).length ≤ 4000) ∨ ((lnsP D).all okL = false ∧ printP D = ([], 2)) := by
  have hm := h.many
  cases ho : (lnsP D).all okL with
  | true =>
    have hl := text_len ho (fun x hx => (h.lns.1 x hx).2) h.lns.2
    exact .inl ⟨rfl, by unfold printP; rw [hm, ho]; rfl, parse_text hm ho (by omega), hl⟩
  | false => exact .inr ⟨rfl, by unfold printP; rw [hm, ho]; rfl⟩
theorem pairs_mem : ∀ (L : List Int) (p : Pt), p ∈ pairs L → p.1 ∈ L ∧ p.2 ∈ L
  | [], p, h => by simp [pairs] at h
  | [a], p, h => by simp [pairs] at h
  | a :: b :: r, p, h => by
    simp only [pairs, List.mem_cons] at h
    rcases h with rfl | h
    · simp
    · have := pairs_mem r p h
      exact ⟨by simp [this.1], by simp [this.2]⟩
theorem someP_s16 {bs : List Q4t} {rs : List (List Int)} (hb : ∀ q ∈ bs, S16 q.1 ∧ S16 q.2.1 ∧ S16 q.2.2.1 ∧ S16 q.2.2.2) (hr : ∀ r ∈ rs, ∀ n ∈ r, S16 n) : S16D (someP bs rs) := by
  have z : S16 0 := ⟨by omega, by omega⟩
  have gd : ∀ (r : List Int) (i : Nat), (∀ n ∈ r, S16 n) → S16 (r[i]?.getD 0) := by
    intro r i h
    cases e : r[i]? with
    | none => exact z
    | some n => exact h n (List.mem_of_getElem? e)
  refine ⟨fun b h => ?_, fun r h => ?_⟩
  · obtain ⟨q, hq, rfl⟩ := List.mem_map.1 h
    exact hb q (List.mem_of_mem_take hq)
  · obtain ⟨q, hq, rfl⟩ := List.mem_map.1 h
    have h1 := hr q (List.mem_of_mem_take hq)
    refine ⟨gd q 0 h1, gd q 1 h1, fun p hp => ?_⟩
    obtain ⟨k1, k2⟩ := pairs_mem _ p hp
    exact ⟨h1 _ (List.mem_of_mem_take (List.mem_of_mem_drop k1)), h1 _ (List.mem_of_mem_take (List.mem_of_mem_drop k2))⟩
theorem someP_len (bs : List Q4t) (rs : List (List Int)) : (someP bs rs).1.length ≤ 8 ∧ (someP bs rs).2.length ≤ 8 ∧ ∀ r ∈ (someP bs rs).2, r.2.length ≤ 9 := by
  refine ⟨by unfold someP; simp; omega, by unfold someP; simp; omega, fun r h => ?_⟩
  obtain ⟨q, hq, rfl⟩ := List.mem_map.1 h
  exact pts_len q
theorem smal_some {bs : List Q4t} {rs : List (List Int)} (h : S16D (someP bs rs)) : Smal (someP bs rs) := by
  obtain ⟨l1, l2, l3⟩ := someP_len bs rs
  have b : ∀ n, S16 n → Bd n := fun n h => ⟨by have := h.1; omega, by have := h.2; omega⟩
  refine ⟨l1, l2, l3, fun x hx => ?_, fun x hx => ?_⟩
  · obtain ⟨a1, a2, a3, a4⟩ := h.1 x hx
    exact ⟨b _ a1, b _ a2, b _ a3, b _ a4⟩
  · obtain ⟨a1, a2, a3⟩ := h.2 x hx
    exact ⟨b _ a1, b _ a2, fun p hp => ⟨b _ (a3 p hp).1, b _ (a3 p hp).2⟩⟩
theorem smal_moved {bs : List Q4t} {rs : List (List Int)} {c : Int} (h : S16D (someP bs rs)) (h1 : -2000000 ≤ c) (h2 : c ≤ 2000000) : Smal (movD c (someP bs rs)) := by
  obtain ⟨l1, l2, l3⟩ := someP_len bs rs
  have b : ∀ n, S16 n → Bd (n + c) := fun n h => ⟨by have := h.1; omega, by have := h.2; omega⟩
  generalize someP bs rs = D at *
  refine ⟨by unfold movD; simpa using l1, by unfold movD; simpa using l2, fun r hr => ?_, fun x hx => ?_, fun x hx => ?_⟩
  · obtain ⟨q, hq, rfl⟩ := List.mem_map.1 hr
    unfold movRt
    simpa using l3 q hq
  · obtain ⟨q, hq, rfl⟩ := List.mem_map.1 hx
    obtain ⟨a1, a2, a3, a4⟩ := h.1 q hq
    exact ⟨b _ a1, b _ a2, b _ a3, b _ a4⟩
  · obtain ⟨q, hq, rfl⟩ := List.mem_map.1 hx
    obtain ⟨a1, a2, a3⟩ := h.2 q hq
    refine ⟨b _ a1, b _ a2, fun p hp => ?_⟩
    obtain ⟨p', hp', rfl⟩ := List.mem_map.1 hp
    exact ⟨b _ (a3 p' hp').1, b _ (a3 p' hp').2⟩
end Go.Proofs.YtkpgjgmlhcipeaaDoor
