/- A drawing of too much: its text is refused as such. No program in sight. -/
import Derived.Test.YtkpgjgmlhcipeaaDoorPgN
namespace Go.Proofs.YtkpgjgmlhcipeaaDoor
open Go.RowKit
theorem oneP_bx (B0 : List Bx) (b : Bx) (ho : okL (bxLn b) = true) : oneP (B0, []) (lnB (bxLn b)) = if manyD (B0 ++ [b], []) = true then (6, (B0, [])) else (0, (B0 ++ [b], [])) := by
  have hr := right_bx b
  have e1 : rdP (lnB (bxLn b)) = (0, (bxLn b).1, (bxLn b).2) := rdP_back hr ho
  unfold oneP
  rw [e1]
  simp only [if_true]
  unfold addP bxLn
  obtain ⟨⟨b1, b2⟩, b3, b4⟩ := b
  by_cases hb : (b1, b2) = (b3, b4)
  · cases hb
    simp only [if_true, ptL, pairs]
    rw [if_neg (by decide), if_neg (by simp), if_neg (fun h => absurd h.1 (by decide))]
    simp
  · rw [if_neg hb]
    simp only [ptL, pairs, List.cons_append, List.nil_append]
    rw [if_neg (by decide), if_neg (by simp), if_neg (fun h => hb (by simpa using h.2))]
    simp
theorem oneP_rt (B0 : List Bx) (R0 : List Rt) (b : Rt) (ho : okL (rtLn b) = true) : oneP (B0, R0) (lnB (rtLn b)) = if manyD (B0, R0 ++ [b]) = true then (6, (B0, R0)) else (0, (B0, R0 ++ [b])) := by
  have hr := right_rt b
  have e1 : rdP (lnB (rtLn b)) = (0, (rtLn b).1, (rtLn b).2) := rdP_back hr ho
  unfold oneP
  rw [e1]
  simp only [if_true]
  unfold addP rtLn
  obtain ⟨⟨b1, b2⟩, b3⟩ := b
  simp only [if_true, List.cons_append, List.nil_append, List.getElem?_cons_zero, List.getElem?_cons_succ, Option.getD_some, List.drop_succ_cons, List.drop_zero, pairs_ptL]
theorem goP_step {D D' : Dr} {x : Ln} {i : Nat} {R : List ByteArray} (hr : rightW x.1 x.2.length = true) (h : oneP D (lnB x) = (0, D')) : goP D i (lnB x :: R) = goP D' (i + 1) R := by
  rw [goP, if_neg (lnB_end hr), h]
  simp
theorem goP_six {D D' : Dr} {x : Ln} {i : Nat} {R : List ByteArray} (hr : rightW x.1 x.2.length = true) (h : oneP D (lnB x) = (6, D')) : (goP D i (lnB x :: R)).2.2 = 6 := by
  rw [goP, if_neg (lnB_end hr), h]
  rfl
theorem goP_bx6 : ∀ (bs : List Bx) (B0 : List Bx) (i : Nat) (R : List ByteArray), (bs.map bxLn).all okL = true → B0.length ≤ 4096 → 4096 < B0.length + bs.length → (goP (B0, []) i (bs.map (fun b => lnB (bxLn b)) ++ R)).2.2 = 6
  | [], B0, i, R, _, h1, h2 => by simp at h2; omega
  | b :: bs, B0, i, R, ho, h1, h2 => by
    rw [List.map_cons, List.all_cons, Bool.and_eq_true] at ho
    have hr := right_bx b
    have h3 := oneP_bx B0 b ho.1
    rw [List.map_cons, List.cons_append]
    cases hm : manyD (B0 ++ [b], []) with
    | true =>
      rw [if_pos hm] at h3
      exact goP_six hr h3
    | false =>
      rw [if_neg (by rw [hm]; decide)] at h3
      rw [goP_step hr h3]
      obtain ⟨q1, -, -⟩ := manyD_iff.1 hm
      exact goP_bx6 bs (B0 ++ [b]) (i + 1) R ho.2 q1 (by simp at h2 ⊢; omega)
theorem goP_rt6 : ∀ (rs : List Rt) (B0 : List Bx) (R0 : List Rt) (i : Nat) (R : List ByteArray), (rs.map rtLn).all okL = true → manyD (B0, R0) = false → manyD (B0, R0 ++ rs) = true → (goP (B0, R0) i (rs.map (fun b => lnB (rtLn b)) ++ R)).2.2 = 6
  | [], B0, R0, i, R, _, h1, h2 => by rw [List.append_nil, h1] at h2; cases h2
  | b :: bs, B0, R0, i, R, ho, h1, h2 => by
    rw [List.map_cons, List.all_cons, Bool.and_eq_true] at ho
    have hr := right_rt b
    have h3 := oneP_rt B0 R0 b ho.1
    rw [List.map_cons, List.cons_append]
    cases hm : manyD (B0, R0 ++ [b]) with
    | true =>
      rw [if_pos hm] at h3
      exact goP_six hr h3
    | false =>
      rw [if_neg (by rw [hm]; decide)] at h3
      rw [goP_step hr h3]
      exact goP_rt6 bs B0 (R0 ++ [b]) (i + 1) R ho.2 hm (by simpa using h2)
theorem parse_lines {D : Dr} (ho : (lnsP D).all okL = true) (hs : (textP D).length ≤ 1048576) : parseP (textP D) = goP ([], []) 0 (D.1.map (fun b => lnB (bxLn b)) ++ (D.2.map (fun b => lnB (rtLn b)) ++ [bEnd])) := by
  rw [text_put] at hs ⊢
  obtain ⟨h1, h2⟩ := ln_of (L := txL D) (by simp [txL]) (fun p hp => by
    unfold txL at hp
    rcases List.mem_cons.1 hp with rfl | hp
    · decide
    · rcases List.mem_append.1 hp with hp | hp
      · obtain ⟨x, hx, rfl⟩ := List.mem_map.1 hp
        exact ln_free (right_lns hx) (List.all_eq_true.1 ho x hx)
      · have : p = bEnd := by simpa using hp
        subst this
        decide) hs
  unfold parseP
  rw [if_pos h1, h2]
  unfold txL
  simp only [if_true]
  unfold lnsP
  rw [List.map_append, List.map_map, List.map_map, List.append_assoc]
  rfl
theorem parse_six {D : Dr} (hm : manyD D = true) (ho : (lnsP D).all okL = true) (hs : (textP D).length ≤ 1048576) : (parseP (textP D)).2.2 = 6 := by
  rw [parse_lines ho hs]
  have hsp := ho
  unfold lnsP at hsp
  rw [List.all_append, Bool.and_eq_true] at hsp
  by_cases h1 : D.1.length ≤ 4096
  · have e1 := goP_bx D.1 [] 0 (D.2.map (fun b => lnB (rtLn b)) ++ [bEnd]) hsp.1 (by simpa using h1)
    rw [e1, List.nil_append]
    exact goP_rt6 D.2 D.1 [] _ _ hsp.2 (manyD_iff.2 ⟨h1, by simp, by simp [totP]⟩) (by rw [List.nil_append]; exact hm)
  · exact goP_bx6 D.1 [] 0 _ hsp.1 (by simp) (by simpa using h1)
end Go.Proofs.YtkpgjgmlhcipeaaDoor
