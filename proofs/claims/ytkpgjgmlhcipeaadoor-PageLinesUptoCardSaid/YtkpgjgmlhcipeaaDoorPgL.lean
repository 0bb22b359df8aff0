/- What a drawing is printed as; what is parsed is printed as that text. No program in sight. -/
import Derived.Test.YtkpgjgmlhcipeaaDoorPgP
import Derived.Test.YtkpgjgmlhcipeaaDoorLBak
namespace Go.Proofs.YtkpgjgmlhcipeaaDoor
open Go.RowKit
def numB (n : Int) : List UInt8 := 32 :: Lib.itoa n
def ptL (p : Pt) : List Int := [p.1, p.2]
abbrev Ln := ByteArray × List Int
def lineB (x : Ln) : List UInt8 := x.1.data.toList ++ x.2.flatMap numB ++ [10]
def bxLn (b : Bx) : Ln := if b.1 = b.2 then (bPoint, ptL b.1) else (bBox, ptL b.1 ++ ptL b.2)
def rtLn (r : Rt) : Ln := (bRoute, [r.1.1, r.1.2] ++ r.2.flatMap ptL)
def lnsP (D : Dr) : List Ln := D.1.map bxLn ++ D.2.map rtLn
def okN (n : Int) : Bool := decide (0 ≤ n) && decide (n ≤ 1000000)
def okL (x : Ln) : Bool := x.2.all okN
def textP (D : Dr) : List UInt8 := bDrawing.data.toList ++ [10] ++ (lnsP D).flatMap lineB ++ (bEnd.data.toList ++ [10])
/-- What a drawing is printed as: the text, the error. -/
def printP (D : Dr) : List UInt8 × Int := if manyD D = true then ([], 6) else if (lnsP D).all okL = true then (textP D, 0) else ([], 2)
theorem numsO_tail : ∀ (r : List ByteArray) (ns : List Int), numsO r = some ns → Lib.joinTail [32] (r.map (·.data.toList)) = ns.flatMap numB ∧ ns.all okN = true
  | [], ns, h => by
    cases h
    exact ⟨rfl, rfl⟩
  | s :: r, ns, h => by
    unfold numsO at h
    split at h
    · rename_i v l h1 h2
      cases h
      obtain ⟨e1, e2⟩ := numsO_tail r l h2
      have e3 := numO_itoa h1
      have e4 := (numO_some h1).2.2
      constructor
      · simp only [Lib.joinTail, List.map_cons, List.flatten_cons, List.flatMap_cons] at e1 ⊢
        rw [e1]
        simp only [numB, e3, List.cons_append, List.nil_append]
      · rw [List.all_cons, e2, Bool.and_true]
        unfold okN
        simp only [Bool.and_eq_true, decide_eq_true_eq]
        omega
    · cases h
theorem rdP_line {s w : ByteArray} {ns : List Int} (h : rdP s = (0, w, ns)) : s.data.toList ++ [10] = lineB (w, ns) ∧ okL (w, ns) = true ∧ rightW w ns.length = true := by
  have hr := rdP_right h
  unfold rdP at h
  split at h
  · rename_i hw
    obtain ⟨-, hj⟩ := word_join hw
    split at h
    · cases h
    · rename_i a r hl
      split at h
      · split at h
        · rename_i ns' hn
          cases h
          obtain ⟨e1, e2⟩ := numsO_tail _ _ hn
          rw [hl, List.map_cons, Lib.join_cons, e1] at hj
          exact ⟨by rw [← hj]; rfl, e2, hr⟩
        · cases h
      · cases h
  · cases h
theorem pairs_flat : ∀ (k : Nat) (l : List Int), l.length = 2 * k → (pairs l).flatMap ptL = l
  | 0, l, h => by
    have : l = [] := List.eq_nil_of_length_eq_zero (by omega)
    subst this; rfl
  | k + 1, [], h => by simp at h
  | k + 1, [a], h => by simp at h; omega
  | k + 1, a :: b :: r, h => by
    have := pairs_flat k r (by simp at h; omega)
    simp [pairs, ptL] at this ⊢
    exact this
theorem len_two {l : List Int} (h : l.length = 2) : ∃ a b, l = [a, b] := by
  match l, h with
  | [a, b], _ => exact ⟨a, b, rfl⟩
theorem len_four {l : List Int} (h : l.length = 4) : ∃ a b c d, l = [a, b, c, d] := by
  match l, h with
  | [a, b, c, d], _ => exact ⟨a, b, c, d, rfl⟩
theorem addP_lns {D : Dr} {w : ByteArray} {ns : List Int} (hr : rightW w ns.length = true) (h : (addP D w ns).1 = 0) : lnsP (addP D w ns).2 = lnsP D ++ [(w, ns)] ∧ manyD (addP D w ns).2 = false := by
  have hm := addP_ok (D := D) (D' := (addP D w ns).2) (w := w) (ns := ns) (by rw [← h])
  refine ⟨?_, hm⟩
  unfold rightW at hr
  simp only [Bool.or_eq_true, Bool.and_eq_true, decide_eq_true_eq] at hr
  clear hm
  unfold addP at h ⊢
  rcases hr with (⟨rfl, hl⟩ | ⟨rfl, hl⟩) | ⟨⟨rfl, h1⟩, h2⟩
  · obtain ⟨a, b, rfl⟩ := len_two hl
    rw [if_neg (by decide)] at h ⊢
    split at h
    · cases h
    · rename_i h0
      rw [if_neg h0]
      rw [if_neg (fun h => absurd h.1 (by decide))] at h ⊢
      split at h
      · cases h
      · rename_i h5
        rw [if_neg h5]
        have e : D.2 = [] := List.eq_nil_of_length_eq_zero (by omega)
        unfold lnsP
        rw [e]
        simp [pairs, bxLn, ptL]
  · obtain ⟨a, b, c, d, rfl⟩ := len_four hl
    rw [if_neg (by decide)] at h ⊢
    split at h
    · cases h
    · rename_i h0
      rw [if_neg h0]
      split at h
      · cases h
      · rename_i h4
        rw [if_neg h4]
        split at h
        · cases h
        · rename_i h5
          rw [if_neg h5]
          have e : D.2 = [] := List.eq_nil_of_length_eq_zero (by omega)
          have hn : ¬((a, b) = (c, d)) := fun e => h4 ⟨rfl, by simpa [pairs] using e⟩
          unfold lnsP
          rw [e]
          simp only [pairs, bxLn, ptL, List.map_append, List.map_cons, List.map_nil, List.append_nil, List.getElem?_cons_zero, Option.getD_some, List.length_cons, List.length_nil, Nat.add_sub_cancel, Nat.zero_add, List.getElem?_cons_succ]
          rw [if_neg hn]
          rfl
  · rw [if_pos rfl] at h ⊢
    split at h
    · cases h
    · rename_i h5
      rw [if_neg h5]
      match ns, h1, h2 with
      | a :: b :: r, h1, h2 =>
        have e := pairs_flat (r.length / 2) r (by simp at h2; omega)
        unfold lnsP
        simp only [List.map_append, List.map_cons, List.map_nil, rtLn, List.drop_succ_cons, List.drop_zero, e, List.append_assoc, List.getElem?_cons_zero, List.getElem?_cons_succ, Option.getD_some]
        rfl
theorem goP_back : ∀ (ls : List ByteArray) (D : Dr) (i : Nat), (goP D i ls).2.2 = 0 → manyD D = false → (lnsP D).all okL = true →
    (lnsP D).flatMap lineB ++ putL ls = (lnsP (goP D i ls).1).flatMap lineB ++ (bEnd.data.toList ++ [10]) ∧ manyD (goP D i ls).1 = false ∧ (lnsP (goP D i ls).1).all okL = true
  | [], D, i, h, _, _ => by cases h
  | s :: r, D, i, h, hm, ho => by
    unfold goP at h ⊢
    split at h
    · rename_i hs
      rw [if_pos hs]
      split at h
      · rename_i hr
        rw [if_pos hr, hr, hs]
        exact ⟨rfl, hm, ho⟩
      · cases h
    · rename_i hs
      rw [if_neg hs]
      split at h
      · rename_i h0
        rw [if_pos h0]
        have hrd : (rdP s).1 = 0 := by
          unfold oneP at h0
          split at h0
          · assumption
          · exact h0
        have h1 : oneP D s = addP D (rdP s).2.1 (rdP s).2.2 := by unfold oneP; rw [if_pos hrd]
        obtain ⟨e1, e2, e3⟩ := rdP_line (s := s) (w := (rdP s).2.1) (ns := (rdP s).2.2) (by rw [← hrd])
        have h2 : (addP D (rdP s).2.1 (rdP s).2.2).1 = 0 := by rw [← h1]; exact h0
        obtain ⟨f1, f2⟩ := addP_lns e3 h2
        rw [h1] at h ⊢
        have ih := goP_back r _ (i + 1) h f2 (by rw [f1, List.all_append, ho, List.all_cons, e2]; rfl)
        refine ⟨?_, ih.2⟩
        rw [← ih.1, f1, List.flatMap_append, List.append_assoc]
        congr 1
        show (s.data.toList ++ [10]) ++ putL r = _
        rw [e1]
        simp [putL]
      · rename_i h0
        exact absurd h h0
theorem parse_back {l : List UInt8} (h : (parseP l).2.2 = 0) : printP (parseP l).1 = (l, 0) := by
  by_cases h0 : lnE l = 0
  · have hp := (put_all h0).1
    unfold parseP at h ⊢
    rw [if_pos h0] at h ⊢
    split at h
    · cases h
    · rename_i x r hl
      rw [hl] at hp
      split at h
      · rename_i hd
        rw [if_pos hd]
        obtain ⟨e1, e2, e3⟩ := goP_back r _ _ h (by decide) (by decide)
        unfold printP
        rw [if_neg (by rw [e2]; decide), if_pos e3]
        congr 1
        rw [← hp, hd]
        unfold textP
        rw [List.append_assoc, ← e1]
        simp [putL, lnsP]
      · cases h
  · unfold parseP at h
    rw [if_neg h0] at h
    exact absurd h h0
theorem goP_err : ∀ (ls : List ByteArray) (D : Dr) (i : Nat), (goP D i ls).2.2 ≠ 0 → (goP D i ls).1 = ([], []) ∧ 0 ≤ (goP D i ls).2.1 ∧ (goP D i ls).2.1 ≤ (i : Int) + ls.length + 2
  | [], D, i, _ => ⟨rfl, by show (0 : Int) ≤ (i : Int) + 2; omega, by show (i : Int) + 2 ≤ _; simp⟩
  | s :: r, D, i, h => by
    unfold goP at h ⊢
    split at h
    · rename_i hs
      rw [if_pos hs]
      split at h
      · exact absurd rfl h
      · rename_i hr
        rw [if_neg hr]
        refine ⟨rfl, ?_, ?_⟩
        · show (0 : Int) ≤ (i : Int) + 3; omega
        · show (i : Int) + 3 ≤ _
          simp; omega
    · rename_i hs
      rw [if_neg hs]
      split at h
      · rename_i h0
        rw [if_pos h0]
        have ih := goP_err r _ (i + 1) h
        refine ⟨ih.1, ih.2.1, ?_⟩
        have := ih.2.2
        simp only [List.length_cons] at this ⊢
        omega
      · rename_i h0
        rw [if_neg h0]
        refine ⟨rfl, ?_, ?_⟩
        · show (0 : Int) ≤ (i : Int) + 2; omega
        · show (i : Int) + 2 ≤ _
          simp only [List.length_cons]; omega
theorem parse_err {s : ByteArray} (h : (parseP s.data.toList).2.2 ≠ 0) : (parseP s.data.toList).1 = ([], []) ∧ 0 ≤ (parseP s.data.toList).2.1 ∧ (parseP s.data.toList).2.1 ≤ (Lib.countB s ⟨#[10]⟩ : Int) + 1 := by
  obtain ⟨l, hl⟩ : ∃ l, s.data.toList = l := ⟨_, rfl⟩
  have hc := piece_len 10 s
  rw [hl] at h hc ⊢
  rw [List.length_map] at hc
  by_cases h0 : lnE l = 0
  · unfold parseP at h ⊢
    rw [if_pos h0] at h ⊢
    split at h
    · rename_i hn
      refine ⟨rfl, ?_, ?_⟩
      · show (0 : Int) ≤ 1; omega
      · show (1 : Int) ≤ _; omega
    · rename_i x r hx
      have hlen : r.length + 1 ≤ Lib.countB s ⟨#[10]⟩ := by
        by_cases he : l = []
        · have e : lnL l = [] := by unfold lnL; rw [if_neg (fun h => h.2 he)]
          rw [e] at hx; cases hx
        · have e : lnL l = (cut 10 l.dropLast).map toB := by unfold lnL; rw [if_pos ⟨h0, he⟩]
          have hs : Lib.hasSuffix l [10] = true := by
            cases hh : Lib.hasSuffix l [10] with
            | true => rfl
            | false =>
              unfold lnE at h0
              rw [hh] at h0
              simp [he] at h0
              split at h0 <;> omega
          have h2 := congrArg List.length (cut_snoc (c := 10) l.dropLast)
          rw [← suf_one hs, hc] at h2
          have h3 := congrArg List.length hx
          rw [e, List.length_map] at h3
          simp at h2 h3
          omega
      split at h
      · rename_i hd
        rw [if_pos hd]
        obtain ⟨e1, e2, e3⟩ := goP_err r _ _ h
        refine ⟨e1, e2, ?_⟩
        omega
      · rename_i hd
        rw [if_neg hd]
        refine ⟨rfl, ?_, ?_⟩
        · show (0 : Int) ≤ 1; omega
        · show (1 : Int) ≤ _; omega
  · unfold parseP at h ⊢
    rw [if_neg h0] at h ⊢
    refine ⟨rfl, ?_, ?_⟩
    · show (0 : Int) ≤ 0; omega
    · show (0 : Int) ≤ _; omega
end Go.Proofs.YtkpgjgmlhcipeaaDoor
