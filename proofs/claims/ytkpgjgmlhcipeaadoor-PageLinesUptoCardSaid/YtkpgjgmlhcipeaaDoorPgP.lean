/- Drawings as texts, plain: what a line is read as, what a text is parsed to, what a drawing is printed as. No program in sight. -/
import Derived.Test.YtkpgjgmlhcipeaaDoorLexQ
import Derived.Test.YtkpgjgmlhcipeaaDoorLexA
namespace Go.Proofs.YtkpgjgmlhcipeaaDoor
open Go.RowKit
abbrev Pt := Int × Int
abbrev Bx := Pt × Pt
abbrev Rt := Pt × List Pt
abbrev Dr := List Bx × List Rt
def bPoint : ByteArray := ⟨#[112, 111, 105, 110, 116]⟩
def bBox : ByteArray := ⟨#[98, 111, 120]⟩
def bRoute : ByteArray := ⟨#[114, 111, 117, 116, 101]⟩
def bDrawing : ByteArray := ⟨#[100, 114, 97, 119, 105, 110, 103]⟩
def bEnd : ByteArray := ⟨#[101, 110, 100]⟩
def totP (rs : List Rt) : Nat := (rs.map fun r => r.2.length).sum
def manyD (D : Dr) : Bool := decide (4096 < D.1.length) || decide (4096 < D.2.length) || decide (12288 < totP D.2)
def pairs : List Int → List Pt
  | a :: b :: r => (a, b) :: pairs r
  | _ => []
theorem pairs_len : ∀ (k : Nat) (l : List Int), l.length = 2 * k → (pairs l).length = k
  | 0, l, h => by
    have : l = [] := List.eq_nil_of_length_eq_zero (by omega)
    subst this; rfl
  | k + 1, [], h => by simp at h
  | k + 1, [a], h => by simp at h; omega
  | k + 1, a :: b :: r, h => by
    have := pairs_len k r (by simp at h; omega)
    simp [pairs, this]
theorem pairs_get : ∀ (l : List Int) (i : Nat), 2 * i + 1 < l.length → (pairs l)[i]? = some (l[2 * i]?.getD 0, l[2 * i + 1]?.getD 0)
  | [], i, h => by simp at h
  | [a], i, h => by simp at h
  | a :: b :: r, 0, h => by simp [pairs]
  | a :: b :: r, i + 1, h => by
    have := pairs_get r i (by simp at h; omega)
    have e1 : 2 * (i + 1) = 2 * i + 1 + 1 := by omega
    simp only [pairs, List.getElem?_cons_succ, e1]
    exact this
/-- May a line have so many numbers? -/
def rightW (w : ByteArray) (n : Nat) : Bool := (decide (w = bPoint) && decide (n = 2)) || (decide (w = bBox) && decide (n = 4)) || (decide (w = bRoute) && decide (2 ≤ n) && decide (n % 2 = 0))
/-- The numbers of words; none: one of them is none. -/
def numsO : List ByteArray → Option (List Int)
  | [] => some []
  | s :: r => match numO s.data.toList 1000000, numsO r with
    | some v, some l => some ((v : Int) :: l)
    | _, _ => none
/-- What a line is read as: the error, the word, the numbers. -/
def rdP (s : ByteArray) : Int × ByteArray × List Int :=
  if wdO s.data.toList = true then
    match wdL s.data.toList with
    | [] => (4, ByteArray.empty, [])
    | w :: r => if rightW w r.length = true then
        match numsO r with
        | some ns => (0, w, ns)
        | none => (5, ByteArray.empty, [])
      else (4, ByteArray.empty, [])
  else (4, ByteArray.empty, [])
/-- A drawing with a line more. -/
def addP (D : Dr) (w : ByteArray) (ns : List Int) : Int × Dr :=
  if w = bRoute then
    (if manyD (D.1, D.2 ++ [((ns[0]?.getD 0, ns[1]?.getD 0), pairs (ns.drop 2))]) = true then (6, D) else (0, (D.1, D.2 ++ [((ns[0]?.getD 0, ns[1]?.getD 0), pairs (ns.drop 2))])))
  else if 0 < D.2.length then (15, D)
  else if w = bBox ∧ (pairs ns)[0]?.getD (0, 0) = (pairs ns)[(pairs ns).length - 1]?.getD (0, 0) then (2, D)
  else if manyD (D.1 ++ [((pairs ns)[0]?.getD (0, 0), (pairs ns)[(pairs ns).length - 1]?.getD (0, 0))], D.2) = true then (6, D)
  else (0, (D.1 ++ [((pairs ns)[0]?.getD (0, 0), (pairs ns)[(pairs ns).length - 1]?.getD (0, 0))], D.2))
def oneP (D : Dr) (s : ByteArray) : Int × Dr := if (rdP s).1 = 0 then addP D (rdP s).2.1 (rdP s).2.2 else ((rdP s).1, D)
/-- The lines behind the first one, from the i-th one on. -/
def goP (D : Dr) (i : Nat) : List ByteArray → Dr × Int × Int
  | [] => (([], []), (i : Int) + 2, 4)
  | s :: r => if s = bEnd then (if r = [] then (D, 0, 0) else (([], []), (i : Int) + 3, 4))
    else if (oneP D s).1 = 0 then goP (oneP D s).2 (i + 1) r else (([], []), (i : Int) + 2, (oneP D s).1)
/-- What a text is parsed to: the drawing, the line, the error. -/
def parseP (l : List UInt8) : Dr × Int × Int :=
  if lnE l = 0 then
    match lnL l with
    | [] => (([], []), 1, 4)
    | h :: r => if h = bDrawing then goP ([], []) 0 r else (([], []), 1, 4)
  else (([], []), 0, lnE l)
theorem addP_ok {D D' : Dr} {w : ByteArray} {ns : List Int} (h : addP D w ns = (0, D')) : manyD D' = false := by
  unfold addP at h
  split at h
  · split at h
    · cases h
    · cases h; rename_i h; simpa using h
  · split at h
    · cases h
    · split at h
      · cases h
      · split at h
        · cases h
        · cases h; rename_i h; simpa using h
theorem rdP_right {s w : ByteArray} {ns : List Int} (h : rdP s = (0, w, ns)) : rightW w ns.length = true := by
  unfold rdP at h
  split at h
  · split at h
    · cases h
    · split at h
      · split at h
        · rename_i hr x ns' hn
          cases h
          have : ∀ (r : List ByteArray) (ns : List Int), numsO r = some ns → ns.length = r.length := by
            intro r
            induction r with
            | nil => intro ns h; cases h; rfl
            | cons a r ih =>
              intro ns h
              unfold numsO at h
              split at h
              · rename_i v l h1 h2
                cases h
                simp [ih _ h2]
              · cases h
          rw [this _ _ hn]
          exact hr
        · cases h
      · cases h
  · cases h
theorem cut_len_le (c : UInt8) : ∀ (l : List UInt8), (cut c l).length ≤ l.length + 1
  | [] => by simp [cut]
  | x :: r => by
    have ih := cut_len_le c r
    by_cases h : x = c
    · rw [cut_hit h]; simp; omega
    · cases hr : cut c r with
      | nil => exact absurd hr (cut_ne c r)
      | cons a t =>
        rw [cut_miss h hr]
        rw [hr] at ih
        simp at ih ⊢
        omega
theorem piece_le (c : UInt8) : ∀ (l : List UInt8), ∀ p ∈ cut c l, p.length ≤ l.length
  | [], p, hp => by simp [cut] at hp; subst hp; simp
  | x :: r, p, hp => by
    have ih := piece_le c r
    by_cases h : x = c
    · rw [cut_hit h] at hp
      rcases List.mem_cons.1 hp with rfl | hp
      · simp
      · have := ih p hp; simp; omega
    · cases hr : cut c r with
      | nil => exact absurd hr (cut_ne c r)
      | cons a t =>
        rw [cut_miss h hr] at hp
        rw [hr] at ih
        rcases List.mem_cons.1 hp with rfl | hp
        · have := ih a (by simp); simp; omega
        · have := ih p (by simp [hp]); simp; omega
theorem wdL_le {l : List UInt8} : (wdL l).length ≤ l.length + 1 ∧ ∀ p ∈ wdL l, p.data.toList.length ≤ l.length := by
  unfold wdL
  split
  · refine ⟨by rw [List.length_map]; exact cut_len_le 32 l, fun p hp => ?_⟩
    obtain ⟨x, hx, rfl⟩ := List.mem_map.1 hp
    rw [data_toB]
    exact piece_le 32 l x hx
  · exact ⟨by simp, fun p hp => by simp at hp⟩
theorem lnL_le {l : List UInt8} : (lnL l).length ≤ l.length + 1 ∧ ∀ p ∈ lnL l, p.data.toList.length ≤ l.length := by
  unfold lnL
  split
  · have hd : l.dropLast.length ≤ l.length := by rw [List.length_dropLast]; omega
    refine ⟨by rw [List.length_map]; have := cut_len_le 10 l.dropLast; omega, fun p hp => ?_⟩
    obtain ⟨x, hx, rfl⟩ := List.mem_map.1 hp
    rw [data_toB]
    exact Nat.le_trans (piece_le 10 _ x hx) hd
  · exact ⟨by simp, fun p hp => by simp at hp⟩
end Go.Proofs.YtkpgjgmlhcipeaaDoor
