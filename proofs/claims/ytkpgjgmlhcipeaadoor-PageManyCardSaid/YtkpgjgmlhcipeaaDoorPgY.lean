/- PageMany, plain: the drawing of so many zeros, and its text. -/
import Derived.Test.YtkpgjgmlhcipeaaDoorPgX
import Derived.Lib.Repeat
namespace Go.Proofs.YtkpgjgmlhcipeaaDoor
open Go.RowKit
abbrev zB : Bx := ((0, 0), (0, 0))
abbrev zR : Rt := ((0, 0), [])
def mD (n m k : Nat) : Dr := (List.replicate n zB, if m = 0 then [] else List.replicate (m - 1) zR ++ [((0, 0), List.replicate k (0, 0))])
def sPoint : ByteArray := ⟨#[112, 111, 105, 110, 116, 32, 48, 32, 48, 10]⟩
def sRoute : ByteArray := ⟨#[114, 111, 117, 116, 101, 32, 48, 32, 48, 10]⟩
def sRoute0 : ByteArray := ⟨#[114, 111, 117, 116, 101, 32, 48, 32, 48]⟩
def sPair : ByteArray := ⟨#[32, 48, 32, 48]⟩
theorem itoa_zero : Lib.itoa 0 = [48] := by
  unfold Lib.itoa
  rw [if_neg (by decide)]
  exact dig_small (u := 0) (by decide)
theorem numB_zero : numB 0 = [32, 48] := by unfold numB; rw [itoa_zero]
theorem flat_rep {α : Type} (f : α → List UInt8) (x : α) : ∀ n, (List.replicate n x).flatMap f = Lib.repeatL (f x) n
  | 0 => rfl
  | n + 1 => by rw [List.replicate_succ, List.flatMap_cons, flat_rep f x n]; rfl
theorem flat_pts : ∀ k, ((List.replicate k ((0, 0) : Pt)).flatMap ptL).flatMap numB = Lib.repeatL sPair.data.toList k
  | 0 => rfl
  | k + 1 => by
    rw [List.replicate_succ, List.flatMap_cons, List.flatMap_append, flat_pts k]
    show ([0, 0] : List Int).flatMap numB ++ _ = _
    rw [List.flatMap_cons, List.flatMap_cons, numB_zero]
    rfl
theorem line_point : lineB (bxLn zB) = sPoint.data.toList := by
  show bPoint.data.toList ++ ([0, 0] : List Int).flatMap numB ++ [10] = _
  rw [List.flatMap_cons, List.flatMap_cons, numB_zero]
  rfl
theorem line_route (k : Nat) : lineB (rtLn ((0, 0), List.replicate k (0, 0))) = sRoute0.data.toList ++ Lib.repeatL sPair.data.toList k ++ [10] := by
  show bRoute.data.toList ++ (([0, 0] : List Int) ++ (List.replicate k ((0, 0) : Pt)).flatMap ptL).flatMap numB ++ [10] = _
  rw [List.flatMap_append, flat_pts, List.flatMap_cons, List.flatMap_cons, numB_zero]
  rw [← List.append_assoc]
  rfl
theorem line_route0 : lineB (rtLn zR) = sRoute.data.toList := by
  have := line_route 0
  exact this
def mTx (n m k : Nat) : List UInt8 := (⟨#[100, 114, 97, 119, 105, 110, 103, 10]⟩ : ByteArray).data.toList ++ Lib.repeatL sPoint.data.toList n ++ (if m = 0 then [] else Lib.repeatL sRoute.data.toList (m - 1) ++ sRoute0.data.toList ++ Lib.repeatL sPair.data.toList k ++ [10])
theorem text_many (n m k : Nat) : textP (mD n m k) = mTx n m k ++ [101, 110, 100, 10] := by
  unfold textP lnsP mD mTx
  simp only
  rw [List.map_replicate, List.flatMap_append, flat_rep lineB, line_point]
  have h1 : bDrawing.data.toList ++ [10] = (⟨#[100, 114, 97, 119, 105, 110, 103, 10]⟩ : ByteArray).data.toList := rfl
  have h2 : bEnd.data.toList ++ [10] = [101, 110, 100, 10] := rfl
  rw [h1, h2]
  by_cases hm : m = 0
  · rw [if_pos hm, if_pos hm]
    simp
  · rw [if_neg hm, if_neg hm, List.map_append, List.map_replicate, List.flatMap_append, flat_rep lineB, line_route0]
    simp only [List.map_cons, List.map_nil, List.flatMap_cons, List.flatMap_nil, line_route]
    simp [List.append_assoc]
theorem many_ok (n m k : Nat) : (lnsP (mD n m k)).all okL = true := by
  rw [List.all_eq_true]
  intro x hx
  unfold lnsP mD at hx
  simp only at hx
  rcases List.mem_append.1 hx with hx | hx
  · obtain ⟨b, hb, rfl⟩ := List.mem_map.1 hx
    obtain ⟨-, rfl⟩ := List.mem_replicate.1 hb
    decide
  · obtain ⟨b, hb, rfl⟩ := List.mem_map.1 hx
    split at hb
    · cases hb
    · rcases List.mem_append.1 hb with hb | hb
      · obtain ⟨-, rfl⟩ := List.mem_replicate.1 hb
        decide
      · obtain rfl : b = ((0, 0), List.replicate k (0, 0)) := by simpa using hb
        unfold okL rtLn
        simp only [List.all_append, Bool.and_eq_true]
        refine ⟨by decide, ?_⟩
        rw [List.all_eq_true]
        intro q hq
        obtain ⟨p, hp, hq⟩ := List.mem_flatMap.1 hq
        obtain ⟨-, rfl⟩ := List.mem_replicate.1 hp
        obtain rfl : q = 0 := by simpa [ptL] using hq
        decide
theorem many_len {n m k : Nat} (hn : n ≤ 4200) (hm : m ≤ 4200) (hk : k ≤ 13000) : (mTx n m k).length ≤ 200000 := by
  unfold mTx
  have h1 : sPoint.data.toList.length = 10 := rfl
  have h2 : sRoute.data.toList.length = 10 := rfl
  have h3 : sPair.data.toList.length = 4 := rfl
  have h4 : sRoute0.data.toList.length = 9 := rfl
  have h5 : (⟨#[100, 114, 97, 119, 105, 110, 103, 10]⟩ : ByteArray).data.toList.length = 8 := rfl
  split
  · simp only [List.length_append, Lib.repeatL_length, h1, h5, List.length_nil]
    omega
  · simp only [List.length_append, Lib.repeatL_length, h1, h2, h3, h4, h5, List.length_cons, List.length_nil]
    omega
theorem parse_mD {n m k : Nat} (hn : n ≤ 4200) (hm : m ≤ 4200) (hk : k ≤ 13000) : if manyD (mD n m k) = true then (parseP (textP (mD n m k))).2.2 = 6 else parseP (textP (mD n m k)) = (mD n m k, 0, 0) := by
  have hl := many_len hn hm hk
  have hs : (textP (mD n m k)).length ≤ 1048576 := by rw [text_many, List.length_append]; simp; omega
  cases hc : manyD (mD n m k) with
  | true =>
    rw [if_pos rfl]
    exact parse_six hc (many_ok n m k) hs
  | false =>
    rw [if_neg (by decide)]
    exact parse_text hc (many_ok n m k) hs
end Go.Proofs.YtkpgjgmlhcipeaaDoor
