/- A text cut at a byte; a number of digits: what lex tells. No program in sight. -/
import Derived.Lib.SplitLaws
import Derived.Lib.CountLaws
import Derived.Lib.CutLaws
import Derived.Lib.IndexBytes
import Derived.Lib.IndexLaws
import Derived.Lib.Split
import Derived.Lib.Atoi
import Derived.Lib.AtoiTie
import Derived.Lib.ItoaMem
import Derived.Lib.Join
import Derived.Shelf.GgClosure.StringsIndexFunc
namespace Go.Proofs.YtkpgjgmlhcipeaaDoor
open Go
/-- The pieces between a byte. -/
def cut (c : UInt8) : List UInt8 → List (List UInt8)
  | [] => [[]]
  | x :: r => if x = c then [] :: cut c r else match cut c r with
    | [] => [[x]]
    | h :: t => (x :: h) :: t
theorem cut_ne (c : UInt8) : ∀ l, cut c l ≠ []
  | [] => by simp [cut]
  | x :: r => by
    unfold cut
    split
    · simp
    · split <;> simp
theorem cut_hit {c x : UInt8} (h : x = c) (r : List UInt8) : cut c (x :: r) = [] :: cut c r := by
  show (if x = c then [] :: cut c r else _) = _
  rw [if_pos h]
theorem cut_miss {c x : UInt8} (h : ¬x = c) {r a : List UInt8} {t : List (List UInt8)} (e : cut c r = a :: t) : cut c (x :: r) = (x :: a) :: t := by
  show (if x = c then [] :: cut c r else _) = _
  rw [if_neg h, e]
theorem cut_none {c : UInt8} : ∀ {l : List UInt8}, (∀ k : Nat, l[k]? ≠ some c) → cut c l = [l]
  | [], _ => rfl
  | x :: r, h => by
    have hx : ¬x = c := fun e => h 0 (by simp [e])
    have ih := cut_none (l := r) (fun k => by have := h (k + 1); simpa using this)
    exact cut_miss hx ih
theorem cut_at {c : UInt8} : ∀ {l : List UInt8} {i : Nat}, l[i]? = some c → (∀ k : Nat, k < i → l[k]? ≠ some c) → cut c l = l.take i :: cut c (l.drop (i + 1))
  | [], i, h, _ => by simp at h
  | x :: r, 0, h, _ => by
    have hx : x = c := by simpa using h
    exact cut_hit hx r
  | x :: r, i + 1, h, hk => by
    have hx : ¬x = c := fun e => hk 0 (by omega) (by simp [e])
    have ih := cut_at (l := r) (i := i) (by simpa using h) (fun k hk' => by have := hk (k + 1) (by omega); simpa using this)
    exact cut_miss hx ih
theorem cut_snoc {c : UInt8} : ∀ (l : List UInt8), cut c (l ++ [c]) = cut c l ++ [[]]
  | [] => by simp [cut]
  | x :: r => by
    have ih := cut_snoc (c := c) r
    show cut c (x :: (r ++ [c])) = cut c (x :: r) ++ [[]]
    by_cases hx : x = c
    · rw [cut_hit hx, cut_hit hx, ih]; rfl
    · cases h : cut c r with
      | nil => exact absurd h (cut_ne c r)
      | cons a t =>
        rw [h] at ih
        rw [cut_miss hx h, cut_miss hx ih]
        rfl
/-- Put together again. -/
theorem cut_join (c : UInt8) : ∀ (l : List UInt8), Lib.join (cut c l) [c] = l
  | [] => by simp [cut, Lib.join, List.intercalate]
  | x :: r => by
    have ih := cut_join c r
    cases h : cut c r with
    | nil => exact absurd h (cut_ne c r)
    | cons a t =>
      rw [h, Lib.join_cons] at ih
      by_cases hx : x = c
      · subst hx
        rw [cut_hit rfl, h, Lib.join_cons]
        simp only [Lib.joinTail, List.map_cons, List.flatten_cons, List.nil_append, List.cons_append] at ih ⊢
        rw [ih]
      · rw [cut_miss hx h, Lib.join_cons, List.cons_append, ih]
/-- No piece has the byte. -/
theorem cut_free (c : UInt8) : ∀ (l : List UInt8), ∀ p ∈ cut c l, c ∉ p
  | [], p, hp => by simp [cut] at hp; subst hp; simp
  | x :: r, p, hp => by
    have ih := cut_free c r
    cases h : cut c r with
    | nil => exact absurd h (cut_ne c r)
    | cons a t =>
      by_cases hx : x = c
      · rw [cut_hit hx] at hp
        rcases List.mem_cons.1 hp with rfl | hp
        · simp
        · exact ih p hp
      · rw [cut_miss hx h] at hp
        rw [h] at ih
        rcases List.mem_cons.1 hp with rfl | hp
        · intro hc
          rcases List.mem_cons.1 hc with e | hc
          · exact hx e.symm
          · exact ih a (by simp) hc
        · exact ih p (by simp [hp])
def toB (l : List UInt8) : ByteArray := ⟨l.toArray⟩
theorem toB_data (s : ByteArray) : toB s.data.toList = s := by unfold toB; simp
theorem data_toB (l : List UInt8) : (toB l).data.toList = l := by unfold toB; simp
/-- strings.Split at one byte. -/
theorem split_cut (c : UInt8) : ∀ (n : Nat) (s : ByteArray), s.size ≤ n → (Lib.splitB ⟨#[c]⟩ 0 (Lib.countB s ⟨#[c]⟩) s).map (·.data.toList) = cut c s.data.toList
  | n, s, hn => by
    have h1 : Lib.indexB s ⟨#[c]⟩ = Lib.indexByte s.data.toList c := Lib.index_one s.data.toList c
    rcases Lib.indexB_cases s ⟨#[c]⟩ with h | ⟨i, h, hi⟩
    · rw [Lib.splitB_miss _ _ _ _ h]
      rw [cut_none (Lib.indexByte_none (h1 ▸ h))]
      rfl
    · have hs1 : (⟨#[c]⟩ : ByteArray).size = 1 := rfl
      obtain ⟨h2, h3⟩ := Lib.indexByte_some (h1 ▸ h)
      have hsz : s.size = s.data.toList.length := Lib.size_eq s
      cases n with
      | zero => rw [hs1] at hi; omega
      | succ n =>
        rw [Lib.countB_hit s ⟨#[c]⟩ i (by rw [hs1]; omega) h, Nat.add_comm 1, Lib.splitB_hit _ _ _ _ i h, List.map_cons, hs1]
        have ih := split_cut c n (s.extract (i + 1) s.size) (by rw [ByteArray.size_extract]; omega)
        rw [ih, cut_at h2 h3, Nat.add_zero, Lib.extract_from_zero, Lib.extract_to_end]
theorem split_cutB (c : UInt8) (s : ByteArray) : Lib.splitB ⟨#[c]⟩ 0 (Lib.countB s ⟨#[c]⟩) s = (cut c s.data.toList).map toB := by
  rw [← split_cut c s.size s (Nat.le_refl _), List.map_map]
  conv => lhs; rw [← List.map_id (Lib.splitB ⟨#[c]⟩ 0 (Lib.countB s ⟨#[c]⟩) s)]
  refine List.map_congr_left (fun x _ => ?_)
  exact (toB_data x).symm
theorem get_at {s : ByteArray} {k : Nat} {b : UInt8} (h : s.data.toList[k]? = some b) : s.get! k = b := by
  obtain ⟨l⟩ := s
  have : l[k]? = some b := by simpa using h
  show l[k]! = b
  rw [getElem!_def, this]
theorem dec_low {s : ByteArray} {i : Nat} (h : (s.get! i).toNat < 128) : Utf8.decode s i = ((s.get! i).toNat, 1) := by
  have h' : (s.get! (i + 0)).toNat < 128 := h
  unfold Utf8.decode
  rw [if_pos h']
  rfl
theorem dec_high {s : ByteArray} {i : Nat} (h : 128 ≤ (s.get! i).toNat) : 128 ≤ (Utf8.decode s i).1 := by
  have h' : ¬(s.get! (i + 0)).toNat < 128 := by show ¬(s.get! i).toNat < 128; omega
  unfold Utf8.decode
  rw [if_neg h']
  have he : 128 ≤ Utf8.runeError := by decide
  split
  · dsimp only
    split
    · assumption
    · exact he
  · split
    · dsimp only
      split
      · rename_i h1
        simp only [ge_iff_le, Bool.and_eq_true, decide_eq_true_eq] at h1
        have h2 := h1.1
        show 128 ≤ _
        omega
      · exact he
    · split
      · dsimp only
        split
        · rename_i h1
          simp only [ge_iff_le, Bool.and_eq_true, decide_eq_true_eq] at h1
          have h2 := h1.1
          show 128 ≤ _
          omega
        · exact he
      · exact he
/-- No digit. -/
def nonD (x : Nat) : Bool := !(decide (48 ≤ x) && decide (x ≤ 57))
theorem idx_from (s : ByteArray) : ∀ (f pos : Nat), s.size ≤ pos + f → decide (0 ≤ Lib.idxFuncFrom nonD true s f pos) = (s.data.toList.drop pos).any fun b => nonD b.toNat
  | 0, pos, h => by
    have : s.data.toList.drop pos = [] := List.drop_eq_nil_iff.2 (by rw [← Lib.size_eq]; omega)
    rw [this]
    rfl
  | f + 1, pos, h => by
    by_cases hp : pos < s.size
    · have hl : pos < s.data.toList.length := by rw [← Lib.size_eq]; exact hp
      have hb := get_at (List.getElem?_eq_getElem hl)
      rw [List.drop_eq_getElem_cons hl, List.any_cons]
      have ih := idx_from s f (pos + 1) (by omega)
      unfold Lib.idxFuncFrom
      rw [if_pos hp]
      generalize s.data.toList[pos] = b at *
      by_cases hlow : (s.get! pos).toNat < 128
      · rw [dec_low hlow]
        simp only
        rw [hb]
        cases hn : nonD b.toNat with
        | true => rw [if_pos rfl]; simp
        | false => rw [if_neg (by decide), ih]; simp
      · have hh := dec_high (s := s) (i := pos) (by omega)
        have hn : nonD (Utf8.decode s pos).1 = true := by
          unfold nonD
          rw [show decide ((Utf8.decode s pos).1 ≤ 57) = false by simp; omega]
          simp
        have hn2 : nonD b.toNat = true := by
          unfold nonD
          rw [← hb, show decide ((s.get! pos).toNat ≤ 57) = false by simp; omega]
          simp
        rw [if_pos hn, hn2]
        simp
    · rw [Lib.idxFuncFrom_end _ _ _ _ _ hp]
      have : s.data.toList.drop pos = [] := List.drop_eq_nil_iff.2 (by rw [← Lib.size_eq]; omega)
      rw [this]
      rfl
theorem idx_plain (s : ByteArray) : decide (0 ≤ Lib.idxFunc nonD true s) = s.data.toList.any fun b => nonD b.toNat := by
  have := idx_from s s.size 0 (by omega)
  rw [List.drop_zero] at this
  exact this
theorem dv_some {b : UInt8} (h : nonD b.toNat = false) : Lib.digitVal b = some (b.toNat - 48) := by
  unfold nonD at h
  simp at h
  unfold Lib.digitVal
  rw [if_pos h]
theorem dv_none {b : UInt8} (h : nonD b.toNat = true) : Lib.digitVal b = none := by
  unfold nonD at h
  unfold Lib.digitVal
  rw [if_neg]
  rintro ⟨h1, h2⟩
  simp [h1] at h
  omega
theorem dec_some : ∀ (l : List UInt8) (acc : Nat), (l.any fun b => nonD b.toNat) = false → ∃ n, Lib.decFrom acc l = some n
  | [], acc, _ => ⟨acc, rfl⟩
  | b :: r, acc, h => by
    rw [List.any_cons, Bool.or_eq_false_iff] at h
    obtain ⟨n, hn⟩ := dec_some r (acc * 10 + (b.toNat - 48)) h.2
    exact ⟨n, by unfold Lib.decFrom; rw [dv_some h.1]; exact hn⟩
theorem dec_bad : ∀ (l : List UInt8) (acc : Nat), (l.any fun b => nonD b.toNat) = true → Lib.decFrom acc l = none
  | b :: r, acc, h => by
    unfold Lib.decFrom
    cases hb : nonD b.toNat with
    | true => rw [dv_none hb]
    | false =>
      rw [List.any_cons, hb, Bool.false_or] at h
      rw [dv_some hb]
      exact dec_bad r _ h
theorem dec_lt : ∀ (l : List UInt8) (acc n : Nat), Lib.decFrom acc l = some n → n < (acc + 1) * 10 ^ l.length
  | [], acc, n, h => by
    have : acc = n := by simpa [Lib.decFrom] using h
    simp; omega
  | b :: r, acc, n, h => by
    unfold Lib.decFrom at h
    cases hb : Lib.digitVal b with
    | none => rw [hb] at h; cases h
    | some d =>
      rw [hb] at h
      have hd : d ≤ 9 := by
        unfold Lib.digitVal at hb
        split at hb
        · cases hb; omega
        · cases hb
      have ih := dec_lt r _ n h
      have e : (acc * 10 + d + 1) * 10 ^ r.length ≤ (acc * 10 + 10) * 10 ^ r.length := Nat.mul_le_mul_right _ (by omega)
      have e2 : (acc + 1) * 10 ^ (r.length + 1) = (acc * 10 + 10) * 10 ^ r.length := by rw [Nat.pow_succ, Nat.mul_comm (10 ^ r.length) 10, ← Nat.mul_assoc]; congr 1; omega
      rw [List.length_cons, e2]
      omega
theorem dec_atoi {l : List UInt8} {n : Nat} (h : Lib.decFrom 0 l = some n) (hl : 0 < l.length) : Lib.atoi l = some (n : Int) := by
  cases l with
  | nil => simp at hl
  | cons b r =>
    have h2 : Lib.decNat (b :: r) = some n := by unfold Lib.decNat; rw [if_neg (by simp)]; exact h
    have hb : ∃ d, Lib.digitVal b = some d := Lib.digit_of_decFrom _ _ _ h 0 b rfl
    obtain ⟨d, hd⟩ := hb
    have hb1 : (b == 45) = false := by
      cases hq : b == 45 with
      | false => rfl
      | true =>
        have : b = 45 := by simpa using hq
        subst this
        simp [Lib.digitVal] at hd
    have hb2 : (b == 43) = false := by
      cases hq : b == 43 with
      | false => rfl
      | true =>
        have : b = 43 := by simpa using hq
        subst this
        simp [Lib.digitVal] at hd
    show (if (b == 45) = true then Option.map (fun (m : Nat) => -(m : Int)) (Lib.decNat r) else if (b == 43) = true then Option.map (fun (m : Nat) => (m : Int)) (Lib.decNat r) else Option.map (fun (m : Nat) => (m : Int)) (Lib.decNat (b :: r))) = some (n : Int)
    rw [hb1, hb2, h2]
    rfl
/-- A number that a word is, if it is one. -/
def numO (l : List UInt8) (most : Int) : Option Nat :=
  if 1 ≤ l.length ∧ l.length ≤ 7 ∧ ¬(1 < l.length ∧ l[0]? = some 48) then (match Lib.decFrom 0 l with
    | some m => if (m : Int) ≤ most then some m else none
    | none => none) else none
end Go.Proofs.YtkpgjgmlhcipeaaDoor
