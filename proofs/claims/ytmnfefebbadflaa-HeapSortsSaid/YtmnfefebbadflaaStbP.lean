/- A stable order by a key: what it is, that there is but one; insertion, rotation and merging keep it. No program in sight. -/
import Derived.Test.YtmnfefebbadflaaFnd
namespace Go.Proofs.Ytmnfefebbadflaa
namespace Stb
variable {α : Type} {key : α → Int}
/-- In order. -/
def Srt (key : α → Int) (L : List α) : Prop := L.Pairwise (fun a b => key a ≤ key b)
/-- Of each key the same ones in the same order. -/
def Same (key : α → Int) (A M : List α) : Prop := ∀ k : Int, M.filter (fun x => key x == k) = A.filter (fun x => key x == k)
theorem Same.refl (A : List α) : Same key A A := fun _ => rfl
theorem Same.trans {A B C : List α} (h : Same key A B) (k : Same key B C) : Same key A C := fun x => (k x).trans (h x)
theorem Same.symm {A B : List α} (h : Same key A B) : Same key B A := fun x => (h x).symm
theorem Same.app {A A' B B' : List α} (h : Same key A A') (k : Same key B B') : Same key (A ++ B) (A' ++ B') := fun x => by rw [List.filter_append, List.filter_append, h x, k x]
theorem Same.mem {A B : List α} (h : Same key A B) {x : α} (hx : x ∈ A) : x ∈ B := by
  have h2 : x ∈ A.filter (fun y => key y == key x) := List.mem_filter.2 ⟨hx, by simp⟩
  rw [← h (key x)] at h2
  exact (List.mem_filter.1 h2).1
theorem Same.swap {A B : List α} (h : ∀ a ∈ A, ∀ b ∈ B, key a ≠ key b) : Same key (A ++ B) (B ++ A) := fun k => by
  rw [List.filter_append, List.filter_append]
  by_cases hb : B.filter (fun x => key x == k) = []
  · rw [hb, List.append_nil, List.nil_append]
  · have ha : A.filter (fun x => key x == k) = [] := by
      rw [List.filter_eq_nil_iff]
      intro a ha he
      obtain ⟨b, hb2⟩ := List.exists_mem_of_ne_nil _ hb
      obtain ⟨h1, h2⟩ := List.mem_filter.1 hb2
      have e1 : key a = k := by simpa using he
      have e2 : key b = k := by simpa using h2
      exact h a ha b h1 (e1.trans e2.symm)
    rw [ha, List.append_nil, List.nil_append]
theorem Same.mid {A B P S : List α} (h : Same key A B) : Same key (P ++ A ++ S) (P ++ B ++ S) := ((Same.refl P).app h).app (Same.refl S)
theorem Same.nil {B : List α} (h : Same key [] B) : B = [] := by
  cases B with
  | nil => rfl
  | cons x t => exact absurd (h.symm.mem (x := x) (by simp)) (by simp)
theorem Same.len {A B : List α} : Same key A B → A.length = B.length := by
  suffices ∀ (n : Nat) (A B : List α), A.length = n → Same key A B → A.length = B.length from this _ A B rfl
  intro n
  induction n with
  | zero =>
    intro A B hn h
    have e := List.eq_nil_of_length_eq_zero hn
    subst e
    rw [h.nil]
  | succ n ih =>
    intro A B hn h
    match A, hn, h with
    | x :: t, hn, h =>
      -- take x out of both: the first one of its key
      have hf := h (key x)
      simp only [List.filter_cons, beq_self_eq_true, if_true] at hf
      obtain ⟨P, S, hB, hP, hx, hS⟩ := List.filter_eq_cons_iff.1 hf
      subst hB
      have ht : Same key t (P ++ S) := fun k => by
        have hk := h k
        rw [List.filter_append, List.filter_cons] at hk
        rw [List.filter_append]
        by_cases e : key x = k
        · subst e
          have hp : P.filter (fun y => key y == key x) = [] := List.filter_eq_nil_iff.2 hP
          rw [hp, List.nil_append, hS]
        · have e2 : (key x == k) = false := by simp [e]
          rw [List.filter_cons, e2] at hk
          simpa using hk
      have := ih t (P ++ S) (by simpa using hn) ht
      simp at this ⊢
      omega
theorem Srt.app {A B : List α} (h : Srt key A) (k : Srt key B) (hm : ∀ a ∈ A, ∀ b ∈ B, key a ≤ key b) : Srt key (A ++ B) := List.pairwise_append.2 ⟨h, k, hm⟩
theorem Srt.left {A B : List α} (h : Srt key (A ++ B)) : Srt key A := (List.pairwise_append.1 h).1
theorem Srt.right {A B : List α} (h : Srt key (A ++ B)) : Srt key B := (List.pairwise_append.1 h).2.1
theorem Srt.mid {A B : List α} (h : Srt key (A ++ B)) : ∀ a ∈ A, ∀ b ∈ B, key a ≤ key b := (List.pairwise_append.1 h).2.2
/-- There is but one. -/
theorem uniq : ∀ (A B : List α), Srt key A → Srt key B → Same key A B → A = B
  | [], B, _, _, h => h.nil.symm
  | x :: t, [], _, _, h => absurd h.symm.nil (by simp)
  | x :: t, y :: s, ha, hb, h => by
    have h1 : key x ≤ key y := by
      have hy := h.symm.mem (x := y) (by simp)
      rcases List.mem_cons.1 hy with rfl | hy
      · exact Int.le_refl _
      · exact (List.pairwise_cons.1 ha).1 y hy
    have h2 : key y ≤ key x := by
      have hx := h.mem (x := x) (by simp)
      rcases List.mem_cons.1 hx with rfl | hx
      · exact Int.le_refl _
      · exact (List.pairwise_cons.1 hb).1 x hx
    have e : key x = key y := by omega
    have hf := h (key x)
    simp only [List.filter_cons, beq_self_eq_true, if_true] at hf
    rw [if_pos (by simp [e])] at hf
    injection hf with e1 e2
    subst e1
    rw [uniq t s (List.pairwise_cons.1 ha).2 (List.pairwise_cons.1 hb).2 (fun k => by
      have hk := h k
      simp only [List.filter_cons] at hk
      by_cases e3 : key y = k
      · have e4 : (key y == k) = true := by simp [e3]
        rw [e4] at hk
        simpa using hk
      · have e4 : (key y == k) = false := by simp [e3]
        rw [e4] at hk
        simpa using hk)]
/-- L in stable order is M. -/
structure Sts (key : α → Int) (L M : List α) : Prop where
  srt : Srt key M
  same : Same key L M
theorem Sts.len {L M : List α} (h : Sts key L M) : M.length = L.length := h.same.len.symm
theorem Sts.uniq {L M N : List α} (h : Sts key L M) (k : Sts key L N) : M = N := Stb.uniq M N h.srt k.srt (h.same.symm.trans k.same)
/-- One put into its place: those behind it are greater, those ahead of it are not. -/
theorem put {A B : List α} {x : α} (h : Srt key (A ++ B)) (ha : ∀ a ∈ A, key a ≤ key x) (hb : ∀ b ∈ B, key x < key b) : Sts key (A ++ B ++ [x]) (A ++ [x] ++ B) := by
  refine ⟨?_, ?_⟩
  · rw [List.append_assoc]
    refine h.left.app ?_ ?_
    · refine List.pairwise_cons.2 ⟨fun b hb2 => by have := hb b hb2; omega, h.right⟩
    · intro a h1 b h2
      rcases List.mem_cons.1 h2 with rfl | h2
      · exact ha a h1
      · exact h.mid a h1 b h2
  · rw [List.append_assoc, List.append_assoc]
    exact (Same.refl A).app (Same.swap (fun b h1 y h2 => by
      rcases List.mem_singleton.1 h2 with rfl
      have := hb b h1
      omega))
/-- .. and from the front: those ahead of it are less, those behind it are not. -/
theorem put0 {A B : List α} {x : α} (h : Srt key (A ++ B)) (ha : ∀ a ∈ A, key a < key x) (hb : ∀ b ∈ B, key x ≤ key b) : Sts key ([x] ++ (A ++ B)) (A ++ [x] ++ B) := by
  refine ⟨?_, ?_⟩
  · rw [List.append_assoc]
    refine h.left.app ?_ ?_
    · refine List.pairwise_cons.2 ⟨fun b hb2 => hb b hb2, h.right⟩
    · intro a h1 b h2
      rcases List.mem_cons.1 h2 with rfl | h2
      · have := ha a h1; omega
      · exact h.mid a h1 b h2
  · rw [← List.append_assoc]
    exact (Same.swap (fun y h1 a h2 => by
      rcases List.mem_singleton.1 h1 with rfl
      have := ha a h2
      omega)).app (Same.refl B)
/-- Two in order merged by halves: what is less is turned to the front, then either half. -/
theorem halves {A1 A2 B1 B2 M1 M2 : List α} (hA : Srt key (A1 ++ A2)) (hB : Srt key (B1 ++ B2)) (h12 : ∀ a ∈ A1, ∀ b ∈ B2, key a ≤ key b) (h21 : ∀ b ∈ B1, ∀ a ∈ A2, key b < key a)
    (k1 : Sts key (A1 ++ B1) M1) (k2 : Sts key (A2 ++ B2) M2) : Sts key (A1 ++ A2 ++ (B1 ++ B2)) (M1 ++ M2) := by
  refine ⟨k1.srt.app k2.srt ?_, ?_⟩
  · intro x hx y hy
    have hx := k1.same.symm.mem hx
    have hy := k2.same.symm.mem hy
    rcases List.mem_append.1 hx with hx | hx <;> rcases List.mem_append.1 hy with hy | hy
    · exact hA.mid x hx y hy
    · exact h12 x hx y hy
    · have := h21 x hx y hy; omega
    · exact hB.mid x hx y hy
  · refine Same.trans (B := A1 ++ B1 ++ (A2 ++ B2)) ?_ (k1.same.app k2.same)
    have h := Same.mid (P := A1) (S := B2) (Same.swap (key := key) (A := A2) (B := B1) (fun a ha b hb => by have := h21 b hb a ha; omega))
    simpa only [List.append_assoc] using h
/-- Where a search of the place to turn at has come to an end. -/
theorem cut {A B : List α} (hA : Srt key A) (hB : Srt key B) (u v : Nat)
    (h1 : u = 0 ∨ v = B.length ∨ ∃ x y, A[u - 1]? = some x ∧ B[v]? = some y ∧ key x ≤ key y)
    (h2 : v = 0 ∨ u = A.length ∨ ∃ x y, A[u]? = some x ∧ B[v - 1]? = some y ∧ key y < key x) :
    (∀ a ∈ A.take u, ∀ b ∈ B.drop v, key a ≤ key b) ∧ (∀ b ∈ B.take v, ∀ a ∈ A.drop u, key b < key a) := by
  have up : ∀ {L : List α}, Srt key L → ∀ (i j : Nat) (a b : α), L[i]? = some a → L[j]? = some b → i ≤ j → key a ≤ key b := by
    intro L hL i j a b hi hj hij
    by_cases e : i = j
    · subst e
      rw [hi] at hj
      injection hj with hj
      subst hj
      exact Int.le_refl _
    · obtain ⟨h3, rfl⟩ := List.getElem?_eq_some_iff.1 hi
      obtain ⟨h4, rfl⟩ := List.getElem?_eq_some_iff.1 hj
      exact List.pairwise_iff_getElem.1 hL i j h3 h4 (by omega)
  have tk : ∀ {L : List α} {n : Nat} {a : α}, a ∈ L.take n → ∃ i, i < n ∧ L[i]? = some a := by
    intro L n a h
    obtain ⟨i, hi⟩ := List.getElem?_of_mem h
    rw [List.getElem?_take] at hi
    split at hi
    · exact ⟨i, by assumption, hi⟩
    · cases hi
  have dp : ∀ {L : List α} {n : Nat} {a : α}, a ∈ L.drop n → ∃ i, n ≤ i ∧ L[i]? = some a := by
    intro L n a h
    obtain ⟨i, hi⟩ := List.getElem?_of_mem h
    rw [List.getElem?_drop] at hi
    exact ⟨n + i, by omega, hi⟩
  constructor
  · intro a ha b hb
    obtain ⟨i, hi, ea⟩ := tk ha
    obtain ⟨j, hj, eb⟩ := dp hb
    rcases h1 with h | h | ⟨x, y, hx, hy, hxy⟩
    · omega
    · have := (List.getElem?_eq_some_iff.1 eb).1
      omega
    · have := up hA i (u - 1) a x ea hx (by omega)
      have := up hB v j y b hy eb hj
      omega
  · intro b hb a ha
    obtain ⟨i, hi, eb⟩ := tk hb
    obtain ⟨j, hj, ea⟩ := dp ha
    rcases h2 with h | h | ⟨x, y, hx, hy, hxy⟩
    · omega
    · have := (List.getElem?_eq_some_iff.1 ea).1
      omega
    · have := up hB i (v - 1) b y eb hy (by omega)
      have := up hA u j x a hx ea hj
      omega
/-- Blocks in order, of so many each, the last one of no more. -/
inductive Blk (key : α → Int) (bs : Nat) : List α → Prop
  | short {L : List α} : L.length ≤ bs → Srt key L → Blk key bs L
  | cons {A T : List α} : A.length = bs → Srt key A → Blk key bs T → Blk key bs (A ++ T)
/-- .. all of them full. -/
inductive BlkF (key : α → Int) (bs : Nat) : List α → Prop
  | nil : BlkF key bs []
  | snoc {M A : List α} : BlkF key bs M → A.length = bs → Srt key A → BlkF key bs (M ++ A)
theorem BlkF.app {bs : Nat} {M : List α} (h : BlkF key bs M) : ∀ {T : List α}, Blk key bs T → Blk key bs (M ++ T) := by
  induction h with
  | nil => intro T k; exact k
  | snoc _ hl hs ih =>
    intro T k
    rw [List.append_assoc]
    exact ih (.cons hl hs k)
theorem Srt.nil : Srt key ([] : List α) := List.Pairwise.nil
theorem Blk.split {bs : Nat} {T : List α} (h : Blk key bs T) (hl : bs ≤ T.length) : ∃ A T', T = A ++ T' ∧ A.length = bs ∧ Srt key A ∧ Blk key bs T' := by
  cases h with
  | short h1 h2 => exact ⟨T, [], (List.append_nil _).symm, by omega, h2, .short (Nat.zero_le _) Srt.nil⟩
  | cons h1 h2 h3 => exact ⟨_, _, rfl, h1, h2, h3⟩
theorem Blk.small {bs : Nat} {T : List α} (h : Blk key bs T) (hl : T.length ≤ bs) : Srt key T := by
  cases h with
  | short h1 h2 => exact h2
  | cons h1 h2 h3 =>
    rename_i A T
    have e : T = [] := List.eq_nil_of_length_eq_zero (by simp at hl; omega)
    subst e
    rwa [List.append_nil]
/-- A row with two of its elements in each other's place. -/
theorem swap_at (U V W : List α) (x y : α) : ((U ++ x :: (V ++ y :: W)).set U.length y).set (U.length + 1 + V.length) x = U ++ y :: (V ++ x :: W) := by
  rw [List.set_append_right _ _ (Nat.le_refl _), Nat.sub_self, List.set_cons_zero, List.set_append_right _ _ (by omega), show U.length + 1 + V.length - U.length = V.length + 1 by omega, List.set_cons_succ, List.set_append_right _ _ (Nat.le_refl _), Nat.sub_self, List.set_cons_zero]
theorem get_one (U V W : List α) (x y : α) : (U ++ x :: (V ++ y :: W))[U.length]? = some x := by
  rw [List.getElem?_append_right (Nat.le_refl _), Nat.sub_self]; rfl
theorem get_two (U V W : List α) (x y : α) : (U ++ x :: (V ++ y :: W))[U.length + 1 + V.length]? = some y := by
  rw [List.getElem?_append_right (by omega), show U.length + 1 + V.length - U.length = V.length + 1 by omega, List.getElem?_cons_succ, List.getElem?_append_right (Nat.le_refl _), Nat.sub_self]; rfl
/-- Where a swap of two ranges stands: the first i are swapped. -/
def rng (P X Md Y S : List α) (i : Nat) : List α := P ++ (Y.take i ++ X.drop i) ++ Md ++ (X.take i ++ Y.drop i) ++ S
theorem rng_zero (P X Md Y S : List α) : rng P X Md Y S 0 = P ++ X ++ Md ++ Y ++ S := by simp [rng]
theorem rng_full (P X Md Y S : List α) {n : Nat} (hx : X.length = n) (hy : Y.length = n) : rng P X Md Y S n = P ++ Y ++ Md ++ X ++ S := by
  unfold rng
  rw [List.take_of_length_le (by omega), List.drop_of_length_le (by omega), List.take_of_length_le (by omega), List.drop_of_length_le (by omega), List.append_nil, List.append_nil]
theorem rng_step (P X Md Y S : List α) {n i : Nat} (hx : X.length = n) (hy : Y.length = n) (hi : i < n) :
    ∃ x y, (rng P X Md Y S i)[P.length + i]? = some x ∧ (rng P X Md Y S i)[P.length + n + Md.length + i]? = some y ∧ ((rng P X Md Y S i).set (P.length + i) y).set (P.length + n + Md.length + i) x = rng P X Md Y S (i + 1) := by
  have hx1 : i < X.length := by omega
  have hy1 : i < Y.length := by omega
  have l1 : (Y.take i).length = i := by rw [List.length_take]; omega
  have l2 : (X.take i).length = i := by rw [List.length_take]; omega
  have l3 : (X.drop (i + 1)).length = n - (i + 1) := by rw [List.length_drop, hx]
  have e : rng P X Md Y S i = (P ++ Y.take i) ++ X[i] :: ((X.drop (i + 1) ++ Md ++ X.take i) ++ Y[i] :: (Y.drop (i + 1) ++ S)) := by
    unfold rng
    rw [List.drop_eq_getElem_cons hx1, List.drop_eq_getElem_cons hy1]
    simp only [List.append_assoc, List.cons_append]
  have e2 : rng P X Md Y S (i + 1) = (P ++ Y.take i) ++ Y[i] :: ((X.drop (i + 1) ++ Md ++ X.take i) ++ X[i] :: (Y.drop (i + 1) ++ S)) := by
    unfold rng
    rw [List.take_succ_eq_append_getElem hx1, List.take_succ_eq_append_getElem hy1]
    simp only [List.append_assoc, List.cons_append, List.nil_append]
  have n1 : P.length + i = (P ++ Y.take i).length := by rw [List.length_append, l1]
  have n2 : P.length + n + Md.length + i = (P ++ Y.take i).length + 1 + (X.drop (i + 1) ++ Md ++ X.take i).length := by
    simp only [List.length_append, l1, l2, l3]
    omega
  refine ⟨X[i], Y[i], ?_, ?_, ?_⟩
  · rw [e, n1, get_one]
  · rw [e, n2, get_two]
  · rw [e, e2, n2, n1, swap_at]
/-- The first one of the least: it is first in order, the others behind it. -/
theorem Sts.pop {A B N : List α} {x : α} (h : Sts key (A ++ x :: B) N) (ha : ∀ a ∈ A, key x < key a) (hb : ∀ b ∈ B, key x ≤ key b) : ∃ N', N = x :: N' ∧ Sts key (A ++ B) N' := by
  have all : ∀ z ∈ A ++ x :: B, key x ≤ key z := by
    intro z hz
    rcases List.mem_append.1 hz with hz | hz
    · have := ha z hz; omega
    · rcases List.mem_cons.1 hz with rfl | hz
      · exact Int.le_refl _
      · exact hb z hz
  have hA : A.filter (fun z => key z == key x) = [] := List.filter_eq_nil_iff.2 (fun a h1 h2 => by
    have := ha a h1
    have e : key a = key x := by simpa using h2
    omega)
  have hfx : N.filter (fun z => key z == key x) = x :: B.filter (fun z => key z == key x) := by
    rw [h.same (key x), List.filter_append, hA, List.nil_append, List.filter_cons]
    simp
  match N, h, hfx with
  | [], h, hfx => simp at hfx
  | y :: N', h, hfx =>
    have h1 : key y ≤ key x := by
      have hx := h.same.mem (x := x) (by simp)
      rcases List.mem_cons.1 hx with rfl | hx
      · exact Int.le_refl _
      · exact (List.pairwise_cons.1 h.srt).1 x hx
    have h2 := all y (h.same.symm.mem (by simp))
    have e : key y = key x := by omega
    rw [List.filter_cons, if_pos (by simp [e])] at hfx
    injection hfx with e1 e2
    subst e1
    refine ⟨N', rfl, (List.pairwise_cons.1 h.srt).2, fun k => ?_⟩
    have hk := h.same k
    rw [List.filter_append, List.filter_cons, List.filter_cons] at hk
    rw [List.filter_append]
    by_cases e3 : key y = k
    · have e4 : (key y == k) = true := by simp [e3]
      subst e3
      rw [hA, List.nil_append, e2]
    · have e4 : (key y == k) = false := by simp [e3]
      rw [e4] at hk
      simpa using hk
theorem Sts.nil {N : List α} (h : Sts key ([] : List α) N) : N = [] := h.same.nil
/-- .. and the other way round. -/
theorem Sts.push {A B N : List α} {x : α} (h : Sts key (A ++ B) N) (ha : ∀ a ∈ A, key x < key a) (hb : ∀ b ∈ B, key x ≤ key b) : Sts key (A ++ x :: B) (x :: N) := by
  refine ⟨List.pairwise_cons.2 ⟨fun z hz => ?_, h.srt⟩, ?_⟩
  · rcases List.mem_append.1 (h.same.symm.mem hz) with hz | hz
    · have := ha z hz; omega
    · exact hb z hz
  · have h1 : Same key (A ++ x :: B) (x :: (A ++ B)) := by
      have e1 : A ++ x :: B = A ++ [x] ++ B := by simp
      have e2 : x :: (A ++ B) = [x] ++ A ++ B := by simp
      rw [e1, e2]
      exact (Same.swap (fun a h1 y h2 => by
        rcases List.mem_singleton.1 h2 with rfl
        have := ha a h1
        omega)).app (Same.refl B)
    exact h1.trans ((Same.refl [x]).app h.same)
end Stb
end Go.Proofs.Ytmnfefebbadflaa
