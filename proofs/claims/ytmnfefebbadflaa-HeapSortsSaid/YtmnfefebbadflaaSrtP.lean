/- Strings popped, the greatest first; strings sorted and turned round. -/
import Derived.Test.YtmnfefebbadflaaMrgD
import Derived.Test.YtmnfefebbadflaaShelf
import Derived.Sort.OwnSorted
namespace Go.Proofs.Ytmnfefebbadflaa
open Go.RowKit Go.Sort
theorem tot_of {α : Type} {lt : α → α → Bool} (ha : ∀ a b, lt a b = true → lt b a = false) (nt : ∀ a b c, lt b a = false → lt c b = false → lt c a = false) : Tot lt := by
  refine ⟨fun a b h => ?_, fun a b c h k => ?_⟩
  · unfold ahd at h ⊢
    cases e : lt a.1 b.1
    · rw [e] at h
      simp at h
      rw [h.1]
      simp
      omega
    · rw [ha _ _ e]
      simp
  · unfold ahd at h k ⊢
    cases e1 : lt b.1 a.1 with
    | true => rw [e1] at h; simp at h
    | false =>
      cases e2 : lt c.1 b.1 with
      | true => rw [e2] at k; simp at k
      | false =>
        rw [nt _ _ _ e1 e2]
        cases e3 : lt a.1 c.1 with
        | true => simp
        | false =>
          have e4 := nt _ _ _ e2 e3
          have e5 := nt _ _ _ e3 e1
          rw [e1, e4] at h
          rw [e2, e5] at k
          simp at h k ⊢
          omega
def ltG (a b : ByteArray) : Bool := !(Op.bytesLess a.data.toList b.data.toList || a.data.toList == b.data.toList)
theorem ltG_iff (a b : ByteArray) : ltG a b = true ↔ b.data.toList < a.data.toList := by
  unfold ltG
  rw [bytesLess_eq]
  simp only [Bool.not_eq_true', Bool.or_eq_false_iff, decide_eq_false_iff_not, beq_eq_false_iff_ne]
  constructor
  · rintro ⟨h, k⟩
    exact Decidable.byContradiction fun h2 => k (List.le_antisymm (List.not_lt.1 h2) (List.not_lt.1 h))
  · intro h
    exact ⟨List.lt_asymm h, fun e => List.lt_irrefl _ (e ▸ h)⟩
theorem ltG_false (a b : ByteArray) : ltG a b = false ↔ a.data.toList ≤ b.data.toList := by
  rw [← Bool.not_eq_true, ltG_iff]
  exact List.not_lt
theorem totG : Tot ltG := tot_of (fun a b h => by
  rw [ltG_iff] at h
  rw [ltG_false]
  exact List.le_of_lt h) (fun a b c h k => by
  rw [ltG_false] at *
  exact List.le_trans k h)
theorem ltG_anti {a b : ByteArray} (h : ltG a b = false) (k : ltG b a = false) : a = b := by
  rw [ltG_false] at h k
  have := List.le_antisymm h k
  cases a; cases b
  simp at this
  exact congrArg _ this
/-- What a heap of strings has. -/
def SimS (hl : List (ByteArray × Int)) (D : List ByteArray) : Prop := Heapy ltG hl ∧ (hl.map Prod.fst).Perm D
theorem SimS.nil : SimS [] [] := ⟨fun j _ h => by simp at h, List.Perm.refl _⟩
theorem SimS.len {hl : List (ByteArray × Int)} {D : List ByteArray} (h : SimS hl D) : hl.length = D.length := by simpa using h.2.length_eq
theorem SimS.push {hl : List (ByteArray × Int)} {D : List ByteArray} (h : SimS hl D) (x : ByteArray) (t : Int) : SimS (pushL ltG hl x t) (D ++ [x]) :=
  ⟨push_heapy totG h.1 x t, ((push_perm hl x t).map Prod.fst).trans (by rw [List.map_append]; exact h.2.append_right _)⟩
theorem SimS.perm {hl : List (ByteArray × Int)} {D D' : List ByteArray} (h : SimS hl D) (p : D.Perm D') : SimS hl D' := ⟨h.1, h.2.trans p⟩
theorem SimS.pop {a : ByteArray × Int} {r : List (ByteArray × Int)} {d : ByteArray} {D : List ByteArray} (h : SimS (a :: r) (d :: D)) (hs : ∀ y ∈ D, ltG y d = false) : a.1 = d ∧ SimS (popL ltG (a :: r)) D := by
  have h1 : ltG d a.1 = false := by
    have hd : d ∈ (a :: r).map Prod.fst := h.2.mem_iff.2 (by simp)
    obtain ⟨q, hq, rfl⟩ := List.mem_map.1 hd
    obtain ⟨j, hj, e⟩ := List.getElem_of_mem hq
    have hm := heapy_min totG h.1 j hj
    rw [getElem!_pos (a :: r) j hj, e] at hm
    have e0 : (a :: r)[0]! = a := rfl
    rw [e0] at hm
    unfold ahd at hm
    cases e1 : ltG q.1 a.1 with
    | true => rw [e1] at hm; simp at hm
    | false => rfl
  have h2 : ltG a.1 d = false := by
    have ha : a.1 ∈ d :: D := h.2.mem_iff.1 (by simp)
    rcases List.mem_cons.1 ha with e | e
    · rw [e]; rw [ltG_false]; exact List.le_refl _
    · exact hs _ e
  have e := ltG_anti h2 h1
  refine ⟨e, pop_heapy totG h.1, ((pop_perm a r).map Prod.fst).trans ?_⟩
  have hp := h.2
  rw [List.map_cons, e] at hp
  exact hp.cons_inv
/-- In falling order. -/
def Fall (D : List ByteArray) : Prop := D.Pairwise fun a b => ltG b a = false
theorem strs_enc (ws : List ByteArray) : (ws.map (fun x => x.data.toList)).map encStr = ws.map Value.string := by
  rw [List.map_map]
  exact List.map_congr_left fun x _ => by cases x; simp [encStr]
theorem enc_strs (ss : List (List UInt8)) : ss.map encStr = (ss.map fun l => (⟨l.toArray⟩ : ByteArray)).map Value.string := by
  rw [List.map_map]; rfl
theorem sort_fall (ws : List ByteArray) : ∃ D, Fall D ∧ ws.Perm D ∧ (((ws.map (fun x => x.data.toList)).mergeSort fun x y => decide (x ≤ y)).reverse).map encStr = D.map Value.string := by
  refine ⟨((((ws.map (fun x => x.data.toList)).mergeSort fun x y => decide (x ≤ y)).reverse).map fun l => (⟨l.toArray⟩ : ByteArray)), ?_, ?_, enc_strs _⟩
  · unfold Fall
    rw [List.pairwise_map, List.pairwise_reverse]
    have h := List.pairwise_mergeSort (le := fun (x y : List UInt8) => decide (x ≤ y)) (fun a b c h k => by simp only [decide_eq_true_eq] at *; exact List.le_trans h k) (fun a b => by simp only [Bool.or_eq_true, decide_eq_true_eq]; exact List.le_total a b) (ws.map (fun x => x.data.toList))
    refine h.imp ?_
    intro a b hab
    rw [ltG_false]
    simpa using hab
  · have h : ((ws.map (fun x => x.data.toList)).mergeSort fun x y => decide (x ≤ y)).Perm (ws.map (fun x => x.data.toList)) := List.mergeSort_perm _ _
    have h2 := ((List.reverse_perm _).trans h).map (fun l => (⟨l.toArray⟩ : ByteArray))
    refine List.Perm.symm (h2.trans ?_)
    rw [List.map_map]
    have e : (ws.map ((fun l => (⟨l.toArray⟩ : ByteArray)) ∘ fun x => x.data.toList)) = ws := by
      conv => rhs; rw [← List.map_id ws]
      exact List.map_congr_left fun x _ => by cases x; simp
    rw [e]
theorem row_same {w : World} {B : Nat} {V : Value} {n m : Nat} {xs ys : List Value} (h : w.ownsRow B 9 1 V n xs) (e : n = m) (e2 : xs = ys) : w.ownsRow B 9 1 V m ys := by subst e e2; exact h
theorem sortS_own {w : World} {B : Nat} {V : Value} {ss : List (List UInt8)} (h : w.ownsRow B 9 1 V ss.length (ss.map encStr)) (hn : ss.length ≤ 1000) :
    Calls Try.prog 41 #[V] w fun e w' => e = .returned (.tuple #[]) ∧ w'.ownsRow B 9 1 V ss.length ((ss.mergeSort fun x y => decide (x ≤ y)).map encStr) ∧ w.grownBy w' V.ownBlock := by
  rcases h.2 with ⟨hnil, h0⟩ | ⟨g, cap, cur, rfl, hbase, hb, h1, h2, h3, h4⟩
  · have h0' : ss.length = 0 := h0
    have hs : ss = [] := List.eq_nil_of_length_eq_zero h0'
    subst hs
    subst hnil
    refine (Try.slices_Sort_string_none none 0 w).mono ?_
    rintro e w' ⟨rfl, rfl⟩
    exact ⟨rfl, by simpa using h, ⟨rfl, rfl, rfl, Nat.le_refl _, fun _ _ _ => rfl⟩⟩
  · have hH : Holds encStr w g 0 ss.toArray := holds_of_block hb (by simpa using h4)
    refine (Try.slices_Sort_string g 0 cap ss w hH (Array.getElem?_eq_some_iff.1 hb).1 (by omega)).mono ?_
    rintro e w' ⟨rfl, n, os, rfl⟩
    exact ⟨rfl, ownsRow_sorted (by simp) hbase hb h1 h2 h3, grownBy_sorted _⟩
theorem revS_own {w : World} {B : Nat} {V : Value} {ss : List (List UInt8)} (h : w.ownsRow B 9 1 V ss.length (ss.map encStr)) (hn : ss.length ≤ 1000) :
    Calls Try.prog 42 #[V] w fun e w' => e = .returned (.tuple #[]) ∧ w'.ownsRow B 9 1 V ss.length (ss.reverse.map encStr) ∧ w.grownBy w' V.ownBlock := by
  rcases h.2 with ⟨hnil, h0⟩ | ⟨g, cap, cur, rfl, hbase, hb, h1, h2, h3, h4⟩
  · have h0' : ss.length = 0 := h0
    have hs : ss = [] := List.eq_nil_of_length_eq_zero h0'
    subst hs
    subst hnil
    refine (Try.slices_Reverse_string_empty none 0 w).mono ?_
    rintro e w' ⟨rfl, rfl⟩
    exact ⟨rfl, by simpa using h, ⟨rfl, rfl, rfl, Nat.le_refl _, fun _ _ _ => rfl⟩⟩
  · have hH : Holds encStr w g 0 ss.toArray := holds_of_block hb (by simpa using h4)
    refine (Try.slices_Reverse_string g 0 cap ss w hH (by omega)).mono ?_
    rintro e w' ⟨rfl, n, rfl⟩
    have e0 : putRow encStr (Sort.ahead w n) g 0 ss.reverse.toArray = Go.Sort.grow (putRow encStr (Sort.ahead w n) g 0 ss.reverse.toArray) #[] := (grow_empty _).symm
    rw [e0]
    exact ⟨rfl, ownsRow_sorted (by simp) hbase hb h1 h2 h3, grownBy_sorted _⟩
end Go.Proofs.Ytmnfefebbadflaa
