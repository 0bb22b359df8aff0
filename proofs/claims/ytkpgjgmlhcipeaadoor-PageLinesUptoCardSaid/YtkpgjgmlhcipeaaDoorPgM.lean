/- page.read: what a line is read as. -/
import Derived.Maps.OwnOps
import Derived.StringKeys
import Derived.RangeFuncBox
import Derived.Test.YtkpgjgmlhcipeaaDoorPgA
import Derived.Test.YtkpgjgmlhcipeaaDoorRowS
namespace Go.Proofs.YtkpgjgmlhcipeaaDoor
open Go.RowKit
open Go.Maps (Keyed)
theorem plainElem_bool_inv {H : Type} {P : Program} {e : TypeId} (he : P.underlying e = some .bool) {v : Value} {z : DataW H × List MemPlace} (h : plainElem P e v = some z) : ∃ x, v = .bool x ∧ z = (.lit (.bool x), []) := by
  unfold plainElem at h
  rw [he] at h
  cases v <;> simp at h
  exact ⟨_, rfl, h.symm⟩
theorem key9 : Keyed Tryd.prog 9 := Maps.string_keyed Tryd.underlying9
theorem zero4 (w : World) : (zeroValue 4).run Tryd.prog w = .ok (.bool false) w := by kernel_rfl
/-- The map of what each word may have. -/
def wMap (p q r : Bool) : DataW Unit := (((DataW.map []).put (.string [112, 111, 105, 110, 116]) (.lit (.bool p))).put (.string [98, 111, 120]) (.lit (.bool q))).put (.string [114, 111, 117, 116, 101]) (.lit (.bool r))
theorem wMap_at (n : Nat) (s : ByteArray) : (wMap (decide (n = 2)) (decide (n = 4)) (decide (2 ≤ n) && decide (n % 2 = 0))).atKey (.string s.data.toList) (.lit (.bool false)) = .lit (.bool (rightW s n)) := by
  have e1 : (decide (s = bPoint)) = ([112, 111, 105, 110, 116] == s.data.toList) := by
    rw [Bool.eq_iff_iff]
    simp only [decide_eq_true_eq, beq_iff_eq]
    constructor
    · rintro rfl; rfl
    · intro h; rw [← toB_data s, ← h]; rfl
  have e2 : (decide (s = bBox)) = ([98, 111, 120] == s.data.toList) := by
    rw [Bool.eq_iff_iff]
    simp only [decide_eq_true_eq, beq_iff_eq]
    constructor
    · rintro rfl; rfl
    · intro h; rw [← toB_data s, ← h]; rfl
  have e3 : (decide (s = bRoute)) = ([114, 111, 117, 116, 101] == s.data.toList) := by
    rw [Bool.eq_iff_iff]
    simp only [decide_eq_true_eq, beq_iff_eq]
    constructor
    · rintro rfl; rfl
    · intro h; rw [← toB_data s, ← h]; rfl
  unfold rightW
  rw [e1, e2, e3, Bool.and_assoc]
  generalize s.data.toList = l
  generalize decide (n = 2) = p
  generalize decide (n = 4) = q
  generalize (decide (2 ≤ n) && decide (n % 2 = 0)) = r
  have hm : wMap p q r = .map [(.string [98, 111, 120], .lit (.bool q)), (.string [112, 111, 105, 110, 116], .lit (.bool p)), (.string [114, 111, 117, 116, 101], .lit (.bool r))] := rfl
  rw [hm]
  simp only [DataW.atKey, List.find?, Lit.sameKey]
  by_cases h1 : l = [98, 111, 120]
  · subst h1; cases p <;> cases q <;> cases r <;> rfl
  · by_cases h2 : l = [112, 111, 105, 110, 116]
    · subst h2; cases p <;> cases q <;> cases r <;> rfl
    · by_cases h3 : l = [114, 111, 117, 116, 101]
      · subst h3; cases p <;> cases q <;> cases r <;> rfl
      · have f1 : ([98, 111, 120] == l) = false := by simpa using fun h => h1 h.symm
        have f2 : ([112, 111, 105, 110, 116] == l) = false := by simpa using fun h => h2 h.symm
        have f3 : ([114, 111, 117, 116, 101] == l) = false := by simpa using fun h => h3 h.symm
        rw [f1, f2, f3]
        rfl
theorem map_three (w : World) (p q r : Bool) : ∃ w2 w3 w4, (Instr.mapUpdate 128 (.map (some w.heap.size)) (.string ⟨#[112, 111, 105, 110, 116]⟩) (.bool p)).run Tryd.prog (w.alloc (.map #[] 0)) = .ok () w2 ∧
    (Instr.mapUpdate 128 (.map (some w.heap.size)) (.string ⟨#[98, 111, 120]⟩) (.bool q)).run Tryd.prog w2 = .ok () w3 ∧
    (Instr.mapUpdate 128 (.map (some w.heap.size)) (.string ⟨#[114, 111, 117, 116, 101]⟩) (.bool r)).run Tryd.prog w3 = .ok () w4 ∧
    w4.ownsMap Tryd.prog 9 (plainElem Tryd.prog 4) w.heap.size 3 (wMap p q r) ∧ (w.alloc (.map #[] 0)).grownBy w2 (some w.heap.size) ∧ w2.grownBy w3 (some w.heap.size) ∧ w3.grownBy w4 (some w.heap.size) := by
  obtain ⟨w2, h1, m1, g1⟩ := (World.ownsMap_made (H := Unit) w Tryd.prog 9 (plainElem Tryd.prog 4)).update key9 Tryd.underlying128 (by decide) (Go.WideMaps.keyOf_string_mk (s := ⟨#[112, 111, 105, 110, 116]⟩) Tryd.underlying9 (by decide)) (plainElem_bool Tryd.underlying4 p)
  obtain ⟨w3, h2, m2, g2⟩ := m1.update key9 Tryd.underlying128 (by decide) (Go.WideMaps.keyOf_string_mk (s := ⟨#[98, 111, 120]⟩) Tryd.underlying9 (by decide)) (plainElem_bool Tryd.underlying4 q)
  obtain ⟨w4, h3, m3, g3⟩ := m2.update key9 Tryd.underlying128 (by decide) (Go.WideMaps.keyOf_string_mk (s := ⟨#[114, 111, 117, 116, 101]⟩) Tryd.underlying9 (by decide)) (plainElem_bool Tryd.underlying4 r)
  exact ⟨w2, w3, w4, h1, h2, h3, m3, g1, g2, g3⟩
theorem map_look {w : World} {b n : Nat} {D : DataW Unit} {s : ByteArray} {c : Bool} (h : w.ownsMap Tryd.prog 9 (plainElem Tryd.prog 4) b n D) (hs : s.size ≤ maxLen) (hat : D.atKey (.string s.data.toList) (.lit (.bool false)) = .lit (.bool c)) :
    (Instr.lookup 128 (.map (some b)) (.string s) false).run Tryd.prog w = .ok (.bool c) w := by
  obtain ⟨v, ps, hrun, hv⟩ := h.lookup key9 Tryd.underlying128 (zero4 w) (plainElem_bool Tryd.underlying4 false) (Go.WideMaps.keyOf_string_mk (s := s) Tryd.underlying9 hs)
  obtain ⟨x', rfl, hx'⟩ := plainElem_bool_inv Tryd.underlying4 hv
  rw [hat] at hx'
  simp only [Prod.mk.injEq, DataW.lit.injEq, Lit.bool.injEq] at hx'
  rw [← hx'.1] at hrun
  exact hrun
theorem numsO_snoc : ∀ (l : List ByteArray) (s : ByteArray), numsO (l ++ [s]) = (numsO l).bind fun a => (numO s.data.toList 1000000).map fun (v : Nat) => a ++ [(v : Int)]
  | [], s => by
    simp only [List.nil_append, numsO]
    cases numO s.data.toList 1000000 <;> rfl
  | x :: r, s => by
    have ih := numsO_snoc r s
    simp only [List.cons_append, numsO, ih]
    cases numO x.data.toList 1000000 <;> cases numsO r <;> cases numO s.data.toList 1000000 <;> rfl
theorem numsO_bad : ∀ (l : List ByteArray) (s : ByteArray), s ∈ l → numO s.data.toList 1000000 = none → numsO l = none
  | x :: r, s, h, hn => by
    rcases List.mem_cons.1 h with rfl | h
    · simp only [numsO, hn]
    · have ih := numsO_bad r s h hn
      simp only [numsO, ih]
      cases numO x.data.toList 1000000 <;> rfl
theorem numsO_len : ∀ (r : List ByteArray) (ns : List Int), numsO r = some ns → ns.length = r.length
  | [], ns, h => by cases h; rfl
  | a :: r, ns, h => by
    unfold numsO at h
    split at h
    · rename_i v l h1 h2
      cases h
      simp [numsO_len r _ h2]
    · cases h
theorem grown_set (W : World) (b o : Nat) (v : Value) : W.grownBy (W.setCell ⟨b, o, none⟩ v) (some b) :=
  ⟨rfl, rfl, rfl, (KeepsWalks.setCell W _ v).size, fun k _ hk => Below.heap_setCell _ _ _ k (fun e => hk (by rw [e]))⟩
theorem set_one {w : World} {b : Nat} {x y v : Value} {t : TypeId} (h : w.heap[b]? = some (.cells #[x, y] t)) : (w.setCell ⟨b, 1, none⟩ v).heap[b]? = some (.cells #[x, v] t) := by
  obtain ⟨hlt, hk⟩ := Array.getElem?_eq_some_iff.1 h
  show (w.heap.modify b _)[b]? = _
  rw [Array.getElem?_eq_getElem (by rw [Array.size_modify]; exact hlt), Array.getElem_modify_self, hk]
  rfl
theorem set_zero {w : World} {b : Nat} {x y v : Value} {t : TypeId} (h : w.heap[b]? = some (.cells #[x, y] t)) : (w.setCell ⟨b, 0, none⟩ v).heap[b]? = some (.cells #[v, y] t) := by
  obtain ⟨hlt, hk⟩ := Array.getElem?_eq_some_iff.1 h
  show (w.heap.modify b _)[b]? = _
  rw [Array.getElem?_eq_getElem (by rw [Array.size_modify]; exact hlt), Array.getElem_modify_self, hk]
  rfl
end Go.Proofs.YtkpgjgmlhcipeaaDoor
