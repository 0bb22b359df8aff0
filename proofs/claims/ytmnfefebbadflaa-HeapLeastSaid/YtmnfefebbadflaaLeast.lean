/- What HeapLeast needs: numbers in a heap counted; the head behind a push. Plain laws. -/
import Derived.Test.YtmnfefebbadflaaHeapSpec
import Derived.Test.YtmnfefebbadflaaHeapEInt
import Derived.Maps.RangeWalk
import Derived.Maps.OwnSet
import Derived.Maps.OwnOps
namespace Go.Proofs.Ytmnfefebbadflaa
open Go.RowKit Go.Maps
def ltI (a b : Int) : Bool := decide (a < b)
theorem ahdI_false {a b : Int × Int} : ahd ltI a b = false ↔ (b.1 ≤ a.1 ∧ (a.1 ≤ b.1 → b.2 ≤ a.2)) := by
  unfold ahd ltI
  by_cases h1 : a.1 < b.1
  · simp [h1]; omega
  · by_cases h2 : b.1 < a.1
    · simp [h1, h2]; omega
    · simp [h1, h2]; omega
theorem ahdI_true {a b : Int × Int} : ahd ltI a b = true ↔ ¬ (b.1 ≤ a.1 ∧ (a.1 ≤ b.1 → b.2 ≤ a.2)) := by
  rw [← ahdI_false]; simp
theorem totI : Tot ltI := by
  refine ⟨fun a b h => ?_, fun a b c h1 h2 => ?_⟩
  · rw [ahdI_true] at h; rw [ahdI_false]; omega
  · rw [ahdI_false] at *; omega
def cnt (l : List (Int × Int)) (x : Int) : Int := (l.countP (fun p => p.1 == x) : Nat)
theorem cnt_perm {l m : List (Int × Int)} (h : l.Perm m) (x : Int) : cnt l x = cnt m x := by unfold cnt; rw [h.countP_eq]
theorem cnt_bounds (l : List (Int × Int)) (x : Int) : 0 ≤ cnt l x ∧ cnt l x ≤ l.length := by
  unfold cnt; have := List.countP_le_length (p := fun p : Int × Int => p.1 == x) (l := l); omega
theorem cnt_snoc (l : List (Int × Int)) (k t x : Int) : cnt (l ++ [(k, t)]) x = cnt l x + if k = x then 1 else 0 := by
  unfold cnt; rw [List.countP_append]; by_cases h : k = x <;> simp [h]
theorem cnt_cons (a : Int × Int) (l : List (Int × Int)) (x : Int) : cnt (a :: l) x = cnt l x + if a.1 = x then 1 else 0 := by
  unfold cnt; rw [List.countP_cons]; by_cases h : a.1 = x <;> simp [h]
theorem cnt_pos {l : List (Int × Int)} {x : Int} (h : 0 < cnt l x) : ∃ p ∈ l, p.1 = x := by
  unfold cnt at h
  have : 0 < l.countP (fun p => p.1 == x) := by omega
  obtain ⟨p, hp, e⟩ := List.countP_pos_iff.1 this
  exact ⟨p, hp, by simpa using e⟩
theorem head_min {a : Int × Int} {r : List (Int × Int)} (h : Heapy ltI (a :: r)) : ∀ p ∈ a :: r, a.1 ≤ p.1 := by
  intro p hp
  obtain ⟨j, hj, rfl⟩ := List.mem_iff_getElem.1 hp
  have := heapy_min totI h j hj
  rw [getElem!_pos (a :: r) j hj] at this
  exact (ahdI_false.1 (by simpa using this)).1
theorem push_head {l : List (Int × Int)} (h : Heapy ltI l) (k t : Int) : ∃ a r, pushL ltI l k t = a :: r ∧ Heapy ltI (a :: r) ∧ (∀ p ∈ l, a.1 ≤ p.1) ∧ a.1 ≤ k ∧ (a.1 = k ∨ ∃ p ∈ l, p.1 = a.1) := by
  have hp := push_perm (lt := ltI) l k t
  have hh := push_heapy totI h k t
  cases e : pushL ltI l k t with
  | nil => rw [e] at hp; have := hp.length_eq; simp at this
  | cons a r =>
    rw [e] at hp hh
    have hm := head_min hh
    refine ⟨a, r, rfl, hh, fun p hpl => hm p (hp.mem_iff.2 (by simp [hpl])), hm (k, t) (hp.mem_iff.2 (by simp)), ?_⟩
    have ha : a ∈ l ++ [(k, t)] := hp.mem_iff.1 (by simp)
    rcases List.mem_append.1 ha with ha | ha
    · exact .inr ⟨a, ha, rfl⟩
    · simp at ha; exact .inl (by rw [ha])
/-- The map holds each number as often as it is in the heap. -/
def Agr (D : DataW Unit) (l : List (Int × Int)) : Prop := ∀ x : Int, D.atKey (.int .i64 x) (.lit (.int .i64 0)) = .lit (.int .i64 (cnt l x))
theorem Agr.nil : Agr (.map []) [] := fun _ => rfl
theorem Agr.look {D : DataW Unit} {l : List (Int × Int)} (h : Agr D l) {x c : Int} (hat : D.atKey (.int .i64 x) (.lit (.int .i64 0)) = .lit (.int .i64 c)) : c = cnt l x := by
  rw [h x] at hat; injection hat with hat; injection hat with _ hat; exact hat.symm
theorem Agr.put {D : DataW Unit} {l l' : List (Int × Int)} (h : Agr D l) (hD : IsMap D) (x c : Int) (hc : c = cnt l' x) (ho : ∀ y, y ≠ x → cnt l' y = cnt l y) : Agr (D.put (.int .i64 x) (.lit (.int .i64 c))) l' := by
  intro y
  by_cases e : y = x
  · subst e; rw [atKey_put_same hD (k := .int .i64 y) trivial, hc]
  · rw [atKey_put_other (by intro h; injection h with _ h; exact e h), h y, ho y e]
theorem Agr.pop {D : DataW Unit} {a : Int × Int} {r : List (Int × Int)} (h : Agr D (a :: r)) (hD : IsMap D) {c : Int} (hc : c = cnt (a :: r) a.1) : Agr (D.put (.int .i64 a.1) (.lit (.int .i64 (c - 1)))) (popL ltI (a :: r)) := by
  refine h.put hD _ _ ?_ (fun y hy => ?_)
  · rw [cnt_perm (pop_perm a r), hc, cnt_cons]; simp
  · rw [cnt_perm (pop_perm a r), cnt_cons, if_neg (fun e => hy e.symm)]; omega
theorem Agr.push {D : DataW Unit} {l : List (Int × Int)} (h : Agr D l) (hD : IsMap D) {c : Int} (k t : Int) (hc : c = cnt l k) : Agr (D.put (.int .i64 k) (.lit (.int .i64 (c + 1)))) (pushL ltI l k t) := by
  refine h.put hD _ _ ?_ (fun y hy => ?_)
  · rw [cnt_perm (push_perm l k t), hc, cnt_snoc]; simp
  · rw [cnt_perm (push_perm l k t), cnt_snoc, if_neg (fun e => hy e.symm)]; omega
theorem map_same {P : Program} {H : Type} {kt : TypeId} {R : Value → Option (DataW H × List MemPlace)} {b n : Nat} {D : DataW H} {w w' : World} (h : w.ownsMap P kt R b n D) (e : w'.heap[b]? = w.heap[b]?) : w'.ownsMap P kt R b n D := by
  obtain ⟨es, clock, hb, r⟩ := h
  exact ⟨es, clock, e.trans hb, r⟩
theorem map_later {P : Program} {H : Type} {kt : TypeId} {R : Value → Option (DataW H × List MemPlace)} {b n : Nat} {D : DataW H} {w w' : World} (h : w.ownsMap P kt R b n D) (e : Below w.heap.size w w') : w'.ownsMap P kt R b n D := map_same h (e.block b h.lt)
theorem apart_map {P : Program} {H : Type} {kt : TypeId} {R : Value → Option (DataW H × List MemPlace)} {b n : Nat} {D : DataW H} {w : World} {hb : Nat} {F V : Value} {t : Int} {base : Nat} {l : List (Int × Int)}
    (h : HInt.Rep w hb F V t base l) (O : w.ownsMap P kt R b n D) : ¬ (b = hb ∨ V.ownBlock = some b) := by
  obtain ⟨es, clock, hc, _⟩ := O
  rintro (rfl | e)
  · rw [h.blk] at hc; cases hc
  · rcases h.row.2 with ⟨rfl, _⟩ | ⟨g', cap, cur, rfl, _, hh, _⟩
    · simp [Value.ownBlock] at e
    · simp [Value.ownBlock] at e; subst e; rw [hc] at hh; cases hh
theorem map_chg {P : Program} {H : Type} {kt : TypeId} {R : Value → Option (DataW H × List MemPlace)} {b n : Nat} {D : DataW H} {w w' : World} {hb : Nat} {F V : Value} {t : Int} {base : Nat} {l : List (Int × Int)}
    (h : HInt.Rep w hb F V t base l) (O : w.ownsMap P kt R b n D) (c : Chg (fun b => b = hb ∨ V.ownBlock = some b) w w') : w'.ownsMap P kt R b n D := map_same O (c.block b O.lt (apart_map h O))
/-- The map has been written: the heap stands. -/
theorem rep_map {P : Program} {H : Type} {kt : TypeId} {R : Value → Option (DataW H × List MemPlace)} {b n : Nat} {D : DataW H} {w w' : World} {hb : Nat} {F V : Value} {t : Int} {base : Nat} {l : List (Int × Int)}
    (h : HInt.Rep w hb F V t base l) (O : w.ownsMap P kt R b n D) (g : w.grownBy w' (some b)) : HInt.Rep w' hb F V t base l :=
  h.chg (Chg.of_grown g (S := fun k => k = b) (fun k e => by cases e; rfl)) (fun e => apart_map h O (.inl e.symm)) (fun k hk e => apart_map h O (.inr (by rw [hk, e])))
theorem law3 : Keyed Try.prog 3 := int_keyed Try.underlying3
theorem zero3 (w : World) : (zeroValue 3).run Try.prog w = .ok (.int .i64 0) w := by kernel_rfl
theorem enter21 (args : Array Value) (w : World) : (callFunc 21 args).run Try.prog w = .ok (.enter 21 args) w := by kernel_rfl
theorem less21 : HInt.Less 21 ltI := ⟨enter21, fun a b w => by
  go_enter Try.func21, Try.ntmps21
  go_wp2
  go_ret
  exact ⟨rfl, Below.refl _ _⟩⟩
end Go.Proofs.Ytmnfefebbadflaa
