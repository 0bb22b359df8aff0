/- Small words that the walks of this seat share: rows of elements of several cells, what a call may change, heaps in memory. No program in sight. -/
import Derived.Test.YtjgloineooadoaaGreatDoorRows
import Derived.WalkKit
import Derived.WalkSpells
import Derived.WalkLawsBesides
import Derived.Lib.Hide
import Derived.Deep.AppendLies
import Derived.Deep.QuietTactic
import Derived.BigQuiet
import Derived.OpenShut
import Derived.ShutString
import Derived.SizedLaws
import Derived.Deep.Slices
import Derived.Deep.Strs
import Derived.ArgAppend
import Derived.OwnWalk
import Derived.Deep.OwnRows
namespace Go.Proofs.YtjgloineooadoaaGreatDoor
open Go.RowKit

theorem ret_int {k : IntKind} {a b : Int} (h : a = b) : Ending.returned (.int k a) = Ending.returned (.int k b) := by rw [h]
theorem ret_bool {a b : Bool} (h : a = b) : Ending.returned (.bool a) = Ending.returned (.bool b) := by rw [h]
theorem heap_at {w : World} {o : Obj} {n : Nat} (h : n = w.heap.size) : (w.alloc o).heap[n]? = some o := by subst h; exact heap_alloc_new w o
/-- An open cell: it holds v, and may be written. -/
structure Cl (w : World) (a : Addr) (v : Value) : Prop where
  cell : w.cell? a = some v
  free : w.frozen? a = false
theorem Cl.later {w wx : World} {a : Addr} {v : Value} (h : Cl w a v) (hb : Below w.heap.size w wx) : Cl wx a v :=
  ⟨cell_later hb h.cell, (hb.frozen (World.block_lt_of_cell? w a h.cell)).trans h.free⟩
theorem Cl.alloc {w : World} {a : Addr} {v : Value} (h : Cl w a v) (o : Obj) : Cl (w.alloc o) a v :=
  h.later ((Below.refl _ _).alloc (Nat.le_refl _) o)
theorem Cl.new {w : World} {c : Array Value} {t : TypeId} {j : Nat} {v : Value} (h : c[j]? = some v) : Cl (w.alloc (.cells c t)) ⟨w.heap.size, j, none⟩ v := by
  have hb := heap_alloc_new w (.cells c t)
  exact ⟨by rw [World.cell?, hb]; simpa using h, by rw [World.frozen?, hb]; simp⟩
theorem Cl.of_block {w : World} {b j : Nat} {c : Array Value} {t : TypeId} {v : Value} (hb : w.heap[b]? = some (.cells c t)) (h : c[j]? = some v) : Cl w ⟨b, j, none⟩ v :=
  ⟨by simp [World.cell?, hb, h], by simp [World.frozen?, hb]⟩
theorem bcell {W w1 : World} (hb : Below W.heap.size W w1) : (∀ b o, b < W.heap.size → w1.cell? ⟨b, o, none⟩ = W.cell? ⟨b, o, none⟩) ∧ (∀ b o, b < W.heap.size → w1.frozen? ⟨b, o, none⟩ = W.frozen? ⟨b, o, none⟩) :=
  ⟨fun b o h => hb.cell (p := ⟨b, o, none⟩) h, fun b o h => hb.frozen (p := ⟨b, o, none⟩) h⟩
theorem block_later {w wx : World} {b : Nat} {o : Obj} (hb : Below w.heap.size w wx) (h : w.heap[b]? = some o) : wx.heap[b]? = some o :=
  (hb.block b (Array.getElem?_eq_some_iff.1 h).1).trans h
theorem below_then {B : Nat} {w w1 w2 : World} (h : Below B w w1) (hB : B ≤ w1.heap.size) (k : Below w1.heap.size w1 w2) : Below B w w2 := h.trans (k.mono hB)

/-- What may have changed: the blocks of S alone, and new ones. -/
structure Chg (S : Nat → Prop) (w w' : World) : Prop where
  os : w'.os = w.os
  tape : w'.tape = w.tape
  output : w'.output = w.output
  size : w.heap.size ≤ w'.heap.size
  block : ∀ k, k < w.heap.size → ¬ S k → w'.heap[k]? = w.heap[k]?
theorem Chg.refl (S : Nat → Prop) (w : World) : Chg S w w := ⟨rfl, rfl, rfl, Nat.le_refl _, fun _ _ _ => rfl⟩
theorem Chg.mono {S S' : Nat → Prop} {w w' : World} (h : Chg S w w') (hs : ∀ k, k < w.heap.size → S k → S' k) : Chg S' w w' := ⟨h.os, h.tape, h.output, h.size, fun k hk hn => h.block k hk (fun s => hn (hs k hk s))⟩
theorem Chg.trans {S S' : Nat → Prop} {w w' w'' : World} (h : Chg S w w') (k : Chg S' w' w'') (hs : ∀ b, b < w.heap.size → S' b → S b) : Chg S w w'' :=
  ⟨k.os.trans h.os, k.tape.trans h.tape, k.output.trans h.output, Nat.le_trans h.size k.size, fun b hb hn => (k.block b (Nat.lt_of_lt_of_le hb h.size) (fun s => hn (hs b hb s))).trans (h.block b hb hn)⟩
theorem chg_below {w w' : World} (h : Below w.heap.size w w') (S : Nat → Prop) : Chg S w w' := ⟨h.os, h.tape, h.output, h.size, fun k hk _ => h.block k hk⟩
theorem Chg.of_grown {w w' : World} {row : Option Nat} (h : w.grownBy w' row) {S : Nat → Prop} (hs : ∀ k, row = some k → S k) : Chg S w w' :=
  ⟨h.os, h.tape, h.output, h.size, fun k hk hn => h.block k hk (fun e => hn (hs k e.symm))⟩
theorem Chg.setCell {S : Nat → Prop} {a w : World} (h : Chg S a w) {p : Addr} (hp : p.block < a.heap.size → S p.block) (u : Value) : Chg S a (w.setCell p u) :=
  ⟨h.os, h.tape, h.output, by simpa [World.setCell] using h.size, fun k hk hn => (Below.heap_setCell _ _ _ _ (fun e => hn (by subst e; exact hp hk))).trans (h.block k hk hn)⟩
theorem Chg.below {S : Nat → Prop} {B : Nat} {w w' : World} (h : Chg S w w') (hB : B ≤ w.heap.size) (hs : ∀ k, S k → B ≤ k) : Below B w w' :=
  ⟨h.os, h.tape, h.output, h.size, fun k hk => h.block k (by omega) (fun s => by have := hs k s; omega)⟩
theorem Chg.drewN {S : Nat → Prop} {a w : World} (h : Chg S a w) (n : Nat) : Chg S a (w.drewN n) := ⟨h.os, h.tape, h.output, h.size, h.block⟩
theorem Chg.drew {S : Nat → Prop} {a w : World} (h : Chg S a w) : Chg S a w.drew := ⟨h.os, h.tape, h.output, h.size, h.block⟩

/-! A world with more blocks behind it, other draws: what a call leaves that only makes memory. A region that draws its order and only reads and makes such calls is walked once. -/
structure Ext where
  heap : Array Obj
  drawn : Nat
instance : Inhabited Ext := ⟨⟨#[], 0⟩⟩
def grow (W : World) (X : Ext) : World := { W with heap := W.heap ++ X.heap, drawn := X.drawn }
theorem grow_block {W : World} (X : Ext) {k : Nat} (h : k < W.heap.size) : (grow W X).heap[k]? = W.heap[k]? := by
  simp only [grow]; rw [Array.getElem?_append_left h]
theorem grow_size (W : World) (X : Ext) : (grow W X).heap.size = W.heap.size + X.heap.size := by simp [grow]
theorem grow_below (W : World) (X : Ext) : Below W.heap.size W (grow W X) := ⟨rfl, rfl, rfl, by rw [grow_size]; omega, fun _ h => grow_block X h⟩
theorem grow_of_below {W w' : World} (h : Below W.heap.size W w') : ∃ X, w' = grow W X := by
  refine ⟨⟨w'.heap.extract W.heap.size w'.heap.size, w'.drawn⟩, ?_⟩
  have hh : w'.heap = W.heap ++ w'.heap.extract W.heap.size w'.heap.size := by
    apply Array.ext_getElem?
    intro i
    have hs := h.size
    by_cases hi : i < W.heap.size
    · rw [Array.getElem?_append_left hi]; exact h.block i hi
    · rw [Array.getElem?_append_right (by omega), Array.getElem?_extract]
      by_cases hj : i < w'.heap.size
      · rw [if_pos (by omega)]; congr 1; omega
      · rw [if_neg (by omega)]; exact Array.getElem?_eq_none (by omega)
  have h1 := h.os
  have h2 := h.tape
  have h3 := h.output
  cases w'
  simp only [grow] at *
  subst h1 h2 h3
  congr 1
theorem grow_grow (W : World) (X Y : Ext) : ∃ Z, grow (grow W X) Y = grow W Z := grow_of_below (below_then (grow_below W X) (grow_below W X).size (grow_below _ Y))
theorem grow_cell {W : World} {a : Addr} {v : Value} (h : W.cell? a = some v) : ∀ X, (grow W X).cell? a = some v := fun X => cell_later (grow_below W X) h
theorem grow_free {W : World} {a : Addr} {v : Value} (h : Cl W a v) : ∀ X, (grow W X).frozen? a = false := fun X => (h.later (grow_below W X)).free
theorem wp_region_grow {P : Program} {id : Nat} {Q : Exit → Act → World → Prop} {a : Act} {W : World} {l : List Oper} (hm : P.follows .mixedOrders = true) (hB : Region.lexB .any l.toArray = true)
    (h : wpQuiet P l.toArray (fun w' => ∃ X, w' = grow W X) (fun a' => ∀ w', (∃ X, w' = grow W X) → Q .normal a' w') l a) : (Code.region id l.toArray true).wp P Q a W :=
  wp_region_quiet (C := fun w' => ∃ X, w' = grow W X) hm hB (grow_of_below ((Below.refl _ _).drew)) (by simpa using h)
/-- A callee's contract, met within such a region. -/
theorem grow_calls {P : Program} {f : FuncId} {args : Array Value} {W : World} {X : Ext} {v : Value}
    (h : Calls P f args (grow W X) fun e w' => e = .returned v ∧ Below (grow W X).heap.size (grow W X) w') : Calls P f args (grow W X) fun e w'' => e = .returned v ∧ ∃ Y, w'' = grow W Y :=
  h.mono fun _ _ ⟨he, hm⟩ => ⟨he, grow_of_below (below_then (grow_below W X) (grow_below W X).size hm)⟩

/-! Rows of elements of several cells. -/
section
variable {α : Type}
def flat (enc : α → List Value) (l : List α) : List Value := l.flatMap enc
theorem flat_length {enc : α → List Value} {sz : Nat} (he : ∀ a, (enc a).length = sz) (l : List α) : (flat enc l).length = l.length * sz := by
  induction l with
  | nil => simp [flat]
  | cons a l ih => simp only [flat, List.flatMap_cons, List.length_append, List.length_cons] at *; rw [ih, he, Nat.add_mul]; omega
theorem flat_get {enc : α → List Value} {sz : Nat} (he : ∀ a, (enc a).length = sz) (l : List α) (j r : Nat) (hr : r < sz) (a : α) (ha : l[j]? = some a) : (flat enc l)[j * sz + r]? = (enc a)[r]? := by
  induction l generalizing j with
  | nil => simp at ha
  | cons b l ih =>
    cases j with
    | zero =>
      simp at ha; subst ha
      simp only [flat, List.flatMap_cons, Nat.zero_mul, Nat.zero_add]
      rw [List.getElem?_append_left (by rw [he]; exact hr)]
    | succ j =>
      simp at ha
      simp only [flat, List.flatMap_cons]
      rw [List.getElem?_append_right (by rw [he, Nat.add_mul]; omega), he]
      have : (j + 1) * sz + r - sz = j * sz + r := by rw [Nat.add_mul]; omega
      rw [this]
      exact ih j ha
theorem flat_append (enc : α → List Value) (l m : List α) : flat enc (l ++ m) = flat enc l ++ flat enc m := by simp [flat]
theorem flat_set {enc : α → List Value} {sz : Nat} (he : ∀ a, (enc a).length = sz) (l : List α) (j : Nat) (b : α) (hj : j < l.length) :
    flat enc (l.set j b) = (flat enc l).take (j * sz) ++ enc b ++ (flat enc l).drop (j * sz + sz) := by
  induction l generalizing j with
  | nil => simp at hj
  | cons a l ih =>
    cases j with
    | zero => simp [flat, he]
    | succ j =>
      have h2 := ih j (by simpa using hj)
      simp only [flat, List.flatMap_cons, List.set_cons_succ] at *
      rw [h2]
      have e1 : (j + 1) * sz = (enc a).length + j * sz := by rw [he, Nat.add_mul]; omega
      rw [e1, List.take_append, List.drop_append]
      simp [List.take_of_length_le, List.drop_eq_nil_of_le, Nat.add_assoc]
def setAll {β : Type} (xs : List β) (o : Nat) : List β → List β
  | [] => xs
  | v :: vs => setAll (xs.set o v) (o + 1) vs
theorem setAll_eq {β : Type} (vs : List β) : ∀ (xs : List β) (o : Nat), o + vs.length ≤ xs.length → setAll xs o vs = xs.take o ++ vs ++ xs.drop (o + vs.length) := by
  induction vs with
  | nil => intro xs o h; simp [setAll]
  | cons v vs ih =>
    intro xs o h
    simp only [List.length_cons] at h
    rw [setAll, ih _ _ (by simp; omega)]
    have h1 : (xs.set o v).take (o + 1) = xs.take o ++ [v] := by
      rw [List.take_set, List.take_succ_eq_append_getElem (by omega), List.set_append_right _ _ (by simp; omega)]
      simp [Nat.min_eq_left (show o ≤ xs.length by omega)]
    have h2 : (xs.set o v).drop (o + 1 + vs.length) = xs.drop (o + (vs.length + 1)) := by
      rw [List.drop_set_of_lt (by omega)]
      congr 1
      omega
    rw [h1, h2]
    simp
theorem flat_set_cells {enc : α → List Value} {sz : Nat} (he : ∀ a, (enc a).length = sz) (l : List α) (j : Nat) (b : α) (hj : j < l.length) : flat enc (l.set j b) = setAll (flat enc l) (j * sz) (enc b) := by
  rw [flat_set he l j b hj, setAll_eq, he]
  rw [flat_length he, he]
  have : (j + 1) * sz ≤ l.length * sz := Nat.mul_le_mul_right _ hj
  rw [Nat.add_mul] at this
  omega
def setCells (w : World) (g o : Nat) : List Value → World
  | [] => w
  | v :: vs => setCells (w.setCell ⟨g, o, none⟩ v) g (o + 1) vs
theorem grownBy_trans {w w' w'' : World} {g : Nat} (h : w.grownBy w' (some g)) (k : w'.grownBy w'' (some g)) : w.grownBy w'' (some g) :=
  ⟨k.os.trans h.os, k.tape.trans h.tape, k.output.trans h.output, Nat.le_trans h.size k.size, fun i hi hn => (k.block i (Nat.lt_of_lt_of_le hi h.size) hn).trans (h.block i hi hn)⟩
theorem setCells_row {base e size g n cap : Nat} (vs : List Value) : ∀ (w : World) (xs : List Value) (o : Nat), w.ownsRow base e size (.slice (some ⟨g, 0, none⟩) n cap) n xs →
    (setCells w g o vs).ownsRow base e size (.slice (some ⟨g, 0, none⟩) n cap) n (setAll xs o vs) ∧ w.grownBy (setCells w g o vs) (some g) := by
  induction vs with
  | nil => intro w xs o h; exact ⟨h, ⟨rfl, rfl, rfl, Nat.le_refl _, fun _ _ _ => rfl⟩⟩
  | cons v vs ih =>
    intro w xs o h
    obtain ⟨h1, h2⟩ := h.stored o v
    obtain ⟨h3, h4⟩ := ih _ _ (o + 1) h1
    exact ⟨h3, grownBy_trans h2 h4⟩
end

/-! A heap in memory: its struct (what is less, the row of its items, the time), its items in a row of its own. -/
structure HRep {α : Type} (T E sz : Nat) (enc : α → List Value) (w : World) (hb : Nat) (F V : Value) (t : Int) (base : Nat) (l : List α) : Prop where
  blk : w.heap[hb]? = some (.cells #[F, V, .int .i64 t] T)
  row : w.ownsRow base E sz V l.length (flat enc l)
  ne : V.ownBlock ≠ some hb
section
variable {α : Type} {T E sz : Nat} {enc : α → List Value} {w : World} {hb : Nat} {F V : Value} {t : Int} {base : Nat} {l : List α}
theorem HRep.lt (H : HRep T E sz enc w hb F V t base l) : hb < w.heap.size := (Array.getElem?_eq_some_iff.1 H.blk).1
theorem HRep.chg {w' : World} {S : Nat → Prop} (H : HRep T E sz enc w hb F V t base l) (h : Chg S w w') (h1 : ¬ S hb) (h2 : ∀ k, V.ownBlock = some k → ¬ S k) : HRep T E sz enc w' hb F V t base l := by
  refine ⟨(h.block hb H.lt h1).trans H.blk, ?_, H.ne⟩
  refine ⟨H.row.1, ?_⟩
  rcases H.row.2 with h0 | ⟨g, cap, cur, rfl, hg, hh, r⟩
  · exact .inl h0
  · exact .inr ⟨g, cap, cur, rfl, hg, (h.block g (Array.getElem?_eq_some_iff.1 hh).1 (h2 g rfl)).trans hh, r⟩
theorem HRep.later {w' : World} (H : HRep T E sz enc w hb F V t base l) (h : Below w.heap.size w w') : HRep T E sz enc w' hb F V t base l :=
  H.chg (chg_below h (fun _ => False)) (by simp) (by simp)
theorem HRep.slice (H : HRep T E sz enc w hb F V t base l) (hl : 0 < l.length) : ∃ g cap, V = .slice (some ⟨g, 0, none⟩) l.length cap ∧ base ≤ g ∧ g < w.heap.size ∧ g ≠ hb := by
  obtain ⟨g, cap, h1, h2, h3⟩ := H.row.form hl
  exact ⟨g, cap, h1, h2, h3, fun e => H.ne (by rw [h1, ← e]; rfl)⟩
theorem HRep.item (H : HRep T E sz enc w hb F V t base l) (he : ∀ a, (enc a).length = sz) {g cap : Nat} (hV : V = .slice (some ⟨g, 0, none⟩) l.length cap) {j : Nat} {a : α} (hj : l[j]? = some a) {r : Nat} (hr : r < sz) {v : Value} (hv : (enc a)[r]? = some v) :
    Cl w ⟨g, j * sz + r, none⟩ v := by
  have hl : j < l.length := (List.getElem?_eq_some_iff.1 hj).1
  have hrow := H.row
  rw [hV] at hrow
  have hlt : j * sz + r < l.length * sz := by
    have : (j + 1) * sz ≤ l.length * sz := Nat.mul_le_mul_right _ hl
    rw [Nat.add_mul] at this
    omega
  exact ⟨(hrow.cellAt _ hlt).trans ((flat_get he l j r hr a hj).trans hv), hrow.frozenAt _⟩
theorem ownsRow_take {w : World} {base : Nat} {e : TypeId} {size g cap n : Nat} {xs : List Value} (h : w.ownsRow base e size (.slice (some ⟨g, 0, none⟩) n cap) n xs) (k : Nat) (hk : k ≤ n) :
    w.ownsRow base e size (.slice (some ⟨g, 0, none⟩) k cap) k (xs.take (k * size)) := by
  obtain ⟨h1, h2⟩ := h
  have hle : k * size ≤ n * size := Nat.mul_le_mul_right _ hk
  refine ⟨by rw [List.length_take, h1]; omega, ?_⟩
  rcases h2 with ⟨h0, _⟩ | ⟨g', cap', cur, hv, hg, hh, hn, hcap, hsz, htake⟩
  · cases h0
  · cases hv
    refine .inr ⟨g, cap, cur, rfl, hg, hh, by omega, hcap, hsz, ?_⟩
    rw [← htake, List.take_take, Nat.min_eq_left hle]
theorem flat_take {α : Type} {enc : α → List Value} {sz : Nat} (he : ∀ a, (enc a).length = sz) (l : List α) (k : Nat) (hk : k ≤ l.length) : flat enc (l.take k) = (flat enc l).take (k * sz) := by
  have h1 : flat enc l = flat enc (l.take k) ++ flat enc (l.drop k) := by rw [← flat_append, List.take_append_drop]
  have h2 : (flat enc (l.take k)).length = k * sz := by rw [flat_length he, List.length_take, Nat.min_eq_left hk]
  rw [h1, ← h2]
  exact List.take_left.symm
theorem HRep.shrink (H : HRep T E sz enc w hb F V t base l) (he : ∀ a, (enc a).length = sz) {g cap : Nat} (hV : V = .slice (some ⟨g, 0, none⟩) l.length cap) (k : Nat) (hk : k ≤ l.length) :
    HRep T E sz enc (w.setCell ⟨hb, 1, none⟩ (.slice (some ⟨g, 0, none⟩) k cap)) hb F (.slice (some ⟨g, 0, none⟩) k cap) t base (l.take k) := by
  subst hV
  have hne : g ≠ hb := fun e => H.ne (by rw [e]; rfl)
  have hr := ownsRow_take H.row k hk
  rw [← flat_take he l k hk] at hr
  refine ⟨heap_setCell_same w hb 1 _ _ _ H.blk, ?_, fun e => hne (by cases e; rfl)⟩
  rw [List.length_take, Nat.min_eq_left hk]
  refine ⟨hr.1, ?_⟩
  rcases hr.2 with ⟨h0, _⟩ | ⟨g', cap', cur, hv, hg, hh, r⟩
  · cases h0
  · cases hv
    exact .inr ⟨g, cap, cur, rfl, hg, by rw [Below.heap_setCell _ _ _ _ hne]; exact hh, r⟩
theorem HRep.store (H : HRep T E sz enc w hb F V t base l) (he : ∀ a, (enc a).length = sz) {g cap : Nat} (hV : V = .slice (some ⟨g, 0, none⟩) l.length cap) (j : Nat) (b : α) (hj : j < l.length) :
    HRep T E sz enc (setCells w g (j * sz) (enc b)) hb F V t base (l.set j b) ∧ Chg (fun k => V.ownBlock = some k) w (setCells w g (j * sz) (enc b)) := by
  subst hV
  obtain ⟨h1, h2⟩ := setCells_row (enc b) w _ (j * sz) H.row
  rw [← flat_set_cells he l j b hj] at h1
  have hne : g ≠ hb := fun e => H.ne (by rw [e]; rfl)
  refine ⟨⟨?_, ?_, H.ne⟩, Chg.of_grown h2 (fun k e => by cases e; rfl)⟩
  · rw [h2.block hb H.lt (fun e => hne (by simpa using e.symm))]; exact H.blk
  · rw [List.length_set]; exact h1
end
end Go.Proofs.YtjgloineooadoaaGreatDoor
/- What can be read, opened to its cells, whatever its type: numbers, strings, structs, arrays, slices of them. No program in sight. -/
namespace Go.Proofs.YtjgloineooadoaaGreatDoor
open Go.ChangeShapes Go.WideShapes
section
variable {H : Type} {enc : TypeId × Value → H} {P : Program} {w : World} {base : Nat} {sp : Nat → Bool} {held : Bool}
/-- Cells read at a type, and all in them takes no more memory than there is. -/
def Rd (enc : TypeId × Value → H) (P : Program) (w : World) (base : Nat) (sp : Nat → Bool) (held : Bool) (t : TypeId) (cs : List Value) : Prop :=
  ∃ n x, DataW.trod enc P w base sp held n t cs = some x ∧ ∀ k ∈ x.1.weights P t, k ≤ reachBytes
theorem Rd.int {t : TypeId} {k : IntKind} {cs : List Value} (h : Rd enc P w base sp held t cs) (ht : P.underlying t = some (.int k)) : ∃ n, cs = [.int k n] ∧ (Lit.int k n).wf = true := by
  obtain ⟨n, x, h, _⟩ := h
  obtain ⟨m, rfl, _, hw⟩ := DataW.trod_int ht h
  exact ⟨m, rfl, hw⟩
theorem Rd.bool {t : TypeId} {cs : List Value} (h : Rd enc P w base sp held t cs) (ht : P.underlying t = some .bool) : ∃ b, cs = [.bool b] := by
  obtain ⟨n, x, h, _⟩ := h
  obtain ⟨m, rfl, _⟩ := DataW.trod_bool ht h
  exact ⟨m, rfl⟩
theorem Rd.string {t : TypeId} {cs : List Value} (h : Rd enc P w base sp held t cs) (ht : P.underlying t = some .string) : ∃ s : ByteArray, cs = [.string s] ∧ s.size ≤ 140737488351232 := by
  obtain ⟨n, x, h, hk⟩ := h
  obtain ⟨m, rfl, rfl, _⟩ := DataW.trod_string ht h
  refine ⟨m, rfl, ?_⟩
  have := hk m.data.toList.length (by simp [DataW.weights])
  have e : m.data.toList.length = m.size := by rw [Array.length_toList]; rfl
  have hrb : reachBytes ≤ 140737488351232 := by decide
  omega
/-- The types of a type's cells: where each begins. -/
def leaves (P : Program) : Nat → TypeId → Option (List (Nat × TypeId))
  | 0, _ => none
  | k + 1, t => match P.underlying t with
    | some (.struct fs) => (fs.toList.mapM fun f => (leaves P k f.type).map fun l => l.map fun p => (f.offset + p.1, p.2)).map List.flatten
    | some (.array n e) => (leaves P k e).map fun l => (List.range n).flatMap fun i => l.map fun p => (i * P.cellsOf e + p.1, p.2)
    | some (.int _) => some [(0, t)]
    | some .bool => some [(0, t)]
    | some .string => some [(0, t)]
    | some (.slice _) => some [(0, t)]
    | _ => none
theorem weightsAll_mem {e : TypeId} : ∀ {ds : List (DataW H)} {d : DataW H}, d ∈ ds → ∀ k ∈ d.weights P e, k ∈ DataW.weightsAll P e ds
  | [], d, h, k, _ => by cases h
  | d0 :: r, d, h, k, hk => by
    simp only [DataW.weightsAll, List.mem_append]
    rcases List.mem_cons.1 h with rfl | h
    · exact .inl hk
    · exact .inr (weightsAll_mem h k hk)
theorem mapM_get {α β : Type} {f : α → Option β} : ∀ {l : List α} {r : List β}, l.mapM f = some r → ∀ y ∈ r, ∃ (i : Nat) (x : α), l[i]? = some x ∧ f x = some y
  | [], r, h, y, hy => by simp at h; subst h; cases hy
  | a :: l, r, h, y, hy => by
    simp only [List.mapM_cons, Option.bind_eq_bind, Option.bind_eq_some_iff, Option.pure_def, Option.some.injEq] at h
    obtain ⟨b, hb, r', hr', rfl⟩ := h
    rcases List.mem_cons.1 hy with rfl | hy
    · exact ⟨0, a, rfl, hb⟩
    · obtain ⟨i, x, hi, hx⟩ := mapM_get hr' y hy
      exact ⟨i + 1, x, by simpa using hi, hx⟩
theorem one_at {c : Value} : ([c] : List Value)[0]? = some c := rfl
theorem Rd.cells : ∀ (k : Nat) {t : TypeId} {ps : List (Nat × TypeId)} {cs : List Value}, Rd enc P w base sp held t cs → leaves P k t = some ps → ∀ p ∈ ps, ∃ c, cs[p.1]? = some c ∧ Rd enc P w base sp held p.2 [c]
  | 0, t, ps, cs, _, hl => by simp [leaves] at hl
  | k + 1, t, ps, cs, h, hl => by
    have sub : ∀ {o sz q : Nat} {c : Value} {t' : TypeId}, ((cs.drop o).take sz)[q]? = some c → Rd enc P w base sp held t' [c] → ∃ c, cs[o + q]? = some c ∧ Rd enc P w base sp held t' [c] := by
      intro o sz q c t' h1 h2
      refine ⟨c, ?_, h2⟩
      rw [List.getElem?_take] at h1
      split at h1
      · rw [List.getElem?_drop] at h1; exact h1
      · cases h1
    unfold leaves at hl
    split at hl
    · rename_i fs hu
      obtain ⟨n, x, hx, hk⟩ := h
      obtain ⟨xs, m, rfl, rfl, hcl, hxl, hf⟩ := DataW.trod_struct hu hx
      obtain ⟨r, hr, rfl⟩ := Option.map_eq_some_iff.1 hl
      intro p hp
      obtain ⟨l, hl1, hp⟩ := List.mem_flatten.1 hp
      obtain ⟨i, f, hi, hfi⟩ := mapM_get hr l hl1
      obtain ⟨l', hl', rfl⟩ := Option.map_eq_some_iff.1 hfi
      obtain ⟨q, hq, rfl⟩ := List.mem_map.1 hp
      have hia : fs[i]? = some f := by simpa using hi
      have hlt : i < xs.length := by rw [hxl]; exact (Array.getElem?_eq_some_iff.1 hia).1
      have hr1 := hf i f hia
      rw [List.getElem?_eq_getElem hlt] at hr1
      have R : Rd enc P w base sp held f.type ((cs.drop f.offset).take (P.cellsOf f.type)) := ⟨m, _, hr1, fun j hj => hk j (by
        simp only [DataW.weights, hu]
        refine DataW.weights_mem_each (j := i) (t := f.type) (d := xs[i].1) (by simp [hia]) (by simp [List.getElem?_eq_getElem hlt]) j hj)⟩
      obtain ⟨c, h1, h2⟩ := Rd.cells k R hl' q hq
      exact sub h1 h2
    · rename_i n e hu
      obtain ⟨n', x, hx, hk⟩ := h
      obtain ⟨xs, m, rfl, rfl, hcl, hxl, hf⟩ := DataW.trod_array hu hx
      obtain ⟨l', hl', rfl⟩ := Option.map_eq_some_iff.1 hl
      intro p hp
      obtain ⟨i, hi, hp⟩ := List.mem_flatMap.1 hp
      have hi' : i < n := by simpa using hi
      obtain ⟨q, hq, rfl⟩ := List.mem_map.1 hp
      have hlt : i < xs.length := by omega
      have hr1 := hf i hi'
      rw [List.getElem?_eq_getElem hlt] at hr1
      have R : Rd enc P w base sp held e ((cs.drop (i * P.cellsOf e)).take (P.cellsOf e)) := ⟨m, _, hr1, fun j hj => hk j (by
        simp only [DataW.weights, hu]
        exact weightsAll_mem (d := xs[i].1) (List.mem_map.2 ⟨_, List.getElem_mem hlt, rfl⟩) j hj)⟩
      obtain ⟨c, h1, h2⟩ := Rd.cells k R hl' q hq
      exact sub h1 h2
    · rename_i q hu
      intro p hp
      cases hl
      simp only [List.mem_singleton] at hp
      subst hp
      obtain ⟨m, rfl, _⟩ := h.int hu
      exact ⟨_, one_at, h⟩
    · rename_i hu
      intro p hp
      cases hl
      simp only [List.mem_singleton] at hp
      subst hp
      obtain ⟨m, rfl⟩ := h.bool hu
      exact ⟨_, one_at, h⟩
    · rename_i hu
      intro p hp
      cases hl
      simp only [List.mem_singleton] at hp
      subst hp
      obtain ⟨m, rfl, _⟩ := h.string hu
      exact ⟨_, one_at, h⟩
    · rename_i e hu
      intro p hp
      cases hl
      simp only [List.mem_singleton] at hp
      subst hp
      obtain ⟨n, x, hx, hk⟩ := id h
      rcases DataW.trod_slice hu hx with ⟨rfl, _⟩ | ⟨a, len, cap, _, _, _, _, rfl, _⟩
      · exact ⟨_, one_at, h⟩
      · exact ⟨_, one_at, h⟩
    · cases hl
/-- A slice: each of its elements' cells, by the element's leaves. -/
theorem Rd.slice {t e : TypeId} {v : Value} (h : Rd enc P w base sp held t [v]) (ht : P.underlying t = some (.slice e)) {sz by_ : Nat} (hs : P.cellsOf e = sz) (hb : P.bytesOf e = by_) {k : Nat} {ps : List (Nat × TypeId)} (hl : Proofs.YtjgloineooadoaaGreatDoor.leaves P k e = some ps) (hps : ∃ q, (0, q) ∈ ps) :
    ∃ A len cap, v = .slice A len cap ∧ len ≤ cap ∧ (sp = (fun _ => true) → cap * by_ ≤ 140737488351232) ∧ len * by_ ≤ 140737488351232 ∧ (A = none → len = 0 ∧ cap = 0) ∧
      (0 < len → ∃ b off, A = some ⟨b, off, none⟩ ∧ b < w.heap.size ∧ ∀ i, i < len → ∀ p ∈ ps, ∃ c, w.cell? ⟨b, off + i * sz + p.1, none⟩ = some c ∧ Rd enc P w base sp held p.2 [c]) := by
  obtain ⟨n, x, hx, hk⟩ := h
  have hrb : reachBytes ≤ 140737488351232 := by decide
  rcases Deep.open_slice ht hx with ⟨h0, _⟩ | ⟨a, len, cap, M, n', D, Pl, h0, hbb, hle, hm, hmm, rfl, hc⟩
  · cases h0
    exact ⟨none, 0, 0, rfl, by omega, by omega, by omega, by simp, by omega⟩
  · cases h0
    have hlM : len ≤ M := by rw [hmm]; split <;> omega
    have hz := hk ((((List.range len).map D).length + ((List.range (M - len)).map fun j => D (len + j)).length) * P.bytesOf e) (by simp only [DataW.weights, ht]; exact List.mem_cons_self)
    rw [List.length_map, List.length_map, List.length_range, List.length_range, hb, show len + (M - len) = M by omega] at hz
    have hle2 : len * by_ ≤ M * by_ := Nat.mul_le_mul_right _ hlM
    refine ⟨some a, len, cap, rfl, hle, fun hsp => ?_, by omega, by simp, fun hpos => ?_⟩
    · have : M = cap := by rw [hmm, hsp]; simp
      subst this; omega
    have key : ∀ i, i < len → ∀ p ∈ ps, ∃ c, w.cell? ((a.add (i * sz)).add p.1) = some c ∧ Rd enc P w base sp held p.2 [c] := by
      intro i hi p hp
      obtain ⟨cs, h1, h2⟩ := hc i (by omega)
      obtain ⟨_, hlen, hcell⟩ := World.cells?_some h1
      have R : Rd enc P w base sp held e cs := ⟨n', _, h2, fun j hj => hk j (by
        simp only [DataW.weights, ht, List.mem_cons, List.mem_append]
        exact .inr (.inl (weightsAll_mem (d := D i) (List.mem_map.2 ⟨i, by simpa using hi, rfl⟩) j hj)))⟩
      obtain ⟨c, h3, h4⟩ := Rd.cells k R hl p hp
      have hpl : p.1 < cs.length := (List.getElem?_eq_some_iff.1 h3).1
      have h5 := hcell p.1 (by omega)
      rw [hs] at h5
      exact ⟨c, by rw [h5]; exact h3, h4⟩
    obtain ⟨b, off, spot⟩ := a
    have hsp : spot = none := by
      obtain ⟨q, hq⟩ := hps
      obtain ⟨c, h1, _⟩ := key 0 hpos _ hq
      have := World.cell?_spot h1
      simpa [Addr.add] using this
    subst hsp
    have ad : ∀ o n, Addr.add ⟨b, o, none⟩ n = ⟨b, o + n, none⟩ := by intro o n; unfold Addr.add; split <;> simp_all
    simp only [ad] at key
    refine ⟨b, off, rfl, ?_, key⟩
    obtain ⟨q, hq⟩ := hps
    obtain ⟨c, h1, _⟩ := key 0 hpos _ hq
    exact World.block_lt_of_cell? _ _ h1
theorem okWide_arr {w : World} {r : Reach} {base : Nat} {t : TypeId} {v : Value} {n : Nat} {e : TypeId} (ht : P.underlying t = some (.array n e)) (h : Value.okWide P w r base t v) : ∃ cs, v = .agg cs ∧ cs.size = P.cellsOf t := by
  simp only [Value.okWide, ht] at h
  obtain ⟨cs, h1, h2, _⟩ := h
  exact ⟨cs, h1, h2⟩
/-- An argument that is read, with its weights. -/
theorem Rd.of_args {ts : List TypeId} {ds : List (DataW H)} {j : Nat} {t : TypeId} {cs : Array Value} {d : DataW H} {p : List MemPlace} (hsz : (DataW.weightsEach P ts ds).all (· ≤ reachBytes) = true) (ht : ts[j]? = some t) (hd : ds[j]? = some d)
    (h : ∃ n, DataW.trod enc P w base sp held n t cs.toList = some (d, p)) : Rd enc P w base sp held t cs.toList := by
  obtain ⟨n, h⟩ := h
  exact ⟨n, _, h, fun k hk => by simpa using List.all_eq_true.1 hsz _ (DataW.weights_mem_each ht hd k hk)⟩
theorem Rd.of_arg {ts : List TypeId} {ds : List (DataW H)} {j : Nat} {t : TypeId} {v : Value} {d : DataW H} {p : List MemPlace} (hsz : (DataW.weightsEach P ts ds).all (· ≤ reachBytes) = true) (ht : ts[j]? = some t) (hd : ds[j]? = some d)
    (h : ∃ n, DataW.trod enc P w base sp held n t [v] = some (d, p)) : Rd enc P w base sp held t [v] := by
  obtain ⟨n, h⟩ := h
  exact ⟨n, _, h, fun k hk => by simpa using List.all_eq_true.1 hsz _ (DataW.weights_mem_each ht hd k hk)⟩
end
end Go.Proofs.YtjgloineooadoaaGreatDoor
/- Slices that read as lists; rows that grow, or that are stored into; what stays. No program in sight. -/
namespace Go.Proofs.YtjgloineooadoaaGreatDoor
open Go.RowKit
theorem Cl.chg {w w' : World} {a : Addr} {v : Value} {S : Nat → Prop} (h : Cl w a v) (hc : Chg S w w') (hs : ¬ S a.block) : Cl w' a v := by
  have hb := hc.block a.block (World.block_lt_of_cell? _ _ h.cell) hs
  exact ⟨(World.cell?_of_block hb).trans h.cell, (World.frozen?_of_block hb).trans h.free⟩
theorem own_typ {w : World} {base E sz : Nat} {V : Value} {n : Nat} {xs : List Value} (h : w.ownsRow base E sz V n xs) {g : Nat} (hg : V.ownBlock = some g) : ∃ cur, w.heap[g]? = some (.cells cur E) := by
  rcases h.2 with ⟨rfl, _⟩ | ⟨g', cap, cur, rfl, _, hh, _⟩
  · simp [Value.ownBlock] at hg
  · have : g' = g := by simpa [Value.ownBlock] using hg
    subst this
    exact ⟨cur, hh⟩
theorem ne_of_typ {w : World} {a b : Nat} {ca cb : Array Value} {ta tb : TypeId} (ha : w.heap[a]? = some (.cells ca ta)) (hb : w.heap[b]? = some (.cells cb tb)) (h : ta ≠ tb) : a ≠ b := by
  rintro rfl
  rw [ha] at hb
  injection hb with hb
  injection hb with _ ht
  exact h ht
theorem rowIs_typ {w : World} {b t n : Nat} {f : Nat → Value} (h : w.rowIs b t n f) : ∃ cur, w.heap[b]? = some (.cells cur t) := by
  obtain ⟨cur, h1, _⟩ := h
  exact ⟨cur, h1⟩
theorem row_rebase {w : World} {base base' E sz : Nat} {V : Value} {n : Nat} {xs : List Value} (h : w.ownsRow base E sz V n xs) (hb : base' ≤ base) : w.ownsRow base' E sz V n xs := by
  refine ⟨h.1, ?_⟩
  rcases h.2 with h0 | ⟨g, cap, cur, rfl, hg, r⟩
  · exact .inl h0
  · exact .inr ⟨g, cap, cur, rfl, Nat.le_trans hb hg, r⟩
theorem row_typ {w w' : World} {B E sz : Nat} {V : Value} {k : Nat} {xs : List Value} (o : w.ownsRow B E sz V k xs) (hk : ∀ (b : Nat) (cur : Array Value), w.heap[b]? = some (.cells cur E) → V.ownBlock = some b → w'.heap[b]? = w.heap[b]?) : w'.ownsRow B E sz V k xs := by
  refine ⟨o.1, ?_⟩
  rcases o.2 with h0 | ⟨g', cap', cur', rfl, hg', hh, r⟩
  · exact .inl h0
  · exact .inr ⟨g', cap', cur', rfl, hg', (hk g' cur' hh rfl).trans hh, r⟩
theorem own_later {w w' : World} {B E sz : Nat} {V : Value} {k : Nat} {xs : List Value} (o : w.ownsRow B E sz V k xs) (b : Below w.heap.size w w') : w'.ownsRow B E sz V k xs := row_typ o (fun q _ hq _ => b.block q (Array.getElem?_eq_some_iff.1 hq).1)
theorem own_chg {w w' : World} {B E sz : Nat} {V : Value} {k : Nat} {xs : List Value} {S : Nat → Prop} (o : w.ownsRow B E sz V k xs) (c : Chg S w w') (h : ∀ g, V.ownBlock = some g → ¬ S g) : w'.ownsRow B E sz V k xs := row_typ o (fun q _ hq e => c.block q (Array.getElem?_eq_some_iff.1 hq).1 (h q e))
theorem own_lt {w : World} {B E sz : Nat} {V : Value} {k : Nat} {xs : List Value} (o : w.ownsRow B E sz V k xs) {g : Nat} (h : V.ownBlock = some g) : g < w.heap.size := (o.lt g h).2
theorem own_ge {w : World} {B E sz : Nat} {V : Value} {k : Nat} {xs : List Value} (o : w.ownsRow B E sz V k xs) {g : Nat} (h : V.ownBlock = some g) : B ≤ g := (o.lt g h).1
theorem own_shape {w : World} {B E sz : Nat} {V : Value} {k : Nat} {xs : List Value} (o : w.ownsRow B E sz V k xs) : ∃ A cap, V = .slice A k cap ∧ k ≤ cap := by
  rcases o.2 with ⟨h, h0⟩ | ⟨g, cap, cur, h, _, _, hle, _⟩
  · have h0' : k = 0 := h0
    exact ⟨none, 0, by rw [h, h0'], by omega⟩
  · exact ⟨_, cap, h, hle⟩
/-- append, and what becomes of the old row: it is the new one, or nothing was written to it. -/
theorem wpList_append_keep {P : Program} (w : World) {ops : Array Oper} {rest : List Oper} {o : Oper} {a : Act} {Q : Exit → Act → World → Prop} (hgd : o.guard = none) (s x : Operand) (t : TypeId)
    (ho : o.op = .call { callee := .builtin .append, args := #[s, x], argTypes := #[t, t] })
    (base : Nat) (e : TypeId) (i : TypeInfo) (z : Value) (size bytes : Nat) (ht : P.underlying t = some (.slice e)) (hi : P.info? e = some i) (hz : i.zero = some z)
    (hsize : i.size = size) (hby : i.bytes = bytes) (hzs : z.cells.size = size) (hsz : 0 < size)
    (v : Value) (n : Nat) (xs : List Value) (hs : a.eval s = v) (hown : w.ownsRow base e size v n xs)
    (ad : Addr) (m c : Nat) (news : List Value) (hx : a.eval x = .slice (some ad) m c) (hl : news.length = m * size) (hnews : ∀ j u, news[j]? = some u → w.cell? (ad.add j) = some u) (h1 : ∀ u ∈ news, u.oneCell' = true)
    (hm : 0 < m) (h63 : n + m ≤ maxLen) (hbytes : (n + m) * bytes ≤ 140737488355328) (hbase : base ≤ w.heap.size)
    (h : ∀ g cap w', w'.ownsRow base e size (.slice (some ⟨g, 0, none⟩) (n + m) cap) (n + m) (xs ++ news) → w.grownBy w' v.ownBlock → (v.ownBlock = some g ∨ (w.heap.size ≤ g ∧ w.grownBy w' none)) → wpList P ops Q rest (a.put o.dst (.slice (some ⟨g, 0, none⟩) (n + m) cap)) w') : wpList P ops Q (o :: rest) a w := by
  have wide : ∀ {w' : World}, w.grownBy w' none → w.grownBy w' v.ownBlock := fun g => ⟨g.os, g.tape, g.output, g.size, fun k hk _ => g.block k hk (by simp)⟩
  have grow : ∀ (ao : Option Addr) (cap : Nat), v = .slice ao n cap → (ao = none → n = 0 ∧ cap = 0) → (∀ b, ao = some b → ∀ j u, xs[j]? = some u → w.cell? (b.add j) = some u) → cap < n + m → wpList P ops Q (o :: rest) a w := by
    intro ao cap hv hnone holds hfull
    refine wpList_append_grows w hgd s x t ho e i z size bytes ht hi hz hsize hby hzs hsz ao n cap xs (by rw [hs, hv]) hnone hown.1 holds ad m c news hx hl hnews h1 hfull h63 hbytes ?_
    intro v' w' ho' hg'
    obtain ⟨g, cap', rfl, hge, _⟩ := ho'.form (by omega)
    exact h g cap' w' (row_rebase ho' hbase) (wide hg') (.inr ⟨hge, hg'⟩)
  rcases hown.2 with ⟨hv, hn⟩ | ⟨g, cap, cur, hv, hbg, hh, hle, hcap, hcs, htake⟩
  · have hn0 : n = 0 := hn
    subst hn0
    exact grow none 0 hv (fun _ => ⟨rfl, rfl⟩) (fun b hb => by cases hb) (by omega)
  · by_cases hroom : n + m ≤ cap
    · subst hv
      refine wpList_append_fits w hgd s x t ho base e i size ht hi hsize g n cap xs hs hown ad m c news hx hl hnews h1 hroom ?_
      intro w' ho' hg'
      exact h g cap w' ho' hg' (.inl rfl)
    · refine grow (some ⟨g, 0, none⟩) cap hv (fun hb => by cases hb) (fun b hb j u hu => ?_) (by omega)
      cases hb
      have ad0 : (⟨g, 0, none⟩ : Addr).add j = ⟨g, j, none⟩ := by unfold Addr.add; split <;> simp_all
      rw [ad0]
      subst hv
      have hj : j < n * size := by have := (List.getElem?_eq_some_iff.1 hu).1; rw [hown.1] at this; exact this
      rw [hown.cellAt j hj]
      exact hu
section
variable {α : Type}
/-- A slice that reads as a list: each element's cells. -/
def Sl (sz : Nat) (enc : α → List Value) (w : World) (V : Value) (L : List α) : Prop :=
  ∃ A cap, V = .slice A L.length cap ∧ L.length ≤ cap ∧ (A = none → L.length = 0 ∧ cap = 0) ∧
    (0 < L.length → ∃ b off, A = some ⟨b, off, none⟩ ∧ ∀ i a, L[i]? = some a → ∀ r v, (enc a)[r]? = some v → w.cell? ⟨b, off + i * sz + r, none⟩ = some v)
variable {sz : Nat} {enc : α → List Value} {w w' : World} {V : Value} {L : List α}
theorem Sl.keep (h : Sl sz enc w V L) (hk : ∀ a v, w.cell? a = some v → w'.cell? a = some v) : Sl sz enc w' V L := by
  obtain ⟨A, cap, e, h1, h2, h⟩ := h
  refine ⟨A, cap, e, h1, h2, fun hl => ?_⟩
  obtain ⟨b, off, e2, hc⟩ := h hl
  exact ⟨b, off, e2, fun i a hi r v hv => hk _ _ (hc i a hi r v hv)⟩
theorem Sl.later (h : Sl sz enc w V L) (b : Below w.heap.size w w') : Sl sz enc w' V L := h.keep (fun _ _ hc => cell_later b hc)
theorem Sl.of_own (he : ∀ a, (enc a).length = sz) {B E : Nat} (h : w.ownsRow B E sz V L.length (flat enc L)) : Sl sz enc w V L := by
  rcases h.2 with ⟨hV, hn⟩ | ⟨g, cap, cur, hV, hg, hh, hle, r⟩
  · have hn0 : L.length = 0 := hn
    exact ⟨none, 0, by rw [hV, hn0], by omega, fun _ => ⟨hn0, rfl⟩, fun h0 => absurd h0 (by omega)⟩
  · refine ⟨some ⟨g, 0, none⟩, cap, hV, hle, (fun h => by cases h), fun hl => ⟨g, 0, rfl, fun i a hi r v hv => ?_⟩⟩
    rw [hV] at h
    have hi' : i < L.length := (List.getElem?_eq_some_iff.1 hi).1
    have hr : r < sz := by have := (List.getElem?_eq_some_iff.1 hv).1; rw [he] at this; exact this
    have e0 := flat_get he L i r hr a hi
    have hlt : i * sz + r < L.length * sz := by
      have : (i + 1) * sz ≤ L.length * sz := Nat.mul_le_mul_right _ hi'
      rw [Nat.add_mul] at this
      omega
    rw [Nat.zero_add, h.cellAt _ hlt, e0]
    exact hv
/-- A part of it, from its head. -/
theorem Sl.take (h : Sl sz enc w V L) {A : Option Addr} {cap : Nat} (hV : V = .slice A L.length cap) (k : Nat) (hk : k ≤ L.length) : Sl sz enc w (.slice A k cap) (L.take k) := by
  obtain ⟨A', cap', e, h1, h2, h⟩ := h
  rw [hV] at e
  cases e
  have hl : (L.take k).length = k := by rw [List.length_take]; omega
  refine ⟨A, cap, by rw [hl], by omega, fun ha => by have := h2 ha; omega, fun hp => ?_⟩
  obtain ⟨b, off, e2, hc⟩ := h (by omega)
  refine ⟨b, off, e2, fun i a hi r v hv => hc i a ?_ r v hv⟩
  rw [List.getElem?_take] at hi
  split at hi
  · exact hi
  · cases hi
theorem Sl.cells (h : Sl sz enc w V L) : ∃ A cap, V = .slice A L.length cap ∧ L.length ≤ cap ∧ (A = none → L.length = 0 ∧ cap = 0) ∧
    (0 < L.length → ∃ b off, A = some ⟨b, off, none⟩ ∧ ∀ i a, L[i]? = some a → ∀ r v, (enc a)[r]? = some v → w.cell? ⟨b, off + i * sz + r, none⟩ = some v) := h
end
def encI (x : Int) : List Value := [.int .i64 x]
theorem encI_length (x : Int) : (encI x).length = 1 := rfl
theorem flat_encI (L : List Int) : flat encI L = L.map (Value.int .i64) := by induction L with
  | nil => rfl
  | cons a l ih => simp only [flat, List.flatMap_cons, List.map_cons] at *; rw [ih]; rfl
abbrev Ints (w : World) (V : Value) (L : List Int) : Prop := Sl 1 encI w V L
theorem Ints.at_ {w : World} {V : Value} {L : List Int} (h : Ints w V L) : ∃ A cap, V = .slice A L.length cap ∧ L.length ≤ cap ∧ (A = none → L.length = 0 ∧ cap = 0) ∧
    (0 < L.length → ∃ b off, A = some ⟨b, off, none⟩ ∧ ∀ i x, L[i]? = some x → w.cell? ⟨b, off + i, none⟩ = some (.int .i64 x)) := by
  obtain ⟨A, cap, e, h1, h2, h⟩ := h
  refine ⟨A, cap, e, h1, h2, fun hl => ?_⟩
  obtain ⟨b, off, e2, hc⟩ := h hl
  refine ⟨b, off, e2, fun i x hi => ?_⟩
  have := hc i x hi 0 (.int .i64 x) rfl
  rwa [Nat.mul_one, Nat.add_zero] at this
theorem Ints.of_row {w : World} {b t n : Nat} {f : Nat → Int} {c : Nat} (hc : n ≤ c) (h : w.rowIs b t n (fun i => .int .i64 (f i))) : Ints w (.slice (some ⟨b, 0, none⟩) n c) ((List.range n).map f) := by
  refine ⟨some ⟨b, 0, none⟩, c, by simp, by simpa using hc, (fun h => by cases h), fun hl => ⟨b, 0, rfl, fun i a hi r v hv => ?_⟩⟩
  rw [List.getElem?_map] at hi
  by_cases hin : i < n
  · rw [List.getElem?_range hin] at hi
    simp at hi
    subst hi
    have hr : r = 0 := by have := (List.getElem?_eq_some_iff.1 hv).1; simp [encI] at this; exact this
    subst hr
    have : v = .int .i64 (f i) := by simpa [encI] using hv.symm
    subst this
    rw [Nat.zero_add, Nat.mul_one, Nat.add_zero]
    exact h.cell hin
  · rw [List.getElem?_eq_none (by simp; omega)] at hi
    simp at hi
/-- An arc: from where, to where, what it weighs. -/
abbrev Arc := Int × Int × Int
def encA (a : Arc) : List Value := [.int .i64 a.1, .int .i64 a.2.1, .int .i64 a.2.2]
theorem encA_length (a : Arc) : (encA a).length = 3 := rfl
abbrev Arcs (w : World) (V : Value) (L : List Arc) : Prop := Sl 3 encA w V L
theorem Arcs.at_ {w : World} {V : Value} {L : List Arc} (h : Arcs w V L) : ∃ A cap, V = .slice A L.length cap ∧ L.length ≤ cap ∧ (A = none → L.length = 0 ∧ cap = 0) ∧
    (0 < L.length → ∃ b off, A = some ⟨b, off, none⟩ ∧ ∀ i a, L[i]? = some a → w.cell? ⟨b, off + i * 3, none⟩ = some (.int .i64 a.1) ∧ w.cell? ⟨b, off + i * 3 + 1, none⟩ = some (.int .i64 a.2.1) ∧ w.cell? ⟨b, off + i * 3 + 2, none⟩ = some (.int .i64 a.2.2)) := by
  obtain ⟨A, cap, e, h1, h2, h⟩ := h
  refine ⟨A, cap, e, h1, h2, fun hl => ?_⟩
  obtain ⟨b, off, e2, hc⟩ := h hl
  exact ⟨b, off, e2, fun i a hi => ⟨hc i a hi 0 _ rfl, hc i a hi 1 _ rfl, hc i a hi 2 _ rfl⟩⟩
theorem below_chg {W w w' : World} {S : Nat → Prop} (h : Below W.heap.size W w) (c : Chg S w w') (hS : ∀ b, S b → W.heap.size ≤ b) : Below W.heap.size W w' := h.trans (c.below h.size hS)
end Go.Proofs.YtjgloineooadoaaGreatDoor
