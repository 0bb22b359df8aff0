/- Small words that the walks of this seat share: rows of elements of several cells, what a call may change, heaps in memory. No program in sight. -/
import Derived.Test.YtmnfefebbadflaaRows
import Derived.WalkKit
import Derived.WalkSpells
import Derived.WalkLawsBesides
import Derived.Lib.Hide
import Derived.Deep.AppendLies
import Derived.Deep.QuietTactic
import Derived.BigQuiet
namespace Go.Proofs.Ytmnfefebbadflaa
open Go.RowKit

theorem ret_int {k : IntKind} {a b : Int} (h : a = b) : Ending.returned (.int k a) = Ending.returned (.int k b) := by rw [h]
theorem ret_bool {a b : Bool} (h : a = b) : Ending.returned (.bool a) = Ending.returned (.bool b) := by rw [h]
theorem heap_at {w : World} {o : Obj} {n : Nat} (h : n = w.heap.size) : (w.alloc o).heap[n]? = some o := by subst h; exact heap_alloc_new w o
/-- An open cell: it holds v, and may be written. -/
structure Cl (w : World) (a : Addr) (v : Value) : Prop where
  cell : w.cell? a = some v
  free : w.frozen? a = false
theorem Cl.later {w wx : World} {a : Addr} {v : Value} (h : Cl w a v) (hb : Below w.heap.size w wx) : Cl wx a v :=
  ⟨cell_later hb h.cell, (hb.frozen (World.block_lt_of_cell? w a h.cell)).trans h.free⟩
theorem Cl.alloc {w : World} {a : Addr} {v : Value} (h : Cl w a v) (o : Obj) : Cl (w.alloc o) a v :=
  h.later ((Below.refl _ _).alloc (Nat.le_refl _) o)
theorem Cl.new {w : World} {c : Array Value} {t : TypeId} {j : Nat} {v : Value} (h : c[j]? = some v) : Cl (w.alloc (.cells c t)) ⟨w.heap.size, j, none⟩ v := by
  have hb := heap_alloc_new w (.cells c t)
  exact ⟨by rw [World.cell?, hb]; simpa using h, by rw [World.frozen?, hb]; simp⟩
theorem Cl.of_block {w : World} {b j : Nat} {c : Array Value} {t : TypeId} {v : Value} (hb : w.heap[b]? = some (.cells c t)) (h : c[j]? = some v) : Cl w ⟨b, j, none⟩ v :=
  ⟨by simp [World.cell?, hb, h], by simp [World.frozen?, hb]⟩
theorem bcell {W w1 : World} (hb : Below W.heap.size W w1) : (∀ b o, b < W.heap.size → w1.cell? ⟨b, o, none⟩ = W.cell? ⟨b, o, none⟩) ∧ (∀ b o, b < W.heap.size → w1.frozen? ⟨b, o, none⟩ = W.frozen? ⟨b, o, none⟩) :=
  ⟨fun b o h => hb.cell (p := ⟨b, o, none⟩) h, fun b o h => hb.frozen (p := ⟨b, o, none⟩) h⟩
theorem block_later {w wx : World} {b : Nat} {o : Obj} (hb : Below w.heap.size w wx) (h : w.heap[b]? = some o) : wx.heap[b]? = some o :=
  (hb.block b (Array.getElem?_eq_some_iff.1 h).1).trans h
theorem below_then {B : Nat} {w w1 w2 : World} (h : Below B w w1) (hB : B ≤ w1.heap.size) (k : Below w1.heap.size w1 w2) : Below B w w2 := h.trans (k.mono hB)

/-- What may have changed: the blocks of S alone, and new ones. -/
structure Chg (S : Nat → Prop) (w w' : World) : Prop where
  os : w'.os = w.os
  tape : w'.tape = w.tape
  output : w'.output = w.output
  size : w.heap.size ≤ w'.heap.size
  block : ∀ k, k < w.heap.size → ¬ S k → w'.heap[k]? = w.heap[k]?
theorem Chg.refl (S : Nat → Prop) (w : World) : Chg S w w := ⟨rfl, rfl, rfl, Nat.le_refl _, fun _ _ _ => rfl⟩
theorem Chg.mono {S S' : Nat → Prop} {w w' : World} (h : Chg S w w') (hs : ∀ k, k < w.heap.size → S k → S' k) : Chg S' w w' := ⟨h.os, h.tape, h.output, h.size, fun k hk hn => h.block k hk (fun s => hn (hs k hk s))⟩
theorem Chg.trans {S S' : Nat → Prop} {w w' w'' : World} (h : Chg S w w') (k : Chg S' w' w'') (hs : ∀ b, b < w.heap.size → S' b → S b) : Chg S w w'' :=
  ⟨k.os.trans h.os, k.tape.trans h.tape, k.output.trans h.output, Nat.le_trans h.size k.size, fun b hb hn => (k.block b (Nat.lt_of_lt_of_le hb h.size) (fun s => hn (hs b hb s))).trans (h.block b hb hn)⟩
theorem chg_below {w w' : World} (h : Below w.heap.size w w') (S : Nat → Prop) : Chg S w w' := ⟨h.os, h.tape, h.output, h.size, fun k hk _ => h.block k hk⟩
theorem Chg.of_grown {w w' : World} {row : Option Nat} (h : w.grownBy w' row) {S : Nat → Prop} (hs : ∀ k, row = some k → S k) : Chg S w w' :=
  ⟨h.os, h.tape, h.output, h.size, fun k hk hn => h.block k hk (fun e => hn (hs k e.symm))⟩
theorem Chg.setCell {S : Nat → Prop} {a w : World} (h : Chg S a w) {p : Addr} (hp : p.block < a.heap.size → S p.block) (u : Value) : Chg S a (w.setCell p u) :=
  ⟨h.os, h.tape, h.output, by simpa [World.setCell] using h.size, fun k hk hn => (Below.heap_setCell _ _ _ _ (fun e => hn (by subst e; exact hp hk))).trans (h.block k hk hn)⟩
theorem Chg.below {S : Nat → Prop} {B : Nat} {w w' : World} (h : Chg S w w') (hB : B ≤ w.heap.size) (hs : ∀ k, S k → B ≤ k) : Below B w w' :=
  ⟨h.os, h.tape, h.output, h.size, fun k hk => h.block k (by omega) (fun s => by have := hs k s; omega)⟩
theorem Chg.drewN {S : Nat → Prop} {a w : World} (h : Chg S a w) (n : Nat) : Chg S a (w.drewN n) := ⟨h.os, h.tape, h.output, h.size, h.block⟩
theorem Chg.drew {S : Nat → Prop} {a w : World} (h : Chg S a w) : Chg S a w.drew := ⟨h.os, h.tape, h.output, h.size, h.block⟩

/-! A world with more blocks behind it, other draws: what a call leaves that only makes memory. A region that draws its order and only reads and makes such calls is walked once. -/
structure Ext where
  heap : Array Obj
  drawn : Nat
instance : Inhabited Ext := ⟨⟨#[], 0⟩⟩
def grow (W : World) (X : Ext) : World := { W with heap := W.heap ++ X.heap, drawn := X.drawn }
theorem grow_block {W : World} (X : Ext) {k : Nat} (h : k < W.heap.size) : (grow W X).heap[k]? = W.heap[k]? := by
  simp only [grow]; rw [Array.getElem?_append_left h]
theorem grow_size (W : World) (X : Ext) : (grow W X).heap.size = W.heap.size + X.heap.size := by simp [grow]
theorem grow_below (W : World) (X : Ext) : Below W.heap.size W (grow W X) := ⟨rfl, rfl, rfl, by rw [grow_size]; omega, fun _ h => grow_block X h⟩
theorem grow_of_below {W w' : World} (h : Below W.heap.size W w') : ∃ X, w' = grow W X := by
  refine ⟨⟨w'.heap.extract W.heap.size w'.heap.size, w'.drawn⟩, ?_⟩
  have hh : w'.heap = W.heap ++ w'.heap.extract W.heap.size w'.heap.size := by
    apply Array.ext_getElem?
    intro i
    have hs := h.size
    by_cases hi : i < W.heap.size
    · rw [Array.getElem?_append_left hi]; exact h.block i hi
    · rw [Array.getElem?_append_right (by omega), Array.getElem?_extract]
      by_cases hj : i < w'.heap.size
      · rw [if_pos (by omega)]; congr 1; omega
      · rw [if_neg (by omega)]; exact Array.getElem?_eq_none (by omega)
  have h1 := h.os
  have h2 := h.tape
  have h3 := h.output
  cases w'
  simp only [grow] at *
  subst h1 h2 h3
  congr 1
theorem grow_grow (W : World) (X Y : Ext) : ∃ Z, grow (grow W X) Y = grow W Z := grow_of_below (below_then (grow_below W X) (grow_below W X).size (grow_below _ Y))
theorem grow_cell {W : World} {a : Addr} {v : Value} (h : W.cell? a = some v) : ∀ X, (grow W X).cell? a = some v := fun X => cell_later (grow_below W X) h
theorem grow_free {W : World} {a : Addr} {v : Value} (h : Cl W a v) : ∀ X, (grow W X).frozen? a = false := fun X => (h.later (grow_below W X)).free
theorem wp_region_grow {P : Program} {id : Nat} {Q : Exit → Act → World → Prop} {a : Act} {W : World} {l : List Oper} (hm : P.follows .mixedOrders = true) (hB : Region.lexB .any l.toArray = true)
    (h : wpQuiet P l.toArray (fun w' => ∃ X, w' = grow W X) (fun a' => ∀ w', (∃ X, w' = grow W X) → Q .normal a' w') l a) : (Code.region id l.toArray true).wp P Q a W :=
  wp_region_quiet (C := fun w' => ∃ X, w' = grow W X) hm hB (grow_of_below ((Below.refl _ _).drew)) (by simpa using h)
/-- A callee's contract, met within such a region. -/
theorem grow_calls {P : Program} {f : FuncId} {args : Array Value} {W : World} {X : Ext} {v : Value}
    (h : Calls P f args (grow W X) fun e w' => e = .returned v ∧ Below (grow W X).heap.size (grow W X) w') : Calls P f args (grow W X) fun e w'' => e = .returned v ∧ ∃ Y, w'' = grow W Y :=
  h.mono fun _ _ ⟨he, hm⟩ => ⟨he, grow_of_below (below_then (grow_below W X) (grow_below W X).size hm)⟩

/-! Rows of elements of several cells. -/
section
variable {α : Type}
def flat (enc : α → List Value) (l : List α) : List Value := l.flatMap enc
theorem flat_length {enc : α → List Value} {sz : Nat} (he : ∀ a, (enc a).length = sz) (l : List α) : (flat enc l).length = l.length * sz := by
  induction l with
  | nil => simp [flat]
  | cons a l ih => simp only [flat, List.flatMap_cons, List.length_append, List.length_cons] at *; rw [ih, he, Nat.add_mul]; omega
theorem flat_get {enc : α → List Value} {sz : Nat} (he : ∀ a, (enc a).length = sz) (l : List α) (j r : Nat) (hr : r < sz) (a : α) (ha : l[j]? = some a) : (flat enc l)[j * sz + r]? = (enc a)[r]? := by
  induction l generalizing j with
  | nil => simp at ha
  | cons b l ih =>
    cases j with
    | zero =>
      simp at ha; subst ha
      simp only [flat, List.flatMap_cons, Nat.zero_mul, Nat.zero_add]
      rw [List.getElem?_append_left (by rw [he]; exact hr)]
    | succ j =>
      simp at ha
      simp only [flat, List.flatMap_cons]
      rw [List.getElem?_append_right (by rw [he, Nat.add_mul]; omega), he]
      have : (j + 1) * sz + r - sz = j * sz + r := by rw [Nat.add_mul]; omega
      rw [this]
      exact ih j ha
theorem flat_append (enc : α → List Value) (l m : List α) : flat enc (l ++ m) = flat enc l ++ flat enc m := by simp [flat]
theorem flat_set {enc : α → List Value} {sz : Nat} (he : ∀ a, (enc a).length = sz) (l : List α) (j : Nat) (b : α) (hj : j < l.length) :
    flat enc (l.set j b) = (flat enc l).take (j * sz) ++ enc b ++ (flat enc l).drop (j * sz + sz) := by
  induction l generalizing j with
  | nil => simp at hj
  | cons a l ih =>
    cases j with
    | zero => simp [flat, he]
    | succ j =>
      have h2 := ih j (by simpa using hj)
      simp only [flat, List.flatMap_cons, List.set_cons_succ] at *
      rw [h2]
      have e1 : (j + 1) * sz = (enc a).length + j * sz := by rw [he, Nat.add_mul]; omega
      rw [e1, List.take_append, List.drop_append]
      simp [List.take_of_length_le, List.drop_eq_nil_of_le, Nat.add_assoc]
def setAll {β : Type} (xs : List β) (o : Nat) : List β → List β
  | [] => xs
  | v :: vs => setAll (xs.set o v) (o + 1) vs
theorem setAll_eq {β : Type} (vs : List β) : ∀ (xs : List β) (o : Nat), o + vs.length ≤ xs.length → setAll xs o vs = xs.take o ++ vs ++ xs.drop (o + vs.length) := by
  induction vs with
  | nil => intro xs o h; simp [setAll]
  | cons v vs ih =>
    intro xs o h
    simp only [List.length_cons] at h
    rw [setAll, ih _ _ (by simp; omega)]
    have h1 : (xs.set o v).take (o + 1) = xs.take o ++ [v] := by
      rw [List.take_set, List.take_succ_eq_append_getElem (by omega), List.set_append_right _ _ (by simp; omega)]
      simp [Nat.min_eq_left (show o ≤ xs.length by omega)]
    have h2 : (xs.set o v).drop (o + 1 + vs.length) = xs.drop (o + (vs.length + 1)) := by
      rw [List.drop_set_of_lt (by omega)]
      congr 1
      omega
    rw [h1, h2]
    simp
theorem flat_set_cells {enc : α → List Value} {sz : Nat} (he : ∀ a, (enc a).length = sz) (l : List α) (j : Nat) (b : α) (hj : j < l.length) : flat enc (l.set j b) = setAll (flat enc l) (j * sz) (enc b) := by
  rw [flat_set he l j b hj, setAll_eq, he]
  rw [flat_length he, he]
  have : (j + 1) * sz ≤ l.length * sz := Nat.mul_le_mul_right _ hj
  rw [Nat.add_mul] at this
  omega
def setCells (w : World) (g o : Nat) : List Value → World
  | [] => w
  | v :: vs => setCells (w.setCell ⟨g, o, none⟩ v) g (o + 1) vs
theorem grownBy_trans {w w' w'' : World} {g : Nat} (h : w.grownBy w' (some g)) (k : w'.grownBy w'' (some g)) : w.grownBy w'' (some g) :=
  ⟨k.os.trans h.os, k.tape.trans h.tape, k.output.trans h.output, Nat.le_trans h.size k.size, fun i hi hn => (k.block i (Nat.lt_of_lt_of_le hi h.size) hn).trans (h.block i hi hn)⟩
theorem setCells_row {base e size g n cap : Nat} (vs : List Value) : ∀ (w : World) (xs : List Value) (o : Nat), w.ownsRow base e size (.slice (some ⟨g, 0, none⟩) n cap) n xs →
    (setCells w g o vs).ownsRow base e size (.slice (some ⟨g, 0, none⟩) n cap) n (setAll xs o vs) ∧ w.grownBy (setCells w g o vs) (some g) := by
  induction vs with
  | nil => intro w xs o h; exact ⟨h, ⟨rfl, rfl, rfl, Nat.le_refl _, fun _ _ _ => rfl⟩⟩
  | cons v vs ih =>
    intro w xs o h
    obtain ⟨h1, h2⟩ := h.stored o v
    obtain ⟨h3, h4⟩ := ih _ _ (o + 1) h1
    exact ⟨h3, grownBy_trans h2 h4⟩
end

/-! A heap in memory: its struct (what is less, the row of its items, the time), its items in a row of its own. -/
structure HRep {α : Type} (T E sz : Nat) (enc : α → List Value) (w : World) (hb : Nat) (F V : Value) (t : Int) (base : Nat) (l : List α) : Prop where
  blk : w.heap[hb]? = some (.cells #[F, V, .int .i64 t] T)
  row : w.ownsRow base E sz V l.length (flat enc l)
  ne : V.ownBlock ≠ some hb
section
variable {α : Type} {T E sz : Nat} {enc : α → List Value} {w : World} {hb : Nat} {F V : Value} {t : Int} {base : Nat} {l : List α}
theorem HRep.lt (H : HRep T E sz enc w hb F V t base l) : hb < w.heap.size := (Array.getElem?_eq_some_iff.1 H.blk).1
theorem HRep.chg {w' : World} {S : Nat → Prop} (H : HRep T E sz enc w hb F V t base l) (h : Chg S w w') (h1 : ¬ S hb) (h2 : ∀ k, V.ownBlock = some k → ¬ S k) : HRep T E sz enc w' hb F V t base l := by
  refine ⟨(h.block hb H.lt h1).trans H.blk, ?_, H.ne⟩
  refine ⟨H.row.1, ?_⟩
  rcases H.row.2 with h0 | ⟨g, cap, cur, rfl, hg, hh, r⟩
  · exact .inl h0
  · exact .inr ⟨g, cap, cur, rfl, hg, (h.block g (Array.getElem?_eq_some_iff.1 hh).1 (h2 g rfl)).trans hh, r⟩
theorem HRep.later {w' : World} (H : HRep T E sz enc w hb F V t base l) (h : Below w.heap.size w w') : HRep T E sz enc w' hb F V t base l :=
  H.chg (chg_below h (fun _ => False)) (by simp) (by simp)
theorem HRep.slice (H : HRep T E sz enc w hb F V t base l) (hl : 0 < l.length) : ∃ g cap, V = .slice (some ⟨g, 0, none⟩) l.length cap ∧ base ≤ g ∧ g < w.heap.size ∧ g ≠ hb := by
  obtain ⟨g, cap, h1, h2, h3⟩ := H.row.form hl
  exact ⟨g, cap, h1, h2, h3, fun e => H.ne (by rw [h1, ← e]; rfl)⟩
theorem HRep.item (H : HRep T E sz enc w hb F V t base l) (he : ∀ a, (enc a).length = sz) {g cap : Nat} (hV : V = .slice (some ⟨g, 0, none⟩) l.length cap) {j : Nat} {a : α} (hj : l[j]? = some a) {r : Nat} (hr : r < sz) {v : Value} (hv : (enc a)[r]? = some v) :
    Cl w ⟨g, j * sz + r, none⟩ v := by
  have hl : j < l.length := (List.getElem?_eq_some_iff.1 hj).1
  have hrow := H.row
  rw [hV] at hrow
  have hlt : j * sz + r < l.length * sz := by
    have : (j + 1) * sz ≤ l.length * sz := Nat.mul_le_mul_right _ hl
    rw [Nat.add_mul] at this
    omega
  exact ⟨(hrow.cellAt _ hlt).trans ((flat_get he l j r hr a hj).trans hv), hrow.frozenAt _⟩
theorem ownsRow_take {w : World} {base : Nat} {e : TypeId} {size g cap n : Nat} {xs : List Value} (h : w.ownsRow base e size (.slice (some ⟨g, 0, none⟩) n cap) n xs) (k : Nat) (hk : k ≤ n) :
    w.ownsRow base e size (.slice (some ⟨g, 0, none⟩) k cap) k (xs.take (k * size)) := by
  obtain ⟨h1, h2⟩ := h
  have hle : k * size ≤ n * size := Nat.mul_le_mul_right _ hk
  refine ⟨by rw [List.length_take, h1]; omega, ?_⟩
  rcases h2 with ⟨h0, _⟩ | ⟨g', cap', cur, hv, hg, hh, hn, hcap, hsz, htake⟩
  · cases h0
  · cases hv
    refine .inr ⟨g, cap, cur, rfl, hg, hh, by omega, hcap, hsz, ?_⟩
    rw [← htake, List.take_take, Nat.min_eq_left hle]
theorem flat_take {α : Type} {enc : α → List Value} {sz : Nat} (he : ∀ a, (enc a).length = sz) (l : List α) (k : Nat) (hk : k ≤ l.length) : flat enc (l.take k) = (flat enc l).take (k * sz) := by
  have h1 : flat enc l = flat enc (l.take k) ++ flat enc (l.drop k) := by rw [← flat_append, List.take_append_drop]
  have h2 : (flat enc (l.take k)).length = k * sz := by rw [flat_length he, List.length_take, Nat.min_eq_left hk]
  rw [h1, ← h2]
  exact List.take_left.symm
theorem HRep.shrink (H : HRep T E sz enc w hb F V t base l) (he : ∀ a, (enc a).length = sz) {g cap : Nat} (hV : V = .slice (some ⟨g, 0, none⟩) l.length cap) (k : Nat) (hk : k ≤ l.length) :
    HRep T E sz enc (w.setCell ⟨hb, 1, none⟩ (.slice (some ⟨g, 0, none⟩) k cap)) hb F (.slice (some ⟨g, 0, none⟩) k cap) t base (l.take k) := by
  subst hV
  have hne : g ≠ hb := fun e => H.ne (by rw [e]; rfl)
  have hr := ownsRow_take H.row k hk
  rw [← flat_take he l k hk] at hr
  refine ⟨heap_setCell_same w hb 1 _ _ _ H.blk, ?_, fun e => hne (by cases e; rfl)⟩
  rw [List.length_take, Nat.min_eq_left hk]
  refine ⟨hr.1, ?_⟩
  rcases hr.2 with ⟨h0, _⟩ | ⟨g', cap', cur, hv, hg, hh, r⟩
  · cases h0
  · cases hv
    exact .inr ⟨g, cap, cur, rfl, hg, by rw [Below.heap_setCell _ _ _ _ hne]; exact hh, r⟩
theorem HRep.store (H : HRep T E sz enc w hb F V t base l) (he : ∀ a, (enc a).length = sz) {g cap : Nat} (hV : V = .slice (some ⟨g, 0, none⟩) l.length cap) (j : Nat) (b : α) (hj : j < l.length) :
    HRep T E sz enc (setCells w g (j * sz) (enc b)) hb F V t base (l.set j b) ∧ Chg (fun k => V.ownBlock = some k) w (setCells w g (j * sz) (enc b)) := by
  subst hV
  obtain ⟨h1, h2⟩ := setCells_row (enc b) w _ (j * sz) H.row
  rw [← flat_set_cells he l j b hj] at h1
  have hne : g ≠ hb := fun e => H.ne (by rw [e]; rfl)
  refine ⟨⟨?_, ?_, H.ne⟩, Chg.of_grown h2 (fun k e => by cases e; rfl)⟩
  · rw [h2.block hb H.lt (fun e => hne (by simpa using e.symm))]; exact H.blk
  · rw [List.length_set]; exact h1
end
end Go.Proofs.Ytmnfefebbadflaa
