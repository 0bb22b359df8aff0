/- Slices that read as lists; rows that grow, or that are stored into; what stays. No program in sight. -/
import Derived.Test.YtmnfefebbadflaaFnd
import Derived.Test.YtmnfefebbadflaaLeaf
import Derived.ArgAppend
import Derived.OwnWalk
import Derived.Deep.OwnRows
namespace Go.Proofs.Ytmnfefebbadflaa
open Go.RowKit
theorem Cl.chg {w w' : World} {a : Addr} {v : Value} {S : Nat → Prop} (h : Cl w a v) (hc : Chg S w w') (hs : ¬ S a.block) : Cl w' a v := by
  have hb := hc.block a.block (World.block_lt_of_cell? _ _ h.cell) hs
  exact ⟨(World.cell?_of_block hb).trans h.cell, (World.frozen?_of_block hb).trans h.free⟩
theorem own_typ {w : World} {base E sz : Nat} {V : Value} {n : Nat} {xs : List Value} (h : w.ownsRow base E sz V n xs) {g : Nat} (hg : V.ownBlock = some g) : ∃ cur, w.heap[g]? = some (.cells cur E) := by
  rcases h.2 with ⟨rfl, _⟩ | ⟨g', cap, cur, rfl, _, hh, _⟩
  · simp [Value.ownBlock] at hg
  · have : g' = g := by simpa [Value.ownBlock] using hg
    subst this
    exact ⟨cur, hh⟩
theorem ne_of_typ {w : World} {a b : Nat} {ca cb : Array Value} {ta tb : TypeId} (ha : w.heap[a]? = some (.cells ca ta)) (hb : w.heap[b]? = some (.cells cb tb)) (h : ta ≠ tb) : a ≠ b := by
  rintro rfl
  rw [ha] at hb
  injection hb with hb
  injection hb with _ ht
  exact h ht
theorem rowIs_typ {w : World} {b t n : Nat} {f : Nat → Value} (h : w.rowIs b t n f) : ∃ cur, w.heap[b]? = some (.cells cur t) := by
  obtain ⟨cur, h1, _⟩ := h
  exact ⟨cur, h1⟩
theorem row_rebase {w : World} {base base' E sz : Nat} {V : Value} {n : Nat} {xs : List Value} (h : w.ownsRow base E sz V n xs) (hb : base' ≤ base) : w.ownsRow base' E sz V n xs := by
  refine ⟨h.1, ?_⟩
  rcases h.2 with h0 | ⟨g, cap, cur, rfl, hg, r⟩
  · exact .inl h0
  · exact .inr ⟨g, cap, cur, rfl, Nat.le_trans hb hg, r⟩
theorem row_typ {w w' : World} {B E sz : Nat} {V : Value} {k : Nat} {xs : List Value} (o : w.ownsRow B E sz V k xs) (hk : ∀ (b : Nat) (cur : Array Value), w.heap[b]? = some (.cells cur E) → V.ownBlock = some b → w'.heap[b]? = w.heap[b]?) : w'.ownsRow B E sz V k xs := by
  refine ⟨o.1, ?_⟩
  rcases o.2 with h0 | ⟨g', cap', cur', rfl, hg', hh, r⟩
  · exact .inl h0
  · exact .inr ⟨g', cap', cur', rfl, hg', (hk g' cur' hh rfl).trans hh, r⟩
theorem own_later {w w' : World} {B E sz : Nat} {V : Value} {k : Nat} {xs : List Value} (o : w.ownsRow B E sz V k xs) (b : Below w.heap.size w w') : w'.ownsRow B E sz V k xs := row_typ o (fun q _ hq _ => b.block q (Array.getElem?_eq_some_iff.1 hq).1)
theorem own_chg {w w' : World} {B E sz : Nat} {V : Value} {k : Nat} {xs : List Value} {S : Nat → Prop} (o : w.ownsRow B E sz V k xs) (c : Chg S w w') (h : ∀ g, V.ownBlock = some g → ¬ S g) : w'.ownsRow B E sz V k xs := row_typ o (fun q _ hq e => c.block q (Array.getElem?_eq_some_iff.1 hq).1 (h q e))
theorem own_lt {w : World} {B E sz : Nat} {V : Value} {k : Nat} {xs : List Value} (o : w.ownsRow B E sz V k xs) {g : Nat} (h : V.ownBlock = some g) : g < w.heap.size := (o.lt g h).2
theorem own_ge {w : World} {B E sz : Nat} {V : Value} {k : Nat} {xs : List Value} (o : w.ownsRow B E sz V k xs) {g : Nat} (h : V.ownBlock = some g) : B ≤ g := (o.lt g h).1
theorem own_shape {w : World} {B E sz : Nat} {V : Value} {k : Nat} {xs : List Value} (o : w.ownsRow B E sz V k xs) : ∃ A cap, V = .slice A k cap ∧ k ≤ cap := by
  rcases o.2 with ⟨h, h0⟩ | ⟨g, cap, cur, h, _, _, hle, _⟩
  · have h0' : k = 0 := h0
    exact ⟨none, 0, by rw [h, h0'], by omega⟩
  · exact ⟨_, cap, h, hle⟩
/-- append, and what becomes of the old row: it is the new one, or nothing was written to it. -/
theorem wpList_append_keep {P : Program} (w : World) {ops : Array Oper} {rest : List Oper} {o : Oper} {a : Act} {Q : Exit → Act → World → Prop} (hgd : o.guard = none) (s x : Operand) (t : TypeId)
    (ho : o.op = .call { callee := .builtin .append, args := #[s, x], argTypes := #[t, t] })
    (base : Nat) (e : TypeId) (i : TypeInfo) (z : Value) (size bytes : Nat) (ht : P.underlying t = some (.slice e)) (hi : P.info? e = some i) (hz : i.zero = some z)
    (hsize : i.size = size) (hby : i.bytes = bytes) (hzs : z.cells.size = size) (hsz : 0 < size)
    (v : Value) (n : Nat) (xs : List Value) (hs : a.eval s = v) (hown : w.ownsRow base e size v n xs)
    (ad : Addr) (m c : Nat) (news : List Value) (hx : a.eval x = .slice (some ad) m c) (hl : news.length = m * size) (hnews : ∀ j u, news[j]? = some u → w.cell? (ad.add j) = some u) (h1 : ∀ u ∈ news, u.oneCell' = true)
    (hm : 0 < m) (h63 : n + m ≤ maxLen) (hbytes : (n + m) * bytes ≤ 140737488355328) (hbase : base ≤ w.heap.size)
    (h : ∀ g cap w', w'.ownsRow base e size (.slice (some ⟨g, 0, none⟩) (n + m) cap) (n + m) (xs ++ news) → w.grownBy w' v.ownBlock → (v.ownBlock = some g ∨ (w.heap.size ≤ g ∧ w.grownBy w' none)) → wpList P ops Q rest (a.put o.dst (.slice (some ⟨g, 0, none⟩) (n + m) cap)) w') : wpList P ops Q (o :: rest) a w := by
  have wide : ∀ {w' : World}, w.grownBy w' none → w.grownBy w' v.ownBlock := fun g => ⟨g.os, g.tape, g.output, g.size, fun k hk _ => g.block k hk (by simp)⟩
  have grow : ∀ (ao : Option Addr) (cap : Nat), v = .slice ao n cap → (ao = none → n = 0 ∧ cap = 0) → (∀ b, ao = some b → ∀ j u, xs[j]? = some u → w.cell? (b.add j) = some u) → cap < n + m → wpList P ops Q (o :: rest) a w := by
    intro ao cap hv hnone holds hfull
    refine wpList_append_grows w hgd s x t ho e i z size bytes ht hi hz hsize hby hzs hsz ao n cap xs (by rw [hs, hv]) hnone hown.1 holds ad m c news hx hl hnews h1 hfull h63 hbytes ?_
    intro v' w' ho' hg'
    obtain ⟨g, cap', rfl, hge, _⟩ := ho'.form (by omega)
    exact h g cap' w' (row_rebase ho' hbase) (wide hg') (.inr ⟨hge, hg'⟩)
  rcases hown.2 with ⟨hv, hn⟩ | ⟨g, cap, cur, hv, hbg, hh, hle, hcap, hcs, htake⟩
  · have hn0 : n = 0 := hn
    subst hn0
    exact grow none 0 hv (fun _ => ⟨rfl, rfl⟩) (fun b hb => by cases hb) (by omega)
  · by_cases hroom : n + m ≤ cap
    · subst hv
      refine wpList_append_fits w hgd s x t ho base e i size ht hi hsize g n cap xs hs hown ad m c news hx hl hnews h1 hroom ?_
      intro w' ho' hg'
      exact h g cap w' ho' hg' (.inl rfl)
    · refine grow (some ⟨g, 0, none⟩) cap hv (fun hb => by cases hb) (fun b hb j u hu => ?_) (by omega)
      cases hb
      have ad0 : (⟨g, 0, none⟩ : Addr).add j = ⟨g, j, none⟩ := by unfold Addr.add; split <;> simp_all
      rw [ad0]
      subst hv
      have hj : j < n * size := by have := (List.getElem?_eq_some_iff.1 hu).1; rw [hown.1] at this; exact this
      rw [hown.cellAt j hj]
      exact hu
section
variable {α : Type}
/-- A slice that reads as a list: each element's cells. -/
def Sl (sz : Nat) (enc : α → List Value) (w : World) (V : Value) (L : List α) : Prop :=
  ∃ A cap, V = .slice A L.length cap ∧ L.length ≤ cap ∧ (A = none → L.length = 0 ∧ cap = 0) ∧
    (0 < L.length → ∃ b off, A = some ⟨b, off, none⟩ ∧ ∀ i a, L[i]? = some a → ∀ r v, (enc a)[r]? = some v → w.cell? ⟨b, off + i * sz + r, none⟩ = some v)
variable {sz : Nat} {enc : α → List Value} {w w' : World} {V : Value} {L : List α}
theorem Sl.keep (h : Sl sz enc w V L) (hk : ∀ a v, w.cell? a = some v → w'.cell? a = some v) : Sl sz enc w' V L := by
  obtain ⟨A, cap, e, h1, h2, h⟩ := h
  refine ⟨A, cap, e, h1, h2, fun hl => ?_⟩
  obtain ⟨b, off, e2, hc⟩ := h hl
  exact ⟨b, off, e2, fun i a hi r v hv => hk _ _ (hc i a hi r v hv)⟩
theorem Sl.later (h : Sl sz enc w V L) (b : Below w.heap.size w w') : Sl sz enc w' V L := h.keep (fun _ _ hc => cell_later b hc)
theorem Sl.of_own (he : ∀ a, (enc a).length = sz) {B E : Nat} (h : w.ownsRow B E sz V L.length (flat enc L)) : Sl sz enc w V L := by
  rcases h.2 with ⟨hV, hn⟩ | ⟨g, cap, cur, hV, hg, hh, hle, r⟩
  · have hn0 : L.length = 0 := hn
    exact ⟨none, 0, by rw [hV, hn0], by omega, fun _ => ⟨hn0, rfl⟩, fun h0 => absurd h0 (by omega)⟩
  · refine ⟨some ⟨g, 0, none⟩, cap, hV, hle, (fun h => by cases h), fun hl => ⟨g, 0, rfl, fun i a hi r v hv => ?_⟩⟩
    rw [hV] at h
    have hi' : i < L.length := (List.getElem?_eq_some_iff.1 hi).1
    have hr : r < sz := by have := (List.getElem?_eq_some_iff.1 hv).1; rw [he] at this; exact this
    have e0 := flat_get he L i r hr a hi
    have hlt : i * sz + r < L.length * sz := by
      have : (i + 1) * sz ≤ L.length * sz := Nat.mul_le_mul_right _ hi'
      rw [Nat.add_mul] at this
      omega
    rw [Nat.zero_add, h.cellAt _ hlt, e0]
    exact hv
/-- A part of it, from its head. -/
theorem Sl.take (h : Sl sz enc w V L) {A : Option Addr} {cap : Nat} (hV : V = .slice A L.length cap) (k : Nat) (hk : k ≤ L.length) : Sl sz enc w (.slice A k cap) (L.take k) := by
  obtain ⟨A', cap', e, h1, h2, h⟩ := h
  rw [hV] at e
  cases e
  have hl : (L.take k).length = k := by rw [List.length_take]; omega
  refine ⟨A, cap, by rw [hl], by omega, fun ha => by have := h2 ha; omega, fun hp => ?_⟩
  obtain ⟨b, off, e2, hc⟩ := h (by omega)
  refine ⟨b, off, e2, fun i a hi r v hv => hc i a ?_ r v hv⟩
  rw [List.getElem?_take] at hi
  split at hi
  · exact hi
  · cases hi
theorem Sl.cells (h : Sl sz enc w V L) : ∃ A cap, V = .slice A L.length cap ∧ L.length ≤ cap ∧ (A = none → L.length = 0 ∧ cap = 0) ∧
    (0 < L.length → ∃ b off, A = some ⟨b, off, none⟩ ∧ ∀ i a, L[i]? = some a → ∀ r v, (enc a)[r]? = some v → w.cell? ⟨b, off + i * sz + r, none⟩ = some v) := h
end
def encI (x : Int) : List Value := [.int .i64 x]
theorem encI_length (x : Int) : (encI x).length = 1 := rfl
theorem flat_encI (L : List Int) : flat encI L = L.map (Value.int .i64) := by induction L with
  | nil => rfl
  | cons a l ih => simp only [flat, List.flatMap_cons, List.map_cons] at *; rw [ih]; rfl
abbrev Ints (w : World) (V : Value) (L : List Int) : Prop := Sl 1 encI w V L
theorem Ints.at_ {w : World} {V : Value} {L : List Int} (h : Ints w V L) : ∃ A cap, V = .slice A L.length cap ∧ L.length ≤ cap ∧ (A = none → L.length = 0 ∧ cap = 0) ∧
    (0 < L.length → ∃ b off, A = some ⟨b, off, none⟩ ∧ ∀ i x, L[i]? = some x → w.cell? ⟨b, off + i, none⟩ = some (.int .i64 x)) := by
  obtain ⟨A, cap, e, h1, h2, h⟩ := h
  refine ⟨A, cap, e, h1, h2, fun hl => ?_⟩
  obtain ⟨b, off, e2, hc⟩ := h hl
  refine ⟨b, off, e2, fun i x hi => ?_⟩
  have := hc i x hi 0 (.int .i64 x) rfl
  rwa [Nat.mul_one, Nat.add_zero] at this
theorem Ints.of_row {w : World} {b t n : Nat} {f : Nat → Int} {c : Nat} (hc : n ≤ c) (h : w.rowIs b t n (fun i => .int .i64 (f i))) : Ints w (.slice (some ⟨b, 0, none⟩) n c) ((List.range n).map f) := by
  refine ⟨some ⟨b, 0, none⟩, c, by simp, by simpa using hc, (fun h => by cases h), fun hl => ⟨b, 0, rfl, fun i a hi r v hv => ?_⟩⟩
  rw [List.getElem?_map] at hi
  by_cases hin : i < n
  · rw [List.getElem?_range hin] at hi
    simp at hi
    subst hi
    have hr : r = 0 := by have := (List.getElem?_eq_some_iff.1 hv).1; simp [encI] at this; exact this
    subst hr
    have : v = .int .i64 (f i) := by simpa [encI] using hv.symm
    subst this
    rw [Nat.zero_add, Nat.mul_one, Nat.add_zero]
    exact h.cell hin
  · rw [List.getElem?_eq_none (by simp; omega)] at hi
    simp at hi
/-- An arc: from where, to where, what it weighs. -/
abbrev Arc := Int × Int × Int
def encA (a : Arc) : List Value := [.int .i64 a.1, .int .i64 a.2.1, .int .i64 a.2.2]
theorem encA_length (a : Arc) : (encA a).length = 3 := rfl
abbrev Arcs (w : World) (V : Value) (L : List Arc) : Prop := Sl 3 encA w V L
theorem Arcs.at_ {w : World} {V : Value} {L : List Arc} (h : Arcs w V L) : ∃ A cap, V = .slice A L.length cap ∧ L.length ≤ cap ∧ (A = none → L.length = 0 ∧ cap = 0) ∧
    (0 < L.length → ∃ b off, A = some ⟨b, off, none⟩ ∧ ∀ i a, L[i]? = some a → w.cell? ⟨b, off + i * 3, none⟩ = some (.int .i64 a.1) ∧ w.cell? ⟨b, off + i * 3 + 1, none⟩ = some (.int .i64 a.2.1) ∧ w.cell? ⟨b, off + i * 3 + 2, none⟩ = some (.int .i64 a.2.2)) := by
  obtain ⟨A, cap, e, h1, h2, h⟩ := h
  refine ⟨A, cap, e, h1, h2, fun hl => ?_⟩
  obtain ⟨b, off, e2, hc⟩ := h hl
  exact ⟨b, off, e2, fun i a hi => ⟨hc i a hi 0 _ rfl, hc i a hi 1 _ rfl, hc i a hi 2 _ rfl⟩⟩
theorem below_chg {W w w' : World} {S : Nat → Prop} (h : Below W.heap.size W w) (c : Chg S w w') (hS : ∀ b, S b → W.heap.size ≤ b) : Below W.heap.size W w' := h.trans (c.below h.size hS)
end Go.Proofs.Ytmnfefebbadflaa
