/- The law ReachTells returns true at every input. -/
import Derived.Test.YtmnfefebbadflaaRSame
import Derived.ArgAppend
import Derived.OwnWalk
import Derived.Deep.RegionWith
namespace Go.Proofs.Ytmnfefebbadflaa
open Go.RowKit
theorem row_rebase {w : World} {base base' E sz : Nat} {V : Value} {n : Nat} {xs : List Value} (h : w.ownsRow base E sz V n xs) (hb : base' ≤ base) : w.ownsRow base' E sz V n xs := by
  refine ⟨h.1, ?_⟩
  rcases h.2 with h0 | ⟨g, cap, cur, rfl, hg, r⟩
  · exact .inl h0
  · exact .inr ⟨g, cap, cur, rfl, Nat.le_trans hb hg, r⟩
/-- append, and what becomes of the old row: it is the new one, or nothing was written to it. -/
theorem wpList_append_keep {P : Program} (w : World) {ops : Array Oper} {rest : List Oper} {o : Oper} {a : Act} {Q : Exit → Act → World → Prop} (hgd : o.guard = none) (s x : Operand) (t : TypeId)
    (ho : o.op = .call { callee := .builtin .append, args := #[s, x], argTypes := #[t, t] })
    (base : Nat) (e : TypeId) (i : TypeInfo) (z : Value) (size bytes : Nat) (ht : P.underlying t = some (.slice e)) (hi : P.info? e = some i) (hz : i.zero = some z)
    (hsize : i.size = size) (hby : i.bytes = bytes) (hzs : z.cells.size = size) (hsz : 0 < size)
    (v : Value) (n : Nat) (xs : List Value) (hs : a.eval s = v) (hown : w.ownsRow base e size v n xs)
    (ad : Addr) (m c : Nat) (news : List Value) (hx : a.eval x = .slice (some ad) m c) (hl : news.length = m * size) (hnews : ∀ j u, news[j]? = some u → w.cell? (ad.add j) = some u) (h1 : ∀ u ∈ news, u.oneCell' = true)
    (hm : 0 < m) (h63 : n + m ≤ maxLen) (hbytes : (n + m) * bytes ≤ 140737488355328) (hbase : base ≤ w.heap.size)
    (h : ∀ g cap w', w'.ownsRow base e size (.slice (some ⟨g, 0, none⟩) (n + m) cap) (n + m) (xs ++ news) → w.grownBy w' v.ownBlock → (v.ownBlock = some g ∨ (w.heap.size ≤ g ∧ w.grownBy w' none)) → wpList P ops Q rest (a.put o.dst (.slice (some ⟨g, 0, none⟩) (n + m) cap)) w') : wpList P ops Q (o :: rest) a w := by
  have wide : ∀ {w' : World}, w.grownBy w' none → w.grownBy w' v.ownBlock := fun g => ⟨g.os, g.tape, g.output, g.size, fun k hk _ => g.block k hk (by simp)⟩
  have grow : ∀ (ao : Option Addr) (cap : Nat), v = .slice ao n cap → (ao = none → n = 0 ∧ cap = 0) → (∀ b, ao = some b → ∀ j u, xs[j]? = some u → w.cell? (b.add j) = some u) → cap < n + m → wpList P ops Q (o :: rest) a w := by
    intro ao cap hv hnone holds hfull
    refine wpList_append_grows w hgd s x t ho e i z size bytes ht hi hz hsize hby hzs hsz ao n cap xs (by rw [hs, hv]) hnone hown.1 holds ad m c news hx hl hnews h1 hfull h63 hbytes ?_
    intro v' w' ho' hg'
    obtain ⟨g, cap', rfl, hge, _⟩ := ho'.form (by omega)
    exact h g cap' w' (row_rebase ho' hbase) (wide hg') (.inr ⟨hge, hg'⟩)
  rcases hown.2 with ⟨hv, hn⟩ | ⟨g, cap, cur, hv, hbg, hh, hle, hcap, hcs, htake⟩
  · have hn0 : n = 0 := hn
    subst hn0
    exact grow none 0 hv (fun _ => ⟨rfl, rfl⟩) (fun b hb => by cases hb) (by omega)
  · by_cases hroom : n + m ≤ cap
    · subst hv
      refine wpList_append_fits w hgd s x t ho base e i size ht hi hsize g n cap xs hs hown ad m c news hx hl hnews h1 hroom ?_
      intro w' ho' hg'
      exact h g cap w' ho' hg' (.inl rfl)
    · refine grow (some ⟨g, 0, none⟩) cap hv (fun hb => by cases hb) (fun b hb j u hu => ?_) (by omega)
      cases hb
      have ad0 : (⟨g, 0, none⟩ : Addr).add j = ⟨g, j, none⟩ := by unfold Addr.add; split <;> simp_all
      rw [ad0]
      subst hv
      have hj : j < n * size := by have := (List.getElem?_eq_some_iff.1 hu).1; rw [hown.1] at this; exact this
      rw [hown.cellAt j hj]
      exact hu
def encP (p : Nat × Nat) : List Value := [.int .i64 (p.1 : Nat), .int .i64 (p.2 : Nat)]
theorem encP_length (p : Nat × Nat) : (encP p).length = 2 := rfl
theorem PA.of_own {w : World} {B : Nat} {V : Value} {L : List (Nat × Nat)} (h : w.ownsRow B 56 2 V L.length (flat encP L)) : PA w V L := by
  rcases h.2 with ⟨hV, hn⟩ | ⟨g, cap, cur, hV, hg, hh, r⟩
  · have hn0 : L.length = 0 := hn
    exact ⟨none, 0, by rw [hV, hn0], fun h0 => absurd h0 (by omega)⟩
  · refine ⟨some ⟨g, 0, none⟩, cap, hV, fun hl => ⟨g, 0, rfl, fun i p hp => ?_⟩⟩
    rw [hV] at h
    have hi : i < L.length := (List.getElem?_eq_some_iff.1 hp).1
    have e0 := flat_get encP_length L i 0 (by omega) p hp
    have e1 := flat_get encP_length L i 1 (by omega) p hp
    rw [Nat.zero_add, h.cellAt (i * 2) (by omega), h.cellAt (i * 2 + 1) (by omega)]
    exact ⟨e0, e1⟩
/-- The arcs as they were when the copy was made. -/
def OS (w : World) (Va : Value) (L : List (Nat × Nat)) (Vo : Value) (Lo : List (Nat × Nat)) : Prop :=
  Lo.length ≤ 100 ∧ ∃ A c, Vo = .slice A Lo.length c ∧ (0 < Lo.length → ∃ go cur, A = some ⟨go, 0, none⟩ ∧ w.heap[go]? = some (.cells cur 56) ∧ cur.toList.take (Lo.length * 2) = flat encP Lo ∧ (Va.ownBlock = some go → Lo <+: L))
theorem OS.pa {w : World} {Va : Value} {L : List (Nat × Nat)} {Vo : Value} {Lo : List (Nat × Nat)} (h : OS w Va L Vo Lo) : PA w Vo Lo := by
  obtain ⟨_, A, c, hV, h⟩ := h
  refine ⟨A, c, hV, fun hl => ?_⟩
  obtain ⟨go, cur, rfl, hh, ht, _⟩ := h hl
  refine ⟨go, 0, rfl, fun i p hp => ?_⟩
  have hi : i < Lo.length := (List.getElem?_eq_some_iff.1 hp).1
  have key : ∀ r, r < 2 → ∀ v, (encP p)[r]? = some v → w.cell? ⟨go, 0 + i * 2 + r, none⟩ = some v := by
    intro r hr v hv
    have e0 := flat_get encP_length Lo i r hr p hp
    rw [hv, ← ht, List.getElem?_take, if_pos (by omega)] at e0
    have : cur[i * 2 + r]? = some v := by simpa using e0
    simp [World.cell?, hh, this]
  exact ⟨key 0 (by omega) _ rfl, key 1 (by omega) _ rfl⟩
theorem OS.of_heap {w w' : World} {Va : Value} {L : List (Nat × Nat)} {Vo : Value} {Lo : List (Nat × Nat)} (h : OS w Va L Vo Lo) (hk : ∀ (b : Nat) (cur : Array Value), w.heap[b]? = some (.cells cur 56) → w'.heap[b]? = w.heap[b]?) : OS w' Va L Vo Lo := by
  obtain ⟨h0, A, c, hV, h⟩ := h
  refine ⟨h0, A, c, hV, fun hl => ?_⟩
  obtain ⟨go, cur, rfl, hh, r⟩ := h hl
  exact ⟨go, cur, rfl, (hk go cur hh).trans hh, r⟩
theorem OS.append {w w' : World} {B : Nat} {Va : Value} {L : List (Nat × Nat)} {Vo : Value} {Lo : List (Nat × Nat)} (h : OS w Va L Vo Lo) {p : Nat × Nat} {g cap : Nat} (hown : w'.ownsRow B 56 2 (.slice (some ⟨g, 0, none⟩) (L.length + 1) cap) (L.length + 1) (flat encP L ++ encP p))
    (hg : w.grownBy w' Va.ownBlock) (hat : Va.ownBlock = some g ∨ (w.heap.size ≤ g ∧ w.grownBy w' none)) : OS w' (.slice (some ⟨g, 0, none⟩) (L.length + 1) cap) (L ++ [p]) Vo Lo := by
  obtain ⟨h0, A, c, hV, h⟩ := h
  refine ⟨h0, A, c, hV, fun hl => ?_⟩
  obtain ⟨go, cur, rfl, hh, ht, hp⟩ := h hl
  have hlt := (Array.getElem?_eq_some_iff.1 hh).1
  have own : (Value.slice (some ⟨g, 0, none⟩) (L.length + 1) cap).ownBlock = some g := rfl
  rcases hat with hat | ⟨hge, hgn⟩
  · by_cases e : go = g
    · subst e
      have hpre := hp hat
      rcases hown.2 with ⟨h0, _⟩ | ⟨g', cap', cur', hv, _, hh', hle, _, hcs, htake⟩
      · cases h0
      · cases hv
        refine ⟨go, cur', rfl, hh', ?_, fun _ => hpre.trans (List.prefix_append _ _)⟩
        obtain ⟨R, hR⟩ := hpre
        have hlen : (flat encP Lo).length = Lo.length * 2 := flat_length encP_length Lo
        have h2 : (cur'.toList.take ((L.length + 1) * 2)).take (Lo.length * 2) = flat encP Lo := by
          rw [htake, ← hR, flat_append, List.append_assoc, ← hlen]
          exact List.take_left
        rw [List.take_take, Nat.min_eq_left (by rw [← hR, List.length_append]; omega)] at h2
        exact h2
    · have hb : w'.heap[go]? = w.heap[go]? := hg.block go hlt (fun e' => e (by rw [hat] at e'; simpa using e'))
      exact ⟨go, cur, rfl, hb.trans hh, ht, fun e' => absurd (by rw [own] at e'; simpa using e'.symm) e⟩
  · exact ⟨go, cur, rfl, (hgn.block go hlt (by simp)).trans hh, ht, fun e' => by
    rw [own] at e'
    have : g = go := by simpa using e'
    omega⟩
theorem RR.chg' {w w' : World} {rb : Nat} {A : Option Addr} {cap : Nat} {g c : Nat → Nat} {base n m : Nat} {X : Nat → Nat → Nat} {S : Nat → Prop} (h : RR w rb A cap g c base n m X) (k : Chg S w w') (h1 : ¬ S rb)
    (h2 : ∀ i, i < n → ¬ S (g i)) (h3 : 0 < n → ∀ a, A = some a → ¬ S a.block) : RR w' rb A cap g c base n m X := by
  refine ⟨(k.block rb (Array.getElem?_eq_some_iff.1 h.blk).1 h1).trans h.blk, fun hn => ?_, fun i hi => ?_, h.inj⟩
  · obtain ⟨gb, z, f, hA, hb, hz, hr, hf⟩ := h.top hn
    exact ⟨gb, z, f, hA, hb, hz, hr.of_block (k.block gb hr.lt (h3 hn _ hA)), hf⟩
  · obtain ⟨hu, r⟩ := h.rows i hi
    exact ⟨hu.of_block (k.block _ hu.lt (h2 i hi)), r⟩
/-- A row of pairs that grows turns nothing of it. -/
theorem RR.row_grow {w w' : World} {rb : Nat} {A : Option Addr} {cap : Nat} {g c : Nat → Nat} {base n m : Nat} {X : Nat → Nat → Nat} {B : Nat} {V : Value} {k : Nat} {xs : List Value} (h : RR w rb A cap g c base n m X) (o : w.ownsRow B 56 2 V k xs) (hg : w.grownBy w' V.ownBlock) : RR w' rb A cap g c base n m X := by
  have ne : ∀ {b : Nat} {cb : Array Value} {t : TypeId}, w.heap[b]? = some (.cells cb t) → t ≠ 56 → ¬ V.ownBlock = some b := fun hb ht e => by
    obtain ⟨cur, hc⟩ := own_typ o e
    exact ne_of_typ hb hc ht rfl
  refine h.chg' (Chg.of_grown hg (S := fun b => V.ownBlock = some b) (fun k e => e)) (ne h.blk (by decide)) (fun i hi => ?_) (fun hn a ha => ?_)
  · obtain ⟨cur, hc⟩ := (h.rows i hi).1.typ
    exact ne hc (by decide)
  · obtain ⟨gb, z, f, hA', _, _, hr, _⟩ := h.top hn
    rw [ha] at hA'
    cases hA'
    obtain ⟨cur, hc⟩ := rowIs_typ hr
    exact ne hc (by decide)
/-- What is in rows of words turns: what is of another type stays. -/
theorem chg_typ {w w' : World} {rb : Nat} {A : Option Addr} {cap : Nat} {g c : Nat → Nat} {base n m : Nat} {X : Nat → Nat → Nat} (h : RR w rb A cap g c base n m X) (k : Chg (fun b => ∃ i, i < n ∧ b = g i) w w') (b : Nat) (cur : Array Value) {t : TypeId} (hb : w.heap[b]? = some (.cells cur t)) (ht : t ≠ 93) : w'.heap[b]? = w.heap[b]? :=
  k.block b (Array.getElem?_eq_some_iff.1 hb).1 (fun ⟨i, hi, e⟩ => by
    subst e
    obtain ⟨cu, hc⟩ := (h.rows i hi).1.typ
    exact ne_of_typ hb hc ht rfl)
theorem row_typ {w w' : World} {B E sz : Nat} {V : Value} {k : Nat} {xs : List Value} (o : w.ownsRow B E sz V k xs) (hk : ∀ (b : Nat) (cur : Array Value), w.heap[b]? = some (.cells cur E) → w'.heap[b]? = w.heap[b]?) : w'.ownsRow B E sz V k xs := by
  refine ⟨o.1, ?_⟩
  rcases o.2 with h0 | ⟨g', cap', cur', rfl, hg', hh, r⟩
  · exact .inl h0
  · exact .inr ⟨g', cap', cur', rfl, hg', (hk g' cur' hh).trans hh, r⟩
end Go.Proofs.Ytmnfefebbadflaa
