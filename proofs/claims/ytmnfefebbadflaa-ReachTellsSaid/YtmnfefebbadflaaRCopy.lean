/- Copy. -/
import Derived.Test.YtmnfefebbadflaaRCount
import Derived.Deep.RegionLaw
namespace Go.Proofs.Ytmnfefebbadflaa
open Go.RowKit
def rowsV (g c : Nat → Nat) (m k : Nat) : List Value := (List.range k).map fun i => .slice (some ⟨g i, 0, none⟩) m (c i)
theorem rowsV_succ (g c g' c' : Nat → Nat) (m k : Nat) (h : ∀ i, i < k → g' i = g i ∧ c' i = c i) : rowsV g' c' m (k + 1) = rowsV g c m k ++ [.slice (some ⟨g' k, 0, none⟩) m (c' k)] := by
  unfold rowsV
  rw [List.range_succ, List.map_append, List.map_singleton]
  congr 1
  exact List.map_congr_left (fun i hi => by rw [(h i (by simpa using hi)).1, (h i (by simpa using hi)).2])
theorem URow.typ {w : World} {b m : Nat} {x : Nat → Nat} (h : URow w b m x) : ∃ cur, w.heap[b]? = some (.cells cur 93) := by
  obtain ⟨z, f, hz, ⟨cur, h1, _⟩, hf⟩ := h
  exact ⟨cur, h1⟩
theorem own_typ {w : World} {base E sz : Nat} {V : Value} {n : Nat} {xs : List Value} (h : w.ownsRow base E sz V n xs) {g : Nat} (hg : V.ownBlock = some g) : ∃ cur, w.heap[g]? = some (.cells cur E) := by
  rcases h.2 with ⟨rfl, _⟩ | ⟨g', cap, cur, rfl, _, hh, _⟩
  · simp [Value.ownBlock] at hg
  · have : g' = g := by simpa [Value.ownBlock] using hg
    subst this
    exact ⟨cur, hh⟩
theorem ne_of_typ {w : World} {a b : Nat} {ca cb : Array Value} {ta tb : TypeId} (ha : w.heap[a]? = some (.cells ca ta)) (hb : w.heap[b]? = some (.cells cb tb)) (h : ta ≠ tb) : a ≠ b := by
  rintro rfl
  rw [ha] at hb
  injection hb with hb
  injection hb with _ ht
  exact h ht
/-- k rows copied. -/
structure CR (w : World) (B cb : Nat) (V : Value) (k m : Nat) (g c : Nat → Nat) (X : Nat → Nat → Nat) : Prop where
  blk : w.heap[cb]? = some (.cells #[V] 89)
  row : w.ownsRow B 90 1 V k (rowsV g c m k)
  rows : ∀ i, i < k → URow w (g i) m (X i) ∧ B ≤ g i
  inj : ∀ i j, i < k → j < k → g i = g j → i = j
theorem CR.lt {w : World} {B cb : Nat} {V : Value} {k m : Nat} {g c : Nat → Nat} {X : Nat → Nat → Nat} (h : CR w B cb V k m g c X) : cb < w.heap.size := (Array.getElem?_eq_some_iff.1 h.blk).1
theorem CR.later {w w' : World} {B cb : Nat} {V : Value} {k m : Nat} {g c : Nat → Nat} {X : Nat → Nat → Nat} (h : CR w B cb V k m g c X) (b : Below w.heap.size w w') : CR w' B cb V k m g c X := by
  refine ⟨(b.block _ h.lt).trans h.blk, ?_, fun i hi => ⟨(h.rows i hi).1.of_block (b.block _ (h.rows i hi).1.lt), (h.rows i hi).2⟩, h.inj⟩
  refine ⟨h.row.1, ?_⟩
  rcases h.row.2 with h0 | ⟨g', cap, cur, rfl, hg, hh, r⟩
  · exact .inl h0
  · exact .inr ⟨g', cap, cur, rfl, hg, (b.block g' (Array.getElem?_eq_some_iff.1 hh).1).trans hh, r⟩
theorem CR.step {wr wx w' : World} {B cb : Nat} {V : Value} {k m : Nat} {g c : Nat → Nat} {X : Nat → Nat → Nat} (h : CR wr B cb V k m g c X) (b : Below wr.heap.size wr wx) {gn cn : Nat} (hu : URow wx gn m (X k)) (hgn : wr.heap.size ≤ gn) (hB : B ≤ wr.heap.size)
    (hg : wx.grownBy w' V.ownBlock) {q cq : Nat} (hown : w'.ownsRow B 90 1 (.slice (some ⟨q, 0, none⟩) (k + 1) cq) (k + 1) (rowsV g c m k ++ [.slice (some ⟨gn, 0, none⟩) m cn])) :
    CR (w'.setCell ⟨cb, 0, none⟩ (.slice (some ⟨q, 0, none⟩) (k + 1) cq)) B cb (.slice (some ⟨q, 0, none⟩) (k + 1) cq) (k + 1) m (fun i => if i = k then gn else g i) (fun i => if i = k then cn else c i) X ∧
      w'.cell? ⟨cb, 0, none⟩ = some V ∧ w'.frozen? ⟨cb, 0, none⟩ = false := by
  have hx := h.later b
  have hne : ∀ {a : Nat} {ca : Array Value} {t : TypeId}, wx.heap[a]? = some (.cells ca t) → t ≠ 90 → w'.heap[a]? = wx.heap[a]? := fun ha ht => hg.block _ (Array.getElem?_eq_some_iff.1 ha).1 (fun e => by
    obtain ⟨cur, hc⟩ := own_typ hx.row e.symm
    exact ne_of_typ ha hc ht rfl)
  have hb' : w'.heap[cb]? = some (.cells #[V] 89) := (hne hx.blk (by decide)).trans hx.blk
  have hq : q ≠ cb := by
    obtain ⟨cur, hc⟩ := own_typ hown (g := q) rfl
    exact ne_of_typ hc hb' (by decide)
  have hrow : ∀ {a : Nat} {x : Nat → Nat}, URow wx a m x → URow (w'.setCell ⟨cb, 0, none⟩ (.slice (some ⟨q, 0, none⟩) (k + 1) cq)) a m x := fun {a x} hu => by
    obtain ⟨cur, hc⟩ := hu.typ
    have e1 := hne hc (by decide)
    have hca : a ≠ cb := ne_of_typ (e1.trans hc) hb' (by decide)
    exact hu.of_block ((Below.heap_setCell _ _ _ _ hca).trans e1)
  refine ⟨⟨heap_setCell_same _ cb 0 _ _ _ hb', ?_, fun i hi => ?_, fun i j hi hj e => ?_⟩, (Cl.of_block hb' (j := 0) rfl).cell, (Cl.of_block hb' (j := 0) rfl).free⟩
  · rw [rowsV_succ g c _ _ m k (fun i hi => by simp; omega)]
    simp only [if_true]
    refine ⟨hown.1, ?_⟩
    rcases hown.2 with ⟨h0, _⟩ | ⟨g', cap, cur, hv, hg', hh, r⟩
    · cases h0
    · cases hv
      exact .inr ⟨q, cq, cur, rfl, hg', (Below.heap_setCell _ _ _ _ hq).trans hh, r⟩
  · by_cases e : i = k
    · subst e
      simp only [if_true]
      exact ⟨hrow hu, by omega⟩
    · rw [if_neg e]
      exact ⟨hrow (hx.rows i (by omega)).1, (hx.rows i (by omega)).2⟩
  · have hlt : ∀ i, i < k → g i < wr.heap.size := fun i hi => (h.rows i hi).1.lt
    by_cases e1 : i = k
    · by_cases e2 : j = k
      · omega
      · rw [if_pos e1, if_neg e2] at e
        have := hlt j (by omega)
        omega
    · by_cases e2 : j = k
      · rw [if_neg e1, if_pos e2] at e
        have := hlt i (by omega)
        omega
      · rw [if_neg e1, if_neg e2] at e
        exact h.inj i j (by omega) (by omega) e
theorem CR.rr {w : World} {B cb : Nat} {V : Value} {n m : Nat} {g c : Nat → Nat} {X : Nat → Nat → Nat} (h : CR w B cb V n m g c X) : ∃ A cap, V = .slice A n cap ∧ RR w cb A cap g c B n m X := by
  rcases h.row.2 with ⟨hV, hn⟩ | ⟨gb, cap, cur, hV, hg, hh, hle, hcap, hsz, ht⟩
  · have : n = 0 := hn
    subst this
    refine ⟨none, 0, hV, ?_, fun h => absurd h (by omega), fun i hi => absurd hi (by omega), fun i j hi => absurd hi (by omega)⟩
    rw [← hV]; exact h.blk
  · refine ⟨some ⟨gb, 0, none⟩, cap, hV, ?_, fun _ => ⟨gb, cur.size, fun j => (cur[j]?).getD default, rfl, hg, by omega, ⟨cur, hh, rfl, fun i hi => by simp [hi]⟩, fun i hi => ⟨?_, ?_⟩⟩, fun i hi => ⟨(h.rows i hi).1, (h.rows i hi).2, ?_⟩, h.inj⟩
    · rw [← hV]; exact h.blk
    · have h1 : (cur.toList.take (n * 1))[i]? = some (.slice (some ⟨g i, 0, none⟩) m (c i)) := by rw [ht]; simp [rowsV, hi]
      rw [List.getElem?_take, if_pos (by omega)] at h1
      have h2 : cur[i]? = some (.slice (some ⟨g i, 0, none⟩) m (c i)) := by simpa using h1
      simp [h2]
    · obtain ⟨cu, hc⟩ := (h.rows i hi).1.typ
      exact ne_of_typ hc hh (by decide)
    · obtain ⟨cu, hc⟩ := (h.rows i hi).1.typ
      exact ne_of_typ hc h.blk (by decide)
set_option maxRecDepth 100000 in
set_option maxHeartbeats 1000000 in
theorem copy_in {w : World} {rb : Nat} {A : Option Addr} {cap : Nat} {g c : Nat → Nat} {base n m : Nat} {X : Nat → Nat → Nat} (H : RR w rb A cap g c base n m X) (hm64 : m ≤ 64) (hm : 0 < n → 0 < m) (hn : n ≤ 4096) :
    Calls Try.prog 30 #[.pointer (some ⟨rb, 0, none⟩)] w fun e w' => e = .returned (.pointer (some ⟨w.heap.size, 0, none⟩)) ∧ (∃ A' cap' g' c', RR w' w.heap.size A' cap' g' c' w.heap.size n m X) ∧ Below w.heap.size w w' := by
  have HH := Lib.hid H
  have c0 := (Cl.of_block (H.later ((Below.refl _ _).alloc (Nat.le_refl _) (.cells #[.slice none 0 0] 89))).blk (j := 0) (v := .slice A n cap) rfl).cell
  clear H
  go_enter Try.func30, Try.ntmps30
  go_wp2_with fail
  go_loopw [15] (fun s wr => ∃ (k : Nat) (V : Value) (g' c' : Nat → Nat), k ≤ n ∧ s = .int .i64 k ∧ CR wr w.heap.size w.heap.size V k m g' c' X ∧ Below w.heap.size w wr) (fun s _ => n - (intOf s).toNat)
  case atStart =>
    exact ⟨0, .slice none 0 0, fun _ => 0, fun _ => 0, by omega, rfl, ⟨heap_at rfl, World.ownsRow_nil _ _ _ _, fun i hi => absurd hi (by omega), fun i j hi => absurd hi (by omega)⟩, (Below.refl _ _).alloc (Nat.le_refl _) _⟩
  case round =>
    clear c0
    obtain ⟨k, V, g', c', hk, rfl, C, Bl⟩ := hrel
    by_cases hkn : k < n
    · obtain ⟨gb, z, f, rfl, hb, hz, hr, hf⟩ := HH.out.top (by omega)
      have Hr := HH.out.later Bl
      obtain ⟨-, cr, -⟩ := Hr.read hkn (q := 0) (hm (by omega))
      have cb := (Cl.of_block C.blk (j := 0) rfl).cell
      have hu := (Hr.rows k hkn).1
      have HC := Lib.hid C
      have HU := Lib.hid hu
      have HB := Lib.hid Bl
      have hs := Bl.size
      have hm0 := hm (by omega)
      obtain ⟨i0, hi, hz0, hz1, hz2⟩ := info_parts info90
      obtain ⟨AV, capV, hV⟩ : ∃ AV capV, V = .slice AV k capV := by
        rcases C.row.2 with ⟨h, h0⟩ | ⟨g, cap, cur, h, _⟩
        · have : k = 0 := h0
          exact ⟨none, 0, by rw [h, this]⟩
        · exact ⟨_, cap, h⟩
      subst hV
      clear C Bl Hr hu hf hr
      go_upto_region 7 with fail
      go_region_law (first | (go_simp; go_at_call 55; refine (clone_any (w := wr.drew) HU.out hm0 hm64).mono ?_; rintro e w1 ⟨gn, cn, rfl, U1, hgn, B1⟩; have hz1' : wr.heap.size ≤ w1.heap.size := B1.size; have cb1 := cell_later B1 cb; have B2 : Below wr.heap.size wr w1 := ((Below.refl _ _).drew).trans B1; have cb2 : ∀ o, (w1.alloc o).cell? ⟨w.heap.size, 0, none⟩ = some (.slice AV k capV) := fun o => cell_later ((Below.refl _ _).alloc (Nat.le_refl _) o) cb1) | (refine step_append_lies _ rfl (.tmp 23) (.tmp 26) 87 rfl w.heap.size 90 i0 (.slice none 0 0) 1 24 Try.underlying87 hi hz0 hz1 hz2 rfl (by decide) (.slice AV k capV) k (rowsV g' c' m k) (by rfl) (CR.row (HC.out.later (Below.alloc B2 hz1' _))) ⟨w1.heap.size, 0, none⟩ 1 1 [.slice (some ⟨gn, 0, none⟩) m cn] (by rfl) rfl (World.news_of_block (heap_at rfl)) (by intro u hu; simp at hu; subst hu; rfl) (by omega) (by simp only [maxLen]; omega) (by omega) (by simp; omega) _ rfl ?_; intro q cq w2 hown hgrow hat hlt; have CS := HC.out.step (Below.alloc B2 hz1' _) (U1.of_block (Deep.blk_alloc_lt _ _ _ U1.lt)) hgn hs hgrow hown; obtain ⟨CS1, k1, k2⟩ := CS; have HCS := Lib.hid CS1; have HGR := Lib.hid hgrow; clear hown CS1 hgrow hat hlt))
      all_goals go_wp2_with fail
      all_goals
        have hz3 : w.heap.size ≤ w1.heap.size := Nat.le_trans hs hz1'
        have BW : Below w.heap.size w (w1.alloc (.cells #[.slice (some ⟨gn, 0, none⟩) m cn] 90)) := (HB.out.trans (B2.mono hs)).alloc hz3 _
        have BW2 := Below.setCell (p := ⟨w.heap.size, 0, none⟩) (BW.grown HGR.out (by simp; omega) (fun q hq => (HC.out.row.lt q hq).1)) (Nat.le_refl _) (.slice (some ⟨q, 0, none⟩) (k + 1) cq)
        exact ⟨⟨k + 1, _, _, _, by omega, by go_num, HCS.out, BW2⟩, by simp [intOf]; omega⟩
    · obtain rfl : k = n := by omega
      go_wp2_with fail
      go_ret
      obtain ⟨A', cap', rfl, hR⟩ := C.rr
      exact ⟨rfl, ⟨A', cap', g', c', hR⟩, Bl⟩
end Go.Proofs.Ytmnfefebbadflaa
