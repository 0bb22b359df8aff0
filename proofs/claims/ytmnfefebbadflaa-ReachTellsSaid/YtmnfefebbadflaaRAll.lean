/- The document's own answer: of all nodes. -/
import Derived.Test.YtmnfefebbadflaaRFromW
namespace Go.Proofs.Ytmnfefebbadflaa
open Go.RowKit
def rowsB (g : Nat → Nat) (n k : Nat) : List Value := (List.range k).map fun i => .slice (some ⟨g i, 0, none⟩) n n
theorem rowsB_succ (g g' : Nat → Nat) (n k : Nat) (h : ∀ i, i < k → g' i = g i) : rowsB g' n (k + 1) = rowsB g n k ++ [.slice (some ⟨g' k, 0, none⟩) n n] := by
  unfold rowsB
  rw [List.range_succ, List.map_append, List.map_singleton]
  congr 1
  exact List.map_congr_left (fun i hi => by rw [h i (by simpa using hi)])
structure AR (w : World) (B : Nat) (V : Value) (k n : Nat) (g : Nat → Nat) (F : Nat → Nat → Bool) : Prop where
  row : w.ownsRow B 97 1 V k (rowsB g n k)
  rows : ∀ i, i < k → w.rowIs (g i) 4 n (fun v => .bool (F i v)) ∧ B ≤ g i
theorem rowIs_typ {w : World} {b t n : Nat} {f : Nat → Value} (h : w.rowIs b t n f) : ∃ cur, w.heap[b]? = some (.cells cur t) := by
  obtain ⟨cur, h1, _⟩ := h
  exact ⟨cur, h1⟩
theorem AR.later {w w' : World} {B : Nat} {V : Value} {k n : Nat} {g : Nat → Nat} {F : Nat → Nat → Bool} (h : AR w B V k n g F) (b : Below w.heap.size w w') : AR w' B V k n g F := by
  refine ⟨?_, fun i hi => ⟨(h.rows i hi).1.of_block (b.block _ (h.rows i hi).1.lt), (h.rows i hi).2⟩⟩
  refine ⟨h.row.1, ?_⟩
  rcases h.row.2 with h0 | ⟨g', cap, cur, rfl, hg, hh, r⟩
  · exact .inl h0
  · exact .inr ⟨g', cap, cur, rfl, hg, (b.block g' (Array.getElem?_eq_some_iff.1 hh).1).trans hh, r⟩
theorem AR.step {wx w' : World} {B : Nat} {V : Value} {k n : Nat} {g : Nat → Nat} {F : Nat → Nat → Bool} (h : AR wx B V k n g F) {gn : Nat} (hu : wx.rowIs gn 4 n (fun v => .bool (F k v))) (hgn : B ≤ gn)
    (hg : wx.grownBy w' V.ownBlock) {q cq : Nat} (hown : w'.ownsRow B 97 1 (.slice (some ⟨q, 0, none⟩) (k + 1) cq) (k + 1) (rowsB g n k ++ [.slice (some ⟨gn, 0, none⟩) n n])) :
    AR w' B (.slice (some ⟨q, 0, none⟩) (k + 1) cq) (k + 1) n (fun i => if i = k then gn else g i) F := by
  have hne : ∀ {a : Nat} {ca : Array Value} {t : TypeId}, wx.heap[a]? = some (.cells ca t) → t ≠ 97 → w'.heap[a]? = wx.heap[a]? := fun ha ht => hg.block _ (Array.getElem?_eq_some_iff.1 ha).1 (fun e => by
    obtain ⟨cur, hc⟩ := own_typ h.row e.symm
    exact ne_of_typ ha hc ht rfl)
  have hrow : ∀ {a : Nat} {f : Nat → Value}, wx.rowIs a 4 n f → w'.rowIs a 4 n f := fun {a f} hu => by
    obtain ⟨cur, hc⟩ := rowIs_typ hu
    exact hu.of_block (hne hc (by decide))
  refine ⟨?_, fun i hi => ?_⟩
  · rw [rowsB_succ g _ n k (fun i hi => by simp; omega)]
    simp only [if_true]
    exact hown
  · by_cases e : i = k
    · subst e
      simp only [if_true]
      exact ⟨hrow hu, hgn⟩
    · rw [if_neg e]
      exact ⟨hrow (h.rows i (by omega)).1, (h.rows i (by omega)).2⟩
theorem info97 : (Try.prog.info? 97).map (fun i => (i.zero, i.size, i.bytes)) = some (some (.slice none 0 0), 1, 24) := by kernel_rfl
set_option maxRecDepth 100000 in
set_option maxHeartbeats 1000000 in
theorem all_any {w : World} {V : Value} {L : List (Nat × Nat)} (h : PA w V L) (n : Nat) (hn : n ≤ 4096) (hL : ∀ p ∈ L, p.1 < n ∧ p.2 < n) (hl : L.length ≤ 1000000) :
    Calls Try.prog 57 #[.int .i64 n, V] w fun e w' => ∃ V' g, e = .returned V' ∧ AR w' w.heap.size V' n n g (fun i => fromM L i (n + 1)) ∧ Below w.heap.size w w' := by
  have HP := Lib.hid h
  clear h
  go_enter Try.func57, Try.ntmps57
  go_wp2_with fail
  go_loopw [5, 6] (fun V' s wr => ∃ (k : Nat) (g : Nat → Nat), k ≤ n ∧ s = .int .i64 k ∧ AR wr w.heap.size V' k n g (fun i => fromM L i (n + 1)) ∧ Below w.heap.size w wr) (fun _ s _ => n - (intOf s).toNat)
  case atStart => exact ⟨0, fun _ => 0, by omega, rfl, ⟨World.ownsRow_nil _ _ _ _, fun i hi => absurd hi (by omega)⟩, Below.refl _ _⟩
  case round =>
    obtain ⟨k, g, hk, rfl, HR, Bl⟩ := hrel
    by_cases hkn : k < n
    · have HRR := Lib.hid HR
      have HBl := Lib.hid Bl
      have hs := Bl.size
      clear HR Bl
      rename_i V' _ _
      obtain ⟨i0, hi, hz0, hz1, hz2⟩ := info_parts info97
      go_wp2_with fail
      refine (from_any (HP.out.later HBl.out) n k hn hL hl).mono ?_
      rintro e w1 ⟨rfl, HF, B1⟩
      have hz := B1.size
      have HR1 := HRR.out.later B1
      have HR2 := HR1.later ((Below.refl _ _).alloc (Nat.le_refl _) (.cells #[.slice (some ⟨wr.heap.size, 0, none⟩) n n] 97))
      have HRA := Lib.hid HR2
      have HFA := Lib.hid (HF.alloc (.cells #[.slice (some ⟨wr.heap.size, 0, none⟩) n n] 97))
      have HB1 := Lib.hid ((HBl.out.trans (B1.mono hs)).alloc (by omega) (.cells #[.slice (some ⟨wr.heap.size, 0, none⟩) n n] 97))
      clear HR1 HR2 HF B1
      go_wp2_with (refine wpList_append_lies _ rfl (.tmp 17) (.tmp 19) 95 rfl w.heap.size 97 i0 (.slice none 0 0) 1 24 Try.underlying95 hi hz0 hz1 hz2 rfl (by decide) _ k (rowsB g n k) rfl HRA.out.row ⟨w1.heap.size, 0, none⟩ 1 1 [.slice (some ⟨wr.heap.size, 0, none⟩) n n] rfl rfl (World.news_of_block (heap_at rfl)) (by intro u hu; simp at hu; subst hu; rfl) (by omega) (by simp only [maxLen]; omega) (by omega) (by simp; omega) _ rfl ?_; intro q cq w2 hown hgrow hat hlt)
      have HS := HRA.out.step HFA.out hs hgrow hown
      have BW := HB1.out.grown hgrow (by simp; omega) (fun q hq => (HRA.out.row.lt q hq).1)
      exact ⟨⟨k + 1, _, by omega, by go_num, HS, BW⟩, by simp [intOf]; omega⟩
    · obtain rfl : k = n := by omega
      go_wp2_with fail
      go_ret
      exact ⟨_, g, rfl, HR, Bl⟩
end Go.Proofs.Ytmnfefebbadflaa
