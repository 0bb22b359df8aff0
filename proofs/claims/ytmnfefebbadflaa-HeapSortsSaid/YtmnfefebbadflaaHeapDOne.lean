/- The heap's functions at one element type, what each call does: a pop of the least one. -/
import Derived.Test.YtmnfefebbadflaaHeapCOne
namespace Go.Proofs.Ytmnfefebbadflaa.HOne
open Go.RowKit
theorem Cl_chg {w w' : World} {a : Addr} {v : Value} {S : Nat → Prop} (h : Cl w a v) (hc : Chg S w w') (hs : ¬ S a.block) : Cl w' a v := by
  have hl := World.block_lt_of_cell? w a h.cell
  have hb := hc.block a.block hl hs
  exact ⟨(World.cell?_of_block hb).trans h.cell, (World.frozen?_of_block hb).trans h.free⟩
set_option maxRecDepth 100000 in
set_option maxHeartbeats 1000000 in
theorem pop_some {lf : Nat} {lt : El → El → Bool} (hless : Less lf lt) {w : World} {hb : Nat} {V : Value} {t : Int} {base : Nat} {a : El × Int} {r : List (El × Int)}
    (H : Rep w hb (.func (.func lf) #[] #[]) V t base (a :: r)) (hn : r.length + 1 ≤ 9000000000000) :
    Calls Try.prog 14 #[.pointer (some ⟨hb, 0, none⟩)] w fun e w' => e = .returned (.tuple #[.agg #[.int .i64 a.1.1, .int .i64 a.1.2], .bool true]) ∧ (∃ V', V'.ownBlock = V.ownBlock ∧ Rep w' hb (.func (.func lf) #[] #[]) V' t base (popL lt (a :: r))) ∧ Chg (fun b => b = hb ∨ V.ownBlock = some b) w w' := by
  obtain ⟨g, cap, rfl, hg, hgl, hne⟩ := H.slice (by simp)
  have hcap : r.length + 1 ≤ cap := by
    rcases H.row.2 with ⟨h0, _⟩ | ⟨g', cap', cur, hv, _, _, h, _⟩
    · cases h0
    · cases hv; exact h
  have HP : Hid (popL lt (a :: r) = down lt ((swp (a :: r) 0 r.length).take r.length).length ((swp (a :: r) 0 r.length).take r.length) 0) := by
    show _ = _
    simp [popL, swp_length]
  have z0 := H.lt
  have HH := Lib.hid H
  have HL := Lib.hid hless
  clear H hless
  go_enter Try.func14, Try.ntmps14
  go_wp2_with fail
  refine (top_some (HH.out.later ((Below.refl _ _).alloc (Nat.le_refl _) _))).mono ?_
  rintro e w1 ⟨rfl, hb1⟩
  have hB : Below w.heap.size w w1 := ((Below.refl _ _).alloc (Nat.le_refl _) _).trans (hb1.mono (by simp))
  have y0 : w.heap.size < w1.heap.size := by have := hb1.size; simp at this; omega
  have y1 : w.heap.size < w1.heap.size + 1 := by omega
  have R0 : ∃ u v : Value, Cl w1 ⟨w.heap.size, 0, none⟩ u ∧ Cl w1 ⟨w.heap.size, 1, none⟩ v := ⟨_, _, (Cl.new (w := w) (c := #[.int .i64 0, .int .i64 0]) (t := 26) (j := 0) (v := .int .i64 0) rfl).later hb1, (Cl.new (w := w) (c := #[.int .i64 0, .int .i64 0]) (t := 26) (j := 1) (v := .int .i64 0) rfl).later hb1⟩
  obtain ⟨u0, u1, R0, R1⟩ := R0
  have HH1 := Lib.hid (HH.out.later hB)
  have HB := Lib.hid hB
  have hs := hB.size
  have cV1 := (Cl.of_block HH1.out.blk (j := 1) (v := .slice (some ⟨g, 0, none⟩) (r.length + 1) cap) rfl).cell
  have z1 : hb < w1.heap.size := by omega
  have z2 : g < w1.heap.size := by omega
  clear hb1 hB
  go_wp2_with fail
  have HH2 := Lib.hid (HH1.out.later ((Below.refl _ _).alloc (Nat.le_refl _) (.cells #[.int .i64 a.1.1, .int .i64 a.1.2] 26)))
  have C2 : Chg (fun b => b = hb ∨ g = b) w (w1.alloc (.cells #[.int .i64 a.1.1, .int .i64 a.1.2] 26)) := chg_below (HB.out.alloc HB.out.size _) _
  have R0 := R0.alloc (.cells #[.int .i64 a.1.1, .int .i64 a.1.2] 26)
  have R1 := R1.alloc (.cells #[.int .i64 a.1.1, .int .i64 a.1.2] 26)
  have Q0 := Cl.new (w := w1) (c := #[.int .i64 a.1.1, .int .i64 a.1.2]) (t := 26) (j := 0) (v := .int .i64 a.1.1) rfl
  have Q1 := Cl.new (w := w1) (c := #[.int .i64 a.1.1, .int .i64 a.1.2]) (t := 26) (j := 1) (v := .int .i64 a.1.2) rfl
  refine (swap_nat HH2.out 0 r.length _ _ rfl (by omega) (by simp) (by simp)).mono ?_
  rintro e w2 ⟨rfl, hr2, hc2⟩
  have C3 := Lib.hid (C2.trans hc2 (fun b _ h => .inr (by simpa [Value.ownBlock] using h)))
  have HH3 := Lib.hid hr2
  have R0 := Cl_chg R0 hc2 (by simp [Value.ownBlock]; omega)
  have R1 := Cl_chg R1 hc2 (by simp [Value.ownBlock]; omega)
  have Q0 := Cl_chg Q0 hc2 (by simp [Value.ownBlock]; omega)
  have Q1 := Cl_chg Q1 hc2 (by simp [Value.ownBlock]; omega)
  obtain ⟨cV2, fV2⟩ := Cl.of_block HH3.out.blk (j := 1) (v := .slice (some ⟨g, 0, none⟩) (r.length + 1) cap) rfl
  clear hr2 hc2 cV1 C2
  go_wp2_with fail
  have S := HH3.out.shrink enc_length (by rw [swp_length]) r.length (by rw [swp_length]; simp)
  have C4 := Lib.hid (C3.out.setCell (p := ⟨hb, 1, none⟩) (fun _ => .inl rfl) (.slice (some ⟨g, 0, none⟩) r.length cap))
  have st : ∀ {ad : Addr} {v : Value}, Cl w2 ad v → ad.block ≠ hb → Cl (w2.setCell ⟨hb, 1, none⟩ (.slice (some ⟨g, 0, none⟩) r.length cap)) ad v := fun h e => Cl_chg h ((Chg.refl (fun b => b = hb) w2).setCell (fun _ => rfl) _) e
  have R0 := st R0 (by simp; omega)
  have R1 := st R1 (by simp; omega)
  have Q0 := st Q0 (by simp; omega)
  have Q1 := st Q1 (by simp; omega)
  have SL := sink_any HL.out (l := (swp (a :: r) 0 r.length).take r.length) (w := w2.setCell ⟨hb, 1, none⟩ (.slice (some ⟨g, 0, none⟩) r.length cap)) S (by rw [List.length_take, swp_length]; omega)
  refine SL.mono ?_
  rintro e w3 ⟨rfl, hr3, hc3⟩
  obtain ⟨R0c, R0f⟩ := Cl_chg R0 hc3 (by simp [Value.ownBlock]; omega)
  obtain ⟨R1c, R1f⟩ := Cl_chg R1 hc3 (by simp [Value.ownBlock]; omega)
  obtain ⟨Q0c, Q0f⟩ := Cl_chg Q0 hc3 (by simp [Value.ownBlock]; omega)
  obtain ⟨Q1c, Q1f⟩ := Cl_chg Q1 hc3 (by simp [Value.ownBlock]; omega)
  have C5 := Lib.hid (C4.out.trans hc3 (fun b _ h => .inr (by simpa [Value.ownBlock] using h)))
  rw [← HP.out] at hr3
  have HH4 := Lib.hid hr3
  clear hr3 hc3 cV2 fV2 S SL
  go_wp2_with fail
  have e1 : ∀ (X : World), Rep X hb (.func (.func lf) #[] #[]) (.slice (some ⟨g, 0, none⟩) r.length cap) t base (popL lt (a :: r)) → ∀ (j : Nat) (u : Value), Rep (X.setCell ⟨w.heap.size, j, none⟩ u) hb (.func (.func lf) #[] #[]) (.slice (some ⟨g, 0, none⟩) r.length cap) t base (popL lt (a :: r)) := fun X h j u => h.chg ((Chg.refl (fun b => b = w.heap.size) X).setCell (fun _ => rfl) _) (by omega) (by simp [Value.ownBlock]; omega)
  refine bodyPost_ret (v := .tuple #[.agg #[.int .i64 a.1.1, .int .i64 a.1.2], .bool true]) (by simp [results, Try.results14, go_sem, R0c, R1c]) rfl ⟨rfl, ⟨.slice (some ⟨g, 0, none⟩) r.length cap, rfl, e1 _ (e1 _ HH4.out _ _) _ _⟩, ?_⟩
  exact ((C5.out.setCell (p := ⟨w.heap.size, 0, none⟩) (fun h => absurd h (Nat.lt_irrefl _)) _).setCell (p := ⟨w.heap.size, 1, none⟩) (fun h => absurd h (Nat.lt_irrefl _)) _).mono (fun k _ h => h.imp id (fun e => congrArg some e))

set_option maxRecDepth 100000 in
set_option maxHeartbeats 1000000 in
theorem pop_none {w : World} {hb : Nat} {F V : Value} {t : Int} {base : Nat} (H : Rep w hb F V t base []) :
    Calls Try.prog 14 #[.pointer (some ⟨hb, 0, none⟩)] w fun e w' => e = .returned (.tuple #[.agg #[.int .i64 0, .int .i64 0], .bool false]) ∧ Below w.heap.size w w' := by
  have HH := Lib.hid H
  clear H
  go_enter Try.func14, Try.ntmps14
  go_wp2_with fail
  refine (top_none (HH.out.later ((Below.refl _ _).alloc (Nat.le_refl _) _))).mono ?_
  rintro e w1 ⟨rfl, hb1⟩
  have hB : Below w.heap.size w w1 := ((Below.refl _ _).alloc (Nat.le_refl _) _).trans (hb1.mono (by simp))
  have y0 : w.heap.size < w1.heap.size := by have := hb1.size; simp at this; omega
  have R0 := (Cl.new (w := w) (c := #[.int .i64 0, .int .i64 0]) (t := 26) (j := 0) (v := .int .i64 0) rfl).later hb1
  have R1 := (Cl.new (w := w) (c := #[.int .i64 0, .int .i64 0]) (t := 26) (j := 1) (v := .int .i64 0) rfl).later hb1
  obtain ⟨R0c, R0f⟩ := R0
  obtain ⟨R1c, R1f⟩ := R1
  have HB := Lib.hid hB
  clear hb1 hB
  go_wp2_with fail
  refine bodyPost_ret (v := .tuple #[.agg #[.int .i64 0, .int .i64 0], .bool false]) (by simp [results, Try.results14, go_sem, y0, R0c, R1c]) rfl ⟨rfl, ?_⟩
  exact ((HB.out.setCell (p := ⟨w.heap.size, 0, none⟩) (Nat.le_refl _) _).setCell (p := ⟨w.heap.size, 1, none⟩) (Nat.le_refl _) _).alloc (by have := HB.out.size; simpa [World.setCell] using this) _

set_option maxRecDepth 100000 in
set_option maxHeartbeats 1000000 in
theorem pop_nil (w : World) :
    Calls Try.prog 14 #[.pointer none] w fun e w' => e = .returned (.tuple #[.agg #[.int .i64 0, .int .i64 0], .bool false]) ∧ Below w.heap.size w w' := by
  go_enter Try.func14, Try.ntmps14
  go_wp2_with fail
  refine (top_nil _).mono ?_
  rintro e w1 ⟨rfl, hb1⟩
  have hB : Below w.heap.size w w1 := ((Below.refl _ _).alloc (Nat.le_refl _) _).trans (hb1.mono (by simp))
  have y0 : w.heap.size < w1.heap.size := by have := hb1.size; simp at this; omega
  have R0 := (Cl.new (w := w) (c := #[.int .i64 0, .int .i64 0]) (t := 26) (j := 0) (v := .int .i64 0) rfl).later hb1
  have R1 := (Cl.new (w := w) (c := #[.int .i64 0, .int .i64 0]) (t := 26) (j := 1) (v := .int .i64 0) rfl).later hb1
  obtain ⟨R0c, R0f⟩ := R0
  obtain ⟨R1c, R1f⟩ := R1
  have HB := Lib.hid hB
  clear hb1 hB
  go_wp2_with fail
  refine bodyPost_ret (v := .tuple #[.agg #[.int .i64 0, .int .i64 0], .bool false]) (by simp [results, Try.results14, go_sem, y0, R0c, R1c]) rfl ⟨rfl, ?_⟩
  exact ((HB.out.setCell (p := ⟨w.heap.size, 0, none⟩) (Nat.le_refl _) _).setCell (p := ⟨w.heap.size, 1, none⟩) (Nat.le_refl _) _).alloc (by have := HB.out.size; simpa [World.setCell] using this) _
end Go.Proofs.Ytmnfefebbadflaa.HOne
