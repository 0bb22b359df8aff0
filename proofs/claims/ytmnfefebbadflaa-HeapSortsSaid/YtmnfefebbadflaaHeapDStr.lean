/- The heap's functions at one element type, what each call does: a pop of the least one. -/
import Derived.Test.YtmnfefebbadflaaHeapCStr
namespace Go.Proofs.Ytmnfefebbadflaa.HStr
open Go.RowKit
theorem Cl_chg {w w' : World} {a : Addr} {v : Value} {S : Nat → Prop} (h : Cl w a v) (hc : Chg S w w') (hs : ¬ S a.block) : Cl w' a v := by
  have hl := World.block_lt_of_cell? w a h.cell
  have hb := hc.block a.block hl hs
  exact ⟨(World.cell?_of_block hb).trans h.cell, (World.frozen?_of_block hb).trans h.free⟩
set_option maxRecDepth 100000 in
set_option maxHeartbeats 1000000 in
theorem pop_some {lf : Nat} {lt : El → El → Bool} (hless : Less lf lt) {w : World} {hb : Nat} {V : Value} {t : Int} {base : Nat} {a : El × Int} {r : List (El × Int)}
    (H : Rep w hb (.func (.func lf) #[] #[]) V t base (a :: r)) (hn : r.length + 1 ≤ 9000000000000) :
    Calls Try.prog 43 #[.pointer (some ⟨hb, 0, none⟩)] w fun e w' => e = .returned (.tuple #[.string a.1, .bool true]) ∧ (∃ V', V'.ownBlock = V.ownBlock ∧ Rep w' hb (.func (.func lf) #[] #[]) V' t base (popL lt (a :: r))) ∧ Chg (fun b => b = hb ∨ V.ownBlock = some b) w w' := by
  obtain ⟨g, cap, rfl, hg, hgl, hne⟩ := H.slice (by simp)
  have hcap : r.length + 1 ≤ cap := by
    rcases H.row.2 with ⟨h0, _⟩ | ⟨g', cap', cur, hv, _, _, h, _⟩
    · cases h0
    · cases hv; exact h
  have HP : Hid (popL lt (a :: r) = down lt ((swp (a :: r) 0 r.length).take r.length).length ((swp (a :: r) 0 r.length).take r.length) 0) := by
    show _ = _
    simp [popL, swp_length]
  have z0 := H.lt
  have HH := Lib.hid H
  have HL := Lib.hid hless
  clear H hless
  go_enter Try.func43, Try.ntmps43
  go_wp2_with fail
  refine (top_some (HH.out.later (Below.refl _ _))).mono ?_
  rintro e w1 ⟨rfl, hb1⟩
  have hB : Below w.heap.size w w1 := hb1
  have HH1 := Lib.hid (HH.out.later hB)
  have HB := Lib.hid hB
  have hs := hB.size
  have cV1 := (Cl.of_block HH1.out.blk (j := 1) (v := .slice (some ⟨g, 0, none⟩) (r.length + 1) cap) rfl).cell
  have z1 : hb < w1.heap.size := by omega
  have z2 : g < w1.heap.size := by omega
  clear hb1 hB
  go_wp2_with fail
  have HH2 := HH1
  have C2 : Chg (fun b => b = hb ∨ g = b) w w1 := chg_below HB.out _
  refine (swap_nat HH2.out 0 r.length _ _ rfl (by omega) (by simp) (by simp)).mono ?_
  rintro e w2 ⟨rfl, hr2, hc2⟩
  have C3 := Lib.hid (C2.trans hc2 (fun b _ h => .inr (by simpa [Value.ownBlock] using h)))
  have HH3 := Lib.hid hr2
  obtain ⟨cV2, fV2⟩ := Cl.of_block HH3.out.blk (j := 1) (v := .slice (some ⟨g, 0, none⟩) (r.length + 1) cap) rfl
  clear hr2 hc2 cV1 C2
  go_wp2_with fail
  have S := HH3.out.shrink enc_length (by rw [swp_length]) r.length (by rw [swp_length]; simp)
  have C4 := Lib.hid (C3.out.setCell (p := ⟨hb, 1, none⟩) (fun _ => .inl rfl) (.slice (some ⟨g, 0, none⟩) r.length cap))
  have SL := sink_any HL.out (l := (swp (a :: r) 0 r.length).take r.length) (w := w2.setCell ⟨hb, 1, none⟩ (.slice (some ⟨g, 0, none⟩) r.length cap)) S (by rw [List.length_take, swp_length]; omega)
  refine SL.mono ?_
  rintro e w3 ⟨rfl, hr3, hc3⟩
  have C5 := Lib.hid (C4.out.trans hc3 (fun b _ h => .inr (by simpa [Value.ownBlock] using h)))
  rw [← HP.out] at hr3
  have HH4 := Lib.hid hr3
  clear hr3 hc3 cV2 fV2 S SL
  go_wp2_with fail
  go_ret2
  exact ⟨rfl, ⟨.slice (some ⟨g, 0, none⟩) r.length cap, rfl, HH4.out⟩, C5.out.mono (fun k _ h => h.imp id (fun e => congrArg some e))⟩

set_option maxRecDepth 100000 in
set_option maxHeartbeats 1000000 in
theorem pop_none {w : World} {hb : Nat} {F V : Value} {t : Int} {base : Nat} (H : Rep w hb F V t base []) :
    Calls Try.prog 43 #[.pointer (some ⟨hb, 0, none⟩)] w fun e w' => e = .returned (.tuple #[.string ⟨#[]⟩, .bool false]) ∧ Below w.heap.size w w' := by
  have HH := Lib.hid H
  clear H
  go_enter Try.func43, Try.ntmps43
  go_wp2_with fail
  refine (top_none (HH.out.later (Below.refl _ _))).mono ?_
  rintro e w1 ⟨rfl, hb1⟩
  have hB : Below w.heap.size w w1 := hb1
  have HB := Lib.hid hB
  clear hb1 hB
  go_wp2_with fail
  go_ret2
  exact ⟨rfl, HB.out⟩

set_option maxRecDepth 100000 in
set_option maxHeartbeats 1000000 in
theorem pop_nil (w : World) :
    Calls Try.prog 43 #[.pointer none] w fun e w' => e = .returned (.tuple #[.string ⟨#[]⟩, .bool false]) ∧ Below w.heap.size w w' := by
  go_enter Try.func43, Try.ntmps43
  go_wp2_with fail
  refine (top_nil _).mono ?_
  rintro e w1 ⟨rfl, hb1⟩
  have hB : Below w.heap.size w w1 := hb1
  have HB := Lib.hid hB
  clear hb1 hB
  go_wp2_with fail
  go_ret2
  exact ⟨rfl, HB.out⟩
end Go.Proofs.Ytmnfefebbadflaa.HStr
