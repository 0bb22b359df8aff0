/- The heap's functions at one element type, what each call does: a push. -/
import Derived.Test.YtmnfefebbadflaaHeapDOne
import Derived.Deep.RegionLaw
namespace Go.Proofs.Ytmnfefebbadflaa.HOne
open Go.RowKit
theorem info_item : (Try.prog.info? 81).map (fun i => (i.zero, i.size, i.bytes)) = some (some (.agg #[.int .i64 0, .int .i64 0, .int .i64 0]), 3, 24) := by kernel_rfl
/-- Behind an append the struct still holds its old row. -/
theorem after_append {wA wx w' : World} {hb : Nat} {F V : Value} {t : Int} {base : Nat} {l : List (El × Int)} (H : Rep wA hb F V t base l) (hx : Below wA.heap.size wA wx) (hg : wx.grownBy w' V.ownBlock) :
    w'.heap[hb]? = some (.cells #[F, V, .int .i64 t] 78) := by
  have h1 := (hx.block hb H.lt).trans H.blk
  rw [hg.block hb (Array.getElem?_eq_some_iff.1 h1).1 (fun e => H.ne e.symm)]
  exact h1
/-- The row stored back. -/
theorem push_row {wA wx w' : World} {hb g cap : Nat} {F V : Value} {t : Int} {base : Nat} {l : List (El × Int)} {x : El × Int} (H : Rep wA hb F V t base l) (hx : Below wA.heap.size wA wx) (hg : wx.grownBy w' V.ownBlock)
    (hown : w'.ownsRow base 81 3 (.slice (some ⟨g, 0, none⟩) (l.length + 1) cap) (l.length + 1) (flat enc l ++ enc x)) (hat : V.ownBlock = some g ∨ wA.heap.size ≤ g) :
    Rep (w'.setCell ⟨hb, 1, none⟩ (.slice (some ⟨g, 0, none⟩) (l.length + 1) cap)) hb F (.slice (some ⟨g, 0, none⟩) (l.length + 1) cap) t base (l ++ [x]) ∧
      Chg (fun b => b = hb ∨ V.ownBlock = some b) wA (w'.setCell ⟨hb, 1, none⟩ (.slice (some ⟨g, 0, none⟩) (l.length + 1) cap)) := by
  have hb2 := after_append H hx hg
  have hlt := H.lt
  have hne : g ≠ hb := by
    rcases hat with h | h
    · exact fun e => H.ne (by rw [h, e])
    · omega
  refine ⟨⟨heap_setCell_same w' hb 1 _ _ _ hb2, ?_, fun e => hne (by cases e; rfl)⟩, ?_⟩
  · rw [List.length_append, flat_append]
    have : flat enc [x] = enc x := by simp [flat]
    rw [this]
    refine ⟨hown.1, ?_⟩
    rcases hown.2 with ⟨h0, _⟩ | ⟨g', cap', cur, hv, hg', hh, r⟩
    · cases h0
    · cases hv
      exact .inr ⟨g, cap, cur, rfl, hg', by rw [Below.heap_setCell _ _ _ _ hne]; exact hh, r⟩
  · refine Chg.setCell ?_ (fun _ => .inl rfl) _
    exact (chg_below hx _).trans (Chg.of_grown hg (S := fun b => V.ownBlock = some b) (fun k e => e)) (fun b _ h => .inr h)
set_option maxRecDepth 100000 in
set_option maxHeartbeats 1000000 in
theorem push_any {lf : Nat} {lt : El → El → Bool} (hless : Less lf lt) {w : World} {hb : Nat} {V : Value} {t : Int} {base : Nat} {x : El} {l : List (El × Int)}
    (H : Rep w hb (.func (.func lf) #[] #[]) V t base l) (hn : l.length ≤ 1000000000) (ht0 : 0 ≤ t) (ht : t ≤ 1000000000) (hbase : base ≤ w.heap.size) :
    Calls Try.prog 17 #[.pointer (some ⟨hb, 0, none⟩), .agg #[.int .i64 x.1, .int .i64 x.2]] w fun e w' => e = .returned (.tuple #[]) ∧ (∃ V', (V'.ownBlock = V.ownBlock ∨ ∃ k, V'.ownBlock = some k ∧ w.heap.size ≤ k) ∧ Rep w' hb (.func (.func lf) #[] #[]) V' (t + 1) base (pushL lt l x (t + 1))) ∧ Chg (fun b => b = hb ∨ V.ownBlock = some b) w w' := by
  obtain ⟨A, cap, rfl⟩ : ∃ A cap, V = .slice A l.length cap := by
    rcases H.row.2 with ⟨h, h0⟩ | ⟨g, cap, cur, h, _⟩
    · exact ⟨none, 0, by rw [h, h0]⟩
    · exact ⟨_, cap, h⟩
  have z0 := H.lt
  obtain ⟨cT, fT⟩ := Cl.of_block H.blk (j := 2) (v := .int .i64 t) rfl
  have HH := Lib.hid H
  have HL := Lib.hid hless
  clear H hless
  go_enter Try.func17, Try.ntmps17
  go_upto_region 3 with fail
  have hW : ∃ wA : World, wA = (w.setCell ⟨hb, 2, none⟩ (.int .i64 (t + 1))).alloc (.cells #[.int .i64 x.1, .int .i64 x.2] 26) := ⟨_, rfl⟩
  obtain ⟨wA, hwA⟩ := hW
  rw [← hwA]
  have RS : Rep (w.setCell ⟨hb, 2, none⟩ (.int .i64 (t + 1))) hb (.func (.func lf) #[] #[]) (.slice A l.length cap) (t + 1) base l := by
    have h2 : HRep 78 81 3 enc w hb (.func (.func lf) #[] #[]) (.slice A l.length cap) t base l := HH.out
    refine ⟨heap_setCell_same _ hb 2 _ _ _ h2.blk, ?_, h2.ne⟩
    refine ⟨h2.row.1, ?_⟩
    rcases h2.row.2 with h0 | ⟨g', cap', cur, hv, hg', hh, r⟩
    · exact .inl h0
    · cases hv
      exact .inr ⟨g', cap, cur, rfl, hg', by rw [Below.heap_setCell _ _ _ _ (fun e => h2.ne (by rw [e]; rfl))]; exact hh, r⟩
  have CS : Chg (fun b => b = hb ∨ (Value.slice A l.length cap).ownBlock = some b) w (w.setCell ⟨hb, 2, none⟩ (.int .i64 (t + 1))) := (Chg.refl _ w).setCell (fun _ => .inl rfl) _
  have RA : Rep wA hb (.func (.func lf) #[] #[]) (.slice A l.length cap) (t + 1) base l := by rw [hwA]; exact RS.later ((Below.refl _ _).alloc (Nat.le_refl _) _)
  have CA : Chg (fun b => b = hb ∨ (Value.slice A l.length cap).ownBlock = some b) w wA := by rw [hwA]; exact CS.trans (chg_below ((Below.refl _ _).alloc (Nat.le_refl _) _) (fun b => b = hb ∨ (Value.slice A l.length cap).ownBlock = some b)) (fun _ _ h => h)
  have es : (w.setCell ⟨hb, 2, none⟩ (.int .i64 (t + 1))).heap.size = w.heap.size := by simp [World.setCell]
  have X0 : wA.cell? ⟨w.heap.size, 0, none⟩ = some (.int .i64 x.1) := by rw [hwA, ← es]; exact (Cl.new (j := 0) (v := .int .i64 x.1) rfl).cell
  have X1 : wA.cell? ⟨w.heap.size, 1, none⟩ = some (.int .i64 x.2) := by rw [hwA, ← es]; exact (Cl.new (j := 1) (v := .int .i64 x.2) rfl).cell
  have sA := CA.size
  obtain ⟨cV, fV⟩ := Cl.of_block RA.blk (j := 1) (v := .slice A l.length cap) rfl
  have cT' := (Cl.of_block RA.blk (j := 2) (v := .int .i64 (t + 1)) rfl).cell
  have zA : hb < wA.heap.size := by omega
  have zX : w.heap.size < wA.heap.size := World.block_lt_of_cell? _ _ X0
  have HA := Lib.hid RA
  have HC := Lib.hid CA
  clear hwA RA CA RS CS cT fT
  go_cut [] (fun wx => ∃ (g cap' : Nat), ((Value.slice A l.length cap).ownBlock = some g ∨ w.heap.size ≤ g) ∧ Rep wx hb (.func (.func lf) #[] #[]) (.slice (some ⟨g, 0, none⟩) (l.length + 1) cap') (t + 1) base (l ++ [(x, t + 1)]) ∧ Chg (fun b => b = hb ∨ (Value.slice A l.length cap).ownBlock = some b) w wx)
  case first =>
    obtain ⟨i0, hi, hz0, hz1, hz2⟩ := info_parts info_item
    have hbA : base ≤ wA.heap.size := by omega
    go_region_law (first | (refine step_append_lies _ rfl (.tmp 18) (.tmp 25) 76 rfl base 81 i0 (.agg #[.int .i64 0, .int .i64 0, .int .i64 0]) 3 24 Try.underlying76 hi hz0 hz1 hz2 rfl (by decide) (.slice A l.length cap) l.length (flat enc l) (by rfl) (HRep.row (HRep.later HA.out ((Below.refl _ _).alloc (Nat.le_refl _) _).drew)) ⟨wA.heap.size, 0, none⟩ 1 1 (enc (x, t + 1)) (by rfl) rfl (World.news_of_block (heap_at rfl)) (by intro u hu; simp [enc] at hu; rcases hu with rfl | rfl | rfl <;> rfl) (by omega) (by simp only [maxLen]; omega) (by omega) (by simp; omega) _ rfl ?_; intro g cap' w' hown hgrow hat hlt; have hblk := after_append HA.out ((Below.refl _ _).alloc (Nat.le_refl _) _).drew hgrow; obtain ⟨k1, k2⟩ := Cl.of_block hblk (j := 1) (v := .slice A l.length cap) rfl))
    all_goals
      go_wp2_with fail
      go_meet
      have hat' : (Value.slice A l.length cap).ownBlock = some g ∨ wA.heap.size ≤ g := hat.imp id (fun e => by rw [e]; show wA.heap.size ≤ (wA.alloc _).heap.size; rw [World.size_alloc]; omega)
      have PR := push_row HA.out ((Below.refl _ _).alloc (Nat.le_refl _) _).drew hgrow hown hat'
      exact ⟨g, cap', hat'.imp id (fun e => by omega), PR.1, HC.out.trans PR.2 (fun _ _ h => h)⟩
  case rest =>
    rename World => wB
    obtain ⟨g, cap', hg, RB, CB⟩ := hcut
    obtain ⟨cV2, fV2⟩ := Cl.of_block RB.blk (j := 1) (v := .slice (some ⟨g, 0, none⟩) (l.length + 1) cap') rfl
    have HB := Lib.hid RB
    have HCB := Lib.hid CB
    have HG := Lib.hid hg
    have HN : Hid ((l ++ [(x, t + 1)]).length = l.length + 1) := by show _ = _; simp
    have HPu : Hid (pushL lt l x (t + 1) = up lt l.length (l ++ [(x, t + 1)]) l.length) := rfl
    generalize hm0 : l ++ [(x, t + 1)] = m0 at HB HN HPu
    clear RB CB hg cV fV cT' hm0
    go_wp2_with fail
    go_loopg [4] l.length (fun f s wr => ∃ (i : Nat) (m : List (El × Int)), s = .int .i64 i ∧ Hid (m.length = l.length + 1) ∧ i ≤ l.length ∧ i ≤ f ∧ Rep wr hb (.func (.func lf) #[] #[]) (.slice (some ⟨g, 0, none⟩) (l.length + 1) cap') (t + 1) base m ∧ Chg (fun b => b = hb ∨ (Value.slice A l.length cap).ownBlock = some b) w wr ∧ Hid (pushL lt l x (t + 1) = up lt f m i))
    case atStart => exact ⟨l.length, m0, rfl, HN, Nat.le_refl _, Nat.le_refl _, HB.out, HCB.out, HPu⟩
    case round =>
      obtain ⟨i, m, rfl, hm, hil, hif, hrep, hch, HU⟩ := hrel
      have HR := Lib.hid hrep
      have HCR := Lib.hid hch
      clear hrep hch
      by_cases hi : 0 < i
      · have hi' : (0 : Int) < i := by omega
        obtain ⟨b1, hb1⟩ : ∃ b, ahd lt m[i]! m[(i - 1) / 2]! = b := ⟨_, rfl⟩
        have HB1 := Lib.hid hb1
        clear hb1
        go_wp2_with fail
        refine (ahead_nat HL.out HR.out i ((i - 1) / 2) _ _ (by omega) (by omega) (by rw [hm.out]; omega) (by rw [hm.out]; omega)).mono ?_
        rw [HB1.out]
        rintro e w1 ⟨rfl, hw1⟩
        have HR1 := Lib.hid (HR.out.later hw1)
        have HC1 := Lib.hid (HCR.out.trans (chg_below hw1 (fun b => b = hb ∨ (Value.slice A l.length cap).ownBlock = some b)) (fun _ _ h => h))
        clear hw1
        cases b1
        · have hs : Hid (up lt gk m i = m) := up_stop (by rw [HB1.out]; simp)
          go_wp2_with fail
          (try simp only [Exit.inBlock, Exit.then])
          refine bodyPost_end (results_none rfl _ _ _) rfl ?_
          exact ⟨rfl, ⟨.slice (some ⟨g, 0, none⟩) (l.length + 1) cap', HG.out.imp (fun h => h.symm) (fun h => ⟨g, rfl, h⟩), by rw [HU.out, hs.out]; exact HR1.out⟩, HC1.out⟩
        · have hs : Hid (up lt gk m i = up lt (gk - 1) (swp m i ((i - 1) / 2)) ((i - 1) / 2)) := up_go hif hi HB1.out
          go_wp2_with fail
          refine (swap_nat HR1.out i ((i - 1) / 2) _ _ (by omega) (by omega) (by rw [hm.out]; omega) (by rw [hm.out]; omega)).mono ?_
          rintro e w2 ⟨rfl, hw2, hc2⟩
          have HR2 := Lib.hid hw2
          have HC2 := Lib.hid (HC1.out.trans hc2 (fun b hb' h => by
            rcases HG.out with h' | h'
            · exact .inr (h'.trans h)
            · have e : g = b := by simpa [Value.ownBlock] using h
              omega))
          clear hw2 hc2
          go_wp2_with fail
          go_roundg (gk - 1)
          case measure => omega
          case rel => exact ⟨(i - 1) / 2, swp m i ((i - 1) / 2), congrArg (Value.int .i64) (by omega), by rw [swp_length]; exact hm, by omega, by omega, HR2.out, HC2.out, HU.out.trans hs.out⟩
      · obtain rfl : i = 0 := by omega
        have hs : Hid (up lt gk m 0 = m) := up_stop (by simp)
        go_wp2_with fail
        (try simp only [Exit.inBlock, Exit.then])
        refine bodyPost_end (results_none rfl _ _ _) rfl ?_
        exact ⟨rfl, ⟨.slice (some ⟨g, 0, none⟩) (l.length + 1) cap', HG.out.imp (fun h => h.symm) (fun h => ⟨g, rfl, h⟩), by rw [HU.out, hs.out]; exact HR.out⟩, HCR.out⟩

set_option maxHeartbeats 1000000 in
theorem push_nil (x : El) (w : World) : Calls Try.prog 17 #[.pointer none, .agg #[.int .i64 x.1, .int .i64 x.2]] w fun e w' => e = .returned (.tuple #[]) ∧ Below w.heap.size w w' := by
  go_enter Try.func17, Try.ntmps17
  go_wp2
  exact bodyPost_ret (results_none rfl _ _ _) rfl ⟨rfl, (Below.refl w.heap.size w).alloc (Nat.le_refl _) (.cells #[.int .i64 x.1, .int .i64 x.2] 26)⟩
end Go.Proofs.Ytmnfefebbadflaa.HOne
