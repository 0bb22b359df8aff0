/- The heap's functions at one element type, what each call does: how many, which comes ahead, an exchange. No condition but that the heap is one. -/
import Derived.Test.YtmnfefebbadflaaHeapPure
import Derived.Deep.QuietTactic
import Derived.BigQuiet
import Derived.BigRegion
import Derived.Deep.RegionHeld3
import Derived.Deep.DeepCutAuto
import Derived.StillTailTactics
import Derived.Deep.RegionWith
import Derived.Deep.RegionLaw
namespace Go.Proofs.Ytmnfefebbadflaa.HOne
open Go.RowKit
abbrev El := Int × Int
def enc (a : El × Int) : List Value := [.int .i64 a.1.1, .int .i64 a.1.2, .int .i64 a.2]
theorem enc_length (a : El × Int) : (enc a).length = 3 := rfl
abbrev Rep (w : World) (hb : Nat) (F V : Value) (t : Int) (base : Nat) (l : List (El × Int)) : Prop := HRep 78 81 3 enc w hb F V t base l
/-- What a call of what is less does. -/
structure Less (lf : Nat) (lt : El → El → Bool) : Prop where
  enter : ∀ (args : Array Value) (w : World), (callFunc lf args).run Try.prog w = .ok (.enter lf args) w
  calls : ∀ (a b : El) (w : World), Calls Try.prog lf #[.agg #[.int .i64 a.1, .int .i64 a.2], .agg #[.int .i64 b.1, .int .i64 b.2]] w fun e w' => e = .returned (.bool (lt a b)) ∧ Below w.heap.size w w'

set_option maxHeartbeats 400000 in
theorem len_any {w : World} {hb : Nat} {F V : Value} {t : Int} {base : Nat} {l : List (El × Int)} (H : Rep w hb F V t base l) :
    Calls Try.prog 18 #[.pointer (some ⟨hb, 0, none⟩)] w fun e w' => e = .returned (.int .i64 (l.length : Int)) ∧ w = w' := by
  have h1 : ∃ A cap, V = .slice A l.length cap := by
    rcases H.row.2 with ⟨h, h0⟩ | ⟨g, cap, cur, h, _⟩
    · exact ⟨none, 0, by rw [h, h0]⟩
    · exact ⟨_, cap, h⟩
  obtain ⟨A, cap, rfl⟩ := h1
  have c1 := (Cl.of_block H.blk (j := 1) (v := .slice A l.length cap) rfl).cell
  go_enter Try.func18, Try.ntmps18
  go_wp2
  go_ret
  exact ⟨rfl, rfl⟩
set_option maxHeartbeats 400000 in
theorem len_nil (w : World) : Calls Try.prog 18 #[.pointer none] w fun e w' => e = .returned (.int .i64 0) ∧ w = w' := by
  go_enter Try.func18, Try.ntmps18
  go_wp2
  go_ret
  exact ⟨rfl, rfl⟩

theorem two_blocks (w : World) (X Y : Obj) : Below w.heap.size w ((w.alloc X).alloc Y).drew ∧ ((w.alloc X).alloc Y).drew.heap[w.heap.size]? = some X ∧ ((w.alloc X).alloc Y).drew.heap[w.heap.size + 1]? = some Y :=
  ⟨(((Below.refl _ _).alloc (Nat.le_refl _) _).alloc (by simp) _).drew, (Below.heap_alloc _ _ _ (by simp)).trans (heap_at rfl), heap_at (by simp)⟩
set_option maxRecDepth 100000 in
set_option maxHeartbeats 1000000 in
theorem ahead_any {lf : Nat} {lt : El → El → Bool} (hless : Less lf lt) {w : World} {hb : Nat} {V : Value} {t : Int} {base : Nat} {l : List (El × Int)}
    (H : Rep w hb (.func (.func lf) #[] #[]) V t base l) (i k : Int) (i0 : 0 ≤ i) (i1 : i < l.length) (k0 : 0 ≤ k) (k1 : k < l.length) :
    Calls Try.prog 47 #[.pointer (some ⟨hb, 0, none⟩), .int .i64 i, .int .i64 k] w fun e w' => e = .returned (.bool (ahd lt l[i.toNat]! l[k.toNat]!)) ∧ Below w.heap.size w w' := by
  obtain ⟨g, cap, rfl, hg, hgl, hne⟩ := H.slice (by omega)
  obtain ⟨a, ha⟩ : ∃ a, l[i.toNat]? = some a := ⟨_, List.getElem?_eq_getElem (by omega)⟩
  obtain ⟨b, hb'⟩ : ∃ b, l[k.toNat]? = some b := ⟨_, List.getElem?_eq_getElem (by omega)⟩
  have HR : Hid (ahd lt l[i.toNat]! l[k.toNat]! = ahd lt a b) := by unfold Hid; simp [getElem!_def, ha, hb']
  have cF := (Cl.of_block H.blk (j := 0) (v := .func (.func lf) #[] #[]) rfl).cell
  have cV := (Cl.of_block H.blk (j := 1) (v := .slice (some ⟨g, 0, none⟩) l.length cap) rfl).cell
  have ca0 := (H.item enc_length rfl ha (r := 0) (by omega) (v := .int .i64 a.1.1) rfl).cell
  rw [Nat.add_zero] at ca0
  have ca1 := (H.item enc_length rfl ha (r := 1) (by omega) (v := .int .i64 a.1.2) rfl).cell
  have ca2 := (H.item enc_length rfl ha (r := 2) (by omega) (v := .int .i64 a.2) rfl).cell
  have cb0 := (H.item enc_length rfl hb' (r := 0) (by omega) (v := .int .i64 b.1.1) rfl).cell
  rw [Nat.add_zero] at cb0
  have cb1 := (H.item enc_length rfl hb' (r := 1) (by omega) (v := .int .i64 b.1.2) rfl).cell
  have cb2 := (H.item enc_length rfl hb' (r := 2) (by omega) (v := .int .i64 b.2) rfl).cell
  have z1 := H.lt
  have z2 := hgl
  have z3 : hb < w.heap.size + 1 := by omega
  have z4 : g < w.heap.size + 1 := by omega
  have HL := Lib.hid hless
  clear H hless ha hb'
  go_enter Try.func47, Try.ntmps47
  go_upto_region 1 with fail
  go_cut [7, 8] (fun p q wx => ∃ b1 b2 : Nat, p = .pointer (some ⟨b1, 0, none⟩) ∧ q = .pointer (some ⟨b2, 0, none⟩) ∧ Below w.heap.size w wx ∧ wx.heap[b1]? = some (.cells #[.int .i64 a.1.1, .int .i64 a.1.2, .int .i64 a.2] 81) ∧ wx.heap[b2]? = some (.cells #[.int .i64 b.1.1, .int .i64 b.1.2, .int .i64 b.2] 81))
  case first =>
    have T1 := two_blocks w (.cells #[.int .i64 a.1.1, .int .i64 a.1.2, .int .i64 a.2] 81) (.cells #[.int .i64 b.1.1, .int .i64 b.1.2, .int .i64 b.2] 81)
    have T2 := two_blocks w (.cells #[.int .i64 b.1.1, .int .i64 b.1.2, .int .i64 b.2] 81) (.cells #[.int .i64 a.1.1, .int .i64 a.1.2, .int .i64 a.2] 81)
    have T1' := Lib.hid T1
    have T2' := Lib.hid T2
    clear T1 T2
    go_region
    · go_wp2_with fail
      go_meet
      exact ⟨_, _, rfl, rfl, T1'.out.1, T1'.out.2.1, T1'.out.2.2⟩
    · go_wp2_with fail
      go_meet
      exact ⟨_, _, rfl, rfl, T2'.out.1, T2'.out.2.2, T2'.out.2.1⟩
  case rest =>
    rename World => wA
    obtain ⟨b1, b2, rfl, rfl, hw, h1, h2⟩ := hcut
    have HW := Lib.hid hw
    have H1 := Lib.hid h1
    have H2 := Lib.hid h2
    have cF' := cell_later hw cF
    have da0 := (Cl.of_block h1 (j := 0) (v := .int .i64 a.1.1) rfl).cell
    have da1 := (Cl.of_block h1 (j := 1) (v := .int .i64 a.1.2) rfl).cell
    have da2 := (Cl.of_block h1 (j := 2) (v := .int .i64 a.2) rfl).cell
    have db0 := (Cl.of_block h2 (j := 0) (v := .int .i64 b.1.1) rfl).cell
    have db1 := (Cl.of_block h2 (j := 1) (v := .int .i64 b.1.2) rfl).cell
    have db2 := (Cl.of_block h2 (j := 2) (v := .int .i64 b.2) rfl).cell
    clear ca0 cV cF hw h1 h2
    go_upto_region 2 with fail
    go_cut [31] (fun r wx => r = .bool (lt a.1 b.1) ∧ Below wA.heap.size wA wx)
    case first =>
      have HE := HL.out.enter
      go_still_tail 8, (by kernel_rfl)
      change wpList _ _ _ _ _ wA.drew
      generalize hwd : wA.drew = w2
      have HD := Lib.hid hwd
      clear hwd da0 db0 cF'
      go_wp2_with fail
      refine (HL.out.calls a.1 b.1 _).mono ?_
      rintro e w' ⟨rfl, hbw⟩
      go_wp2_with fail
      go_meet
      exact ⟨rfl, by rw [← HD.out] at hbw; exact (Below.refl _ _).drew.trans hbw⟩
    case rest =>
      rename World => wB
      obtain ⟨rfl, hw1⟩ := hcut
      have cF2 := cell_later hw1 cF'
      have g1 := block_later hw1 H1.out
      have g2 := block_later hw1 H2.out
      have HB := Lib.hid (below_then HW.out HW.out.size hw1)
      obtain ⟨x1, hx1⟩ : ∃ x, lt a.1 b.1 = x := ⟨_, rfl⟩
      rw [hx1]
      have HX := Lib.hid hx1
      clear hx1 ca1 ca2 cb0 cb1 cb2 da0 db0
      cases x1
      · obtain ⟨x2, hx2⟩ : ∃ x, lt b.1 a.1 = x := ⟨_, rfl⟩
        have HX2 := Lib.hid hx2
        clear hx2
        have ea0 := (Cl.of_block g1 (j := 0) (v := .int .i64 a.1.1) rfl).cell
        have ea1 := (Cl.of_block g1 (j := 1) (v := .int .i64 a.1.2) rfl).cell
        have ea2 := (Cl.of_block g1 (j := 2) (v := .int .i64 a.2) rfl).cell
        have eb0 := (Cl.of_block g2 (j := 0) (v := .int .i64 b.1.1) rfl).cell
        have eb1 := (Cl.of_block g2 (j := 1) (v := .int .i64 b.1.2) rfl).cell
        have eb2 := (Cl.of_block g2 (j := 2) (v := .int .i64 b.2) rfl).cell
        have hB := HB.out.size
        have f0 := grow_cell cF2
        have fea0 := grow_cell ea0
        have fea1 := grow_cell ea1
        have fea2 := grow_cell ea2
        have feb0 := grow_cell eb0
        have feb1 := grow_cell eb1
        have feb2 := grow_cell eb2
        have HF : Hid (ahd lt l[i.toNat]! l[k.toNat]! = (!x2 && decide (a.2 < b.2))) := by show _ = _; rw [HR.out]; simp [ahd, HX.out, HX2.out]
        have HC : Hid (∀ W : World, Calls Try.prog lf #[.agg #[.int .i64 b.1.1, .int .i64 b.1.2], .agg #[.int .i64 a.1.1, .int .i64 a.1.2]] W fun e w' => e = .returned (.bool x2) ∧ Below W.heap.size W w') := by rw [← HX2.out]; exact fun W => HL.out.calls b.1 a.1 W
        have HE := HL.out.enter
        go_upto_region 4 with fail
        clear ea0 eb0 cF2 hw1 g1 g2 HX2
        cases x2
        all_goals
          refine wp_region_grow (by kernel_rfl) (by kernel_rfl) ?_
          repeat (quiet_step (exact grow_calls (HC.out _)))
          refine wpQuiet_nil ?_
          rintro _ ⟨X, rfl⟩
          go_wp2_with fail
          go_ret
          exact ⟨ret_bool (by rw [HF.out]; simp), below_then HB.out hB (grow_below _ _)⟩
      · go_wp2_with fail
        go_ret
        exact ⟨ret_bool (by rw [HR.out]; simp [ahd, HX.out]), HB.out⟩
end Go.Proofs.Ytmnfefebbadflaa.HOne
