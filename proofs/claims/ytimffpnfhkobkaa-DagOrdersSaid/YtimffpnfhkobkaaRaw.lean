/- Raw arcs of small nodes. -/
import Derived.Test.YtimffpnfhkobkaaOpn
import Derived.Test.YtimffpnfhkobkaaHeldLex
namespace Go.Proofs.Ytimffpnfhkobkaa
open Go.RowKit
def rawA (n : Int) (a : Arc) : Arc := (max 0 a.1 % max 1 n, max 0 a.2.1 % max 1 n, max 0 a.2.2 % 100)
def rawL (n : Int) (L : List Arc) : List Arc := (L.take 20).map (rawA n)
theorem rawL_take {n : Int} {L : List Arc} {i : Nat} {a : Arc} (h : L[i]? = some a) : (L.take (i + 1)).map (rawA n) = (L.take i).map (rawA n) ++ [rawA n a] := by
  obtain ⟨h1, h2⟩ := List.getElem?_eq_some_iff.1 h
  rw [List.take_succ_eq_append_getElem h1, h2, List.map_append]
  rfl
set_option maxRecDepth 100000 in
set_option maxHeartbeats 2000000 in
theorem raw_any {w : World} {V : Value} {L : List Arc} (n : Int) (n0 : 0 ≤ n) (n1 : n ≤ 1000) (h : Arcs w V L) (hl : L.length ≤ 5864062014634) :
    Calls Try.prog 13 #[V, .int .i64 n] w fun e w' => ∃ V', e = .returned V' ∧ Arcs w' V' (rawL n L) ∧ Below w.heap.size w w' := by
  obtain ⟨m, hm, hm20, hme, hmt⟩ : ∃ m, m ≤ L.length ∧ m ≤ 20 ∧ min (L.length : Int) 20 = (m : Nat) ∧ L.take 20 = L.take m := ⟨min L.length 20, by omega, by omega, by omega, by
    by_cases h : L.length ≤ 20
    · rw [List.take_of_length_le h, List.take_of_length_le (by omega)]
    · rw [Nat.min_eq_right (by omega)]⟩
  obtain ⟨AX, cpX, rfl, hcp, hnil, hA⟩ := h.at_
  have HA := Lib.hid hA
  have HMT := Lib.hid hmt
  obtain ⟨i0, hi0, hz0, hz1, hz2⟩ := info_parts info_arcM
  obtain ⟨n1, hn1, hn2⟩ : ∃ n1, max 1 n = n1 ∧ 1 ≤ n1 := ⟨_, rfl, by omega⟩
  have HN1 := Lib.hid hn1
  clear h hA hmt
  go_enter Try.func13, Try.ntmps13
  go_wp2_with fail
  go_loopw [5, 14] (fun Vl q wr => ∃ i : Nat, i ≤ m ∧ q = .int .i64 i ∧ wr.ownsRow w.heap.size 52 3 Vl i (flat encA ((L.take i).map (rawA n))) ∧ Below w.heap.size w wr) (fun _ q _ => m - (intOf q).toNat)
  case atStart => exact ⟨0, by omega, rfl, World.ownsRow_nil _ _ _ _, Below.refl _ _⟩
  case round =>
    obtain ⟨i, hi, rfl, R, B⟩ := hrel
    obtain ⟨Vl, rfl⟩ : ∃ x : Value, x = u5 := ⟨_, rfl⟩
    obtain ⟨wo, rfl⟩ : ∃ x : World, x = wr := ⟨_, rfl⟩
    obtain ⟨AV, cV, rfl, -⟩ := own_shape R
    have HR := Lib.hid R
    have HB := Lib.hid B
    have hwo := B.size
    clear R B
    by_cases hil : i < m
    · have hd1 : decide ((i : Int) < m) = true := by simp; omega
      obtain ⟨ba, off, rfl, hc⟩ := HA.out (by omega)
      obtain ⟨a, ha⟩ : ∃ a, L[i]? = some a := ⟨_, List.getElem?_eq_getElem (by omega)⟩
      have HStep := Lib.hid (rawL_take (n := n) ha)
      obtain ⟨e0, e1, e2⟩ := hc i a ha
      have e0 := cell_later HB.out e0
      have e1 := cell_later HB.out e1
      have e2 := cell_later HB.out e2
      obtain ⟨f, t, x⟩ := a
      simp only at e0 e1 e2
      have i1 : (0 : Int) ≤ (i : Int) := by omega
      have i2 : (i : Int) < (m : Int) := by omega
      clear hc ha
      obtain ⟨f1, hf1, hf2⟩ : ∃ f1, max 0 f = f1 ∧ 0 ≤ f1 := ⟨_, rfl, by omega⟩
      obtain ⟨t1, ht1, ht2⟩ : ∃ t1, max 0 t = t1 ∧ 0 ≤ t1 := ⟨_, rfl, by omega⟩
      obtain ⟨x1, hx1, hx2⟩ : ∃ x1, max 0 x = x1 ∧ 0 ≤ x1 := ⟨_, rfl, by omega⟩
      obtain ⟨f2, hf3⟩ : ∃ f2, f1 % n1 = f2 := ⟨_, rfl⟩
      obtain ⟨t2, ht3⟩ : ∃ t2, t1 % n1 = t2 := ⟨_, rfl⟩
      obtain ⟨x2, hx3⟩ : ∃ x2, x1 % 100 = x2 := ⟨_, rfl⟩
      have HRA : Hid (rawA n (f, t, x) = (f2, t2, x2)) := Lib.hid (by unfold rawA; simp only [hf1, ht1, hx1, hn1, hf3, ht3, hx3])
      have hf4 : f1.tmod n1 = f2 := by rw [Int.tmod_eq_emod_of_nonneg hf2]; exact hf3
      have ht4 : t1.tmod n1 = t2 := by rw [Int.tmod_eq_emod_of_nonneg ht2]; exact ht3
      have hx4 : x1.tmod 100 = x2 := by rw [Int.tmod_eq_emod_of_nonneg hx2]; exact hx3
      have hnz : (n1 == 0) = false := by simp; omega
      have hnz2 : n1 ≠ 0 := by omega
      go_upto_region 5 with fail
      obtain ⟨wA, hwA⟩ : ∃ wA, wo.alloc (.cells #[.int .i64 f, .int .i64 t, .int .i64 x] 52) = wA := ⟨_, rfl⟩
      have g0 : wA.cell? ⟨wo.heap.size, 0, none⟩ = some (.int .i64 f) := by rw [← hwA]; exact (Cl.new rfl).cell
      have g1 : wA.cell? ⟨wo.heap.size, 1, none⟩ = some (.int .i64 t) := by rw [← hwA]; exact (Cl.new rfl).cell
      have g2 : wA.cell? ⟨wo.heap.size, 2, none⟩ = some (.int .i64 x) := by rw [← hwA]; exact (Cl.new rfl).cell
      have HBA : Hid (Below w.heap.size w wA) := Lib.hid (by rw [← hwA]; exact HB.out.alloc hwo _)
      have HRA2 : Hid (wA.ownsRow w.heap.size 52 3 (.slice AV i cV) i (flat encA ((L.take i).map (rawA n)))) := Lib.hid (by rw [← hwA]; exact own_later HR.out ((Below.refl _ _).alloc (Nat.le_refl _) _))
      have hwA2 : w.heap.size ≤ wA.heap.size := HBA.out.size
      rw [hwA]
      clear hwA e0 e1 e2
      have av : (Value.slice AV i cV).ownBlock ≠ some wo.heap.size := fun e => by have := own_lt HR.out e; omega
      have lA : wo.heap.size < wA.heap.size := World.block_lt_of_cell? wA _ g0
      refine wp_region_head 18 (fun w' => w'.cell? ⟨wo.heap.size, 0, none⟩ = some (.int .i64 f) ∧ w'.cell? ⟨wo.heap.size, 1, none⟩ = some (.int .i64 t) ∧ w'.cell? ⟨wo.heap.size, 2, none⟩ = some (.int .i64 x)) (by kernel_rfl) (by kernel_rfl) ⟨g0, g1, g2⟩ ?_
      simp only [List.take_succ_cons, List.take_zero]
      iterate 18 (refine wpHd_cons (v := ?_) (by rfl) (fun wS hwS => ?_) ?_; rotate_left 1; focus ((try dsimp only at hwS); go_simp; try with_reducible rfl); (try simp only [Act.put, List.setIfInBounds_toArray, List.set_cons_zero, List.set_cons_succ]))
      refine wpHd_nil ?_
      change wpAnyH _ _ _ _ _ 3 _ _ _
      refine wpAnyH_ready (rs := [18]) (by kernel_rfl) (by simp) (AllReadyH.cons rfl (fun K hK => ?_) AllReadyH.nil)
      go_simp
      have BX : Below wA.heap.size wA (wA.alloc (.cells #[.int .i64 f2, .int .i64 t2, .int .i64 x2] 52)).drew := ((Below.refl _ _).alloc (Nat.le_refl _) _).drew
      refine hK.out _ _ ⟨cell_later BX g0, cell_later BX g1, cell_later BX g2⟩ (fun hHeld => ?_)
      clear hK K hHeld
      refine wpAnyH_ready (rs := [19]) (by kernel_rfl) (by simp) (AllReadyH.cons rfl (fun K hK => ?_) AllReadyH.nil)
      refine step_append_lies _ (by rfl) (.tmp 18) (.tmp 36) 22 (by rfl) w.heap.size 52 i0 (.agg #[.int .i64 0, .int .i64 0, .int .i64 0]) 3 24 Try.underlying22 hi0 hz0 hz1 hz2 rfl (by decide) (.slice AV i cV) i (flat encA ((L.take i).map (rawA n))) (by rfl) (own_later HRA2.out BX) ⟨wA.heap.size, 0, none⟩ 1 1 (encA (f2, t2, x2)) (by rfl) rfl (World.news_of_block (heap_alloc_new wA (.cells #[.int .i64 f2, .int .i64 t2, .int .i64 x2] 52))) (by intro u hu; simp [encA] at hu; rcases hu with rfl | rfl | rfl <;> rfl) (by omega) (by simp only [maxLen]; omega) (by omega) (by have := BX.size; omega) _ rfl ?_
      intro g cq w3 hown hgrow hat hlt
      have hbx := hgrow.block wo.heap.size (Nat.lt_of_lt_of_le lA BX.size) (Ne.symm av)
      have HB4 := (HBA.out.trans (BX.mono hwA2)).grown hgrow (by have := BX.size; omega) (fun q hq => own_ge HRA2.out hq)
      refine hK.out _ _ ⟨(World.cell?_of_block hbx).trans (cell_later BX g0), (World.cell?_of_block hbx).trans (cell_later BX g1), (World.cell?_of_block hbx).trans (cell_later BX g2)⟩ (fun hHeld => ?_)
      clear hK K
      refine wpAnyH_ready (rs := [20]) (by kernel_rfl) (by simp) (AllReadyH.cons rfl (fun K hK => ?_) AllReadyH.nil)
      go_simp
      refine hK.out _ _ hHeld (fun _ => ?_)
      clear hK K hHeld
      refine wpAnyH_done (by kernel_rfl) (NoPanic.normal ?_) _
      have HB5 := Lib.hid HB4
      have HO5 := Lib.hid hown
      clear HB4 hown hgrow hat hbx
      go_wp2_with fail
      refine ⟨⟨i + 1, by omega, by go_num, ?_, HB5.out⟩, by simp [intOf]; omega⟩
      rw [HStep.out, HRA.out, flat_append]
      simpa [flat] using HO5.out
    · obtain rfl : i = m := by omega
      have hd1 : decide ((i : Int) < i) = false := by simp
      have R := HR.out
      have el : ((L.take i).map (rawA n)).length = i := by simp; omega
      have HI := Lib.hid (Sl.of_own encA_length (by rw [el]; exact R) : Arcs wo (.slice AV i cV) ((L.take i).map (rawA n)))
      clear R
      go_wp2_with fail
      go_ret
      exact ⟨_, rfl, by unfold rawL; rw [HMT.out]; exact HI.out, HB.out⟩
end Go.Proofs.Ytimffpnfhkobkaa
