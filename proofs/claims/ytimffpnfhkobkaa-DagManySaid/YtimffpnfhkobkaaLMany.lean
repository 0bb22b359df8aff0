/- DagMany: a graph may have just so many nodes, and arcs. -/
import Derived.Test.YtimffpnfhkobkaaDagQ
namespace Go.Proofs.Ytimffpnfhkobkaa
open Go.RowKit
def manyF (k : Nat) (j : Nat) : Value := .int .i64 (if j < 3 * k ∧ j % 3 = 1 then 1 else 0)
theorem info_arc : (Try.prog.info? 52).map (fun i => (i.zero, i.size, i.bytes)) = some (some (.agg #[.int .i64 0, .int .i64 0, .int .i64 0]), 3, 24) := by kernel_rfl
theorem row_made3 (w : World) (n : Nat) (t : TypeId) : (w.alloc (.cells (madeCells #[.int .i64 0, .int .i64 0, .int .i64 0] (n * 3)) t)).rowIs w.heap.size t (n * 3) (manyF 0) := by
  refine ⟨_, heap_alloc_new w _, size_madeCells _ _, fun i hi => ?_⟩
  unfold madeCells manyF
  rw [Array.getElem?_map]
  have h3 : i % 3 = 0 ∨ i % 3 = 1 ∨ i % 3 = 2 := by omega
  rcases h3 with h | h | h <;> simp [hi, h]
theorem many_arcs {w : World} {b t c : Nat} (h : w.rowIs b t (c * 3) (manyF c)) : Arcs w (.slice (some ⟨b, 0, none⟩) c c) (manyL c) := by
  have hl : (manyL c).length = c := by simp [manyL]
  refine ⟨some ⟨b, 0, none⟩, c, by rw [hl], by omega, (fun h => by cases h), fun hp => ⟨b, 0, rfl, fun i a hi r v hv => ?_⟩⟩
  have hic : i < c := by have := (List.getElem?_eq_some_iff.1 hi).1; omega
  obtain ⟨_, rfl⟩ := List.mem_replicate.1 (List.mem_of_getElem? hi)
  have hr : r < 3 := by have := (List.getElem?_eq_some_iff.1 hv).1; rw [encA_length] at this; exact this
  have e := h.cell (i := i * 3 + r) (by omega)
  rw [Nat.zero_add, e]
  have h1 : i * 3 + r < 3 * c := by omega
  have h2 : (i * 3 + r) % 3 = r := by omega
  unfold manyF
  rw [h2]
  match r, hr, hv with
  | 0, _, hv => simpa [encA, h1] using hv
  | 1, _, hv => simpa [encA, h1] using hv
  | 2, _, hv => simpa [encA, h1] using hv
set_option maxRecDepth 100000 in
set_option maxHeartbeats 1000000 in
theorem many_walk (a0 : Int) (a1 : Int) (w0 : (Lit.int .u16 a0).wf = true) (w1 : (Lit.int .u16 a1).wf = true) (w : World) :
    Calls Try.prog 6 #[.int .u16 a0, .int .u16 a1] w fun e w' => e = .returned (.bool true) ∧ Below w.heap.size w w' := by
  have w0' : 0 ≤ a0 ∧ a0 ≤ 65535 := (by simpa [Lit.wf] using w0 : IntKind.u16.min ≤ a0 ∧ a0 ≤ IntKind.u16.max)
  have w1' : 0 ≤ a1 ∧ a1 ≤ 65535 := (by simpa [Lit.wf] using w1 : IntKind.u16.min ≤ a1 ∧ a1 ≤ IntKind.u16.max)
  have e0 : a0.tmod 5000 = ((a0 % 5000).toNat : Int) := by rw [Int.tmod_eq_emod_of_nonneg w0'.1]; omega
  have e1 : a1.tmod 20000 = ((a1 % 20000).toNat : Int) := by rw [Int.tmod_eq_emod_of_nonneg w1'.1]; omega
  obtain ⟨k, hk, hk5⟩ : ∃ k : Nat, a0.tmod 5000 = k ∧ k < 5000 := ⟨_, e0, by omega⟩
  obtain ⟨c, hc, hc2⟩ : ∃ c : Nat, a1.tmod 20000 = c ∧ c < 20000 := ⟨_, e1, by omega⟩
  clear e0 e1
  obtain ⟨i0, hi, hzz⟩ := Option.map_eq_some_iff.1 info_arc
  simp only [Prod.mk.injEq] at hzz
  obtain ⟨hz, hs, hb⟩ := hzz
  have hmk : ∀ w : World, (Instr.makeSlice 22 (.int .i64 (c : Int)) (.int .i64 (c : Int))).run Try.prog w = .ok (.slice (some ⟨w.heap.size, 0, none⟩) c c) (w.alloc (.cells (madeCells #[.int .i64 0, .int .i64 0, .int .i64 0] (c * 3)) 52)) := fun w => by
    have h := run_make (P := Try.prog) w 22 52 i0 _ Try.underlying22 hi hz .i64 .i64 c c (by omega) (by omega) (by rw [hb]; omega) (by omega)
    rw [hs] at h
    exact h
  clear hi hz hs hb
  go_enter Try.func6, Try.ntmps6
  go_wp2_with fail
  clear hmk w0' w1' hk hc
  go_loopw [20] (fun q wr => ∃ i : Nat, i ≤ c ∧ q = .int .i64 i ∧ wr.rowIs w.heap.size 52 (c * 3) (manyF i) ∧ Below w.heap.size w wr) (fun q _ => c - (intOf q).toNat)
  case atStart => exact ⟨0, by omega, rfl, row_made3 w c _, (Below.refl _ _).alloc (Nat.le_refl _) _⟩
  case round => as_aux_lemma =>
    obtain ⟨i, hi, rfl, R, B⟩ := hrel
    have HR := Lib.hid R
    have HB := Lib.hid B
    clear R B
    by_cases hic : i < c
    · have hd : decide ((i : Int) < c) = true := by simp; omega
      have i1 : (0 : Int) ≤ (i : Int) := by omega
      have i2 : (i : Int) < (c : Int) := by omega
      have k0 := HR.out.cell (i := i * 3) (by omega)
      have k1 := HR.out.cell (i := i * 3 + 1) (by omega)
      have k2 := HR.out.cell (i := i * 3 + 2) (by omega)
      have f0 := HR.out.frozen (i * 3)
      have f1 := HR.out.frozen (i * 3 + 1)
      have f2 := HR.out.frozen (i * 3 + 2)
      go_wp2_with fail
      have R2 := ((HR.out.set (i * 3) (.int .i64 0)).set (i * 3 + 1) (.int .i64 1)).set (i * 3 + 2) (.int .i64 0)
      have B2 := ((HB.out.setCell (p := ⟨w.heap.size, i * 3, none⟩) (Nat.le_refl _) (.int .i64 0)).setCell (p := ⟨w.heap.size, i * 3 + 1, none⟩) (Nat.le_refl _) (.int .i64 1)).setCell (p := ⟨w.heap.size, i * 3 + 2, none⟩) (Nat.le_refl _) (.int .i64 0)
      refine ⟨⟨i + 1, by omega, by go_num, R2.congr (fun v hv => ?_), B2⟩, by simp [intOf]; omega⟩
      unfold manyF
      by_cases e2 : v = i * 3 + 2
      · subst e2
        have : (i * 3 + 2) % 3 = 2 := by omega
        simp [this]
      · by_cases e1 : v = i * 3 + 1
        · subst e1
          have h1 : (i * 3 + 1) % 3 = 1 := by omega
          have h2 : i * 3 + 1 < 3 * (i + 1) := by omega
          simp [h1, h2]
        · by_cases e0 : v = i * 3
          · subst e0
            have h1 : (i * 3) % 3 = 0 := by omega
            simp [h1]
          · have : (v < 3 * (i + 1)) = (v < 3 * i) := by apply propext; omega
            simp [e0, e1, e2, this]
    · obtain rfl : i = c := by omega
      have hd : decide ((i : Int) < i) = false := by simp
      have HA := Lib.hid (many_arcs HR.out)
      have HQ := Lib.hid (many_law k i)
      go_wp2_with fail
      all_goals
        refine (dwakes_any _).mono ?_
        rintro e w5 ⟨rfl, B5⟩
        have HB5 := Lib.hid (below_then HB.out HB.out.size B5)
        have HA5 := Lib.hid (HA.out.later B5)
        clear B5
        go_wp2_with fail
        refine (check_any _ HA5.out).mono ?_
        rintro e w6 ⟨rfl, B6⟩
        have HB6 := Lib.hid (below_then HB5.out HB5.out.size B6)
        clear B6
        rw [HQ.out]
        go_wp2_with fail
        all_goals
          try go_ret
          refine ⟨?_, HB6.out⟩
          first | rfl | (exfalso; omega)
#print axioms many_walk
end Go.Proofs.Ytimffpnfhkobkaa
