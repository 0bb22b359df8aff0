/- New of so many nodes. -/
import Derived.Test.YtmnfefebbadflaaHas
import Derived.Deep.DeepCutAuto
namespace Go.Proofs.Ytmnfefebbadflaa
open Go.RowKit
theorem info90 : (Try.prog.info? 90).map (fun i => (i.zero, i.size, i.bytes)) = some (some (.slice none 0 0), 1, 24) := by kernel_rfl
theorem info93 : (Try.prog.info? 93).map (fun i => (i.zero, i.size, i.bytes)) = some (some (.int .u64 0), 1, 8) := by kernel_rfl
theorem new_out (u : Int) (hu : ¬ (0 ≤ u ∧ u ≤ 4096)) (w : World) : Calls Try.prog 25 #[.int .i64 u] w fun e w' => e = .returned (.tuple #[.pointer none, .int .i64 2]) ∧ w' = w := by
  go_enter Try.func25, Try.ntmps25
  by_cases h : u < 0
  · go_wp2
    refine bodyPost_ret (v := .tuple #[.pointer none, .int .i64 2]) (by simp [results, Try.results25, go_sem]) rfl ⟨rfl, rfl⟩
  · have h2 : 4096 < u := by omega
    go_wp2
    refine bodyPost_ret (v := .tuple #[.pointer none, .int .i64 2]) (by simp [results, Try.results25, go_sem]) rfl ⟨rfl, rfl⟩
/-- k rows made. -/
structure Made (w wr : World) (n m k : Nat) : Prop where
  top : wr.rowIs w.heap.size 90 n (fun j => if j < k then .slice (some ⟨w.heap.size + 2 + j, 0, none⟩) m m else .slice none 0 0)
  box : wr.heap[w.heap.size + 1]? = some (.cells #[.slice (some ⟨w.heap.size, 0, none⟩) n n] 89)
  rows : ∀ j, j < k → wr.rowIs (w.heap.size + 2 + j) 93 m (fun _ => .int .u64 0)
  size : wr.heap.size = w.heap.size + 2 + k
  below : Below w.heap.size w wr
theorem Made.step {w wr : World} {n m k : Nat} (h : Made w wr n m k) (hk : k < n) (d : Nat) :
    Made w (((wr.alloc (.cells (madeCells #[.int .u64 0] m) 93)).setCell ⟨w.heap.size, k, none⟩ (.slice (some ⟨wr.heap.size, 0, none⟩) m m)).drewN d) n m (k + 1) := by
  have hs := h.size
  refine ⟨?_, ?_, fun j hj => ?_, ?_, ?_⟩
  · refine World.rowIs.congr (f := fun j => if j = k then .slice (some ⟨wr.heap.size, 0, none⟩) m m else if j < k then .slice (some ⟨w.heap.size + 2 + j, 0, none⟩) m m else .slice none 0 0) ((h.top.alloc _).set k _) (fun j hj => ?_)
    by_cases e : j = k
    · subst e; simp [hs]
    · by_cases e2 : j < k
      · rw [if_neg e, if_pos e2, if_pos (by omega)]
      · rw [if_neg e, if_neg e2, if_neg (by omega)]
  · refine Eq.trans (Below.heap_setCell _ _ _ _ (by simp)) (Eq.trans (Deep.blk_alloc_lt _ _ _ (by omega)) h.box)
  · by_cases e : j = k
    · subst e
      have := (World.rowIs_made wr (.int .u64 0) m 93).setOther (a := ⟨w.heap.size, j, none⟩) (by simp; omega) (.slice (some ⟨wr.heap.size, 0, none⟩) m m)
      rw [hs] at this
      exact hs ▸ this
    · exact ((h.rows j (by omega)).alloc _).setOther (by simp; omega) _
  · show (World.setCell _ _ _).heap.size = _
    simp [World.setCell, hs]; omega
  · exact below_drewN (Below.setCell (p := ⟨w.heap.size, k, none⟩) (h.below.alloc (by omega) _) (Nat.le_refl _) _) d
set_option maxRecDepth 100000 in
theorem new_in (n : Nat) (hn : n ≤ 4096) (w : World) :
    Calls Try.prog 25 #[.int .i64 n] w fun e w' => e = .returned (.tuple #[.pointer (some ⟨w.heap.size + 1, 0, none⟩), .int .i64 0]) ∧ Made w w' n ((n + 63) / 64) n := by
  obtain ⟨m, hm⟩ : ∃ m, m = (n + 63) / 64 := ⟨_, rfl⟩
  rw [← hm]
  have hm0 : m ≤ 64 := by omega
  have t1 : ((n : Int) + 64 - 1).tdiv 64 = m := by rw [Int.tdiv_eq_ediv_of_nonneg (by omega)]; omega
  have t2 : ((n : Int) + 63).tdiv 64 = m := by rw [Int.tdiv_eq_ediv_of_nonneg (by omega)]; omega
  clear hm
  have hmk := run_make_row' (P := Try.prog) 87 90 (.slice none 0 0) 24 Try.underlying87 info90 rfl .i64 .i64 n (by omega) (by omega)
  go_enter Try.func25, Try.ntmps25
  go_wp2_with fail
  clear hmk
  have M0 : Made w ((w.alloc (.cells (madeCells #[.slice none 0 0] n) 90)).alloc (.cells #[.slice (some ⟨w.heap.size, 0, none⟩) n n] 89)) n m 0 := by
    refine ⟨?_, heap_at (by simp), fun j hj => by omega, by simp, ((Below.refl _ _).alloc (Nat.le_refl _) _).alloc (by simp) _⟩
    exact ((World.rowIs_made w (.slice none 0 0) n 90).alloc _).congr (fun i _ => by simp)
  go_loopw [21] (fun c wr => ∃ k : Nat, k ≤ n ∧ c = .int .i64 k ∧ Made w wr n m k) (fun c _ => n - (intOf c).toNat)
  case atStart => exact ⟨0, by omega, rfl, M0⟩
  case round =>
    clear M0
    obtain ⟨k, hk, rfl, M⟩ := hrel
    by_cases hkn : k < n
    · have hsz := M.size
      have cb := (Cl.of_block M.box (j := 0) (v := .slice (some ⟨w.heap.size, 0, none⟩) n n) rfl).cell
      have ct := M.top.cell hkn
      rw [if_neg (by omega)] at ct
      have cf := M.top.frozen k
      have cb' : ∀ o, (wr.alloc o).cell? ⟨w.heap.size + 1, 0, none⟩ = some (.slice (some ⟨w.heap.size, 0, none⟩) n n) := fun o => ((Cl.of_block M.box (j := 0) rfl).alloc o).cell
      have ct' : ∀ o, (wr.alloc o).cell? ⟨w.heap.size, k, none⟩ = some (.slice none 0 0) := fun o => by have := (M.top.alloc o).cell hkn; rwa [if_neg (by omega)] at this
      have cf' : ∀ o, (wr.alloc o).frozen? ⟨w.heap.size, k, none⟩ = false := fun o => (M.top.alloc o).frozen k
      have HM := Lib.hid M
      clear M
      have hmk := run_make_row' (P := Try.prog) 90 93 (.int .u64 0) 8 Try.underlying90 info93 rfl .i64 .i64 m (by omega) (by omega)
      go_wp2_with fail
      go_region
      go_wp2_with fail
      have M1 := HM.out.step hkn 1
      rw [hsz] at M1
      exact ⟨⟨k + 1, by omega, by go_num, M1⟩, by simp [intOf]; omega⟩
    · obtain rfl : k = n := by omega
      go_wp2_with fail
      refine bodyPost_ret (v := .tuple #[.pointer (some ⟨w.heap.size + 1, 0, none⟩), .int .i64 0]) (by simp [results, Try.results25, go_sem]) rfl ⟨rfl, M⟩
theorem Made.rr {w wr : World} {n m : Nat} (h : Made w wr n m n) : RR wr (w.heap.size + 1) (some ⟨w.heap.size, 0, none⟩) n (fun i => w.heap.size + 2 + i) (fun _ => m) w.heap.size n m (fun _ _ => 0) := by
  refine ⟨h.box, fun _ => ⟨w.heap.size, n, _, rfl, Nat.le_refl _, Nat.le_refl _, h.top, fun i hi => ⟨by rw [if_pos hi], by omega⟩⟩, fun i hi => ⟨⟨m, _, Nat.le_refl _, h.rows i hi, fun j _ => rfl⟩, by omega, by omega⟩, fun i j _ _ e => by omega⟩
end Go.Proofs.Ytmnfefebbadflaa
