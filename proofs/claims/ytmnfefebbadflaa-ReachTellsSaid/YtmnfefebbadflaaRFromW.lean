/- The document's own answer: the marks of one node; of all. -/
import Derived.Test.YtmnfefebbadflaaRCopy
import Derived.Test.YtmnfefebbadflaaLOrd
import Derived.Deep.QuietTactic
import Derived.BigQuiet
namespace Go.Proofs.Ytmnfefebbadflaa
open Go.RowKit
/-- A slice of pairs of nodes. -/
def PA (w : World) (V : Value) (L : List (Nat × Nat)) : Prop :=
  ∃ A cap, V = .slice A L.length cap ∧ (0 < L.length → ∃ b off, A = some ⟨b, off, none⟩ ∧ ∀ i p, L[i]? = some p → w.cell? ⟨b, off + i * 2, none⟩ = some (.int .i64 (p.1 : Nat)) ∧ w.cell? ⟨b, off + i * 2 + 1, none⟩ = some (.int .i64 (p.2 : Nat)))
theorem PA.later {w w' : World} {V : Value} {L : List (Nat × Nat)} (h : PA w V L) (b : Below w.heap.size w w') : PA w' V L := by
  obtain ⟨A, cap, e, h⟩ := h
  refine ⟨A, cap, e, fun hl => ?_⟩
  obtain ⟨bb, off, e2, hc⟩ := h hl
  exact ⟨bb, off, e2, fun i p hp => ⟨cell_later b (hc i p hp).1, cell_later b (hc i p hp).2⟩⟩
theorem info4 : (Try.prog.info? 4).map (fun i => (i.zero, i.size, i.bytes)) = some (some (.bool false), 1, 1) := by kernel_rfl
def foldM (L : List (Nat × Nat)) (u k i : Nat) : Nat → Bool := roundM u (fromM L u k) (L.take i)
theorem foldM_zero (L : List (Nat × Nat)) (u k : Nat) : foldM L u k 0 = fromM L u k := rfl
theorem foldM_last (L : List (Nat × Nat)) (u k : Nat) : foldM L u k L.length = fromM L u (k + 1) := by unfold foldM; rw [List.take_length]; rfl
theorem foldM_step (L : List (Nat × Nat)) (u k i : Nat) {p : Nat × Nat} (hp : L[i]? = some p) : foldM L u k (i + 1) = stepM u (foldM L u k i) p := by
  unfold foldM roundM
  obtain ⟨hi, rfl⟩ := List.getElem?_eq_some_iff.1 hp
  rw [List.take_succ_eq_append_getElem hi, List.foldl_append]
  rfl
theorem stepM_pos {u : Nat} {met : Nat → Bool} {p : Nat × Nat} (h : (p.1 == u || met p.1) = true) : stepM u met p = fun v => v == p.2 || met v := by unfold stepM; rw [if_pos h]
theorem stepM_neg {u : Nat} {met : Nat → Bool} {p : Nat × Nat} (h : (p.1 == u || met p.1) = false) : stepM u met p = met := by unfold stepM; rw [if_neg (by rw [h]; simp)]
set_option maxRecDepth 100000 in
set_option maxHeartbeats 1000000 in
theorem from_any {w : World} {V : Value} {L : List (Nat × Nat)} (h : PA w V L) (n u : Nat) (hn : n ≤ 4096) (hL : ∀ p ∈ L, p.1 < n ∧ p.2 < n) (hl : L.length ≤ 1000000) :
    Calls Try.prog 64 #[.int .i64 n, V, .int .i64 u] w fun e w' => e = .returned (.slice (some ⟨w.heap.size, 0, none⟩) n n) ∧ w'.rowIs w.heap.size 4 n (fun v => .bool (fromM L u (n + 1) v)) ∧ Below w.heap.size w w' := by
  obtain ⟨A, cap, rfl, hA⟩ := h
  have hmk := run_make_row' (P := Try.prog) 97 4 (.bool false) 1 Try.underlying97 info4 rfl .i64 .i64 n (by omega) (by omega)
  go_enter Try.func64, Try.ntmps64
  go_wp2_with fail
  clear hmk
  go_loopw [8] (fun s wr => ∃ k : Nat, k ≤ n + 1 ∧ s = .int .i64 k ∧ wr.rowIs w.heap.size 4 n (fun v => .bool (fromM L u k v)) ∧ Below w.heap.size w wr) (fun s _ => n + 1 - (intOf s).toNat)
  case atStart => exact ⟨0, by omega, rfl, (World.rowIs_made w (.bool false) n 4).congr (fun i _ => rfl), (Below.refl _ _).alloc (Nat.le_refl _) _⟩
  case round =>
    obtain ⟨k, hk, rfl, HR, Bl⟩ := hrel
    by_cases hkn : k ≤ n
    · have hkd : decide ((k : Int) ≤ n) = true := by simp; omega
      have HRR := Lib.hid HR
      have HBl := Lib.hid Bl
      clear HR Bl
      go_wp2_with fail
      go_loopw [9] (fun s wi => ∃ i : Nat, i ≤ L.length ∧ s = .int .i64 i ∧ wi.rowIs w.heap.size 4 n (fun v => .bool (foldM L u k i v)) ∧ Below w.heap.size w wi) (fun s _ => L.length - (intOf s).toNat)
      case atStart => exact ⟨0, by omega, rfl, HRR.out, HBl.out⟩
      case round =>
        obtain ⟨i, hi, rfl, HI, Bi⟩ := hrel
        by_cases hil : i < L.length
        · obtain ⟨b, off, rfl, hc⟩ := hA (by omega)
          obtain ⟨p, hp⟩ : ∃ p, L[i]? = some p := ⟨_, List.getElem?_eq_getElem hil⟩
          obtain ⟨c0, c1⟩ := hc i p hp
          have c0 := cell_later Bi c0
          have c1 := cell_later Bi c1
          obtain ⟨p0, p1⟩ := hL p (List.mem_of_getElem? hp)
          have hst := foldM_step L u k i hp
          obtain ⟨x, y⟩ := p
          simp only at c0 c1 p0 p1
          have d0 := HI.cell p0
          have d1 := HI.cell p1
          have f1 := HI.frozen y
          obtain ⟨m0, hm0⟩ : ∃ m0, foldM L u k i x = m0 := ⟨_, rfl⟩
          rw [hm0] at d0
          have HM0 := Lib.hid hm0
          have HST := Lib.hid hst
          have HII := Lib.hid HI
          have HBi := Lib.hid Bi
          clear hc hA hL hm0 hst HI Bi hp
          have hset : foldM L u k (i + 1) = stepM u (foldM L u k i) (x, y) → (x == u || m0) = true → (wr.setCell ⟨w.heap.size, y, none⟩ (.bool true)).rowIs w.heap.size 4 n (fun v => .bool (foldM L u k (i + 1) v)) := fun e hb => by
            refine (HII.out.set y (.bool true)).congr (fun v _ => ?_)
            rw [e, stepM_pos (by rw [HM0.out]; exact hb)]
            by_cases hv : v = y
            · simp [hv]
            · simp [hv]
          have HSET := Lib.hid hset
          clear hset
          have hb1 : Hid (Below w.heap.size w (wr.setCell ⟨w.heap.size, y, none⟩ (.bool true))) := Lib.hid (HBi.out.setCell (p := ⟨w.heap.size, y, none⟩) (Nat.le_refl _) _)
          by_cases hx : x = u
          · have hxu : ((x : Int) == (u : Int)) = true := by simp; omega
            have hxn : Hid ((x == u || m0) = true) := by show _ = _; simp [hx]
            clear hx
            go_wp2_with fail
            exact ⟨⟨i + 1, by omega, by go_num, HSET.out HST.out hxn.out, hb1.out⟩, by simp [intOf]; omega⟩
          · have hxu : ((x : Int) == (u : Int)) = false := by simp; omega
            have hxn : Hid ((x == u) = false) := by show _ = _; simp [hx]
            clear hx
            cases m0
            · go_wp2_with fail
              refine ⟨⟨i + 1, by omega, by go_num, ?_, HBi.out⟩, by simp [intOf]; omega⟩
              refine HII.out.congr (fun v _ => ?_)
              rw [HST.out, stepM_neg (by rw [HM0.out, hxn.out]; rfl)]
            · go_wp2_with fail
              exact ⟨⟨i + 1, by omega, by go_num, HSET.out HST.out (by rw [hxn.out]; rfl), hb1.out⟩, by simp [intOf]; omega⟩
        · obtain rfl : i = L.length := by omega
          rw [foldM_last] at HI
          go_wp2_with fail
          exact ⟨⟨k + 1, by omega, by go_num, HI, Bi⟩, by simp [intOf]; omega⟩
    · obtain rfl : k = n + 1 := by omega
      go_wp2_with fail
      go_ret
      exact ⟨rfl, HR, Bl⟩
end Go.Proofs.Ytmnfefebbadflaa
