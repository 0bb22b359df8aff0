/- slices.Sorted, slices.Compact, slices.BinarySearch of numbers; the ranks of numbers. -/
import Derived.Shelf.SlIterI.Sorted
import Derived.Test.YtimffpnfhkobkaaRanksA
namespace Go.Proofs.Ytimffpnfhkobkaa
open Go.RowKit Go.Shelf Go.Sort
def srt (zs : List Int) : List Int := zs.mergeSort fun x y => decide (x ≤ y)
theorem srt_length (zs : List Int) : (srt zs).length = zs.length := by simp [srt]
set_option maxHeartbeats 1000000 in
theorem sorted_in (n : Nat) (hn : 5 ≤ n) (Bs n₀ : Nat) (sv : Value) (zs : List Int) (hlen : zs.length ≤ maxLen) (hbytes : zs.length * 8 ≤ 140737488351232) (w : World) (hBs : Bs < w.heap.size) (hn₀ : n₀ ≤ w.heap.size) (hc0 : w.cell? ⟨Bs, 0, none⟩ = some sv) (hI : VInts n₀ w sv zs) :
    CallsIn Fence.wide n Try.prog 57 #[.func (.func 69) #[] #[.pointer (some ⟨Bs, 0, none⟩)]] w fun e W' => ∃ v, e = .returned v ∧ W'.ownsRow w.heap.size 3 1 v zs.length ((srt zs).map (Value.int .i64)) ∧ (v = .slice none 0 0 ↔ zs = []) ∧ Below w.heap.size w W' := by
  have h1 : 1 ≤ n := by omega
  have f1 : Fence.wide.fn 67 := trivial
  have f2 : Fence.wide.fn 68 := trivial
  refine callsIn_of_wp Try.func57 rfl trivial ?_ rfl
  simp only [Try.ntmps57, List.size_toArray, List.length_cons, List.length_nil, Nat.reduceAdd, Nat.reduceSub, Array.replicate_succ, Array.replicate_zero, List.push_toArray, List.append_toArray, List.nil_append, List.cons_append]
  gi_wp2_with (gi_at_call 67; refine (collect_in Fence.wide (n - 1) trivial trivial trivial rfl (by omega) Bs n₀ sv zs hlen hbytes _ hBs hn₀ hc0 hI).mono ?_; rintro e W ⟨v, rfl, hrow, hnil, hb⟩)
  rcases hrow.2 with ⟨rfl, hz⟩ | ⟨gb, cap, cur, rfl, hbase, hgb, r1, r2, r3, r4⟩
  · have hss : zs = [] := List.eq_nil_of_length_eq_zero hz
    subst hss
    gi_wp2_with (gi_at_call 68; refine (callsIn_wide.2 (Try.slices_Sort_int_none none 0 W)).mono ?_; rintro e w' ⟨rfl, rfl⟩)
    go_ret
    exact ⟨.slice none 0 0, rfl, by simpa [srt] using hrow, by simp, hb⟩
  · have hH : Holds encZ W gb 0 zs.toArray := holds_of_block_i hgb (by simpa using r4)
    have hgl : gb < W.heap.size := (Array.getElem?_eq_some_iff.1 hgb).1
    have hsz : zs.length < 4611686018427387904 := by omega
    have cS := Try.slices_Sort_int gb 0 cap zs W hH hgl hsz
    gi_wp2_with (gi_at_call 68; refine (callsIn_wide.2 cS).mono ?_; rintro e w' ⟨rfl, nn, os, rfl⟩)
    go_ret
    exact ⟨_, rfl, ownsRow_sorted_i (by simp) hbase hgb r1 r2 r3, hnil, hb.grown (grownBy_sorted_i _) hb.size (fun j hj => by cases hj; exact hbase)⟩
theorem row_take {w : World} {base E sz : Nat} {g cap n : Nat} {xs : List Value} (h : w.ownsRow base E sz (.slice (some ⟨g, 0, none⟩) n cap) n xs) (k : Nat) (hk : k ≤ n) : w.ownsRow base E sz (.slice (some ⟨g, 0, none⟩) k cap) k (xs.take (k * sz)) := by
  have hm : k * sz ≤ n * sz := Nat.mul_le_mul_right _ hk
  refine ⟨by rw [List.length_take, h.1]; omega, ?_⟩
  rcases h.2 with ⟨h0, _⟩ | ⟨g', cap', cur, e, hg, hh, r1, r2, r3, r4⟩
  · cases h0
  · cases e
    refine .inr ⟨g, cap, cur, rfl, hg, hh, by omega, r2, r3, ?_⟩
    rw [← r4, List.take_take, Nat.min_eq_left hm]
set_option maxHeartbeats 1000000 in
theorem compact_own {w : World} {base : Nat} {v : Value} {zs : List Int} (h : w.ownsRow base 3 1 v zs.length (zs.map (Value.int .i64))) (hl : zs.length ≤ maxLen) :
    Calls Try.prog 56 #[v] w fun e w' => ∃ v', e = .returned v' ∧ w'.ownsRow base 3 1 v' (Lib.compact zs).length ((Lib.compact zs).map (Value.int .i64)) ∧ (base ≤ w.heap.size → Below base w w') := by
  rcases h.2 with ⟨rfl, hz⟩ | ⟨gb, cap, cur, rfl, hbase, hgb, r1, r2, r3, r4⟩
  · have hss : zs = [] := List.eq_nil_of_length_eq_zero hz
    subst hss
    refine (Try.slices_Compact_int_empty none 0 w).mono ?_
    rintro e w' ⟨rfl, rfl⟩
    have e0 : Lib.compact ([] : List Int) = [] := by decide
    rw [e0]
    exact ⟨_, rfl, by simpa using h, fun _ => Below.refl _ _⟩
  · have hH : Holds encZ w gb 0 zs.toArray := holds_of_block_i hgb (by simpa using r4)
    refine (Try.slices_Compact_int gb 0 cap zs w hH (by simp only [maxLen] at hl; omega) r1).mono ?_
    rintro e w' ⟨rfl, q, rfl⟩
    have hcl := Lib.compact_length_le zs
    have e1 : (Lib.compact zs ++ List.replicate (zs.length - (Lib.compact zs).length) (0 : Int)).length = zs.length := by simp; omega
    have h2 := ownsRow_sorted_i (n := q) (os := #[]) (base := base) e1 hbase hgb r1 r2 r3
    rw [grow_empty] at h2
    have h3 := row_take h2 (Lib.compact zs).length hcl
    rw [Nat.mul_one, List.map_append, List.take_append_of_le_length (by simp), List.take_of_length_le (by simp)] at h3
    refine ⟨_, rfl, h3, fun hs => ?_⟩
    have g := grownBy_sorted_i (w := w) (g := gb) (n := q) (os := #[]) (Lib.compact zs ++ List.replicate (zs.length - (Lib.compact zs).length) (0 : Int)).toArray
    rw [grow_empty] at g
    exact (Below.refl base w).grown g hs (fun j hj => by cases hj; exact hbase)
theorem search_own {w : World} {base : Nat} {v : Value} {zs : List Int} (x : Int) (h : w.ownsRow base 3 1 v zs.length (zs.map (Value.int .i64))) (hl : zs.length ≤ 1000000000000) (hs : zs.Pairwise (· ≤ ·)) :
    Calls Try.prog 59 #[v, .int .i64 x] w fun e w' => e = .returned (.tuple #[.int .i64 (zs.countP (· < x) : Nat), .bool (zs.contains x)]) ∧ ∃ q, w' = w.drewN q := by
  rcases h.2 with ⟨rfl, hz⟩ | ⟨gb, cap, cur, rfl, hbase, hgb, r1, r2, r3, r4⟩
  · have hss : zs = [] := List.eq_nil_of_length_eq_zero hz
    subst hss
    refine (Try.slices_BinarySearch_int_empty none 0 x w).mono ?_
    rintro e w' ⟨rfl, rfl⟩
    exact ⟨by simp, 0, rfl⟩
  · have c := Try.slices_BinarySearch_int gb 0 zs.length cap zs x w (Nat.le_refl _) (by omega) (fun j hj => by
      have e := h.cellAt j (by omega)
      rw [Nat.zero_add, e, List.getElem?_map, List.getElem?_eq_getElem hj]
      simp [hj]) (by rw [List.take_of_length_le (Nat.le_refl _)]; exact hs)
    rw [List.take_of_length_le (Nat.le_refl _)] at c
    exact c
#print axioms sorted_in
#print axioms compact_own
#print axioms search_own
end Go.Proofs.Ytimffpnfhkobkaa
