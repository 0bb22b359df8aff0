/- What the document fixes of dags: the first look of the dag laws returns true. -/
import Derived.Test.YtimffpnfhkobkaaRanksC
namespace Go.Proofs.Ytimffpnfhkobkaa
open Go.RowKit
/-- A literal, as a list. -/
theorem Sl.lit {α : Type} {sz : Nat} {enc : α → List Value} (he : ∀ a, (enc a).length = sz) {w : World} {b E : Nat} {cs : Array Value} {L : List α} {n c : Nat} (hb : w.heap[b]? = some (.cells cs E)) (hcs : cs.toList = flat enc L) (hn : n = L.length) (hc : n ≤ c) : Sl sz enc w (.slice (some ⟨b, 0, none⟩) n c) L := by
  subst hn
  refine ⟨_, c, rfl, hc, (fun h => by cases h), fun _ => ⟨b, 0, rfl, fun i a hi r v hv => ?_⟩⟩
  have hr : r < sz := by have := (List.getElem?_eq_some_iff.1 hv).1; rw [he] at this; exact this
  have e0 := flat_get he L i r hr a hi
  rw [← hcs, hv] at e0
  unfold World.cell?
  simp only [hb, Nat.zero_add]
  simpa using e0
theorem Arcs.lit {w : World} {b E : Nat} {cs : Array Value} {L : List Arc} {n c : Nat} (hb : w.heap[b]? = some (.cells cs E)) (hcs : cs.toList = flat encA L) (hn : n = L.length) (hc : n ≤ c) : Arcs w (.slice (some ⟨b, 0, none⟩) n c) L := Sl.lit encA_length hb hcs hn hc
theorem Ints.lit {w : World} {b E : Nat} {cs : Array Value} {L : List Int} {n c : Nat} (hb : w.heap[b]? = some (.cells cs E)) (hcs : cs.toList = flat encI L) (hn : n = L.length) (hc : n ≤ c) : Ints w (.slice (some ⟨b, 0, none⟩) n c) L := Sl.lit encI_length hb hcs hn hc
theorem heap_over {w : World} {o o2 : Obj} {n : Nat} (h : n = w.heap.size) : ((w.alloc o).alloc o2).heap[n]? = some o := by
  subst h
  exact ((Below.refl (w.alloc o).heap.size (w.alloc o)).alloc (Nat.le_refl _) o2).block _ (by simp) |>.trans (heap_at rfl)
theorem Ints.of_ord {w : World} {B E : Nat} {V : Value} {l : List Nat} (h : w.ownsRow B E 1 V l.length (flat encN l)) : Ints w V (l.map (fun x : Nat => (x : Int))) := by
  refine Sl.of_own (fun _ => rfl) (B := B) (E := E) ?_
  have e : flat encI (l.map (fun x : Nat => (x : Int))) = flat encN l := by rw [flat_encN, flat_encI, List.map_map]; rfl
  rw [e, List.length_map]
  exact h
theorem rk_lit : ([5, 9, 5, -2] : List Int).map (rkOf [5, 9, 5, -2]) = [1, 2, 1, 0] := by
  have e : srt [5, 9, 5, -2] = [-2, 5, 5, 9] := by simp [srt, List.mergeSort, List.MergeSort.Internal.splitInTwo]
  unfold rkOf rks
  rw [e]
  decide
set_option maxRecDepth 100000 in
set_option maxHeartbeats 1000000 in
theorem dwakes_any (w : World) : Calls Try.prog 18 #[] w fun e w' => e = .returned (.bool true) ∧ Below w.heap.size w w' := by
  have P1 : Hid (ordE 3 [(2, 0, 0), (2, 1, 0)] = 0) := Lib.hid (by decide)
  have P2 : Hid (ordR 3 [(2, 0, 0), (2, 1, 0)] = [2, 0, 1]) := Lib.hid (by decide)
  have P3 : Hid (costE 2 [(1, 0, 3)] [5, 1] = 0) := Lib.hid (by decide)
  have P4 : Hid (costV 2 [(1, 0, 3)] [5, 1] = 12) := Lib.hid (by decide)
  have P5 : Hid (ordE 1 [(0, 0, 0)] = 11) := Lib.hid (by decide)
  go_enter Try.func18, Try.ntmps18
  go_wp2_with fail
  refine (order_any (L := [(2, 0, 0), (2, 1, 0)]) _ ?a1).mono ?_
  case a1 => exact Arcs.lit (heap_at rfl) rfl rfl (by decide)
  rintro e w1 ⟨V1, rfl, B1, R1⟩
  have e2 := P2.out
  rw [e2] at R1
  have R1 := Ints.of_ord R1
  have HB1 := Lib.hid (((Below.refl w.heap.size w).alloc (Nat.le_refl _) _).trans (B1.mono (by simp)))
  have HR1 := Lib.hid R1
  clear B1 R1 e2
  rw [P1.out]
  go_wp2_with fail
  refine (cost_any (L := [(1, 0, 3)]) (xs := [5, 1]) _ ?a1 ?a2 (by decide)).mono ?_
  case a1 => exact Arcs.lit (heap_over rfl) rfl rfl (by decide)
  case a2 => exact Ints.lit (heap_at (by simp)) rfl rfl (by decide)
  rintro e w2 ⟨rfl, B2⟩
  have B12 := ((Below.refl w1.heap.size w1).alloc (Nat.le_refl _) (.cells (flat encA [(1, 0, 3)]).toArray 52)).alloc (by simp) (.cells (flat encI [5, 1]).toArray 3)
  have B22 := B12.trans (B2.mono B12.size)
  have HB2 := Lib.hid (below_then HB1.out HB1.out.size B22)
  have HR2 := Lib.hid (HR1.out.later B22)
  clear B12 B22 B2 HB1 HR1
  rw [P3.out, P4.out]
  go_wp2_with fail
  refine (equalI_any (xs := [2, 0, 1]) (ys := [2, 0, 1]) ?a1 ?a2 (by decide)).mono ?_
  case a1 => exact HR2.out.later ((Below.refl _ _).alloc (Nat.le_refl _) _)
  case a2 => exact Ints.lit (heap_at rfl) rfl rfl (by decide)
  rintro e w3 ⟨rfl, B3⟩
  have HB3 := Lib.hid (below_then HB2.out HB2.out.size (((Below.refl w2.heap.size w2).alloc (Nat.le_refl _) _).trans (B3.mono (by simp))))
  clear B3 HB2 HR2
  rw [show decide ([2, 0, 1] = ([2, 0, 1] : List Int)) = true by decide]
  go_wp2_with fail
  refine (ranks_any (zs := [5, 9, 5, -2]) ?a1 (by decide)).mono ?_
  case a1 => exact Ints.lit (heap_at rfl) rfl rfl (by decide)
  rintro e w4 ⟨V4, rfl, R4, B4⟩
  rw [rk_lit] at R4
  have HB4 := Lib.hid (below_then HB3.out HB3.out.size (((Below.refl w3.heap.size w3).alloc (Nat.le_refl _) _).trans (B4.mono (by simp))))
  have HR4 := Lib.hid R4
  clear B4 R4 HB3
  go_wp2_with fail
  refine (equalI_any (xs := [1, 2, 1, 0]) (ys := [1, 2, 1, 0]) ?a1 ?a2 (by decide)).mono ?_
  case a1 => exact HR4.out.later ((Below.refl _ _).alloc (Nat.le_refl _) _)
  case a2 => exact Ints.lit (heap_at rfl) rfl rfl (by decide)
  rintro e w5 ⟨rfl, B5⟩
  have HB5 := Lib.hid (below_then HB4.out HB4.out.size (((Below.refl w4.heap.size w4).alloc (Nat.le_refl _) _).trans (B5.mono (by simp))))
  clear B5 HB4 HR4
  rw [show decide ([1, 2, 1, 0] = ([1, 2, 1, 0] : List Int)) = true by decide]
  go_wp2_with fail
  refine (check_any (L := [(0, 0, 0)]) _ ?a1).mono ?_
  case a1 => exact Arcs.lit (heap_at rfl) rfl rfl (by decide)
  rintro e w6 ⟨rfl, B6⟩
  have HB6 := Lib.hid (below_then HB5.out HB5.out.size (((Below.refl w5.heap.size w5).alloc (Nat.le_refl _) _).trans (B6.mono (by simp))))
  clear B6 HB5
  rw [P5.out]
  go_wp2_with fail
  go_ret
  exact ⟨rfl, HB6.out⟩
#print axioms dwakes_any
end Go.Proofs.Ytimffpnfhkobkaa
