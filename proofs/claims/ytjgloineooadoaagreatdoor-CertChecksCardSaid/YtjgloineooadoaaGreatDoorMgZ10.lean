/- What the document fixes of dags: the first look of the dag laws returns true. -/
import Derived.Test.YtjgloineooadoaaGreatDoorMgZ9
namespace Go.Proofs.YtjgloineooadoaaGreatDoor
open Go.RowKit
/-- A literal, as a list. -/
theorem Sl.lit {α : Type} {sz : Nat} {enc : α → List Value} (he : ∀ a, (enc a).length = sz) {w : World} {b E : Nat} {cs : Array Value} {L : List α} {n c : Nat} (hb : w.heap[b]? = some (.cells cs E)) (hcs : cs.toList = flat enc L) (hn : n = L.length) (hc : n ≤ c) : Sl sz enc w (.slice (some ⟨b, 0, none⟩) n c) L := by
  subst hn
  refine ⟨_, c, rfl, hc, (fun h => by cases h), fun _ => ⟨b, 0, rfl, fun i a hi r v hv => ?_⟩⟩
  have hr : r < sz := by have := (List.getElem?_eq_some_iff.1 hv).1; rw [he] at this; exact this
  have e0 := flat_get he L i r hr a hi
  rw [← hcs, hv] at e0
  unfold World.cell?
  simp only [hb, Nat.zero_add]
  simpa using e0
theorem Arcs.lit {w : World} {b E : Nat} {cs : Array Value} {L : List Arc} {n c : Nat} (hb : w.heap[b]? = some (.cells cs E)) (hcs : cs.toList = flat encA L) (hn : n = L.length) (hc : n ≤ c) : Arcs w (.slice (some ⟨b, 0, none⟩) n c) L := Sl.lit encA_length hb hcs hn hc
theorem Ints.lit {w : World} {b E : Nat} {cs : Array Value} {L : List Int} {n c : Nat} (hb : w.heap[b]? = some (.cells cs E)) (hcs : cs.toList = flat encI L) (hn : n = L.length) (hc : n ≤ c) : Ints w (.slice (some ⟨b, 0, none⟩) n c) L := Sl.lit encI_length hb hcs hn hc
theorem heap_over {w : World} {o o2 : Obj} {n : Nat} (h : n = w.heap.size) : ((w.alloc o).alloc o2).heap[n]? = some o := by
  subst h
  exact ((Below.refl (w.alloc o).heap.size (w.alloc o)).alloc (Nat.le_refl _) o2).block _ (by simp) |>.trans (heap_at rfl)
theorem Ints.of_ord {w : World} {B E : Nat} {V : Value} {l : List Nat} (h : w.ownsRow B E 1 V l.length (flat encN l)) : Ints w V (l.map (fun x : Nat => (x : Int))) := by
  refine Sl.of_own (fun _ => rfl) (B := B) (E := E) ?_
  have e : flat encI (l.map (fun x : Nat => (x : Int))) = flat encN l := by rw [flat_encN, flat_encI, List.map_map]; rfl
  rw [e, List.length_map]
  exact h
theorem rk_lit : ([5, 9, 5, -2] : List Int).map (rkOf [5, 9, 5, -2]) = [1, 2, 1, 0] := by
  have e : srt [5, 9, 5, -2] = [-2, 5, 5, 9] := by simp [srt, List.mergeSort, List.MergeSort.Internal.splitInTwo]
  unfold rkOf rks
  rw [e]
  decide
end Go.Proofs.YtjgloineooadoaaGreatDoor
/- The document's own order, whole. -/
namespace Go.Proofs.YtjgloineooadoaaGreatDoor
open Go.RowKit
set_option maxRecDepth 100000 in
set_option maxHeartbeats 1000000 in
theorem refOrder_any {w : World} {V : Value} {L : List Arc} (n : Int) (h : Arcs w V L) :
    Calls Tryz.prog 31 #[.int .i64 n, V] w fun e w' => OrdW w n L e w' := by
  by_cases hr : rightB n L = true
  · refine (refOrder_right n h hr).mono ?_
    rintro e w' ⟨V', er, rfl, B, h⟩
    rcases h with ⟨h1, h2, h3⟩ | ⟨h1, h2, h3⟩
    · subst h2 h3
      have e1 : ordE n L = 11 := by unfold ordE; rw [if_pos hr, if_pos h1]
      have e2 : ordR n L = [] := by unfold ordR; rw [e1]; rfl
      exact ⟨_, by rw [e1], B, by rw [e2]; exact World.ownsRow_nil _ _ _ _⟩
    · subst h3
      have e1 : ordE n L = 0 := by unfold ordE; rw [if_pos hr, if_neg (by omega)]
      have e2 : ordR n L = ordL (gOf L) n.toNat := by unfold ordR; rw [if_pos e1]
      exact ⟨_, by rw [e1], B, by rw [e2]; exact h2⟩
  · have e1 : ordE n L = 2 := by unfold ordE; rw [if_neg hr]
    have e2 : ordR n L = [] := by unfold ordR; rw [e1]; rfl
    have hrf : rightB n L = false := by simpa using hr
    have HR := Lib.hid hrf
    have HE1 := Lib.hid e1
    have HE2 := Lib.hid e2
    have HH := Lib.hid h
    obtain ⟨A, cap, rfl, -, -, -⟩ := h.at_
    clear h hr hrf e1 e2
    go_enter Tryz.func31, Tryz.ntmps31
    go_wp2_with fail
    refine (refRight_any _ HH.out).mono ?_
    rw [HR.out]
    rintro e w1 ⟨rfl, B1⟩
    have HB := Lib.hid B1
    clear B1
    go_wp2_with fail
    refine bodyPost_ret (v := .tuple #[.slice none 0 0, .int .i64 2]) (by simp [results, Tryz.results31, go_sem]) rfl ?_
    exact ⟨_, by rw [HE1.out], HB.out, by rw [HE2.out]; exact World.ownsRow_nil _ _ _ _⟩
end Go.Proofs.YtjgloineooadoaaGreatDoor
