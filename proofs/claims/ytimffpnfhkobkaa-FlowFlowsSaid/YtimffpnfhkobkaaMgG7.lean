/- What the document fixes of dags: the first look of the dag laws returns true. -/
import Derived.Test.YtimffpnfhkobkaaMgG6
import Derived.Test.YtimffpnfhkobkaaMgG0
import Derived.Deep.RegionHeld3
import Derived.StillTactics
import Derived.StillTail
namespace Go.Proofs.Ytimffpnfhkobkaa
open Go.RowKit
/-- A literal, as a list. -/
theorem Sl.lit {α : Type} {sz : Nat} {enc : α → List Value} (he : ∀ a, (enc a).length = sz) {w : World} {b E : Nat} {cs : Array Value} {L : List α} {n c : Nat} (hb : w.heap[b]? = some (.cells cs E)) (hcs : cs.toList = flat enc L) (hn : n = L.length) (hc : n ≤ c) : Sl sz enc w (.slice (some ⟨b, 0, none⟩) n c) L := by
  subst hn
  refine ⟨_, c, rfl, hc, (fun h => by cases h), fun _ => ⟨b, 0, rfl, fun i a hi r v hv => ?_⟩⟩
  have hr : r < sz := by have := (List.getElem?_eq_some_iff.1 hv).1; rw [he] at this; exact this
  have e0 := flat_get he L i r hr a hi
  rw [← hcs, hv] at e0
  unfold World.cell?
  simp only [hb, Nat.zero_add]
  simpa using e0
theorem Arcs.lit {w : World} {b E : Nat} {cs : Array Value} {L : List Arc} {n c : Nat} (hb : w.heap[b]? = some (.cells cs E)) (hcs : cs.toList = flat encA L) (hn : n = L.length) (hc : n ≤ c) : Arcs w (.slice (some ⟨b, 0, none⟩) n c) L := Sl.lit encA_length hb hcs hn hc
theorem Ints.lit {w : World} {b E : Nat} {cs : Array Value} {L : List Int} {n c : Nat} (hb : w.heap[b]? = some (.cells cs E)) (hcs : cs.toList = flat encI L) (hn : n = L.length) (hc : n ≤ c) : Ints w (.slice (some ⟨b, 0, none⟩) n c) L := Sl.lit encI_length hb hcs hn hc
theorem heap_over {w : World} {o o2 : Obj} {n : Nat} (h : n = w.heap.size) : ((w.alloc o).alloc o2).heap[n]? = some o := by
  subst h
  exact ((Below.refl (w.alloc o).heap.size (w.alloc o)).alloc (Nat.le_refl _) o2).block _ (by simp) |>.trans (heap_at rfl)
theorem Ints.of_ord {w : World} {B E : Nat} {V : Value} {l : List Nat} (h : w.ownsRow B E 1 V l.length (flat encN l)) : Ints w V (l.map (fun x : Nat => (x : Int))) := by
  refine Sl.of_own (fun _ => rfl) (B := B) (E := E) ?_
  have e : flat encI (l.map (fun x : Nat => (x : Int))) = flat encN l := by rw [flat_encN, flat_encI, List.map_map]; rfl
  rw [e, List.length_map]
  exact h
theorem rk_lit : ([5, 9, 5, -2] : List Int).map (rkOf [5, 9, 5, -2]) = [1, 2, 1, 0] := by
  have e : srt [5, 9, 5, -2] = [-2, 5, 5, 9] := by simp [srt, List.mergeSort, List.MergeSort.Internal.splitInTwo]
  unfold rkOf rks
  rw [e]
  decide
set_option maxRecDepth 100000 in
set_option maxHeartbeats 1000000 in
theorem dwakes_any (w : World) : Calls Try.prog 18 #[] w fun e w' => e = .returned (.bool true) ∧ Below w.heap.size w w' := by
  have P1 : Hid (ordE 3 [(2, 0, 0), (2, 1, 0)] = 0) := Lib.hid (by decide)
  have P2 : Hid (ordR 3 [(2, 0, 0), (2, 1, 0)] = [2, 0, 1]) := Lib.hid (by decide)
  have P3 : Hid (costE 2 [(1, 0, 3)] [5, 1] = 0) := Lib.hid (by decide)
  have P4 : Hid (costV 2 [(1, 0, 3)] [5, 1] = 12) := Lib.hid (by decide)
  have P5 : Hid (ordE 1 [(0, 0, 0)] = 11) := Lib.hid (by decide)
  go_enter Try.func18, Try.ntmps18
  go_wp2_with fail
  refine (order_any (L := [(2, 0, 0), (2, 1, 0)]) _ ?a1).mono ?_
  case a1 => exact Arcs.lit (heap_at rfl) rfl rfl (by decide)
  rintro e w1 ⟨V1, rfl, B1, R1⟩
  have e2 := P2.out
  rw [e2] at R1
  have R1 := Ints.of_ord R1
  have HB1 := Lib.hid (((Below.refl w.heap.size w).alloc (Nat.le_refl _) _).trans (B1.mono (by simp)))
  have HR1 := Lib.hid R1
  clear B1 R1 e2
  rw [P1.out]
  go_wp2_with fail
  refine (cost_any (L := [(1, 0, 3)]) (xs := [5, 1]) _ ?a1 ?a2 (by decide)).mono ?_
  case a1 => exact Arcs.lit (heap_over rfl) rfl rfl (by decide)
  case a2 => exact Ints.lit (heap_at (by simp)) rfl rfl (by decide)
  rintro e w2 ⟨rfl, B2⟩
  have B12 := ((Below.refl w1.heap.size w1).alloc (Nat.le_refl _) (.cells (flat encA [(1, 0, 3)]).toArray 52)).alloc (by simp) (.cells (flat encI [5, 1]).toArray 3)
  have B22 := B12.trans (B2.mono B12.size)
  have HB2 := Lib.hid (below_then HB1.out HB1.out.size B22)
  have HR2 := Lib.hid (HR1.out.later B22)
  clear B12 B22 B2 HB1 HR1
  rw [P3.out, P4.out]
  go_wp2_with fail
  refine (equalI_any (xs := [2, 0, 1]) (ys := [2, 0, 1]) ?a1 ?a2 (by decide)).mono ?_
  case a1 => exact HR2.out.later ((Below.refl _ _).alloc (Nat.le_refl _) _)
  case a2 => exact Ints.lit (heap_at rfl) rfl rfl (by decide)
  rintro e w3 ⟨rfl, B3⟩
  have HB3 := Lib.hid (below_then HB2.out HB2.out.size (((Below.refl w2.heap.size w2).alloc (Nat.le_refl _) _).trans (B3.mono (by simp))))
  clear B3 HB2 HR2
  rw [show decide ([2, 0, 1] = ([2, 0, 1] : List Int)) = true by decide]
  go_wp2_with fail
  refine (ranks_any (zs := [5, 9, 5, -2]) ?a1 (by decide)).mono ?_
  case a1 => exact Ints.lit (heap_at rfl) rfl rfl (by decide)
  rintro e w4 ⟨V4, rfl, R4, B4⟩
  rw [rk_lit] at R4
  have HB4 := Lib.hid (below_then HB3.out HB3.out.size (((Below.refl w3.heap.size w3).alloc (Nat.le_refl _) _).trans (B4.mono (by simp))))
  have HR4 := Lib.hid R4
  clear B4 R4 HB3
  go_wp2_with fail
  refine (equalI_any (xs := [1, 2, 1, 0]) (ys := [1, 2, 1, 0]) ?a1 ?a2 (by decide)).mono ?_
  case a1 => exact HR4.out.later ((Below.refl _ _).alloc (Nat.le_refl _) _)
  case a2 => exact Ints.lit (heap_at rfl) rfl rfl (by decide)
  rintro e w5 ⟨rfl, B5⟩
  have HB5 := Lib.hid (below_then HB4.out HB4.out.size (((Below.refl w4.heap.size w4).alloc (Nat.le_refl _) _).trans (B5.mono (by simp))))
  clear B5 HB4 HR4
  rw [show decide ([1, 2, 1, 0] = ([1, 2, 1, 0] : List Int)) = true by decide]
  go_wp2_with fail
  refine (check_any (L := [(0, 0, 0)]) _ ?a1).mono ?_
  case a1 => exact Arcs.lit (heap_at rfl) rfl rfl (by decide)
  rintro e w6 ⟨rfl, B6⟩
  have HB6 := Lib.hid (below_then HB5.out HB5.out.size (((Below.refl w5.heap.size w5).alloc (Nat.le_refl _) _).trans (B6.mono (by simp))))
  clear B6 HB5
  rw [P5.out]
  go_wp2_with fail
  go_ret
  exact ⟨rfl, HB6.out⟩
end Go.Proofs.Ytimffpnfhkobkaa
/- A region that draws its order: its first operations, which read only, are taken in the text's order, whatever follows. No program in sight. -/
namespace Go.Proofs.Ytimffpnfhkobkaa
section
variable {P : Program} {md : Region.Mode} {ops : Array Oper} {Q : Exit → Act → World → Prop} {S : World → Prop}
def wpHd (P : Program) (ops : Array Oper) (S : World → Prop) (K : Act → Prop) : List Oper → Act → Prop
  | [], a => K a
  | o :: l, a => ∃ v, YieldsIf P ops S o v a ∧ wpHd P ops S K l (a.put o.dst v)
theorem wpHd_cons {K : Act → Prop} {o : Oper} {l : List Oper} {a : Act} {v : Value} (hw : Region.wanted o (yielded ops a.tmps) = true) (hv : ∀ w, S w → (execOp a.eval o).run P w = .ok (.value v) w) (h : wpHd P ops S K l (a.put o.dst v)) : wpHd P ops S K (o :: l) a := ⟨v, .inl ⟨hw, hv⟩, h⟩
theorem wpHd_skip {K : Act → Prop} {o : Oper} {l : List Oper} {a : Act} (hw : Region.wanted o (yielded ops a.tmps) = false) (h : wpHd P ops S K l (a.put o.dst undef)) : wpHd P ops S K (o :: l) a := ⟨undef, .inr ⟨hw, rfl⟩, h⟩
theorem wpHd_nil {K : Act → Prop} {a : Act} (h : K a) : wpHd P ops S K [] a := h
def lexOK (md : Region.Mode) (ops : Array Oper) : Nat → Nat → Array Bool → Bool
  | 0, _, _ => true
  | f + 1, k, listed => (Region.ready md ops listed).contains k && Region.free md ops listed k && lexOK md ops f (k + 1) (listed.setIfInBounds k true)
def marks : Nat → Nat → Array Bool → Array Bool
  | 0, _, l => l
  | f + 1, k, l => marks f (k + 1) (l.setIfInBounds k true)
theorem wpAnyH_head {w : World} (hS : S w) (hs : Region.noSelect ops = true) (hQ : ∀ c a d v w, Q (.panic c) (Act.put a d v) w → Q (.panic c) a w) : ∀ (l : List Oper) (k : Nat) (listed : Array Bool) (a : Act) (fuel : Nat),
    (∀ j, j < l.length → ops[k + j]? = l[j]?) → lexOK md ops l.length k listed = true → wpHd P ops S (fun a' => wpAnyH P md ops Q S fuel (marks l.length k listed) a' w) l a → wpAnyH P md ops Q S (l.length + fuel) listed a w
  | [], k, listed, a, fuel, _, _, h => by rw [List.length_nil, Nat.zero_add]; exact h
  | o :: l, k, listed, a, fuel, hl, hB, h => by
    obtain ⟨v, hy, hr⟩ := h
    simp only [List.length_cons, lexOK, Bool.and_eq_true] at hB
    have h0 : ops[k]? = some o := by simpa using hl 0 (by simp)
    rw [show (o :: l).length + fuel = (l.length + fuel) + 1 by simp only [List.length_cons]; omega]
    refine wpAnyH_take h0 hs hB.1.2 hB.1.1 (fun c a w h => hQ c _ _ _ w h) hy hS ?_
    refine wpAnyH_head hS hs hQ l (k + 1) _ _ fuel (fun j hj => ?_) hB.2 hr
    have := hl (j + 1) (by simp only [List.length_cons]; omega)
    rw [show k + 1 + j = k + (j + 1) by omega, this]
    simp
theorem wp_region_head {id : Nat} {a : Act} {w : World} {l : List Oper} (n : Nat) (S : World → Prop) (hm : P.follows .mixedOrders = true)
    (hB : (Region.noSelect l.toArray && decide (n ≤ l.length) && lexOK .any l.toArray n 0 (Array.replicate l.length false)) = true) (hS : S w.drew)
    (h : wpHd P l.toArray S (fun a' => wpAnyH P .any l.toArray (NoPanic Q) S (l.length - n) (marks n 0 (Array.replicate l.length false)) a' w.drew) (l.take n) a) : (Code.region id l.toArray true).wp P Q a w := by
  simp only [Bool.and_eq_true, decide_eq_true_eq] at hB
  obtain ⟨⟨hs, hn⟩, hlex⟩ := hB
  have htl : (l.take n).length = n := by simp; omega
  refine wp_region_noPanic (wp_region_held_drew (S := S) hm hS (fun hS => ?_))
  have H := wpAnyH_head (md := .any) (k := 0) (listed := Array.replicate l.length false) (fuel := l.length - n) (a := a) hS hs (fun _ _ _ _ _ h => h) (l.take n) (fun j hj => by
    have hj' : j < n := by rw [htl] at hj; exact hj
    simp [hj']) (by rw [htl]; exact hlex) (by rw [htl]; exact h)
  rw [htl, show n + (l.length - n) = l.length by omega] at H
  simpa using H
end
end Go.Proofs.Ytimffpnfhkobkaa
/- A region that draws its order: those of its operations that read only are taken first, in an order of one's own; then the others. No program in sight. -/
namespace Go.Proofs.Ytimffpnfhkobkaa
section
variable {P : Program} {md : Region.Mode} {ops : Array Oper} {Q : Exit → Act → World → Prop} {S : World → Prop}
def wpHi (P : Program) (ops : Array Oper) (S : World → Prop) (K : Act → Prop) : List Nat → Act → Prop
  | [], a => K a
  | k :: ks, a => ∃ o v, ops[k]? = some o ∧ YieldsIf P ops S o v a ∧ wpHi P ops S K ks (a.put o.dst v)
theorem wpHi_cons {K : Act → Prop} {k : Nat} {ks : List Nat} {a : Act} {o : Oper} {v : Value} (ho : ops[k]? = some o) (hw : Region.wanted o (yielded ops a.tmps) = true) (hv : ∀ w, S w → (execOp a.eval o).run P w = .ok (.value v) w) (h : wpHi P ops S K ks (a.put o.dst v)) : wpHi P ops S K (k :: ks) a := ⟨o, v, ho, .inl ⟨hw, hv⟩, h⟩
theorem wpHi_skip {K : Act → Prop} {k : Nat} {ks : List Nat} {a : Act} {o : Oper} (ho : ops[k]? = some o) (hw : Region.wanted o (yielded ops a.tmps) = false) (h : wpHi P ops S K ks (a.put o.dst undef)) : wpHi P ops S K (k :: ks) a := ⟨o, undef, ho, .inr ⟨hw, rfl⟩, h⟩
theorem wpHi_nil {K : Act → Prop} {a : Act} (h : K a) : wpHi P ops S K [] a := h
def lexOKi (md : Region.Mode) (ops : Array Oper) : List Nat → Array Bool → Bool
  | [], _ => true
  | k :: ks, listed => (Region.ready md ops listed).contains k && Region.free md ops listed k && lexOKi md ops ks (listed.setIfInBounds k true)
def marksi : List Nat → Array Bool → Array Bool
  | [], l => l
  | k :: ks, l => marksi ks (l.setIfInBounds k true)
theorem wpAnyH_heads {w : World} (hS : S w) (hs : Region.noSelect ops = true) (hQ : ∀ c a d v w, Q (.panic c) (Act.put a d v) w → Q (.panic c) a w) : ∀ (is : List Nat) (listed : Array Bool) (a : Act) (fuel : Nat),
    lexOKi md ops is listed = true → wpHi P ops S (fun a' => wpAnyH P md ops Q S fuel (marksi is listed) a' w) is a → wpAnyH P md ops Q S (is.length + fuel) listed a w
  | [], listed, a, fuel, _, h => by rw [List.length_nil, Nat.zero_add]; exact h
  | k :: ks, listed, a, fuel, hB, h => by
    obtain ⟨o, v, ho, hy, hr⟩ := h
    simp only [lexOKi, Bool.and_eq_true] at hB
    rw [show (k :: ks).length + fuel = (ks.length + fuel) + 1 by simp only [List.length_cons]; omega]
    exact wpAnyH_take ho hs hB.1.2 hB.1.1 (fun c a w h => hQ c _ _ _ w h) hy hS (wpAnyH_heads hS hs hQ ks _ _ fuel hB.2 hr)
theorem wp_region_heads {id : Nat} {a : Act} {w : World} {l : List Oper} (is : List Nat) (S : World → Prop) (hm : P.follows .mixedOrders = true)
    (hB : (Region.noSelect l.toArray && decide (is.length ≤ l.length) && lexOKi .any l.toArray is (Array.replicate l.length false)) = true) (hS : S w.drew)
    (h : wpHi P l.toArray S (fun a' => wpAnyH P .any l.toArray (NoPanic Q) S (l.length - is.length) (marksi is (Array.replicate l.length false)) a' w.drew) is a) : (Code.region id l.toArray true).wp P Q a w := by
  simp only [Bool.and_eq_true, decide_eq_true_eq] at hB
  obtain ⟨⟨hs, hn⟩, hlex⟩ := hB
  refine wp_region_noPanic (wp_region_held_drew (S := S) hm hS (fun hS => ?_))
  have H := wpAnyH_heads (md := .any) (listed := Array.replicate l.length false) (fuel := l.length - is.length) (a := a) hS hs (fun _ _ _ _ _ h => h) is hlex h
  rw [show is.length + (l.length - is.length) = l.length by omega] at H
  simpa using H
end
end Go.Proofs.Ytimffpnfhkobkaa
/- A region that draws its order: its reads are taken first; what they read need not hold behind the stores that wait for them. No program in sight. -/
namespace Go.Proofs.Ytimffpnfhkobkaa
section
variable {P : Program} {md : Region.Mode} {ops : Array Oper} {Q : Exit → Act → World → Prop} {S : World → Prop} {W : List Nat}
def wpW (P : Program) (md : Region.Mode) (ops : Array Oper) (Q : Exit → Act → World → Prop) (S : World → Prop) (W : List Nat) : Nat → Array Bool → Act → World → Prop
  | 0, listed, a, w => Region.ready md ops listed = [] ∧ Q .normal a w
  | fuel + 1, listed, a, w => (Region.ready md ops listed = [] → Q .normal a w) ∧ ∀ j ∈ Region.ready md ops listed, wpOp P ops Q j (fun a' w' => (j ∉ W → S w') ∧ wpW P md ops Q S W fuel (listed.setIfInBounds j true) a' w') a w
theorem wpAny_of_wpW : ∀ (fuel : Nat) (listed : Array Bool) (a : Act) (w : World), wpW P md ops Q S W fuel listed a w → wpAny P md ops Q fuel listed a w
  | 0, _, _, _, h => h
  | fuel + 1, _, _, _, h => ⟨h.1, fun i hi => wpOp_mono (fun a' w' h' => wpAny_of_wpW fuel _ a' w' h'.2) (h.2 i hi)⟩
theorem wpW_first {i : Nat} {oi : Oper} {v : Value} (hi : ops[i]? = some oi) (hsel : ∀ (j : Nat) (o : Oper) cs b, ops[j]? = some o → o.op ≠ .select cs b) (hQ : ∀ c a w, Q (.panic c) (a.put oi.dst v) w → Q (.panic c) a w)
    (hW : ∀ j ∈ W, j ≠ i → ∃ oj, ops[j]? = some oj ∧ ∃ e ∈ oj.after, Region.binds md e = true ∧ e.on = i) : ∀ (fuel : Nat) (listed : Array Bool) (a : Act) (w : World),
      (∀ j oj, ops[j]? = some oj → j ≠ i → listed.getD j true = false → (∀ e ∈ oj.after, Region.binds md e = true → e.on ≠ i) → oi.apart ops oj = true) →
      i ∈ Region.ready md ops listed → YieldsIf P ops S oi v a → S w → wpW P md ops Q S W fuel (listed.setIfInBounds i true) (a.put oi.dst v) w → wpW P md ops Q S W (fuel + 1) listed a w := by
  intro fuel
  induction fuel with
  | zero =>
    intro listed a w _ hr hy hS H
    refine ⟨fun h => absurd hr (by rw [h]; simp), fun j hj => ?_⟩
    by_cases hji : j = i
    · subst hji; exact hy.wpOp hi hS ⟨fun _ => hS, H⟩
    · exact absurd (ready_mono hj hji) (by rw [H.1]; simp)
  | succ fuel ih =>
    intro listed a w hfree hr hy hS H
    refine ⟨fun h => absurd hr (by rw [h]; simp), fun j hj => ?_⟩
    by_cases hji : j = i
    · subst hji; exact hy.wpOp hi hS ⟨fun _ => hS, H⟩
    obtain ⟨hjun, oj, hoj, hall⟩ := mem_ready.1 hj
    have hun := (mem_ready.1 hr).1
    have hnot : ∀ e ∈ oj.after, Region.binds md e = true → e.on ≠ i := fun e he hb heq => by
      have h1 := hall e he hb
      rw [heq] at h1
      rcases Nat.lt_or_ge i listed.size with h' | h'
      · simp [h'] at hun h1; rw [hun] at h1; cases h1
      · simp [Array.getElem?_eq_none h'] at h1
    have hjW : j ∉ W := fun h => by
      obtain ⟨oj', ho', e, he, hb, hon⟩ := hW j h hji
      have : oj' = oj := Option.some.inj (ho'.symm.trans hoj)
      subst this
      exact hnot e he hb hon
    have h2 := wpOp_putIf hoj (hfree j oj hoj hji hjun hnot) (fun cs b => hsel i oi cs b hi) (fun cs b => hsel j oj cs b hoj) hQ hy (H.2 j (ready_mono hj hji))
    refine wpOp_mono (fun a' w' h3 => ⟨h3.2.1, ih _ a' w' (fun k ok hk hki hkun hno => hfree k ok hk hki ?_ hno) (ready_mono hr (Ne.symm hji)) h3.1 (h3.2.1 hjW) ?_⟩) h2
    · by_cases hjk : j = k
      · subst hjk; exact hjun
      · rw [getD_set_ne true hjk] at hkun; exact hkun
    · rw [Array.setIfInBounds_comm _ _ hji]; exact h3.2.2
def lexOKw (md : Region.Mode) (ops : Array Oper) (W : List Nat) : List Nat → Array Bool → Bool
  | [], _ => true
  | k :: ks, listed => (Region.ready md ops listed).contains k && Region.free md ops listed k && (W.all fun j => j == k || Region.waitsFor md ops j k) && lexOKw md ops W ks (listed.setIfInBounds k true)
theorem wpW_heads {w : World} (hS : S w) (hs : Region.noSelect ops = true) (hQ : ∀ c a d v w, Q (.panic c) (Act.put a d v) w → Q (.panic c) a w) : ∀ (is : List Nat) (listed : Array Bool) (a : Act) (fuel : Nat),
    lexOKw md ops W is listed = true → wpHi P ops S (fun a' => wpW P md ops Q S W fuel (marksi is listed) a' w) is a → wpW P md ops Q S W (is.length + fuel) listed a w
  | [], listed, a, fuel, _, h => by rw [List.length_nil, Nat.zero_add]; exact h
  | k :: ks, listed, a, fuel, hB, h => by
    obtain ⟨o, v, ho, hy, hr⟩ := h
    simp only [lexOKw, Bool.and_eq_true] at hB
    rw [show (k :: ks).length + fuel = (ks.length + fuel) + 1 by simp only [List.length_cons]; omega]
    refine wpW_first ho (Region.noSelect_spec hs) (fun c a w h => hQ c _ _ _ w h) (fun j hj hjk => ?_) _ _ _ _ (Region.free_spec ho hB.1.1.2) (by simpa using hB.1.1.1) hy hS (wpW_heads hS hs hQ ks _ _ fuel hB.2 hr)
    have := List.all_eq_true.1 hB.1.2 j hj
    simp only [Bool.or_eq_true, beq_iff_eq] at this
    rcases this with h | h
    · exact absurd h hjk
    · exact Region.waitsFor_spec h
theorem wp_region_headsW {id : Nat} {a : Act} {w : World} {l : List Oper} (is W : List Nat) (S : World → Prop) (hm : P.follows .mixedOrders = true)
    (hB : (Region.noSelect l.toArray && decide (is.length ≤ l.length) && lexOKw .any l.toArray W is (Array.replicate l.length false)) = true) (hS : S w.drew)
    (h : wpHi P l.toArray S (fun a' => wpW P .any l.toArray (NoPanic Q) S W (l.length - is.length) (marksi is (Array.replicate l.length false)) a' w.drew) is a) : (Code.region id l.toArray true).wp P Q a w := by
  simp only [Bool.and_eq_true, decide_eq_true_eq] at hB
  obtain ⟨⟨hs, hn⟩, hlex⟩ := hB
  refine wp_region_noPanic ?_
  have H := wpW_heads (md := .any) (W := W) (listed := Array.replicate l.length false) (fuel := l.length - is.length) (a := a) hS hs (fun _ _ _ _ _ h => h) is hlex h
  rw [show is.length + (l.length - is.length) = l.length by omega] at H
  refine wp_region_any hm ?_
  have := wpAny_of_wpW _ _ _ _ H
  simpa using this
/-- One that may come up now, and no other. -/
theorem wpW_one {k fuel : Nat} {listed : Array Bool} {a : Act} {w : World} {o : Oper} (hr : Region.ready md ops listed = [k]) (ho : ops[k]? = some o)
    (h : ∀ K' : Act → World → Prop, Shut (∀ a w, (k ∉ W → S w) → wpW P md ops Q S W fuel (listed.setIfInBounds k true) a w → K' a w) → if Region.wanted o (yielded ops a.tmps) = true then Oper.wp P o a w K' Q else K' (a.put o.dst undef) w) : wpW P md ops Q S W (fuel + 1) listed a w := by
  refine ⟨fun h0 => (by rw [hr] at h0; cases h0), fun j hj => ?_⟩
  rw [hr] at hj
  have : j = k := by simpa using hj
  subst this
  exact wpOp_step ho (fun K' hK => h K' (fun a w h1 h2 => hK a w ⟨h1, h2⟩))
/-- Two that may come up now. -/
theorem wpW_two {k l fuel : Nat} {listed : Array Bool} {a : Act} {w : World} {o p : Oper} (hr : Region.ready md ops listed = [k, l]) (ho : ops[k]? = some o) (hp : ops[l]? = some p)
    (h : ∀ K' : Act → World → Prop, Shut (∀ a w, (k ∉ W → S w) → wpW P md ops Q S W fuel (listed.setIfInBounds k true) a w → K' a w) → if Region.wanted o (yielded ops a.tmps) = true then Oper.wp P o a w K' Q else K' (a.put o.dst undef) w)
    (h2 : ∀ K' : Act → World → Prop, Shut (∀ a w, (l ∉ W → S w) → wpW P md ops Q S W fuel (listed.setIfInBounds l true) a w → K' a w) → if Region.wanted p (yielded ops a.tmps) = true then Oper.wp P p a w K' Q else K' (a.put p.dst undef) w) : wpW P md ops Q S W (fuel + 1) listed a w := by
  refine ⟨fun h0 => (by rw [hr] at h0; cases h0), fun j hj => ?_⟩
  rw [hr] at hj
  simp only [List.mem_cons, List.not_mem_nil, or_false] at hj
  rcases hj with rfl | rfl
  · exact wpOp_step ho (fun K' hK => h K' (fun a w h1 h2 => hK a w ⟨h1, h2⟩))
  · exact wpOp_step hp (fun K' hK => h2 K' (fun a w h1 h2 => hK a w ⟨h1, h2⟩))
theorem wpW_done {fuel : Nat} {listed : Array Bool} {a : Act} {w : World} (hr : Region.ready md ops listed = []) (h : Q .normal a w) : wpW P md ops Q S W fuel listed a w := by
  cases fuel with
  | zero => exact ⟨hr, h⟩
  | succ n => exact ⟨fun _ => h, by rw [hr]; simp⟩
end
end Go.Proofs.Ytimffpnfhkobkaa
