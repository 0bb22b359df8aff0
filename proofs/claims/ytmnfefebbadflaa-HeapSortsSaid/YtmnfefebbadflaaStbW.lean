/- Rows of pairs of one's own, two in each other's place; slices.swapRangeCmpFunc. -/
import Derived.Test.YtmnfefebbadflaaRefA
import Derived.Test.YtmnfefebbadflaaSl
import Derived.Test.YtmnfefebbadflaaHeldT
import Derived.Test.YtmnfefebbadflaaStbP
import Derived.IntWalk
import Derived.Deep.DeepCutAuto
import Derived.Deep.LoopGhost
namespace Go.Proofs.Ytmnfefebbadflaa
open Go.RowKit
theorem own_cl {w : World} {base E sz g k c : Nat} {xs : List Value} (h : w.ownsRow base E sz (.slice (some ⟨g, 0, none⟩) k c) k xs) {j : Nat} {v : Value} (hv : xs[j]? = some v) : Cl w ⟨g, j, none⟩ v := by
  have hl := (List.getElem?_eq_some_iff.1 hv).1
  have h1 := h.1
  exact ⟨(h.cellAt j (by omega)).trans hv, h.frozenAt _⟩
theorem flat_put {α : Type} {enc : α → List Value} {sz : Nat} (he : ∀ a, (enc a).length = sz) : ∀ (l : List α) (i : Nat) (a b : α) (r : Nat) (v : Value), l[i]? = some a → r < sz → enc b = (enc a).set r v → (flat enc l).set (i * sz + r) v = flat enc (l.set i b)
  | [], i, a, b, r, v, h, _, _ => by simp at h
  | c :: l, 0, a, b, r, v, h, hr, hb => by
    obtain rfl : c = a := by simpa using h
    show (enc c ++ flat enc l).set _ v = enc b ++ flat enc l
    rw [Nat.zero_mul, Nat.zero_add, List.set_append_left _ _ (by rw [he]; exact hr), hb]
  | c :: l, i + 1, a, b, r, v, h, hr, hb => by
    have h2 := flat_put he l i a b r v (by simpa using h) hr hb
    show (enc c ++ flat enc l).set _ v = enc c ++ flat enc (l.set i b)
    have e : (i + 1) * sz + r = sz + (i * sz + r) := by rw [Nat.add_mul]; omega
    rw [e, List.set_append_right _ _ (by rw [he]; omega), he, ← h2, Nat.add_sub_cancel_left]
/-- A row of pairs of one's own. -/
abbrev RowP (w : World) (base g n cap : Nat) (L : List One) : Prop := w.ownsRow base 26 2 (.slice (some ⟨g, 0, none⟩) n cap) n (flat encO L)
section
variable {w : World} {base g n cap : Nat} {L : List One}
theorem RowP.len (h : RowP w base g n cap L) : L.length = n := by
  have := h.1
  rw [flat_length encO_length] at this
  omega
theorem RowP.cl (h : RowP w base g n cap L) {i : Nat} {a : One} (ha : L[i]? = some a) (r : Nat) {v : Value} (hr : r < 2) (hv : (encO a)[r]? = some v) : Cl w ⟨g, i * 2 + r, none⟩ v :=
  own_cl h ((flat_get encO_length _ i r hr a ha).trans hv)
theorem RowP.put1 (h : RowP w base g n cap L) {i : Nat} {a b : One} (ha : L[i]? = some a) (r : Nat) {v : Value} (hr : r < 2) (hb : encO b = (encO a).set r v) : RowP (w.setCell ⟨g, i * 2 + r, none⟩ v) base g n cap (L.set i b) := by
  have h2 := (h.stored (i * 2 + r) v).1
  rwa [flat_put encO_length _ _ _ _ _ _ ha hr hb] at h2
def putP (w : World) (g o : Nat) (b : One) : World := (w.setCell ⟨g, o, none⟩ (.int .i64 b.1)).setCell ⟨g, o + 1, none⟩ (.int .i64 b.2)
theorem RowP.put (h : RowP w base g n cap L) {i : Nat} {a : One} (ha : L[i]? = some a) (b : One) : RowP (putP w g (i * 2) b) base g n cap (L.set i b) := by
  have hl := (List.getElem?_eq_some_iff.1 ha).1
  have h1 := h.put1 ha 0 (v := .int .i64 b.1) (b := (b.1, a.2)) (by omega) rfl
  have h2 := h1.put1 (i := i) (a := (b.1, a.2)) (List.getElem?_set_self hl) 1 (v := .int .i64 b.2) (b := b) (by omega) rfl
  rw [List.set_set] at h2
  exact h2
theorem grown_set (W : World) (b o : Nat) (v : Value) : W.grownBy (W.setCell ⟨b, o, none⟩ v) (some b) :=
  ⟨rfl, rfl, rfl, Nat.le_of_eq (by simp), fun k _ hk => Below.heap_setCell _ _ _ k (fun e => hk (by rw [e]))⟩
theorem put_grown (w : World) (g o : Nat) (b : One) : w.grownBy (putP w g o b) (some g) := grownBy_trans (grown_set w g o _) (grown_set _ g (o + 1) _)
end
theorem grown_drew {w w' : World} {row : Option Nat} (h : w.grownBy w' row) : w.grownBy w'.drew row := ⟨h.os, h.tape, h.output, h.size, h.block⟩
def P2 (g o1 o2 : Nat) (a b : One) (w : World) : Prop := w.cell? ⟨g, o1, none⟩ = some (.int .i64 a.1) ∧ w.cell? ⟨g, o1 + 1, none⟩ = some (.int .i64 a.2) ∧ w.cell? ⟨g, o2, none⟩ = some (.int .i64 b.1) ∧ w.cell? ⟨g, o2 + 1, none⟩ = some (.int .i64 b.2)
set_option maxRecDepth 100000 in
set_option maxHeartbeats 1000000 in
theorem swapRange_any {w : World} {base g n cap : Nat} {P X Md Y S : List One} (h : RowP w base g n cap (P ++ X ++ Md ++ Y ++ S)) (k a b : Nat) (hx : X.length = k) (hy : Y.length = k) (ha : P.length = a) (hb : a + k + Md.length = b) (hn : n ≤ 1000000000) (F : Value) :
    Calls Try.prog 85 #[.slice (some ⟨g, 0, none⟩) n cap, .int .i64 a, .int .i64 b, .int .i64 k, F] w fun e w' => e = .returned (.tuple #[]) ∧ RowP w' base g n cap (P ++ Y ++ Md ++ X ++ S) ∧ w.grownBy w' (some g) := by
  have hlen := RowP.len h
  simp only [List.length_append] at hlen
  have HH := Lib.hid h
  have HX := Lib.hid hx
  have HY := Lib.hid hy
  have HA := Lib.hid ha
  have HB := Lib.hid hb
  have hab : b + k ≤ n := by omega
  have hab2 : a + k ≤ b := by omega
  clear h hx hy ha hb hlen
  go_enter Try.func85, Try.ntmps85
  go_wp2_with fail
  go_loopw [10] (fun qi wr => ∃ i : Nat, i ≤ k ∧ qi = .int .i64 i ∧ RowP wr base g n cap (Stb.rng P X Md Y S i) ∧ w.grownBy wr (some g)) (fun q _ => k - (intOf q).toNat)
  case atStart => exact ⟨0, by omega, rfl, by rw [Stb.rng_zero]; exact HH.out, ⟨rfl, rfl, rfl, Nat.le_refl _, fun _ _ _ => rfl⟩⟩
  case round =>
    obtain ⟨i, hi, rfl, hrow, hg⟩ := hrel
    obtain ⟨wo, rfl⟩ : ∃ q : World, q = wr := ⟨_, rfl⟩
    have HR := Lib.hid hrow
    have HG := Lib.hid hg
    clear hrow hg
    by_cases hik : i < k
    · have hd1 : decide ((i : Int) < (k : Int)) = true := by simp only [decide_eq_true_eq]; omega
      obtain ⟨x, y, hx, hy, hs⟩ := Stb.rng_step P X Md Y S HX.out HY.out hik
      rw [HA.out] at hx hy hs
      rw [HB.out] at hy hs
      have kx0 := RowP.cl HR.out hx 0 (v := .int .i64 x.1) (by omega) rfl
      have kx1 := RowP.cl HR.out hx 1 (v := .int .i64 x.2) (by omega) rfl
      have ky0 := RowP.cl HR.out hy 0 (v := .int .i64 y.1) (by omega) rfl
      have ky1 := RowP.cl HR.out hy 1 (v := .int .i64 y.2) (by omega) rfl
      rw [Nat.add_zero] at kx0 ky0
      have HS0 : Hid (P2 g ((b + i) * 2) ((a + i) * 2) y x wo.drew) := Lib.hid ⟨ky0.cell, ky1.cell, kx0.cell, kx1.cell⟩
      have HKX := Lib.hid (And.intro kx0 kx1)
      have HKY := Lib.hid (And.intro ky0 ky1)
      have h1 := RowP.put HR.out hx y
      obtain ⟨z, hz⟩ : ∃ z, ((Stb.rng P X Md Y S i).set (a + i) y)[b + i]? = some z := ⟨_, List.getElem?_eq_getElem (by rw [List.length_set]; exact (List.getElem?_eq_some_iff.1 hy).1)⟩
      have h2 := RowP.put h1 hz x
      rw [hs] at h2
      have H2 := Lib.hid h2
      have HG2 : Hid (w.grownBy (putP (putP wo g ((a + i) * 2) y) g ((b + i) * 2) x) (some g)) := Lib.hid (grownBy_trans HG.out (grownBy_trans (put_grown _ _ _ _) (put_grown _ _ _ _)))
      have p1 : IntKind.i64.wrap ((a : Int) + (i : Int)) = (a : Int) + (i : Int) := by rw [IntKind.wrap_i64]; omega
      have p2 : IntKind.i64.wrap ((b : Int) + (i : Int)) = (b : Int) + (i : Int) := by rw [IntKind.wrap_i64]; omega
      have p3 : ((a : Int) + (i : Int)).toNat = a + i := by omega
      have p4 : ((b : Int) + (i : Int)).toNat = b + i := by omega
      have p5 : (0 : Int) ≤ (a : Int) + (i : Int) := by omega
      have p6 : (0 : Int) ≤ (b : Int) + (i : Int) := by omega
      have p7 : (a : Int) + (i : Int) < (n : Int) := by omega
      have p8 : (b : Int) + (i : Int) < (n : Int) := by omega
      clear hx hy hs kx0 kx1 ky0 ky1 h1 hz h2
      go_upto_region 3 with fail
      refine wp_region_headsV [(0, false), (1, false), (2, false), (3, false), (4, false), (5, false), (6, false), (7, false), (8, false), (9, false), (10, false), (11, false), (12, false), (13, true), (14, false), (15, false), (16, false), (17, false), (18, false), (19, true), (20, false)] [21, 23] (fun _ => True) (P2 g ((b + i) * 2) ((a + i) * 2) y x) (by kernel_rfl) (by kernel_rfl) trivial HS0.out ?_
      iterate 21 (first | (refine wpHv_skip rfl (by rfl) ?_) | (refine wpHv_cons (v := ?_) rfl (by rfl) (fun wS hwS => ?_) ?_; rotate_left 1; (focus ((first | (have hwA := And.right hwS rfl) | (have hwA := And.left hwS)); clear hwS; (try dsimp only [P2] at hwA); go_simp; (try with_reducible rfl); (try (trace_state; fail))))); (try simp only [List.getElem_toArray, List.getElem_cons_zero, List.getElem_cons_succ]); (try simp only [Act.put, List.setIfInBounds_toArray, List.set_cons_zero, List.set_cons_succ]))
      refine wpHv_nil ?_
      change wpV _ _ _ _ _ _ _ (2 + 1) _ _ _
      refine wpV_one (k := 21) (by kernel_rfl) rfl (fun K hK => ?_)
      have HKK := Lib.hid hK
      clear hK
      go_simp
      obtain ⟨⟨a1, a2⟩, a3, a4⟩ := HKX.out
      go_simp
      clear a1 a2 a3 a4
      refine HKK.out _ _ ⟨trivial, fun hn => absurd (by decide) hn⟩ ?_
      clear HKK K
      change wpV _ _ _ _ _ _ _ (1 + 1) _ _ _
      refine wpV_one (k := 22) (by kernel_rfl) rfl (fun K hK => ?_)
      have HKK := Lib.hid hK
      clear hK
      go_simp
      refine HKK.out _ _ ⟨trivial, fun _ h => h⟩ ?_
      clear HKK K
      change wpV _ _ _ _ _ _ _ (0 + 1) _ _ _
      refine wpV_one (k := 23) (by kernel_rfl) rfl (fun K hK => ?_)
      have HKK := Lib.hid hK
      clear hK
      go_simp
      obtain ⟨⟨a1, a2⟩, a3, a4⟩ := HKY.out
      obtain ⟨_, e00⟩ := cell?_setCell_some (p := ⟨g, (a + i) * 2, none⟩) (x := .int .i64 y.1) a1
      obtain ⟨_, e10⟩ := cell?_setCell_some (p := ⟨g, (a + i) * 2, none⟩) (x := .int .i64 y.1) a3
      obtain ⟨_, e11⟩ := cell?_setCell_some (p := ⟨g, (a + i) * 2 + 1, none⟩) (x := .int .i64 y.2) e10
      clear e10
      go_simp
      refine HKK.out _ _ ⟨trivial, fun hn => absurd (by decide) hn⟩ ?_
      clear HKK K
      refine wpV_done (by kernel_rfl) (NoPanic.normal ?_)
      have hdw : Below (putP (putP wo g ((a + i) * 2) y) g ((b + i) * 2) x).heap.size (putP (putP wo g ((a + i) * 2) y) g ((b + i) * 2) x) (putP (putP wo g ((a + i) * 2) y) g ((b + i) * 2) x).drew := (Below.refl _ _).drew
      have H3 : Hid (RowP ((((wo.setCell ⟨g, (a + i) * 2, none⟩ (.int .i64 y.1)).setCell ⟨g, (a + i) * 2 + 1, none⟩ (.int .i64 y.2)).setCell ⟨g, (b + i) * 2, none⟩ (.int .i64 x.1)).setCell ⟨g, (b + i) * 2 + 1, none⟩ (.int .i64 x.2)).drew base g n cap (Stb.rng P X Md Y S (i + 1))) := Lib.hid (own_later H2.out hdw)
      have HG3 : Hid (w.grownBy ((((wo.setCell ⟨g, (a + i) * 2, none⟩ (.int .i64 y.1)).setCell ⟨g, (a + i) * 2 + 1, none⟩ (.int .i64 y.2)).setCell ⟨g, (b + i) * 2, none⟩ (.int .i64 x.1)).setCell ⟨g, (b + i) * 2 + 1, none⟩ (.int .i64 x.2)).drew (some g)) := Lib.hid (grown_drew HG2.out)
      clear hdw p1 p2 p3 p4 p5 p6 p7 p8
      go_wp2_with fail
      go_roundw
      case rel => exact ⟨i + 1, by omega, by go_num, H3.out, HG3.out⟩
      case measure => simp [intOf]; omega
    · obtain rfl : i = k := by omega
      have hd1 : decide ((i : Int) < (i : Int)) = false := by simp
      have hrow : RowP wo base g n cap (P ++ Y ++ Md ++ X ++ S) := by
        have h := HR.out
        rwa [Stb.rng_full P X Md Y S HX.out HY.out] at h
      have HR2 := Lib.hid hrow
      clear hrow
      go_wp2_with fail
      go_end0
      exact ⟨rfl, HR2.out, HG.out⟩
end Go.Proofs.Ytmnfefebbadflaa
