/- The document's own answers on graphs: may it be, do coordinates fit, what they cost; two lists alike. -/
import Derived.Test.YtjgloineooadoaaGreatDoorMgZ8
import Derived.RangeFuncBox
import Derived.RangeFuncLeaves
import Derived.Shelf.Abstract
import Derived.WalkKit
import Derived.OwnWalkIn
import Derived.TacticsInMore
import Derived.LoopNIn
import Derived.LoopIn
import Derived.Maps.AppendAt
import Derived.Test.YtjgloineooadoaaGreatDoorShelf
import Derived.Shelf.SlIterI.Sorted
namespace Go.Proofs.YtjgloineooadoaaGreatDoor
open Go.RowKit
set_option maxRecDepth 100000 in
set_option maxHeartbeats 2000000 in
theorem refRight_any {w : World} {V : Value} {L : List Arc} (n : Int) (h : Arcs w V L) :
    Calls Tryz.prog 51 #[.int .i64 n, V] w fun e w' => e = .returned (.bool (rightB n L)) ∧ Below w.heap.size w w' := by
  obtain ⟨A, cap, rfl, -, -, hA⟩ := h.at_
  have HA := Lib.hid hA
  clear h hA
  by_cases n0 : n < 0
  · have hr : Hid (rightB n L = false) := by show _ = _; simp [rightB]; omega
    go_enter Tryz.func51, Tryz.ntmps51
    go_wp2_with fail
    go_ret
    exact ⟨ret_bool hr.out.symm, Below.refl _ _⟩
  by_cases n1 : 4096 < n
  · have hr : Hid (rightB n L = false) := by show _ = _; simp [rightB]; omega
    go_enter Tryz.func51, Tryz.ntmps51
    go_wp2_with fail
    go_ret
    exact ⟨ret_bool hr.out.symm, Below.refl _ _⟩
  by_cases n2 : 16384 < (L.length : Int)
  · have hr : Hid (rightB n L = false) := by show _ = _; simp [rightB]; omega
    go_enter Tryz.func51, Tryz.ntmps51
    go_wp2_with fail
    go_ret
    exact ⟨ret_bool hr.out.symm, Below.refl _ _⟩
  have hr : Hid (rightB n L = !L.any (badA n)) := by
    show _ = _
    have e1 : decide (0 ≤ n) = true := by simp; omega
    have e2 : decide (n ≤ 4096) = true := by simp; omega
    have e3 : decide (L.length ≤ 16384) = true := by simp; omega
    simp only [rightB, e1, e2, e3, Bool.true_and]
  go_enter Tryz.func51, Tryz.ntmps51
  go_wp2_with fail
  go_loopw [5] (fun s wr => ∃ k : Nat, k ≤ L.length ∧ s = .int .i64 k ∧ Hid (∀ a ∈ L.take k, badA n a = false) ∧ Below w.heap.size w wr) (fun s _ => L.length - (intOf s).toNat)
  case atStart => exact ⟨0, by omega, rfl, Lib.hid (by simp), Below.refl _ _⟩
  case round => as_aux_lemma =>
    obtain ⟨k, hk, rfl, hn, Bl⟩ := hrel
    by_cases hkn : k < L.length
    · obtain ⟨b, off, rfl, hc⟩ := HA.out (by omega)
      obtain ⟨a, ha⟩ : ∃ a, L[k]? = some a := ⟨_, List.getElem?_eq_getElem hkn⟩
      obtain ⟨c0, c1, c2⟩ := hc k a ha
      obtain ⟨f, t, x⟩ := a
      simp only at c0 c1 c2
      have c0 := cell_later Bl c0
      have c1 := cell_later Bl c1
      have c2 := cell_later Bl c2
      have BA : Below wr.heap.size wr (wr.alloc (.cells #[.int .i64 f, .int .i64 t, .int .i64 x] 40)) := (Below.refl _ _).alloc (Nat.le_refl _) _
      have g0 : (wr.alloc (.cells #[.int .i64 f, .int .i64 t, .int .i64 x] 40)).cell? ⟨wr.heap.size, 0, none⟩ = some (.int .i64 f) := (Cl.new rfl).cell
      have g1 : (wr.alloc (.cells #[.int .i64 f, .int .i64 t, .int .i64 x] 40)).cell? ⟨wr.heap.size, 1, none⟩ = some (.int .i64 t) := (Cl.new rfl).cell
      have g2 : (wr.alloc (.cells #[.int .i64 f, .int .i64 t, .int .i64 x] 40)).cell? ⟨wr.heap.size, 2, none⟩ = some (.int .i64 x) := (Cl.new rfl).cell
      have HB := Lib.hid (below_then Bl Bl.size BA)
      have HAA := Lib.hid ha
      have hT : Hid (L.take (k + 1) = L.take k ++ [(f, t, x)]) := Lib.hid (by
        obtain ⟨h1, h2⟩ := List.getElem?_eq_some_iff.1 ha
        rw [List.take_succ_eq_append_getElem h1, h2])
      clear hc ha Bl BA
      by_cases hb : badA n (f, t, x) = true
      · have hrr : Hid (rightB n L = false) := Lib.hid (by
          rw [hr.out]
          have : L.any (badA n) = true := List.any_eq_true.2 ⟨_, List.mem_of_getElem? HAA.out, hb⟩
          rw [this]; rfl)
        simp only [badA, Bool.or_eq_true, decide_eq_true_eq] at hb
        by_cases b0 : f < 0
        · clear hb
          go_wp2_with fail
          go_ret
          exact ⟨ret_bool hrr.out.symm, HB.out⟩
        by_cases b1 : n ≤ f
        · clear hb
          go_wp2_with fail
          go_ret
          exact ⟨ret_bool hrr.out.symm, HB.out⟩
        by_cases b2 : t < 0
        · clear hb
          go_wp2_with fail
          go_ret
          exact ⟨ret_bool hrr.out.symm, HB.out⟩
        by_cases b3 : n ≤ t
        · clear hb
          go_wp2_with fail
          go_ret
          exact ⟨ret_bool hrr.out.symm, HB.out⟩
        by_cases b4 : x < 0
        · clear hb
          go_wp2_with fail
          go_ret
          exact ⟨ret_bool hrr.out.symm, HB.out⟩
        have b5 : 1000000 < x := by omega
        clear hb
        go_wp2_with fail
        go_ret
        exact ⟨ret_bool hrr.out.symm, HB.out⟩
      · have hbf : Hid (badA n (f, t, x) = false) := Lib.hid (by simpa using hb)
        simp only [badA, Bool.or_eq_true, decide_eq_true_eq, not_or] at hb
        obtain ⟨⟨⟨⟨⟨b0, b1⟩, b2⟩, b3⟩, b4⟩, b5⟩ := hb
        go_wp2_with fail
        exact ⟨⟨k + 1, by omega, by go_num, Lib.hid (fun a ha => by
          rw [hT.out] at ha
          rcases List.mem_append.1 ha with ha | ha
          · exact hn.out a ha
          · simp at ha; subst ha; exact hbf.out), HB.out⟩, by simp [intOf]; omega⟩
    · obtain rfl : k = L.length := by omega
      go_wp2_with fail
      go_ret
      refine ⟨ret_bool ?_, Bl⟩
      rw [hr.out]
      have : L.any (badA n) = false := List.any_eq_false.2 (fun a ha => by rw [hn.out a (by rw [List.take_of_length_le (Nat.le_refl _)]; exact ha)]; simp)
      rw [this]; rfl
/-- All arcs lead between the coordinates' nodes. -/
def InX (L : List Arc) (m : Nat) : Prop := ∀ a ∈ L, ∃ f t : Nat, a.1 = f ∧ a.2.1 = t ∧ f < m ∧ t < m
set_option maxRecDepth 100000 in
set_option maxHeartbeats 1000000 in
theorem fit_any {w : World} {V Vx : Value} {L : List Arc} {xs : List Int} (h : Arcs w V L) (hx : Ints w Vx xs) (hin : InX L xs.length) (hl : L.length ≤ 1000000) (hxl : xs.length ≤ 1000000) :
    Calls Tryz.prog 15 #[V, Vx] w fun e w' => e = .returned (.bool (L.all (fitA xs))) ∧ Below w.heap.size w w' := by
  obtain ⟨A, cap, rfl, -, -, hA⟩ := h.at_
  obtain ⟨AX, capX, rfl, -, -, hAX⟩ := hx.at_
  have HA := Lib.hid hA
  have HAX := Lib.hid hAX
  have HIN := Lib.hid hin
  clear h hx hA hAX hin
  go_enter Tryz.func15, Tryz.ntmps15
  go_wp2_with fail
  go_loopw [5] (fun s wr => ∃ k : Nat, k ≤ L.length ∧ s = .int .i64 k ∧ Hid (∀ a ∈ L.take k, fitA xs a = true) ∧ Below w.heap.size w wr) (fun s _ => L.length - (intOf s).toNat)
  case atStart => exact ⟨0, by omega, rfl, Lib.hid (by simp), Below.refl _ _⟩
  case round => as_aux_lemma =>
    obtain ⟨k, hk, rfl, hn, Bl⟩ := hrel
    by_cases hkn : k < L.length
    · obtain ⟨b, off, rfl, hc⟩ := HA.out (by omega)
      obtain ⟨a, ha⟩ : ∃ a, L[k]? = some a := ⟨_, List.getElem?_eq_getElem hkn⟩
      obtain ⟨c0, c1, c2⟩ := hc k a ha
      obtain ⟨f, t, e1, e2, hf, ht⟩ := HIN.out a (List.mem_of_getElem? ha)
      obtain ⟨f', t', x⟩ := a
      simp only at c0 c1 c2 e1 e2
      subst e1 e2
      obtain ⟨bx, ox, rfl, hcx⟩ := HAX.out (by omega)
      have d0 := cell_later Bl (hcx f _ (List.getElem?_eq_getElem hf))
      have d1 := cell_later Bl (hcx t _ (List.getElem?_eq_getElem ht))
      have c0 := cell_later Bl c0
      have c1 := cell_later Bl c1
      have hfx : at_ xs (f : Nat) = xs[f] := by unfold at_; simp [hf]
      have htx : at_ xs (t : Nat) = xs[t] := by unfold at_; simp [ht]
      have hfit : fitA xs ((f : Int), (t : Int), x) = decide (xs[f] < xs[t]) := by unfold fitA; simp only; rw [hfx, htx]
      generalize xs[f] = xf at *
      generalize xs[t] = xt at *
      have i1 : (0 : Int) ≤ (f : Int) := by omega
      have i2 : (0 : Int) ≤ (t : Int) := by omega
      have i3 : (f : Int) < (xs.length : Int) := by omega
      have i4 : (t : Int) < (xs.length : Int) := by omega
      have i5 : (0 : Int) ≤ (k : Int) := by omega
      have i6 : (k : Int) < (L.length : Int) := by omega
      have HFT := Lib.hid hfit
      have HAA := Lib.hid ha
      have hT : Hid (L.take (k + 1) = L.take k ++ [((f : Int), (t : Int), x)]) := Lib.hid (by
        obtain ⟨h1, h2⟩ := List.getElem?_eq_some_iff.1 ha
        rw [List.take_succ_eq_append_getElem h1, h2])
      have HBl := Lib.hid Bl
      clear hc hcx ha hfx htx hfit Bl
      by_cases hlt : xt ≤ xf
      · have hd : decide (xt ≤ xf) = true := by simp; omega
        go_wp2_with fail
        go_quiet (fail)
        go_wp2_with fail
        go_ret
        refine ⟨ret_bool ?_, below_drewN HBl.out _⟩
        cases e : L.all (fitA xs) with
        | false => rfl
        | true =>
          have := List.all_eq_true.1 e _ (List.mem_of_getElem? HAA.out)
          rw [HFT.out] at this
          simp at this
          omega
      · have hd : decide (xt ≤ xf) = false := by simp; omega
        go_wp2_with fail
        go_quiet (fail)
        go_wp2_with fail
        exact ⟨⟨k + 1, by omega, by go_num, Lib.hid (fun a ha => by
          rw [hT.out] at ha
          rcases List.mem_append.1 ha with ha | ha
          · exact hn.out a ha
          · simp at ha; subst ha; rw [HFT.out]; simp; omega), below_drewN HBl.out _⟩, by simp [intOf]; omega⟩
    · obtain rfl : k = L.length := by omega
      go_wp2_with fail
      go_ret
      refine ⟨ret_bool ?_, Bl⟩
      have : L.all (fitA xs) = true := List.all_eq_true.2 (fun a ha => hn.out a (by rw [List.take_of_length_le (Nat.le_refl _)]; exact ha))
      rw [this]
theorem mul_bound2 {x d : Int} (h0 : 0 ≤ x) (h1 : x ≤ 1000000) (d0 : -2000000 ≤ d) (d1 : d ≤ 2000000) : -2000000000000 ≤ x * d ∧ x * d ≤ 2000000000000 := by
  rcases Int.le_total 0 d with h | h
  · have := mul_bound h0 h1 h d1; omega
  · have := mul_bound (d := -d) h0 h1 (by omega) (by omega)
    rw [Int.mul_neg] at this
    omega
theorem mul_bound4 {x d : Int} (h0 : 0 ≤ x) (h1 : x ≤ 1000000) (d0 : -4000000 ≤ d) (d1 : d ≤ 4000000) : -4000000000000 ≤ x * d ∧ x * d ≤ 4000000000000 := by
  rcases Int.le_total 0 d with h | h
  · have h2 := Int.mul_nonneg h0 h
    have h3 := Int.mul_le_mul h1 d1 h (by omega)
    omega
  · have h2 := Int.mul_nonneg h0 (show 0 ≤ -d by omega)
    have h3 := Int.mul_le_mul h1 (show -d ≤ 4000000 by omega) (by omega) (by omega)
    rw [Int.mul_neg] at h2 h3
    omega
set_option maxRecDepth 100000 in
set_option maxHeartbeats 1000000 in
theorem refCost_wide {w : World} {V Vx : Value} {L : List Arc} {xs : List Int} (h : Arcs w V L) (hx : Ints w Vx xs) (hin : InX L xs.length) (hl : L.length ≤ 1000000) (hxl : xs.length ≤ 1000000)
    (hw : ∀ a ∈ L, 0 ≤ a.2.2 ∧ a.2.2 ≤ 1000000) (hb : ∀ v ∈ xs, -2000000 ≤ v ∧ v ≤ 2000000) :
    Calls Tryz.prog 16 #[V, Vx] w fun e w' => e = .returned (.int .i64 (costL xs L)) ∧ Below w.heap.size w w' := by
  obtain ⟨A, cap, rfl, -, -, hA⟩ := h.at_
  obtain ⟨AX, capX, rfl, -, -, hAX⟩ := hx.at_
  have HA := Lib.hid hA
  have HAX := Lib.hid hAX
  have HIN := Lib.hid hin
  have HW := Lib.hid hw
  have HB := Lib.hid hb
  clear h hx hA hAX hin hw hb
  go_enter Tryz.func16, Tryz.ntmps16
  go_wp2_with fail
  go_loopw [5, 6] (fun sv s wr => ∃ k : Nat, k ≤ L.length ∧ s = .int .i64 k ∧ sv = .int .i64 (costL xs (L.take k)) ∧ -(k * 4000000000000) ≤ costL xs (L.take k) ∧ costL xs (L.take k) ≤ k * 4000000000000 ∧ Below w.heap.size w wr) (fun _ s _ => L.length - (intOf s).toNat)
  case atStart => exact ⟨0, by omega, rfl, rfl, by simp [costL], by simp [costL], Below.refl _ _⟩
  case round => as_aux_lemma =>
    obtain ⟨k, hk, rfl, rfl, hc0, hc1, Bl⟩ := hrel
    by_cases hkn : k < L.length
    · obtain ⟨b, off, rfl, hc⟩ := HA.out (by omega)
      obtain ⟨a, ha⟩ : ∃ a, L[k]? = some a := ⟨_, List.getElem?_eq_getElem hkn⟩
      obtain ⟨c0, c1, c2⟩ := hc k a ha
      obtain ⟨f, t, e1, e2, hf, ht⟩ := HIN.out a (List.mem_of_getElem? ha)
      obtain ⟨x0, x1⟩ := HW.out a (List.mem_of_getElem? ha)
      obtain ⟨f', t', x⟩ := a
      simp only at c0 c1 c2 e1 e2 x0 x1
      subst e1 e2
      obtain ⟨bx, ox, rfl, hcx⟩ := HAX.out (by omega)
      have d0 := cell_later Bl (hcx f _ (List.getElem?_eq_getElem hf))
      have d1 := cell_later Bl (hcx t _ (List.getElem?_eq_getElem ht))
      obtain ⟨v0, v1⟩ := HB.out xs[f] (List.getElem_mem hf)
      obtain ⟨v2, v3⟩ := HB.out xs[t] (List.getElem_mem ht)
      have c0 := cell_later Bl c0
      have c1 := cell_later Bl c1
      have c2 := cell_later Bl c2
      have hfx : at_ xs (f : Nat) = xs[f] := by unfold at_; simp [hf]
      have htx : at_ xs (t : Nat) = xs[t] := by unfold at_; simp [ht]
      have HS : Hid (costL xs (L.take (k + 1)) = costL xs (L.take k) + x * (xs[t] - xs[f])) := Lib.hid (by
        obtain ⟨h1, h2⟩ := List.getElem?_eq_some_iff.1 ha
        rw [List.take_succ_eq_append_getElem h1, h2, costL_snoc]; simp only; rw [hfx, htx])
      generalize xs[f] = xf at *
      generalize xs[t] = xt at *
      obtain ⟨p0, p1⟩ := mul_bound4 (x := x) (d := xt - xf) x0 x1 (by omega) (by omega)
      have i1 : (0 : Int) ≤ (f : Int) := by omega
      have i2 : (0 : Int) ≤ (t : Int) := by omega
      have i3 : (f : Int) < (xs.length : Int) := by omega
      have i4 : (t : Int) < (xs.length : Int) := by omega
      have i5 : (0 : Int) ≤ (k : Int) := by omega
      have i6 : (k : Int) < (L.length : Int) := by omega
      have i7 : (k : Int) ≤ 1000000 := by omega
      have HBl := Lib.hid Bl
      generalize hcg : costL xs (L.take k) = cs at *
      have HCG := Lib.hid hcg
      have w1 : IntKind.i64.wrap (xt - xf) = xt - xf := IntWalk.i64_in _ (by omega)
      have w2 : IntKind.i64.wrap (x * (xt - xf)) = x * (xt - xf) := IntWalk.i64_in _ (by omega)
      have w3 : IntKind.i64.wrap (cs + x * (xt - xf)) = cs + x * (xt - xf) := IntWalk.i64_in _ (by omega)
      clear hc hcx ha hfx htx Bl hcg
      go_wp2_with fail
      go_quiet (fail)
      clear w1 w2 w3
      go_wp2_with fail
      exact ⟨⟨k + 1, by omega, by go_num, by rw [HS.out], by rw [HS.out]; omega, by rw [HS.out]; omega, below_drewN HBl.out _⟩, by simp [intOf]; omega⟩
    · obtain rfl : k = L.length := by omega
      have hT : L.take L.length = L := List.take_of_length_le (Nat.le_refl _)
      have HT := Lib.hid hT
      clear hT
      go_wp2_with fail
      go_ret
      exact ⟨ret_int (by rw [HT.out]), Bl⟩
theorem refCost_any {w : World} {V Vx : Value} {L : List Arc} {xs : List Int} (h : Arcs w V L) (hx : Ints w Vx xs) (hin : InX L xs.length) (hl : L.length ≤ 1000000) (hxl : xs.length ≤ 1000000)
    (hw : ∀ a ∈ L, 0 ≤ a.2.2 ∧ a.2.2 ≤ 1000000) (hb : ∀ v ∈ xs, -1000000 ≤ v ∧ v ≤ 1000000) :
    Calls Tryz.prog 16 #[V, Vx] w fun e w' => e = .returned (.int .i64 (costL xs L)) ∧ Below w.heap.size w w' :=
  refCost_wide h hx hin hl hxl hw (fun v hv => by have := hb v hv; omega)
set_option maxRecDepth 100000 in
set_option maxHeartbeats 1000000 in
theorem equalI_any {w : World} {V U : Value} {xs ys : List Int} (h : Ints w V xs) (k : Ints w U ys) (hl : xs.length ≤ 1000000000000000) :
    Calls Tryz.prog 25 #[V, U] w fun e w' => e = .returned (.bool (decide (xs = ys))) ∧ Below w.heap.size w w' := by
  obtain ⟨A, cap, rfl, -, -, hA⟩ := h.at_
  obtain ⟨AX, capX, rfl, -, -, hAX⟩ := k.at_
  have HA := Lib.hid hA
  have HAX := Lib.hid hAX
  clear h k hA hAX
  by_cases he : xs.length = ys.length
  · have hne : ((xs.length : Int) != (ys.length : Int)) = false := by simp [he]
    have HE := Lib.hid he
    have hyl : ys.length ≤ 1000000000000000 := by omega
    clear he
    go_enter Tryz.func25, Tryz.ntmps25
    go_wp2_with fail
    go_loopw [13] (fun s wr => ∃ k : Nat, k ≤ xs.length ∧ s = .int .i64 k ∧ Hid (xs.take k = ys.take k) ∧ Below w.heap.size w wr) (fun s _ => xs.length - (intOf s).toNat)
    case atStart => exact ⟨0, by omega, rfl, Lib.hid rfl, Below.refl _ _⟩
    case round => as_aux_lemma =>
      obtain ⟨k, hk, rfl, hn, Bl⟩ := hrel
      by_cases hkn : k < xs.length
      · obtain ⟨b, off, rfl, hc⟩ := HA.out (by omega)
        have hky : k < ys.length := by have := HE.out; omega
        obtain ⟨b', off', rfl, hc'⟩ := HAX.out (by omega)
        have c0 := cell_later Bl (hc k _ (List.getElem?_eq_getElem hkn))
        have c1 := cell_later Bl (hc' k _ (List.getElem?_eq_getElem hky))
        have hx : xs.take (k + 1) = xs.take k ++ [xs[k]] := List.take_succ_eq_append_getElem hkn
        have hy : ys.take (k + 1) = ys.take k ++ [ys[k]] := List.take_succ_eq_append_getElem hky
        have HX : Hid (xs[k] = xs[k]?.getD 0) := Lib.hid (by simp [hkn])
        have HY : Hid (ys[k] = ys[k]?.getD 0) := Lib.hid (by simp [hky])
        generalize xs[k] = x at *
        generalize ys[k] = y at *
        have H1 := Lib.hid hx
        have H2 := Lib.hid hy
        have HBl := Lib.hid Bl
        have hkd : decide ((k : Int) < xs.length) = true := by simp; omega
        have i1 : (k : Int) < (ys.length : Int) := by omega
        clear hx hy hc hc' Bl
        by_cases hxy : x = y
        · have hd : (x != y) = false := by simp [hxy]
          have HXY := Lib.hid hxy
          clear hxy
          go_wp2_with fail
          (try go_quiet (fail))
          (try go_wp2_with fail)
          first
            | exact ⟨⟨k + 1, by omega, by go_num, Lib.hid (by rw [H1.out, H2.out, hn.out, HXY.out]), HBl.out⟩, by simp [intOf]; omega⟩
            | exact ⟨⟨k + 1, by omega, by go_num, Lib.hid (by rw [H1.out, H2.out, hn.out, HXY.out]), below_drewN HBl.out _⟩, by simp [intOf]; omega⟩
        · have hd : (x != y) = true := by simp [hxy]
          go_wp2_with fail
          (try go_quiet (fail))
          (try go_wp2_with fail)
          go_ret
          have hres : decide (xs = ys) = false := by
            rw [decide_eq_false_iff_not]
            intro e
            apply hxy
            rw [HX.out, HY.out, e]
          first
            | exact ⟨ret_bool hres.symm, HBl.out⟩
            | exact ⟨ret_bool hres.symm, below_drewN HBl.out _⟩
      · obtain rfl : k = xs.length := by omega
        have hres : Hid (decide (xs = ys) = true) := Lib.hid (by
          rw [decide_eq_true_eq]
          have h1 := hn.out
          rw [List.take_of_length_le (Nat.le_refl _), List.take_of_length_le (by rw [HE.out]; omega)] at h1
          exact h1)
        go_wp2_with fail
        go_ret
        exact ⟨ret_bool hres.out.symm, Bl⟩
  · have hne : ((xs.length : Int) != (ys.length : Int)) = true := by simp; omega
    have hres : Hid (decide (xs = ys) = false) := Lib.hid (by
      rw [decide_eq_false_iff_not]
      intro e
      exact he (by rw [e]))
    clear he
    go_enter Tryz.func25, Tryz.ntmps25
    go_wp2_with fail
    go_ret
    exact ⟨ret_bool hres.out.symm, Below.refl _ _⟩
end Go.Proofs.YtjgloineooadoaaGreatDoor
/- The document's own order of a graph's nodes. -/
namespace Go.Proofs.YtjgloineooadoaaGreatDoor
open Go.RowKit
def frB (G : Gr) (l : List Nat) (v i : Nat) : Bool := !l.contains v && (G.take i).all (fun a => a.2 != v || l.contains a.1)
theorem frB_rdy (G : Gr) (l : List Nat) (v : Nat) : frB G l v G.length = rdy G l v := by
  unfold frB rdy cnt
  rw [List.take_of_length_le (Nat.le_refl _), Bool.eq_iff_iff]
  simp only [Bool.and_eq_true, beq_iff_eq]
  constructor
  · rintro ⟨h1, h2⟩
    refine ⟨h1, List.countP_eq_zero.2 (fun a ha => ?_)⟩
    have := List.all_eq_true.1 h2 a ha
    simp at this ⊢
    intro e
    rcases this with h | h
    · exact absurd e h
    · exact h
  · rintro ⟨h1, h2⟩
    refine ⟨h1, List.all_eq_true.2 (fun a ha => ?_)⟩
    have := List.countP_eq_zero.1 h2 a ha
    simp at this ⊢
    by_cases e : a.2 = v
    · exact .inr (this e)
    · exact .inl e
theorem frB_zero (G : Gr) (l : List Nat) (v : Nat) : frB G l v 0 = !l.contains v := by simp [frB]
theorem frB_step {G : Gr} {l : List Nat} {v i : Nat} {a : Nat × Nat} (h : G[i]? = some a) : frB G l v (i + 1) = (frB G l v i && (a.2 != v || l.contains a.1)) := by
  unfold frB
  obtain ⟨h1, h2⟩ := List.getElem?_eq_some_iff.1 h
  rw [List.take_succ_eq_append_getElem h1, List.all_append, h2, Bool.and_assoc]
  simp
theorem frB_down {G : Gr} {l : List Nat} {v i : Nat} (h : frB G l v i = false) : rdy G l v = false := by
  rw [← frB_rdy]
  cases e : frB G l v G.length with
  | false => rfl
  | true =>
    have : frB G l v i = true := by
      unfold frB at *
      simp only [Bool.and_eq_true, List.all_eq_true] at *
      refine ⟨e.1, fun a ha => e.2 a ?_⟩
      rw [List.take_of_length_le (Nat.le_refl _)]
      exact List.mem_of_mem_take ha
    rw [h] at this; cases this
/-- The least that is free behind c. -/
def NextS (G : Gr) (m : Nat) (l : List Nat) (nx c : Int) : Prop :=
  (nx = -1 ∧ ∀ u : Nat, c < u → u < m → rdy G l u = false) ∨ (∃ p : Nat, nx = p ∧ c < p ∧ p < m ∧ rdy G l p = true ∧ ∀ u : Nat, c < u → u < p → rdy G l u = false)
theorem info_bool : (Tryz.prog.info? 4).map (fun i => (i.zero, i.size, i.bytes)) = some (some (.bool false), 1, 1) := by kernel_rfl
set_option maxRecDepth 100000 in
set_option maxHeartbeats 4000000 in
theorem refOrder_right {w : World} {V : Value} {L : List Arc} (n : Int) (h : Arcs w V L) (hr : rightB n L = true) :
    Calls Tryz.prog 31 #[.int .i64 n, V] w fun e w' => OrdT w n.toNat (gOf L) e w' := by
  obtain ⟨m, rfl, hm, hL, hG⟩ := right_gr hr
  have HR := Lib.hid hr
  have HG := Lib.hid hG
  have HGL : Hid ((gOf L).length = L.length) := Lib.hid (by simp [gOf])
  have HH := Lib.hid h
  clear hr hG
  obtain ⟨A, cap, rfl, -, hN, hA⟩ := h.at_
  have HA := Lib.hid hA
  clear h hA hN
  have hmk1 := run_make_row' (P := Tryz.prog) 63 4 (.bool false) 1 Tryz.underlying63 info_bool rfl .i64 .i64 m (by omega) (by omega)
  go_enter Tryz.func31, Tryz.ntmps31
  go_wp2_with fail
  refine (refRight_any _ HH.out).mono ?_
  rw [HR.out]
  rintro e w0 ⟨rfl, B0⟩
  have HB0 := Lib.hid B0
  clear B0
  go_wp2_with fail
  clear hmk1
  have HG0 : Hid (∀ i a, L[i]? = some a → ∃ f t x : Nat, a = ((f : Int), (t : Int), (x : Int)) ∧ f < m ∧ t < m ∧ (gOf L)[i]? = some (f, t)) := Lib.hid (fun i a ha => by
    obtain ⟨f, t, x, h1, h2, h3, _, h5⟩ := HG.out i a ha
    exact ⟨f, t, x, h1, h2, h3, h5⟩)
  generalize hGe : gOf L = G at *
  have HGe := Lib.hid hGe
  clear hGe HG
  go_loopw [8] (fun Vl wr => ∃ l : List Nat, wr.ownsRow (w0.heap.size + 1) 3 1 Vl l.length (flat encN l) ∧ Tk G m l ∧ ordL G m = gr G m (m - l.length) l ∧ wr.rowIs w0.heap.size 4 m (fun v => .bool (l.contains v)) ∧ Below w0.heap.size w0 wr ∧ w0.heap.size + 1 ≤ wr.heap.size) (fun Vl _ => m - (match Vl with | .slice _ k _ => k | _ => 0))
  case atStart => exact ⟨[], World.ownsRow_nil _ _ _ _, Tk.nil _ _, rfl, (World.rowIs_made w0 (.bool false) m 4).congr (fun v _ => by simp), (Below.refl _ _).alloc (Nat.le_refl _) _, by simp⟩
  case round => as_aux_lemma =>
    obtain ⟨l, OL, TK, hord, RB, Bl, hsz⟩ := hrel
    obtain ⟨Vl, rfl⟩ : ∃ x : Value, x = u8 := ⟨_, rfl⟩
    obtain ⟨AV, cV, rfl, -⟩ := own_shape OL
    have HOL := Lib.hid OL
    have HTK := Lib.hid TK
    have HORD := Lib.hid hord
    have HRB := Lib.hid RB
    have HBl := Lib.hid Bl
    have hlm := TK.len
    clear OL TK hord RB Bl
    obtain ⟨wo, rfl⟩ : ∃ x : World, x = wr := ⟨_, rfl⟩
    by_cases hll : l.length < m
    · have hld : decide ((l.length : Int) < m) = true := by simp; omega
      go_wp2_with fail
      go_loopw [9, 10] (fun nx c wx => ∃ (p q : Int), nx = .int .i64 p ∧ c = .int .i64 q ∧ -1 ≤ q ∧ q < m ∧ NextS G m l p q ∧ wx = wo) (fun _ c _ => (intOf c + 1).toNat)
      case atStart => exact ⟨-1, (m : Int) - 1, rfl, rfl, by omega, by omega, .inl ⟨rfl, fun u h1 h2 => by omega⟩, rfl⟩
      case round => as_aux_lemma =>
        obtain ⟨p, q, rfl, rfl, hq0, hq1, hnx, hwx⟩ := hrel
        replace hwx := hwx.symm
        subst hwx
        have HNX := Lib.hid hnx
        clear hnx
        by_cases hq : 0 ≤ q
        · obtain ⟨v, rfl⟩ := Int.eq_ofNat_of_zero_le hq
          have hvm : v < m := by omega
          have hqd : decide ((0 : Int) ≤ (v : Int)) = true := by simp
          have k0 := HRB.out.cell hvm
          go_wp2_with fail
          go_loopw [11, 12] (fun fv c wx => ∃ i : Nat, i ≤ L.length ∧ c = .int .i64 i ∧ fv = .bool (frB G l v i) ∧ wx = wo) (fun _ c _ => L.length - (intOf c).toNat)
          case atStart => exact ⟨0, by omega, rfl, by rw [frB_zero]; simp, rfl⟩
          case round => as_aux_lemma =>
            obtain ⟨i, hi, rfl, rfl, hwx⟩ := hrel
            replace hwx := hwx.symm
            subst hwx
            by_cases hil : i < L.length
            · have hid : decide ((i : Int) < L.length) = true := by simp; omega
              obtain ⟨fb, hfb⟩ : ∃ fb, frB G l v i = fb := ⟨_, rfl⟩
              have HFB := Lib.hid hfb
              rw [hfb]
              clear hfb
              cases fb
              · have hrd : Hid (rdy G l v = false) := Lib.hid (frB_down HFB.out)
                go_wp2_with fail
                refine ⟨⟨p, (v : Int) - 1, rfl, rfl, by omega, by omega, ?_, trivial⟩, by simp [intOf]⟩
                rcases HNX.out with ⟨h1, h2⟩ | ⟨pp, h1, h2, h3, h4, h5⟩
                · refine .inl ⟨h1, fun u hu1 hu2 => ?_⟩
                  by_cases e : u = v
                  · subst e; exact hrd.out
                  · exact h2 u (by omega) hu2
                · refine .inr ⟨pp, h1, by omega, h3, h4, fun u hu1 hu2 => ?_⟩
                  by_cases e : u = v
                  · subst e; exact hrd.out
                  · exact h5 u (by omega) hu2
              · obtain ⟨b, off, rfl, hc⟩ := HA.out (by omega)
                obtain ⟨a, ha⟩ : ∃ a, L[i]? = some a := ⟨_, List.getElem?_eq_getElem hil⟩
                obtain ⟨c0, c1, c2⟩ := hc i a ha
                obtain ⟨f, t, x, rfl, hf, ht, hg⟩ := HG0.out i a ha
                have bch : Below w.heap.size w wo := below_then HB0.out HB0.out.size HBl.out
                have c0 := cell_later bch c0
                have c1 := cell_later bch c1
                simp only at c0 c1
                have k1 := HRB.out.cell hf
                have HST := Lib.hid (frB_step (l := l) (v := v) hg)
                have i1 : (0 : Int) ≤ (f : Int) := by omega
                have i2 : (f : Int) < (m : Int) := by omega
                obtain ⟨cb, hcb⟩ : ∃ cb, l.contains f = cb := ⟨_, rfl⟩
                rw [hcb] at k1
                have HCB := Lib.hid hcb
                clear hc ha hg bch hcb k0
                by_cases htv : t = v
                · have htd : ((t : Int) != (v : Int)) = false := by simp [htv]
                  have HTV := Lib.hid htv
                  clear htv
                  go_wp2_with fail
                  (try go_quiet (fail))
                  (try go_wp2_with fail)
                  exact ⟨⟨i + 1, by omega, by go_num, by rw [HST.out, HFB.out, HCB.out]; simp [HTV.out], trivial⟩, by simp [intOf]; omega⟩
                · have htd : ((t : Int) != (v : Int)) = true := by simp; omega
                  have HTV : Hid ((t != v) = true) := Lib.hid (by simp [htv])
                  clear htv
                  go_wp2_with fail
                  (try go_quiet (fail))
                  (try go_wp2_with fail)
                  exact ⟨⟨i + 1, by omega, by go_num, by rw [HST.out, HFB.out]; simp only [HTV.out]; simp, trivial⟩, by simp [intOf]; omega⟩
            · obtain rfl : i = L.length := by omega
              have hfr : frB G l v L.length = rdy G l v := by rw [← frB_rdy, HGL.out]
              rw [hfr]
              obtain ⟨fb, hfb⟩ : ∃ fb, rdy G l v = fb := ⟨_, rfl⟩
              have HFB := Lib.hid hfb
              rw [hfb]
              clear hfb hfr
              cases fb
              · go_wp2_with fail
                refine ⟨⟨p, (v : Int) - 1, rfl, rfl, by omega, by omega, ?_, trivial⟩, by simp [intOf]⟩
                rcases HNX.out with ⟨h1, h2⟩ | ⟨pp, h1, h2, h3, h4, h5⟩
                · refine .inl ⟨h1, fun u hu1 hu2 => ?_⟩
                  by_cases e : u = v
                  · subst e; exact HFB.out
                  · exact h2 u (by omega) hu2
                · refine .inr ⟨pp, h1, by omega, h3, h4, fun u hu1 hu2 => ?_⟩
                  by_cases e : u = v
                  · subst e; exact HFB.out
                  · exact h5 u (by omega) hu2
              · go_wp2_with fail
                exact ⟨⟨(v : Int), (v : Int) - 1, rfl, rfl, by omega, by omega, .inr ⟨v, rfl, by omega, hvm, HFB.out, fun u h1 h2 => by omega⟩, trivial⟩, by simp [intOf]⟩
        · obtain rfl : q = -1 := by omega
          rcases HNX.out with ⟨rfl, hno⟩ | ⟨pp, rfl, h2, h3, h4, h5⟩
          · have hstop : Hid (ordL G m = l) := Lib.hid (by rw [HORD.out, gr_stop (fun u hu => hno u (by omega) hu)])
            clear hno
            go_wp2_with fail
            refine bodyPost_ret (v := .tuple #[.slice none 0 0, .int .i64 11]) (by simp [results, Tryz.results31, go_sem]) rfl ?_
            refine ⟨_, _, rfl, below_then HB0.out HB0.out.size HBl.out, .inl ⟨?_, rfl, rfl⟩⟩
            first | rw [Int.toNat_natCast, HGe.out, hstop.out] | rw [HGe.out, hstop.out]
            exact hll
          · have HTK2 := Lib.hid (HTK.out.add h3 h4)
            have HORD2 : Hid (ordL G m = gr G m (m - (l ++ [pp]).length) (l ++ [pp])) := Lib.hid (by
              rw [HORD.out, gr_step (by omega) h3 h4 (fun u hu => h5 u (by omega) hu), List.length_append]
              rfl)
            have k1 := HRB.out.cell h3
            have k2 := HRB.out.frozen pp
            have i1 : (0 : Int) ≤ (pp : Int) := by omega
            have i2 : (pp : Int) < (m : Int) := by omega
            clear h4 h5
            obtain ⟨i0, hi0, hz0, hz1, hz2⟩ := info_parts info_int
            have RB2 := (HRB.out.set pp (.bool true)).congr (g := fun v => .bool ((l ++ [pp]).contains v)) (fun v _ => by
              by_cases e : v = pp
              · subst e; simp
              · simp [e])
            have OL2 := own_chg HOL.out ((Chg.refl (fun b => b = w0.heap.size) wo).setCell (p := ⟨w0.heap.size, pp, none⟩) (fun _ => rfl) (.bool true)) (fun g hg h => by have := own_ge HOL.out hg; omega)
            have B2 := HBl.out.setCell (p := ⟨w0.heap.size, pp, none⟩) (Nat.le_refl _) (.bool true)
            have hs2 : w0.heap.size + 1 ≤ (wo.setCell ⟨w0.heap.size, pp, none⟩ (.bool true)).heap.size := by simp [World.setCell]; omega
            have hs3 := B2.size
            have BA : Below (wo.setCell ⟨w0.heap.size, pp, none⟩ (.bool true)).heap.size (wo.setCell ⟨w0.heap.size, pp, none⟩ (.bool true)) ((wo.setCell ⟨w0.heap.size, pp, none⟩ (.bool true)).alloc (.cells #[.int .i64 (pp : Nat)] 3)) := (Below.refl _ _).alloc (Nat.le_refl _) _
            have HOL3 := Lib.hid (own_later OL2 BA)
            have HRB3 := Lib.hid (RB2.of_block (BA.block _ RB2.lt))
            have HB3 := Lib.hid (B2.trans (BA.mono hs3))
            have hs4 := BA.size
            clear RB2 OL2 B2 BA
            go_upto_region 21 with fail
            generalize wo.setCell ⟨w0.heap.size, pp, none⟩ (.bool true) = ws at *
            go_wp2_with (refine wpList_append_lies _ rfl (.tmp 68) (.tmp 70) 29 rfl (w0.heap.size + 1) 3 i0 (.int .i64 0) 1 8 Tryz.underlying29 hi0 hz0 hz1 hz2 rfl (by decide) (.slice AV l.length cV) l.length (flat encN l) rfl HOL3.out ⟨ws.heap.size, 0, none⟩ 1 1 (encN pp) rfl rfl (World.news_of_block (heap_at rfl)) (by intro u hu; simp [encN] at hu; subst hu; rfl) (by omega) (by simp only [maxLen]; omega) (by omega) (by simp; omega) _ rfl ?_; intro g cq w3 hown hgrow hat hlt)
            have R4 := HRB3.out.of_block (hgrow.block _ HRB3.out.lt (fun e => by have := own_ge HOL3.out e.symm; omega))
            have B4 := HB3.out.grown hgrow (by simp; omega) (fun q hq => by have := own_ge HOL3.out hq; omega)
            have hs5 := hgrow.size
            refine ⟨⟨l ++ [pp], ?_, HTK2.out, HORD2.out, R4, B4, by omega⟩, ?_⟩
            · rw [flat_append, List.length_append]
              simpa [flat] using hown
            · show m - (l.length + 1) < m - l.length
              omega
    · have hld : decide ((l.length : Int) < m) = false := by simp; omega
      have hstop : Hid (ordL G m = l) := Lib.hid (by
        rw [HORD.out, show m - l.length = 0 by omega]
        rfl)
      go_wp2_with fail
      refine bodyPost_ret (v := .tuple #[.slice AV l.length cV, .int .i64 0]) (by simp [results, Tryz.results31, go_sem]) rfl ?_
      have hz0 := HB0.out.size
      refine ⟨_, _, rfl, below_then HB0.out HB0.out.size HBl.out, .inr ?_⟩
      first | rw [Int.toNat_natCast, HGe.out, hstop.out] | rw [HGe.out, hstop.out]
      exact ⟨by omega, row_rebase HOL.out (by omega), rfl⟩
end Go.Proofs.YtjgloineooadoaaGreatDoor
/- slices.Sorted(slices.Values(x)): the numbers of x, sorted. -/
namespace Go.Proofs.YtjgloineooadoaaGreatDoor
open Go.RowKit Go.Shelf Go.Sort
attribute [local go_sem] Oper.semAt_some
def upto {α : Type} (f : Nat → α) (k : Nat) : List α := (List.range k).map f
theorem upto_succ {α : Type} (f : Nat → α) (k : Nat) : upto f (k + 1) = upto f k ++ [f k] := by simp [upto, List.range_succ]
theorem upto_length {α : Type} (f : Nat → α) (k : Nat) : (upto f k).length = k := by simp [upto]
theorem upto_all (zs : List Int) : upto (fun j => zs[j]?.getD 0) zs.length = zs := by
  apply List.ext_getElem
  · simp [upto]
  · intro i h1 h2
    simp [upto, h2]
theorem upto_take (zs : List Int) {k : Nat} (hk : k ≤ zs.length) : upto (fun j => zs[j]?.getD 0) k = zs.take k := by
  apply List.ext_getElem
  · simp [upto, hk]
  · intro i h1 h2
    have : i < zs.length := by simp [upto] at h1; omega
    simp [upto, this]
set_option maxRecDepth 100000 in
set_option maxHeartbeats 2000000 in
/-- The closure of slices.Values, for every loop body that keeps what lay below n₀. -/
theorem values1_in (F : Fence) (n : Nat) (h7 : F.fn 85) (hro : F.round = none) (hn : 1 ≤ n) (l Bs n₀ b off len cap : Nat) (zs : List Int) (hreach : len * 8 ≤ 140737488351232) (hb : b < n₀) (J Jx : List Int → World → Prop)
    (hY : ∀ pre x W, J pre W → pre.length < len → YieldAt F (n - 1) Tryz.prog l #[.int .i64 x] W fun e W' =>
      (e = .returned (.bool true) ∧ J (pre ++ [x]) W' ∧ Below n₀ W W') ∨ (e = .returned (.bool false) ∧ Jx (pre ++ [x]) W'))
    (W : World) (hBs : W.cell? ⟨Bs, 0, none⟩ = some (.slice (some ⟨b, off, none⟩) len cap)) (hc : ∀ j, j < len → W.cell? ⟨b, off + j, none⟩ = some (.int .i64 (zs[j]?.getD 0))) (h0 : J [] W) :
    CallsIn F n Tryz.prog 85 #[.func (.yield l) #[] #[], .pointer (some ⟨Bs, 0, none⟩)] W fun e W' => (∃ v, e = .returned v) ∧
      ((∃ ys, ys = upto (fun j => zs[j]?.getD 0) len ∧ J ys W') ∨ (∃ pre, (∃ k, k ≤ len ∧ pre = upto (fun j => zs[j]?.getD 0) k) ∧ Jx pre W')) := by
  refine callsIn_of_wp Tryz.func85 rfl h7 ?_ hro
  simp only [Tryz.ntmps85, List.size_toArray, List.length_cons, List.length_nil, Nat.reduceAdd, Nat.reduceSub, Array.replicate_succ, Array.replicate_zero, List.push_toArray, List.append_toArray, List.nil_append, List.cons_append]
  gi_wp2
  gi_loopw [7] (fun i wr => ∃ k : Nat, k ≤ len ∧ i = .int .i64 k ∧ J (upto (fun j => zs[j]?.getD 0) k) wr ∧ Below n₀ W wr)
    (fun i _ => len - (intOf i).toNat)
  case atStart => exact ⟨0, Nat.zero_le _, rfl, h0, Below.refl _ _⟩
  case round =>
    obtain ⟨k, hk, rfl, hJs, hnx⟩ := hrel
    have hcx : k < len → wr.cell? ⟨b, off + k, none⟩ = some (.int .i64 (zs[k]?.getD 0)) := fun h => (hnx.cell (p := ⟨b, off + k, none⟩) hb).trans (hc k h)
    by_cases hlt : k < len
    · obtain ⟨fn, tmps, assign, body, hy, hR⟩ := hY _ (zs[k]?.getD 0) wr hJs (by rw [upto_length]; exact hlt)
      have hcx' := hcx hlt
      gi_wp2
      refine hR.mono ?_
      rintro e W3 (⟨rfl, hJ3, hk3⟩ | ⟨rfl, hJx3⟩)
      · gi_wp2
        go_roundw
        case rel => exact ⟨k + 1, by omega, by simp, by rw [upto_succ]; exact hJ3, hnx.trans hk3⟩
        case measure => simp [intOf]; omega
      · gi_wp2
        refine bodyPost_ret (results_none rfl _ _ _) rfl ?_
        exact ⟨⟨_, rfl⟩, .inr ⟨_, ⟨k + 1, by omega, (upto_succ _ _).symm⟩, hJx3⟩⟩
    · obtain rfl : k = len := by omega
      gi_wp2
      go_end0
      exact ⟨⟨_, rfl⟩, .inl ⟨_, rfl, hJs⟩⟩
/-- The slice value sv holds zs in a block below n₀, or it is nil and there are none. -/
def VInts (n₀ : Nat) (W : World) (sv : Value) (zs : List Int) : Prop :=
  (∃ a cap, sv = .slice a 0 cap ∧ zs = []) ∨ ∃ b off cap, sv = .slice (some ⟨b, off, none⟩) zs.length cap ∧ b < n₀ ∧ ∀ j, j < zs.length → W.cell? ⟨b, off + j, none⟩ = some (.int .i64 (zs[j]?.getD 0))
theorem VInts.below {n₀ : Nat} {A B : World} (h : Below n₀ A B) {sv : Value} {zs : List Int} : VInts n₀ A sv zs → VInts n₀ B sv zs
  | .inl e => .inl e
  | .inr ⟨b, off, cap, e, hb, hc⟩ => .inr ⟨b, off, cap, e, hb, fun j hj => (h.cell (p := ⟨b, off + j, none⟩) hb).trans (hc j hj)⟩
set_option maxRecDepth 100000 in
set_option maxHeartbeats 1000000 in
theorem values1_nil_in (F : Fence) (n : Nat) (h7 : F.fn 85) (hro : F.round = none) (l Bs cap : Nat) (a : Option Addr) (J : List Int → World → Prop) (W : World) (hBs : W.cell? ⟨Bs, 0, none⟩ = some (.slice a 0 cap)) (h0 : J [] W) :
    CallsIn F n Tryz.prog 85 #[.func (.yield l) #[] #[], .pointer (some ⟨Bs, 0, none⟩)] W fun e W' => (∃ v, e = .returned v) ∧ J [] W' := by
  refine callsIn_of_wp Tryz.func85 rfl h7 ?_ hro
  simp only [Tryz.ntmps85, List.size_toArray, List.length_cons, List.length_nil, Nat.reduceAdd, Nat.reduceSub, Array.replicate_succ, Array.replicate_zero, List.push_toArray, List.append_toArray, List.nil_append, List.cons_append]
  gi_wp2
  gi_loopw [7] (fun i wr => i = .int .i64 0 ∧ J [] wr) (fun _ _ => 0)
  case atStart => exact ⟨rfl, h0⟩
  case round =>
    obtain ⟨rfl, hJs⟩ := hrel
    gi_wp2
    go_end0
    exact ⟨⟨_, rfl⟩, hJs⟩
set_option maxHeartbeats 1000000 in
theorem values_in (F : Fence) (n : Nat) (h5 : F.fn 66) (hro : F.round = none) (a : Option Addr) (len cap : Nat) (w : World) :
    CallsIn F n Tryz.prog 66 #[.slice a len cap] w fun e w' => e = .returned (.func (.func 85) #[] #[.pointer (some ⟨w.heap.size, 0, none⟩)]) ∧ w' = w.alloc (.cells #[.slice a len cap] 29) := by
  refine callsIn_of_wp Tryz.func66 rfl h5 ?_ hro
  simp only [Tryz.ntmps66, List.size_toArray, List.length_cons, List.length_nil, Nat.reduceAdd, Nat.reduceSub, Array.replicate_succ, Array.replicate_zero, List.push_toArray, List.append_toArray, List.nil_append, List.cons_append]
  gi_wp2
  go_ret
  exact ⟨rfl, rfl⟩
theorem values_stops (F : Fence) (n : Nat) (h7 : F.fn 85) (hro : F.round = none) (hn : 1 ≤ n) (Bs n₀ : Nat) (sv : Value) (zs : List Int) (hreach : zs.length * 8 ≤ 140737488351232) (w : World) (hBs : Bs < w.heap.size) (hn₀ : n₀ ≤ w.heap.size)
    (hc : w.cell? ⟨Bs, 0, none⟩ = some sv) (hI : VInts n₀ w sv zs) :
    SeqStopsK F n Tryz.prog 85 #[.pointer (some ⟨Bs, 0, none⟩)] (fun x : Int => #[Value.int .i64 x]) (Below n₀) (fun ys => ys = zs) (fun pre => pre <+: zs) zs.length w := fun l J Jx W hW _ _ hY h0 => by
  have hc' := (hW.cell (p := ⟨Bs, 0, none⟩) hBs).trans hc
  rcases hI.below (hW.mono hn₀) with ⟨a, cap, rfl, rfl⟩ | ⟨b, off, cap, rfl, hb, hcs⟩
  · exact (values1_nil_in F n h7 hro l Bs cap a J W hc' h0).mono fun e W' ⟨he, hj⟩ => ⟨he, .inl ⟨_, rfl, hj⟩⟩
  · refine (values1_in F n h7 hro hn l Bs n₀ b off zs.length cap zs hreach hb J Jx hY W hc' hcs h0).mono ?_
    rintro e W' ⟨he, ⟨ys, rfl, hj⟩ | ⟨pre, ⟨k, hk, rfl⟩, hj⟩⟩
    · exact ⟨he, .inl ⟨_, upto_all zs, hj⟩⟩
    · exact ⟨he, .inr ⟨_, by rw [upto_take zs hk]; exact List.take_prefix _ _, hj⟩⟩
theorem infoInt : (Tryz.prog.info? 3).map (fun i => (i.zero, i.size, i.bytes)) = some (some (.int .i64 0), 1, 8) := by kernel_rfl
set_option maxRecDepth 100000 in
set_option maxHeartbeats 2000000 in
/-- slices.AppendSeq(nil, slices.Values(x)): a slice of the call's own that holds what x holds. -/
theorem appendSeq_in (F : Fence) (n : Nat) (h3 : F.fn 98) (h5 : F.fn 85) (hro : F.round = none) (hn : 3 ≤ n) (Bs n₀ : Nat) (sv : Value) (zs : List Int) (hlen : zs.length ≤ maxLen) (hbytes : zs.length * 8 ≤ 140737488351232) (w : World) (hBs : Bs < w.heap.size) (hn₀ : n₀ ≤ w.heap.size) (hc0 : w.cell? ⟨Bs, 0, none⟩ = some sv) (hI : VInts n₀ w sv zs) :
    CallsIn F n Tryz.prog 98 #[.slice none 0 0, .func (.func 85) #[] #[.pointer (some ⟨Bs, 0, none⟩)]] w fun e W' => ∃ v, e = .returned v ∧ W'.ownsRow w.heap.size 3 1 v zs.length (zs.map (Value.int .i64)) ∧ (v = .slice none 0 0 ↔ zs = []) ∧ Below w.heap.size w W' := by
  have h1 : 1 ≤ n := by omega
  obtain ⟨i0, hi, hz0, hz1, hz2⟩ := info_parts infoInt
  refine callsIn_of_wp_marks Tryz.func98 rfl h3 ?_ hro
  simp only [Tryz.ntmps98, List.size_toArray, List.length_cons, List.length_nil, Nat.reduceAdd, Nat.reduceSub, Array.replicate_succ, Array.replicate_zero, List.push_toArray, List.append_toArray, List.nil_append, List.cons_append]
  gi_wp2
  have bO := Boxed.new w 29 (.slice none 0 0)
  have hB0 : Below w.heap.size w (w.alloc (.cells #[.slice none 0 0] 29)) := (Below.refl _ w).alloc (Nat.le_refl _) _
  refine wpIn_rangeFunc_ownG hro h1 (gf := 85) (lb := #[.pointer (some ⟨Bs, 0, none⟩)]) rfl h5 (enters_of Tryz.func85 (by kernel_rfl) rfl)
    (values_stops F (n - 1) h5 hro (by omega) Bs n₀ sv zs (by omega) _ (by simp; omega) (by simp <;> omega) ((hB0.cell (p := ⟨Bs, 0, none⟩) hBs).trans hc0) (hI.below (hB0.mono hn₀))) belowK_t (belowK_b (by simp; omega)) (Below.refl _ _) (fun _ => rfl)
    (fun pre W => (∃ v, Boxed W w.heap.size 29 v ∧ W.ownsRow w.heap.size 3 1 v pre.length (pre.map (Value.int .i64)) ∧ (v = .slice none 0 0 ↔ pre = [])) ∧ Below w.heap.size w W)
    (fun _ _ _ => False)
    (OwnFrom.and (Own.from (holdsRow_own w.heap.size w.heap.size 29 3 1 (fun pre => pre.length) (fun pre => pre.map (Value.int .i64)) (fun pre v => v = .slice none 0 0 ↔ pre = [])) _) (ownFrom_below (Nat.le_refl _) (by simp)))
    (fun _ _ _ _ _ hs _ _ => hs)
    ⟨⟨_, bO, World.ownsRow_nil _ _ _ _, by simp⟩, hB0⟩
    (fun x => { tmps := #[.slice none 0 0, .func (.func 85) #[] #[.pointer (some ⟨Bs, 0, none⟩)], .pointer (some ⟨w.heap.size, 0, none⟩), undef, .slice none 0 0, .int .i64 x, .func (.func 85) #[] #[.pointer (some ⟨Bs, 0, none⟩)], .int .i64 x, undef, undef, undef, undef, undef], defers := [] }) ?assign ?body ?done ?stop
  case assign =>
    intro l x W K hK
    gi_wp2
    exact hK
  case body =>
    rintro l pre x W ⟨⟨v, hv, hrow, hnil⟩, hB⟩ hlt
    have hc := hv.cell
    gi_wp2_with (gi_at_builtin; refine wpListIn_append_own _ rfl _ _ 29 rfl w.heap.size 3 i0 (.int .i64 0) 1 8 Tryz.underlying29 hi hz0 hz1 hz2 rfl (by decide) _ _ _ rfl (hrow.alloc _) ⟨W.heap.size, 0, none⟩ 1 1 [.int .i64 x] rfl rfl (cell_one_new _ _ _) (by simp [Value.oneCell']) (by omega) (by omega) (by have := hB.size; simp; omega) ?_; intro v' w1 hown' hgrow _; obtain ⟨g', cap', rfl⟩ := ownsRow_succ hown'; obtain ⟨hv1, hv2, hr2, hk2, hb2⟩ := hv.appended (by decide) hrow hB.size (Nat.le_refl _) hown' hgrow; have hc1 := hv1.cell; have hf1 := hv1.frozen)
    exact ⟨hk2.from _, (hb2.mono hn₀), ⟨_, hv2, by simpa using hr2, by simp⟩, hB.trans hb2⟩
  case done =>
    rintro D ys W hD rfl ⟨⟨v, hv, hrow, hnil⟩, hB⟩ hK
    have hc := hv.cell
    gi_wp2
    refine ⟨by simp, .inl ⟨_, _, rfl, run_takeDeferred hK, ?_⟩⟩
    exact ⟨_, results_tmp rfl _ _ _, v, rfl, ownsRow_putObj hrow _ hK rfl, hnil, hB.trans (belowK_b (w := w) (Nat.le_refl _) W D _ _ (by simp at hD; omega) hK rfl rfl)⟩
  case stop =>
    rintro D c pre W _ _ h _
    exact h.elim
set_option maxHeartbeats 1000000 in
theorem collect_in (F : Fence) (n : Nat) (h2 : F.fn 83) (h3 : F.fn 98) (h5 : F.fn 85) (hro : F.round = none) (hn : 4 ≤ n) (Bs n₀ : Nat) (sv : Value) (zs : List Int) (hlen : zs.length ≤ maxLen) (hbytes : zs.length * 8 ≤ 140737488351232) (w : World) (hBs : Bs < w.heap.size) (hn₀ : n₀ ≤ w.heap.size) (hc0 : w.cell? ⟨Bs, 0, none⟩ = some sv) (hI : VInts n₀ w sv zs) :
    CallsIn F n Tryz.prog 83 #[.func (.func 85) #[] #[.pointer (some ⟨Bs, 0, none⟩)]] w fun e W' => ∃ v, e = .returned v ∧ W'.ownsRow w.heap.size 3 1 v zs.length (zs.map (Value.int .i64)) ∧ (v = .slice none 0 0 ↔ zs = []) ∧ Below w.heap.size w W' := by
  have h1 : 1 ≤ n := by omega
  refine callsIn_of_wp Tryz.func83 rfl h2 ?_ hro
  simp only [Tryz.ntmps83, List.size_toArray, List.length_cons, List.length_nil, Nat.reduceAdd, Nat.reduceSub, Array.replicate_succ, Array.replicate_zero, List.push_toArray, List.append_toArray, List.nil_append, List.cons_append]
  gi_wp2_with (gi_at_call 98; refine (appendSeq_in F (n - 1) h3 h5 hro (by omega) Bs n₀ sv zs hlen hbytes _ hBs hn₀ hc0 hI).mono ?_; rintro e w' ⟨v, rfl, hrow, hnil, hb⟩)
  go_ret
  exact ⟨v, rfl, hrow, hnil, hb⟩
theorem VInts.of_ints {w : World} {V : Value} {zs : List Int} (h : Ints w V zs) : VInts w.heap.size w V zs := by
  obtain ⟨A, cap, rfl, h1, h2, h⟩ := h.at_
  by_cases h0 : 0 < zs.length
  · obtain ⟨b, off, rfl, hc⟩ := h h0
    have hz := hc 0 zs[0] (List.getElem?_eq_getElem h0)
    exact .inr ⟨b, off, cap, rfl, World.block_lt_of_cell? _ _ hz, fun j hj => by
      rw [List.getElem?_eq_getElem hj]
      exact hc j zs[j] (List.getElem?_eq_getElem hj)⟩
  · have hss : zs = [] := List.eq_nil_of_length_eq_zero (by omega)
    subst hss
    exact .inl ⟨A, cap, rfl, rfl⟩
end Go.Proofs.YtjgloineooadoaaGreatDoor
/- slices.Sorted, slices.Compact, slices.BinarySearch of numbers; the ranks of numbers. -/
namespace Go.Proofs.YtjgloineooadoaaGreatDoor
open Go.RowKit Go.Shelf Go.Sort
def srt (zs : List Int) : List Int := zs.mergeSort fun x y => decide (x ≤ y)
theorem srt_length (zs : List Int) : (srt zs).length = zs.length := by simp [srt]
set_option maxHeartbeats 1000000 in
theorem sorted_in (n : Nat) (hn : 5 ≤ n) (Bs n₀ : Nat) (sv : Value) (zs : List Int) (hlen : zs.length ≤ maxLen) (hbytes : zs.length * 8 ≤ 140737488351232) (w : World) (hBs : Bs < w.heap.size) (hn₀ : n₀ ≤ w.heap.size) (hc0 : w.cell? ⟨Bs, 0, none⟩ = some sv) (hI : VInts n₀ w sv zs) :
    CallsIn Fence.wide n Tryz.prog 65 #[.func (.func 85) #[] #[.pointer (some ⟨Bs, 0, none⟩)]] w fun e W' => ∃ v, e = .returned v ∧ W'.ownsRow w.heap.size 3 1 v zs.length ((srt zs).map (Value.int .i64)) ∧ (v = .slice none 0 0 ↔ zs = []) ∧ Below w.heap.size w W' := by
  have h1 : 1 ≤ n := by omega
  have f1 : Fence.wide.fn 83 := trivial
  have f2 : Fence.wide.fn 84 := trivial
  refine callsIn_of_wp Tryz.func65 rfl trivial ?_ rfl
  simp only [Tryz.ntmps65, List.size_toArray, List.length_cons, List.length_nil, Nat.reduceAdd, Nat.reduceSub, Array.replicate_succ, Array.replicate_zero, List.push_toArray, List.append_toArray, List.nil_append, List.cons_append]
  gi_wp2_with (gi_at_call 83; refine (collect_in Fence.wide (n - 1) trivial trivial trivial rfl (by omega) Bs n₀ sv zs hlen hbytes _ hBs hn₀ hc0 hI).mono ?_; rintro e W ⟨v, rfl, hrow, hnil, hb⟩)
  rcases hrow.2 with ⟨rfl, hz⟩ | ⟨gb, cap, cur, rfl, hbase, hgb, r1, r2, r3, r4⟩
  · have hss : zs = [] := List.eq_nil_of_length_eq_zero hz
    subst hss
    gi_wp2_with (gi_at_call 84; refine (callsIn_wide.2 (Tryz.slices_Sort_int_none none 0 W)).mono ?_; rintro e w' ⟨rfl, rfl⟩)
    go_ret
    exact ⟨.slice none 0 0, rfl, by simpa [srt] using hrow, by simp, hb⟩
  · have hH : Holds encZ W gb 0 zs.toArray := holds_of_block_i hgb (by simpa using r4)
    have hgl : gb < W.heap.size := (Array.getElem?_eq_some_iff.1 hgb).1
    have hsz : zs.length < 4611686018427387904 := by omega
    have cS := Tryz.slices_Sort_int gb 0 cap zs W hH hgl hsz
    gi_wp2_with (gi_at_call 84; refine (callsIn_wide.2 cS).mono ?_; rintro e w' ⟨rfl, nn, os, rfl⟩)
    go_ret
    exact ⟨_, rfl, ownsRow_sorted_i (by simp) hbase hgb r1 r2 r3, hnil, hb.grown (grownBy_sorted_i _) hb.size (fun j hj => by cases hj; exact hbase)⟩
theorem row_take {w : World} {base E sz : Nat} {g cap n : Nat} {xs : List Value} (h : w.ownsRow base E sz (.slice (some ⟨g, 0, none⟩) n cap) n xs) (k : Nat) (hk : k ≤ n) : w.ownsRow base E sz (.slice (some ⟨g, 0, none⟩) k cap) k (xs.take (k * sz)) := by
  have hm : k * sz ≤ n * sz := Nat.mul_le_mul_right _ hk
  refine ⟨by rw [List.length_take, h.1]; omega, ?_⟩
  rcases h.2 with ⟨h0, _⟩ | ⟨g', cap', cur, e, hg, hh, r1, r2, r3, r4⟩
  · cases h0
  · cases e
    refine .inr ⟨g, cap, cur, rfl, hg, hh, by omega, r2, r3, ?_⟩
    rw [← r4, List.take_take, Nat.min_eq_left hm]
set_option maxHeartbeats 1000000 in
theorem compact_own {w : World} {base : Nat} {v : Value} {zs : List Int} (h : w.ownsRow base 3 1 v zs.length (zs.map (Value.int .i64))) (hl : zs.length ≤ maxLen) :
    Calls Tryz.prog 64 #[v] w fun e w' => ∃ v', e = .returned v' ∧ w'.ownsRow base 3 1 v' (Lib.compact zs).length ((Lib.compact zs).map (Value.int .i64)) ∧ (base ≤ w.heap.size → Below base w w') := by
  rcases h.2 with ⟨rfl, hz⟩ | ⟨gb, cap, cur, rfl, hbase, hgb, r1, r2, r3, r4⟩
  · have hss : zs = [] := List.eq_nil_of_length_eq_zero hz
    subst hss
    refine (Tryz.slices_Compact_int_empty none 0 w).mono ?_
    rintro e w' ⟨rfl, rfl⟩
    have e0 : Lib.compact ([] : List Int) = [] := by decide
    rw [e0]
    exact ⟨_, rfl, by simpa using h, fun _ => Below.refl _ _⟩
  · have hH : Holds encZ w gb 0 zs.toArray := holds_of_block_i hgb (by simpa using r4)
    refine (Tryz.slices_Compact_int gb 0 cap zs w hH (by simp only [maxLen] at hl; omega) r1).mono ?_
    rintro e w' ⟨rfl, q, rfl⟩
    have hcl := Lib.compact_length_le zs
    have e1 : (Lib.compact zs ++ List.replicate (zs.length - (Lib.compact zs).length) (0 : Int)).length = zs.length := by simp; omega
    have h2 := ownsRow_sorted_i (n := q) (os := #[]) (base := base) e1 hbase hgb r1 r2 r3
    rw [grow_empty] at h2
    have h3 := row_take h2 (Lib.compact zs).length hcl
    rw [Nat.mul_one, List.map_append, List.take_append_of_le_length (by simp), List.take_of_length_le (by simp)] at h3
    refine ⟨_, rfl, h3, fun hs => ?_⟩
    have g := grownBy_sorted_i (w := w) (g := gb) (n := q) (os := #[]) (Lib.compact zs ++ List.replicate (zs.length - (Lib.compact zs).length) (0 : Int)).toArray
    rw [grow_empty] at g
    exact (Below.refl base w).grown g hs (fun j hj => by cases hj; exact hbase)
theorem search_own {w : World} {base : Nat} {v : Value} {zs : List Int} (x : Int) (h : w.ownsRow base 3 1 v zs.length (zs.map (Value.int .i64))) (hl : zs.length ≤ 1000000000000) (hs : zs.Pairwise (· ≤ ·)) :
    Calls Tryz.prog 67 #[v, .int .i64 x] w fun e w' => e = .returned (.tuple #[.int .i64 (zs.countP (· < x) : Nat), .bool (zs.contains x)]) ∧ ∃ q, w' = w.drewN q := by
  rcases h.2 with ⟨rfl, hz⟩ | ⟨gb, cap, cur, rfl, hbase, hgb, r1, r2, r3, r4⟩
  · have hss : zs = [] := List.eq_nil_of_length_eq_zero hz
    subst hss
    refine (Tryz.slices_BinarySearch_int_empty none 0 x w).mono ?_
    rintro e w' ⟨rfl, rfl⟩
    exact ⟨by simp, 0, rfl⟩
  · have c := Tryz.slices_BinarySearch_int gb 0 zs.length cap zs x w (Nat.le_refl _) (by omega) (fun j hj => by
      have e := h.cellAt j (by omega)
      rw [Nat.zero_add, e, List.getElem?_map, List.getElem?_eq_getElem hj]
      simp [hj]) (by rw [List.take_of_length_le (Nat.le_refl _)]; exact hs)
    rw [List.take_of_length_le (Nat.le_refl _)] at c
    exact c
end Go.Proofs.YtjgloineooadoaaGreatDoor
/- dag.Ranks: each number's rank among them all. -/
namespace Go.Proofs.YtjgloineooadoaaGreatDoor
open Go.RowKit Go.Shelf Go.Sort
theorem compact_sub (zs : List Int) : (Lib.compact zs).Sublist zs := by
  have e : (List.range zs.length).map (zs.toArray[·]!) = zs := by
    apply List.ext_getElem
    · simp
    · intro i h1 h2
      simp [h2]
  have h : (Lib.compact zs).Sublist ((List.range zs.length).map (zs.toArray[·]!)) := List.filter_sublist.map _
  rwa [e] at h
theorem srt_sorted (zs : List Int) : (srt zs).Pairwise (· ≤ ·) := by
  have := List.pairwise_mergeSort (le := fun (x y : Int) => decide (x ≤ y)) (fun a b c h1 h2 => by simp at *; omega) (fun a b => by simp; omega) zs
  exact this.imp (fun h => by simpa using h)
def rks (zs : List Int) : List Int := Lib.compact (srt zs)
theorem rks_sorted (zs : List Int) : (rks zs).Pairwise (· ≤ ·) := (srt_sorted zs).sublist (compact_sub _)
theorem rks_length (zs : List Int) : (rks zs).length ≤ zs.length := by
  have := (compact_sub (srt zs)).length_le
  rw [srt_length] at this
  exact this
def rkOf (zs : List Int) (x : Int) : Int := ((rks zs).countP (· < x) : Nat)
set_option maxRecDepth 100000 in
set_option maxHeartbeats 2000000 in
theorem ranksG_row {w : World} {V : Value} {zs : List Int} (h : Ints w V zs) (hl : zs.length ≤ 1000000) :
    Calls Tryz.prog 41 #[V] w fun e w' => ∃ b, e = .returned (.slice (some ⟨b, 0, none⟩) zs.length zs.length) ∧ w.heap.size ≤ b ∧ Ints w' (.slice (some ⟨b, 0, none⟩) zs.length zs.length) (zs.map (rkOf zs)) ∧ Below w.heap.size w w' := by
  have HV := Lib.hid (VInts.of_ints h)
  have HH := Lib.hid h
  obtain ⟨A, cap, rfl, -, -, hA⟩ := h.at_
  have HA := Lib.hid hA
  clear h hA
  have hmk1 := run_make_row' (P := Tryz.prog) 29 3 (.int .i64 0) 8 Tryz.underlying29 infoInt rfl .i64 .i64 zs.length (by omega) (by omega)
  go_enter Tryz.func41, Tryz.ntmps41
  go_wp2_with fail
  refine (callsIn_wide.1 (values_in Fence.wide 6 trivial rfl A zs.length cap _)).mono ?_
  rintro e w0 ⟨rfl, rfl⟩
  have B0 : Below w.heap.size w (w.alloc (.cells #[.slice A zs.length cap] 29)) := (Below.refl _ w).alloc (Nat.le_refl _) _
  go_wp2_with fail
  refine (callsIn_wide.1 (sorted_in 6 (by omega) w.heap.size w.heap.size (.slice A zs.length cap) zs (by simp only [maxLen]; omega) (by omega) _ (by simp) (by simp) (cell_one_new _ _ _ 0 _ rfl) (HV.out.below B0))).mono ?_
  rintro e w1 ⟨v1, rfl, R1, -, B1⟩
  go_wp2_with fail
  have R1' : w1.ownsRow (w.alloc (.cells #[.slice A zs.length cap] 29)).heap.size 3 1 v1 (srt zs).length ((srt zs).map (Value.int .i64)) := by rw [srt_length]; exact R1
  refine (compact_own R1' (by simp only [maxLen, srt_length]; omega)).mono ?_
  rintro e w2 ⟨v2, rfl, R2, B2⟩
  have B2 := B2 B1.size
  have B02 := B0.trans ((B1.trans B2).mono B0.size)
  have R2 := row_rebase R2 (base' := w.heap.size) (by simp)
  have HR2 := Lib.hid R2
  have HB02 := Lib.hid B02
  change Hid (w2.ownsRow w.heap.size 3 1 v2 (rks zs).length ((rks zs).map (Value.int .i64))) at HR2
  have hs2 := B02.size
  clear R2 B02 B0 B1 B2 R1 R1'
  have hmk2 := hmk1
  clear hmk1
  go_wp2_with fail
  clear hmk2
  go_loopw [16] (fun c wr => ∃ k : Nat, k ≤ zs.length ∧ c = .int .i64 k ∧ wr.rowIs w2.heap.size 3 zs.length (fun j => .int .i64 (if j < k then rkOf zs (zs[j]?.getD 0) else 0)) ∧ Below w2.heap.size w2 wr) (fun c _ => zs.length - (intOf c).toNat)
  case atStart => exact ⟨0, by omega, rfl, (World.rowIs_made w2 (.int .i64 0) zs.length 3).congr (fun v _ => by simp), (Below.refl _ _).alloc (Nat.le_refl _) _⟩
  case round => as_aux_lemma =>
    obtain ⟨k, hk, rfl, RW, Bl⟩ := hrel
    obtain ⟨wo, rfl⟩ : ∃ x : World, x = wr := ⟨_, rfl⟩
    have HRW := Lib.hid RW
    have HBl := Lib.hid Bl
    clear RW Bl
    by_cases hkl : k < zs.length
    · have hkd : decide ((k : Int) < zs.length) = true := by simp; omega
      obtain ⟨b, off, rfl, hc⟩ := HA.out (by omega)
      have hx : zs[k]? = some zs[k] := List.getElem?_eq_getElem hkl
      have c0 := cell_later (HB02.out.trans (HBl.out.mono hs2)) (hc k _ hx)
      have i1 : (0 : Int) ≤ (k : Int) := by omega
      have i2 : (k : Int) < (zs.length : Int) := by omega
      have hrl := rks_length zs
      have HR3 := Lib.hid (own_later HR2.out HBl.out)
      have HX := Lib.hid hx
      clear hc hx
      generalize zs[k] = x at *
      go_wp2_with fail
      refine (search_own x HR3.out (by omega) (rks_sorted zs)).mono ?_
      rintro e w4 ⟨rfl, q, rfl⟩
      have k1 := HRW.out.cell hkl
      have k2 := HRW.out.frozen k
      go_wp2_with fail
      have RW2 := (HRW.out.set k (.int .i64 (rkOf zs x))).congr (g := fun j => .int .i64 (if j < k + 1 then rkOf zs (zs[j]?.getD 0) else 0)) (fun v _ => by
        by_cases e : v = k
        · subst e; simp [HX.out]
        · have : (v < k + 1) = (v < k) := by apply propext; omega
          simp [e, this])
      have B2' := HBl.out.setCell (p := ⟨w2.heap.size, k, none⟩) (Nat.le_refl _) (.int .i64 (rkOf zs x))
      exact ⟨⟨k + 1, by omega, by go_num, RW2.of_block rfl, below_drewN B2' _⟩, by simp [intOf]; omega⟩
    · obtain rfl : k = zs.length := by omega
      have hkd : decide ((zs.length : Int) < zs.length) = false := by simp
      go_wp2_with fail
      refine bodyPost_ret (results_tmp rfl _ _ _) rfl ?_
      refine ⟨_, rfl, hs2, ?_, HB02.out.trans (HBl.out.mono hs2)⟩
      have I := Ints.of_row (Nat.le_refl _) (HRW.out.congr (g := fun j => .int .i64 (rkOf zs (zs[j]?.getD 0))) (fun v hv => by simp [hv]))
      have e : (List.range zs.length).map (fun j => rkOf zs (zs[j]?.getD 0)) = zs.map (rkOf zs) := by
        apply List.ext_getElem
        · simp
        · intro i h1 h2
          have h3 : i < zs.length := by simpa using h2
          simp [h3]
      rwa [e] at I
set_option maxRecDepth 100000 in
theorem ranks_row {w : World} {V : Value} {zs : List Int} (h : Ints w V zs) (hl : zs.length ≤ 1000000) :
    Calls Tryz.prog 22 #[V] w fun e w' => ∃ b, e = .returned (.slice (some ⟨b, 0, none⟩) zs.length zs.length) ∧ w.heap.size ≤ b ∧ Ints w' (.slice (some ⟨b, 0, none⟩) zs.length zs.length) (zs.map (rkOf zs)) ∧ Below w.heap.size w w' := by
  go_enter Tryz.func22, Tryz.ntmps22
  go_wp2_with fail
  refine (ranksG_row h hl).mono ?_
  rintro e w' ⟨b, rfl, hb, I, B⟩
  go_wp2_with fail
  go_ret
  exact ⟨b, rfl, hb, I, B⟩
theorem ranks_any {w : World} {V : Value} {zs : List Int} (h : Ints w V zs) (hl : zs.length ≤ 1000000) :
    Calls Tryz.prog 22 #[V] w fun e w' => ∃ V', e = .returned V' ∧ Ints w' V' (zs.map (rkOf zs)) ∧ Below w.heap.size w w' := by
  refine (ranks_row h hl).mono ?_
  rintro e w' ⟨b, rfl, hb, I, B⟩
  exact ⟨_, rfl, I, B⟩
end Go.Proofs.YtjgloineooadoaaGreatDoor
