/- The document's own answers on graphs: may it be, do coordinates fit, what they cost; two lists alike. -/
import Derived.Test.YtimffpnfhkobkaaDagK
namespace Go.Proofs.Ytimffpnfhkobkaa
open Go.RowKit
set_option maxRecDepth 100000 in
set_option maxHeartbeats 2000000 in
theorem refRight_any {w : World} {V : Value} {L : List Arc} (n : Int) (h : Arcs w V L) :
    Calls Try.prog 41 #[.int .i64 n, V] w fun e w' => e = .returned (.bool (rightB n L)) ∧ Below w.heap.size w w' := by
  obtain ⟨A, cap, rfl, -, -, hA⟩ := h.at_
  have HA := Lib.hid hA
  clear h hA
  by_cases n0 : n < 0
  · have hr : Hid (rightB n L = false) := by show _ = _; simp [rightB]; omega
    go_enter Try.func41, Try.ntmps41
    go_wp2_with fail
    go_ret
    exact ⟨ret_bool hr.out.symm, Below.refl _ _⟩
  by_cases n1 : 4096 < n
  · have hr : Hid (rightB n L = false) := by show _ = _; simp [rightB]; omega
    go_enter Try.func41, Try.ntmps41
    go_wp2_with fail
    go_ret
    exact ⟨ret_bool hr.out.symm, Below.refl _ _⟩
  by_cases n2 : 16384 < (L.length : Int)
  · have hr : Hid (rightB n L = false) := by show _ = _; simp [rightB]; omega
    go_enter Try.func41, Try.ntmps41
    go_wp2_with fail
    go_ret
    exact ⟨ret_bool hr.out.symm, Below.refl _ _⟩
  have hr : Hid (rightB n L = !L.any (badA n)) := by
    show _ = _
    have e1 : decide (0 ≤ n) = true := by simp; omega
    have e2 : decide (n ≤ 4096) = true := by simp; omega
    have e3 : decide (L.length ≤ 16384) = true := by simp; omega
    simp only [rightB, e1, e2, e3, Bool.true_and]
  go_enter Try.func41, Try.ntmps41
  go_wp2_with fail
  go_loopw [5] (fun s wr => ∃ k : Nat, k ≤ L.length ∧ s = .int .i64 k ∧ Hid (∀ a ∈ L.take k, badA n a = false) ∧ Below w.heap.size w wr) (fun s _ => L.length - (intOf s).toNat)
  case atStart => exact ⟨0, by omega, rfl, Lib.hid (by simp), Below.refl _ _⟩
  case round => as_aux_lemma =>
    obtain ⟨k, hk, rfl, hn, Bl⟩ := hrel
    by_cases hkn : k < L.length
    · obtain ⟨b, off, rfl, hc⟩ := HA.out (by omega)
      obtain ⟨a, ha⟩ : ∃ a, L[k]? = some a := ⟨_, List.getElem?_eq_getElem hkn⟩
      obtain ⟨c0, c1, c2⟩ := hc k a ha
      obtain ⟨f, t, x⟩ := a
      simp only at c0 c1 c2
      have c0 := cell_later Bl c0
      have c1 := cell_later Bl c1
      have c2 := cell_later Bl c2
      have BA : Below wr.heap.size wr (wr.alloc (.cells #[.int .i64 f, .int .i64 t, .int .i64 x] 52)) := (Below.refl _ _).alloc (Nat.le_refl _) _
      have g0 : (wr.alloc (.cells #[.int .i64 f, .int .i64 t, .int .i64 x] 52)).cell? ⟨wr.heap.size, 0, none⟩ = some (.int .i64 f) := (Cl.new rfl).cell
      have g1 : (wr.alloc (.cells #[.int .i64 f, .int .i64 t, .int .i64 x] 52)).cell? ⟨wr.heap.size, 1, none⟩ = some (.int .i64 t) := (Cl.new rfl).cell
      have g2 : (wr.alloc (.cells #[.int .i64 f, .int .i64 t, .int .i64 x] 52)).cell? ⟨wr.heap.size, 2, none⟩ = some (.int .i64 x) := (Cl.new rfl).cell
      have HB := Lib.hid (below_then Bl Bl.size BA)
      have HAA := Lib.hid ha
      have hT : Hid (L.take (k + 1) = L.take k ++ [(f, t, x)]) := Lib.hid (by
        obtain ⟨h1, h2⟩ := List.getElem?_eq_some_iff.1 ha
        rw [List.take_succ_eq_append_getElem h1, h2])
      clear hc ha Bl BA
      by_cases hb : badA n (f, t, x) = true
      · have hrr : Hid (rightB n L = false) := Lib.hid (by
          rw [hr.out]
          have : L.any (badA n) = true := List.any_eq_true.2 ⟨_, List.mem_of_getElem? HAA.out, hb⟩
          rw [this]; rfl)
        simp only [badA, Bool.or_eq_true, decide_eq_true_eq] at hb
        by_cases b0 : f < 0
        · clear hb
          go_wp2_with fail
          go_ret
          exact ⟨ret_bool hrr.out.symm, HB.out⟩
        by_cases b1 : n ≤ f
        · clear hb
          go_wp2_with fail
          go_ret
          exact ⟨ret_bool hrr.out.symm, HB.out⟩
        by_cases b2 : t < 0
        · clear hb
          go_wp2_with fail
          go_ret
          exact ⟨ret_bool hrr.out.symm, HB.out⟩
        by_cases b3 : n ≤ t
        · clear hb
          go_wp2_with fail
          go_ret
          exact ⟨ret_bool hrr.out.symm, HB.out⟩
        by_cases b4 : x < 0
        · clear hb
          go_wp2_with fail
          go_ret
          exact ⟨ret_bool hrr.out.symm, HB.out⟩
        have b5 : 1000000 < x := by omega
        clear hb
        go_wp2_with fail
        go_ret
        exact ⟨ret_bool hrr.out.symm, HB.out⟩
      · have hbf : Hid (badA n (f, t, x) = false) := Lib.hid (by simpa using hb)
        simp only [badA, Bool.or_eq_true, decide_eq_true_eq, not_or] at hb
        obtain ⟨⟨⟨⟨⟨b0, b1⟩, b2⟩, b3⟩, b4⟩, b5⟩ := hb
        go_wp2_with fail
        exact ⟨⟨k + 1, by omega, by go_num, Lib.hid (fun a ha => by
          rw [hT.out] at ha
          rcases List.mem_append.1 ha with ha | ha
          · exact hn.out a ha
          · simp at ha; subst ha; exact hbf.out), HB.out⟩, by simp [intOf]; omega⟩
    · obtain rfl : k = L.length := by omega
      go_wp2_with fail
      go_ret
      refine ⟨ret_bool ?_, Bl⟩
      rw [hr.out]
      have : L.any (badA n) = false := List.any_eq_false.2 (fun a ha => by rw [hn.out a (by rw [List.take_of_length_le (Nat.le_refl _)]; exact ha)]; simp)
      rw [this]; rfl
/-- All arcs lead between the coordinates' nodes. -/
def InX (L : List Arc) (m : Nat) : Prop := ∀ a ∈ L, ∃ f t : Nat, a.1 = f ∧ a.2.1 = t ∧ f < m ∧ t < m
set_option maxRecDepth 100000 in
set_option maxHeartbeats 1000000 in
theorem fit_any {w : World} {V Vx : Value} {L : List Arc} {xs : List Int} (h : Arcs w V L) (hx : Ints w Vx xs) (hin : InX L xs.length) (hl : L.length ≤ 1000000) (hxl : xs.length ≤ 1000000) :
    Calls Try.prog 23 #[V, Vx] w fun e w' => e = .returned (.bool (L.all (fitA xs))) ∧ Below w.heap.size w w' := by
  obtain ⟨A, cap, rfl, -, -, hA⟩ := h.at_
  obtain ⟨AX, capX, rfl, -, -, hAX⟩ := hx.at_
  have HA := Lib.hid hA
  have HAX := Lib.hid hAX
  have HIN := Lib.hid hin
  clear h hx hA hAX hin
  go_enter Try.func23, Try.ntmps23
  go_wp2_with fail
  go_loopw [5] (fun s wr => ∃ k : Nat, k ≤ L.length ∧ s = .int .i64 k ∧ Hid (∀ a ∈ L.take k, fitA xs a = true) ∧ Below w.heap.size w wr) (fun s _ => L.length - (intOf s).toNat)
  case atStart => exact ⟨0, by omega, rfl, Lib.hid (by simp), Below.refl _ _⟩
  case round => as_aux_lemma =>
    obtain ⟨k, hk, rfl, hn, Bl⟩ := hrel
    by_cases hkn : k < L.length
    · obtain ⟨b, off, rfl, hc⟩ := HA.out (by omega)
      obtain ⟨a, ha⟩ : ∃ a, L[k]? = some a := ⟨_, List.getElem?_eq_getElem hkn⟩
      obtain ⟨c0, c1, c2⟩ := hc k a ha
      obtain ⟨f, t, e1, e2, hf, ht⟩ := HIN.out a (List.mem_of_getElem? ha)
      obtain ⟨f', t', x⟩ := a
      simp only at c0 c1 c2 e1 e2
      subst e1 e2
      obtain ⟨bx, ox, rfl, hcx⟩ := HAX.out (by omega)
      have d0 := cell_later Bl (hcx f _ (List.getElem?_eq_getElem hf))
      have d1 := cell_later Bl (hcx t _ (List.getElem?_eq_getElem ht))
      have c0 := cell_later Bl c0
      have c1 := cell_later Bl c1
      have hfx : at_ xs (f : Nat) = xs[f] := by unfold at_; simp [hf]
      have htx : at_ xs (t : Nat) = xs[t] := by unfold at_; simp [ht]
      have hfit : fitA xs ((f : Int), (t : Int), x) = decide (xs[f] < xs[t]) := by unfold fitA; simp only; rw [hfx, htx]
      generalize xs[f] = xf at *
      generalize xs[t] = xt at *
      have i1 : (0 : Int) ≤ (f : Int) := by omega
      have i2 : (0 : Int) ≤ (t : Int) := by omega
      have i3 : (f : Int) < (xs.length : Int) := by omega
      have i4 : (t : Int) < (xs.length : Int) := by omega
      have i5 : (0 : Int) ≤ (k : Int) := by omega
      have i6 : (k : Int) < (L.length : Int) := by omega
      have HFT := Lib.hid hfit
      have HAA := Lib.hid ha
      have hT : Hid (L.take (k + 1) = L.take k ++ [((f : Int), (t : Int), x)]) := Lib.hid (by
        obtain ⟨h1, h2⟩ := List.getElem?_eq_some_iff.1 ha
        rw [List.take_succ_eq_append_getElem h1, h2])
      have HBl := Lib.hid Bl
      clear hc hcx ha hfx htx hfit Bl
      by_cases hlt : xt ≤ xf
      · have hd : decide (xt ≤ xf) = true := by simp; omega
        go_wp2_with fail
        go_quiet (fail)
        go_wp2_with fail
        go_ret
        refine ⟨ret_bool ?_, below_drewN HBl.out _⟩
        cases e : L.all (fitA xs) with
        | false => rfl
        | true =>
          have := List.all_eq_true.1 e _ (List.mem_of_getElem? HAA.out)
          rw [HFT.out] at this
          simp at this
          omega
      · have hd : decide (xt ≤ xf) = false := by simp; omega
        go_wp2_with fail
        go_quiet (fail)
        go_wp2_with fail
        exact ⟨⟨k + 1, by omega, by go_num, Lib.hid (fun a ha => by
          rw [hT.out] at ha
          rcases List.mem_append.1 ha with ha | ha
          · exact hn.out a ha
          · simp at ha; subst ha; rw [HFT.out]; simp; omega), below_drewN HBl.out _⟩, by simp [intOf]; omega⟩
    · obtain rfl : k = L.length := by omega
      go_wp2_with fail
      go_ret
      refine ⟨ret_bool ?_, Bl⟩
      have : L.all (fitA xs) = true := List.all_eq_true.2 (fun a ha => hn.out a (by rw [List.take_of_length_le (Nat.le_refl _)]; exact ha))
      rw [this]
theorem mul_bound2 {x d : Int} (h0 : 0 ≤ x) (h1 : x ≤ 1000000) (d0 : -2000000 ≤ d) (d1 : d ≤ 2000000) : -2000000000000 ≤ x * d ∧ x * d ≤ 2000000000000 := by
  rcases Int.le_total 0 d with h | h
  · have := mul_bound h0 h1 h d1; omega
  · have := mul_bound (d := -d) h0 h1 (by omega) (by omega)
    rw [Int.mul_neg] at this
    omega
set_option maxRecDepth 100000 in
set_option maxHeartbeats 1000000 in
theorem refCost_any {w : World} {V Vx : Value} {L : List Arc} {xs : List Int} (h : Arcs w V L) (hx : Ints w Vx xs) (hin : InX L xs.length) (hl : L.length ≤ 1000000) (hxl : xs.length ≤ 1000000)
    (hw : ∀ a ∈ L, 0 ≤ a.2.2 ∧ a.2.2 ≤ 1000000) (hb : ∀ v ∈ xs, -1000000 ≤ v ∧ v ≤ 1000000) :
    Calls Try.prog 24 #[V, Vx] w fun e w' => e = .returned (.int .i64 (costL xs L)) ∧ Below w.heap.size w w' := by
  obtain ⟨A, cap, rfl, -, -, hA⟩ := h.at_
  obtain ⟨AX, capX, rfl, -, -, hAX⟩ := hx.at_
  have HA := Lib.hid hA
  have HAX := Lib.hid hAX
  have HIN := Lib.hid hin
  have HW := Lib.hid hw
  have HB := Lib.hid hb
  clear h hx hA hAX hin hw hb
  go_enter Try.func24, Try.ntmps24
  go_wp2_with fail
  go_loopw [5, 6] (fun sv s wr => ∃ k : Nat, k ≤ L.length ∧ s = .int .i64 k ∧ sv = .int .i64 (costL xs (L.take k)) ∧ -(k * 2000000000000) ≤ costL xs (L.take k) ∧ costL xs (L.take k) ≤ k * 2000000000000 ∧ Below w.heap.size w wr) (fun _ s _ => L.length - (intOf s).toNat)
  case atStart => exact ⟨0, by omega, rfl, rfl, by simp [costL], by simp [costL], Below.refl _ _⟩
  case round => as_aux_lemma =>
    obtain ⟨k, hk, rfl, rfl, hc0, hc1, Bl⟩ := hrel
    by_cases hkn : k < L.length
    · obtain ⟨b, off, rfl, hc⟩ := HA.out (by omega)
      obtain ⟨a, ha⟩ : ∃ a, L[k]? = some a := ⟨_, List.getElem?_eq_getElem hkn⟩
      obtain ⟨c0, c1, c2⟩ := hc k a ha
      obtain ⟨f, t, e1, e2, hf, ht⟩ := HIN.out a (List.mem_of_getElem? ha)
      obtain ⟨x0, x1⟩ := HW.out a (List.mem_of_getElem? ha)
      obtain ⟨f', t', x⟩ := a
      simp only at c0 c1 c2 e1 e2 x0 x1
      subst e1 e2
      obtain ⟨bx, ox, rfl, hcx⟩ := HAX.out (by omega)
      have d0 := cell_later Bl (hcx f _ (List.getElem?_eq_getElem hf))
      have d1 := cell_later Bl (hcx t _ (List.getElem?_eq_getElem ht))
      obtain ⟨v0, v1⟩ := HB.out xs[f] (List.getElem_mem hf)
      obtain ⟨v2, v3⟩ := HB.out xs[t] (List.getElem_mem ht)
      have c0 := cell_later Bl c0
      have c1 := cell_later Bl c1
      have c2 := cell_later Bl c2
      have hfx : at_ xs (f : Nat) = xs[f] := by unfold at_; simp [hf]
      have htx : at_ xs (t : Nat) = xs[t] := by unfold at_; simp [ht]
      have HS : Hid (costL xs (L.take (k + 1)) = costL xs (L.take k) + x * (xs[t] - xs[f])) := Lib.hid (by
        obtain ⟨h1, h2⟩ := List.getElem?_eq_some_iff.1 ha
        rw [List.take_succ_eq_append_getElem h1, h2, costL_snoc]; simp only; rw [hfx, htx])
      generalize xs[f] = xf at *
      generalize xs[t] = xt at *
      obtain ⟨p0, p1⟩ := mul_bound2 (x := x) (d := xt - xf) x0 x1 (by omega) (by omega)
      have i1 : (0 : Int) ≤ (f : Int) := by omega
      have i2 : (0 : Int) ≤ (t : Int) := by omega
      have i3 : (f : Int) < (xs.length : Int) := by omega
      have i4 : (t : Int) < (xs.length : Int) := by omega
      have i5 : (0 : Int) ≤ (k : Int) := by omega
      have i6 : (k : Int) < (L.length : Int) := by omega
      have i7 : (k : Int) ≤ 1000000 := by omega
      have HBl := Lib.hid Bl
      generalize hcg : costL xs (L.take k) = cs at *
      have HCG := Lib.hid hcg
      have w1 : IntKind.i64.wrap (xt - xf) = xt - xf := IntWalk.i64_in _ (by omega)
      have w2 : IntKind.i64.wrap (x * (xt - xf)) = x * (xt - xf) := IntWalk.i64_in _ (by omega)
      have w3 : IntKind.i64.wrap (cs + x * (xt - xf)) = cs + x * (xt - xf) := IntWalk.i64_in _ (by omega)
      clear hc hcx ha hfx htx Bl hcg
      go_wp2_with fail
      go_quiet (fail)
      clear w1 w2 w3
      go_wp2_with fail
      exact ⟨⟨k + 1, by omega, by go_num, by rw [HS.out], by rw [HS.out]; omega, by rw [HS.out]; omega, below_drewN HBl.out _⟩, by simp [intOf]; omega⟩
    · obtain rfl : k = L.length := by omega
      have hT : L.take L.length = L := List.take_of_length_le (Nat.le_refl _)
      have HT := Lib.hid hT
      clear hT
      go_wp2_with fail
      go_ret
      exact ⟨ret_int (by rw [HT.out]), Bl⟩
set_option maxRecDepth 100000 in
set_option maxHeartbeats 1000000 in
theorem equalI_any {w : World} {V U : Value} {xs ys : List Int} (h : Ints w V xs) (k : Ints w U ys) (hl : xs.length ≤ 1000000000000000) :
    Calls Try.prog 16 #[V, U] w fun e w' => e = .returned (.bool (decide (xs = ys))) ∧ Below w.heap.size w w' := by
  obtain ⟨A, cap, rfl, -, -, hA⟩ := h.at_
  obtain ⟨AX, capX, rfl, -, -, hAX⟩ := k.at_
  have HA := Lib.hid hA
  have HAX := Lib.hid hAX
  clear h k hA hAX
  by_cases he : xs.length = ys.length
  · have hne : ((xs.length : Int) != (ys.length : Int)) = false := by simp [he]
    have HE := Lib.hid he
    have hyl : ys.length ≤ 1000000000000000 := by omega
    clear he
    go_enter Try.func16, Try.ntmps16
    go_wp2_with fail
    go_loopw [13] (fun s wr => ∃ k : Nat, k ≤ xs.length ∧ s = .int .i64 k ∧ Hid (xs.take k = ys.take k) ∧ Below w.heap.size w wr) (fun s _ => xs.length - (intOf s).toNat)
    case atStart => exact ⟨0, by omega, rfl, Lib.hid rfl, Below.refl _ _⟩
    case round => as_aux_lemma =>
      obtain ⟨k, hk, rfl, hn, Bl⟩ := hrel
      by_cases hkn : k < xs.length
      · obtain ⟨b, off, rfl, hc⟩ := HA.out (by omega)
        have hky : k < ys.length := by have := HE.out; omega
        obtain ⟨b', off', rfl, hc'⟩ := HAX.out (by omega)
        have c0 := cell_later Bl (hc k _ (List.getElem?_eq_getElem hkn))
        have c1 := cell_later Bl (hc' k _ (List.getElem?_eq_getElem hky))
        have hx : xs.take (k + 1) = xs.take k ++ [xs[k]] := List.take_succ_eq_append_getElem hkn
        have hy : ys.take (k + 1) = ys.take k ++ [ys[k]] := List.take_succ_eq_append_getElem hky
        have HX : Hid (xs[k] = xs[k]?.getD 0) := Lib.hid (by simp [hkn])
        have HY : Hid (ys[k] = ys[k]?.getD 0) := Lib.hid (by simp [hky])
        generalize xs[k] = x at *
        generalize ys[k] = y at *
        have H1 := Lib.hid hx
        have H2 := Lib.hid hy
        have HBl := Lib.hid Bl
        have hkd : decide ((k : Int) < xs.length) = true := by simp; omega
        have i1 : (k : Int) < (ys.length : Int) := by omega
        clear hx hy hc hc' Bl
        by_cases hxy : x = y
        · have hd : (x != y) = false := by simp [hxy]
          have HXY := Lib.hid hxy
          clear hxy
          go_wp2_with fail
          (try go_quiet (fail))
          (try go_wp2_with fail)
          first
            | exact ⟨⟨k + 1, by omega, by go_num, Lib.hid (by rw [H1.out, H2.out, hn.out, HXY.out]), HBl.out⟩, by simp [intOf]; omega⟩
            | exact ⟨⟨k + 1, by omega, by go_num, Lib.hid (by rw [H1.out, H2.out, hn.out, HXY.out]), below_drewN HBl.out _⟩, by simp [intOf]; omega⟩
        · have hd : (x != y) = true := by simp [hxy]
          go_wp2_with fail
          (try go_quiet (fail))
          (try go_wp2_with fail)
          go_ret
          have hres : decide (xs = ys) = false := by
            rw [decide_eq_false_iff_not]
            intro e
            apply hxy
            rw [HX.out, HY.out, e]
          first
            | exact ⟨ret_bool hres.symm, HBl.out⟩
            | exact ⟨ret_bool hres.symm, below_drewN HBl.out _⟩
      · obtain rfl : k = xs.length := by omega
        have hres : Hid (decide (xs = ys) = true) := Lib.hid (by
          rw [decide_eq_true_eq]
          have h1 := hn.out
          rw [List.take_of_length_le (Nat.le_refl _), List.take_of_length_le (by rw [HE.out]; omega)] at h1
          exact h1)
        go_wp2_with fail
        go_ret
        exact ⟨ret_bool hres.out.symm, Bl⟩
  · have hne : ((xs.length : Int) != (ys.length : Int)) = true := by simp; omega
    have hres : Hid (decide (xs = ys) = false) := Lib.hid (by
      rw [decide_eq_false_iff_not]
      intro e
      exact he (by rw [e]))
    clear he
    go_enter Try.func16, Try.ntmps16
    go_wp2_with fail
    go_ret
    exact ⟨ret_bool hres.out.symm, Below.refl _ _⟩
end Go.Proofs.Ytimffpnfhkobkaa
