/- slices.Equal, of strings. -/
import Derived.Test.YtkpgjgmlhcipeaaDoorStr
namespace Go.Proofs.YtkpgjgmlhcipeaaDoor
open Go.RowKit
theorem bytes_eq {x y : ByteArray} : (x.toList == y.toList) = decide (x = y) := by
  rw [ByteArray.toList_eq, ByteArray.toList_eq]
  by_cases h : x = y
  · subst h; simp
  · rw [decide_eq_false h]
    cases hq : x.data.toList == y.data.toList with
    | false => rfl
    | true =>
      exfalso
      apply h
      have : x.data.toList = y.data.toList := by simpa using hq
      rw [← toB_data x, ← toB_data y, this]
set_option maxRecDepth 100000 in
set_option maxHeartbeats 1000000 in
theorem equalS_any {w : World} {V U : Value} {xs ys : List ByteArray} (h : Strs w V xs) (k : Strs w U ys) (hl : xs.length ≤ 1000000000000000) :
    Calls Tryd.prog 20 #[V, U] w fun e w' => e = .returned (.bool (decide (xs = ys))) ∧ Below w.heap.size w w' := by
  obtain ⟨A, cap, rfl, -, -, hA⟩ := h.at_
  obtain ⟨AX, capX, rfl, -, -, hAX⟩ := k.at_
  have HA := Lib.hid hA
  have HAX := Lib.hid hAX
  clear h k hA hAX
  by_cases he : xs.length = ys.length
  · have hne : ((xs.length : Int) != (ys.length : Int)) = false := by simp [he]
    have HE := Lib.hid he
    have hyl : ys.length ≤ 1000000000000000 := by omega
    clear he
    go_enter Tryd.func20, Tryd.ntmps20
    go_wp2_with fail
    go_loopw [13] (fun s wr => ∃ k : Nat, k ≤ xs.length ∧ s = .int .i64 k ∧ Hid (xs.take k = ys.take k) ∧ Below w.heap.size w wr) (fun s _ => xs.length - (intOf s).toNat)
    case atStart => exact ⟨0, by omega, rfl, Lib.hid rfl, Below.refl _ _⟩
    case round => as_aux_lemma =>
      obtain ⟨k, hk, rfl, hn, Bl⟩ := hrel
      by_cases hkn : k < xs.length
      · obtain ⟨b, off, rfl, hc⟩ := HA.out (by omega)
        have hky : k < ys.length := by have := HE.out; omega
        obtain ⟨b', off', rfl, hc'⟩ := HAX.out (by omega)
        have c0 := cell_later Bl (hc k _ (List.getElem?_eq_getElem hkn))
        have c1 := cell_later Bl (hc' k _ (List.getElem?_eq_getElem hky))
        have hx : xs.take (k + 1) = xs.take k ++ [xs[k]] := List.take_succ_eq_append_getElem hkn
        have hy : ys.take (k + 1) = ys.take k ++ [ys[k]] := List.take_succ_eq_append_getElem hky
        have HX : Hid (xs[k] = xs[k]?.getD ByteArray.empty) := Lib.hid (by simp [hkn])
        have HY : Hid (ys[k] = ys[k]?.getD ByteArray.empty) := Lib.hid (by simp [hky])
        generalize xs[k] = x at *
        generalize ys[k] = y at *
        have H1 := Lib.hid hx
        have H2 := Lib.hid hy
        have HBl := Lib.hid Bl
        have hkd : decide ((k : Int) < xs.length) = true := by simp; omega
        have i1 : (k : Int) < (ys.length : Int) := by omega
        clear hx hy hc hc' Bl
        by_cases hxy : x = y
        · have hd : (x.toList == y.toList) = true := by rw [bytes_eq]; simp [hxy]
          have HXY := Lib.hid hxy
          clear hxy
          go_wp2_with fail
          (try go_quiet (fail))
          (try go_wp2_with fail)
          first
            | exact ⟨⟨k + 1, by omega, by go_num, Lib.hid (by rw [H1.out, H2.out, hn.out, HXY.out]), HBl.out⟩, by simp [intOf]; omega⟩
            | exact ⟨⟨k + 1, by omega, by go_num, Lib.hid (by rw [H1.out, H2.out, hn.out, HXY.out]), below_drewN HBl.out _⟩, by simp [intOf]; omega⟩
        · have hd : (x.toList == y.toList) = false := by rw [bytes_eq]; simp [hxy]
          go_wp2_with fail
          (try go_quiet (fail))
          (try go_wp2_with fail)
          go_ret
          have hres : decide (xs = ys) = false := by
            rw [decide_eq_false_iff_not]
            intro e
            apply hxy
            rw [HX.out, HY.out, e]
          first
            | exact ⟨ret_bool hres.symm, HBl.out⟩
            | exact ⟨ret_bool hres.symm, below_drewN HBl.out _⟩
      · obtain rfl : k = xs.length := by omega
        have hres : Hid (decide (xs = ys) = true) := Lib.hid (by
          rw [decide_eq_true_eq]
          have h1 := hn.out
          rw [List.take_of_length_le (Nat.le_refl _), List.take_of_length_le (by rw [HE.out]; omega)] at h1
          exact h1)
        go_wp2_with fail
        go_ret
        exact ⟨ret_bool hres.out.symm, Bl⟩
  · have hne : ((xs.length : Int) != (ys.length : Int)) = true := by simp; omega
    have hres : Hid (decide (xs = ys) = false) := Lib.hid (by
      rw [decide_eq_false_iff_not]
      intro e
      exact he (by rw [e]))
    clear he
    go_enter Tryd.func20, Tryd.ntmps20
    go_wp2_with fail
    go_ret
    exact ⟨ret_bool hres.out.symm, Below.refl _ _⟩
end Go.Proofs.YtkpgjgmlhcipeaaDoor
