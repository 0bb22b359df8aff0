/- The document's own Check: it tells what cert.Check tells. -/
import Derived.Test.YtjgloineooadoaaGreatDoorMgZ13
import Derived.Test.YtjgloineooadoaaGreatDoorMgZ10
import Derived.Test.YtjgloineooadoaaGreatDoorMgZ9
namespace Go.Proofs.YtjgloineooadoaaGreatDoor
open Go.RowKit
section
variable {n : Nat} {L : List Arc} {xs fs : List Int}
theorem ck_ord (h : ordE n L ≠ 0) : checkC n L xs fs = ordE n L := by
  have hc : costE n L xs = ordE n L := by unfold costE; rw [if_neg h]
  unfold checkC
  rw [hc, if_neg h]
theorem ck_far (h0 : ordE n L = 0) (h : ¬((xs.length : Int) = n ∧ xs.any farB = false)) : checkC n L xs fs = 2 := by
  have hc : costE n L xs = 2 := by unfold costE; rw [if_pos h0, if_neg h]
  unfold checkC
  rw [hc, if_neg (by decide)]
theorem ck_fit (h0 : ordE n L = 0) (h : (xs.length : Int) = n ∧ xs.any farB = false) (hf : ¬L.all (fitA xs) = true) : checkC n L xs fs = 15 := by
  have hc : costE n L xs = 15 := by unfold costE; rw [if_pos h0, if_pos h, if_neg hf]
  unfold checkC
  rw [hc, if_neg (by decide)]
theorem ck_ok (h0 : ordE n L = 0) (h : (xs.length : Int) = n ∧ xs.any farB = false) (hf : L.all (fitA xs) = true) : checkC n L xs fs = if fs.length = L.length ∧ fs.any badF = false then (if rightF n L fs = true then (if costL xs L = sumN (ff fs) fs.length then 0 else 15) else 12) else 2 := by
  have hc : costE n L xs = 0 := by unfold costE; rw [if_pos h0, if_pos h, if_pos hf]
  unfold checkC
  rw [if_pos hc]
end
theorem any_takeB {f : Int → Bool} {xs : List Int} {i : Nat} {x : Int} (h : xs[i]? = some x) (h0 : (xs.take i).any f = false) (h1 : f x = false) : (xs.take (i + 1)).any f = false := by
  obtain ⟨h2, h3⟩ := List.getElem?_eq_some_iff.1 h
  rw [List.take_succ_eq_append_getElem h2, List.any_append, h0, h3]
  simp [h1]
theorem any_atB {f : Int → Bool} {xs : List Int} {i : Nat} {x : Int} (h : xs[i]? = some x) (h1 : f x = true) : ¬xs.any f = false := by
  intro hf
  have := List.any_eq_false.1 hf x (List.mem_of_getElem? h)
  exact this h1
section
variable {w : World} {V Vf Vx : Value} {L : List Arc} {fs xs : List Int}
set_option maxRecDepth 100000 in
set_option maxHeartbeats 2000000 in
theorem refCheck_any (n : Nat) (hn : 1 ≤ n) (h : Arcs w V L) (hx : Ints w Vx xs) (hfs : Ints w Vf fs) (hxl : xs.length ≤ 1000000000000000) (hfl : fs.length ≤ 1000000000000000) :
    Calls Tryz.prog 14 #[.int .i64 (n : Int), V, Vx, Vf] w fun e w' => e = .returned (.int .i64 (checkC n L xs fs)) ∧ Below w.heap.size w w' := by
  have HH := Lib.hid h
  have HX := Lib.hid hx
  have HF := Lib.hid hfs
  obtain ⟨A, cap, rfl, -, -, -⟩ := h.at_
  obtain ⟨AF, capF, rfl, -, -, hAF⟩ := hfs.at_
  obtain ⟨AX, capX, rfl, -, -, hAX⟩ := hx.at_
  have HAF := Lib.hid hAF
  have HAX := Lib.hid hAX
  clear h hx hfs hAF hAX
  go_enter Tryz.func14, Tryz.ntmps14
  go_wp2_with fail
  refine (refOrder_any n HH.out).mono ?_
  rintro e w1 ⟨V1, rfl, B1, -⟩
  have HB := Lib.hid B1
  clear B1
  obtain ⟨E, hE⟩ : ∃ E, ordE n L = E := ⟨_, rfl⟩
  rw [hE]
  have HE := Lib.hid hE
  clear hE
  by_cases h0 : E = 0
  · subst h0
    by_cases hlen : xs.length = n
    · subst hlen
      have hne : ((xs.length : Int) != xs.length) = false := by simp
      have HK := Lib.hid (okg_of (ordE_right HE.out) hn)
      have hm1 := HK.out.m1
      have hn1 := HK.out.n1
      go_wp2_with fail
      go_loopw [11] (fun q wr => ∃ i : Nat, i ≤ xs.length ∧ q = .int .i64 i ∧ Hid ((xs.take i).any farB = false) ∧ wr = w1) (fun q _ => xs.length - (intOf q).toNat)
      case atStart => exact ⟨0, by omega, rfl, Lib.hid rfl, rfl⟩
      case round =>
        obtain ⟨i, hi, rfl, hz, hwr⟩ := hrel
        subst hwr
        obtain ⟨wo, rfl⟩ : ∃ q : World, q = wr := ⟨_, rfl⟩
        by_cases hil : i < xs.length
        · have hd : decide ((i : Int) < xs.length) = true := by simp; omega
          obtain ⟨b, off, rfl, hc⟩ := HAX.out (by omega)
          have HXI := Lib.hid (List.getElem?_eq_getElem hil)
          have c0 := cell_later HB.out (hc i _ HXI.out)
          have i1 : (0 : Int) ≤ (i : Int) := by omega
          have i2 : (i : Int) < (xs.length : Int) := by omega
          clear hc
          generalize xs[i] = x at *
          by_cases hx1 : x < -1000000
          · have hd1 : decide (x < -1000000) = true := by simpa using hx1
            go_wp2_with fail
            go_ret
            exact ⟨ret_int (ck_far HE.out (fun h => any_atB HXI.out (by simp [farB]; omega) h.2)).symm, HB.out⟩
          · have hd1 : decide (x < -1000000) = false := by simpa using hx1
            by_cases hx2 : 1000000 < x
            · have hd2 : decide (1000000 < x) = true := by simpa using hx2
              go_wp2_with fail
              go_ret
              exact ⟨ret_int (ck_far HE.out (fun h => any_atB HXI.out (by simp [farB]; omega) h.2)).symm, HB.out⟩
            · have hd2 : decide (1000000 < x) = false := by simpa using hx2
              have hnx : farB x = false := by simp [farB]; omega
              have HN := Lib.hid (any_takeB HXI.out hz.out hnx)
              clear hnx
              go_wp2_with fail
              exact ⟨⟨i + 1, by omega, by go_num, HN, trivial⟩, by simp [intOf]; omega⟩
        · have e : i = xs.length := by omega
          subst e
          have hd : decide ((xs.length : Int) < xs.length) = false := by simp
          have hfar := hz.out
          rw [List.take_of_length_le (Nat.le_refl _)] at hfar
          have HFAR := Lib.hid hfar
          clear hfar hz
          obtain ⟨q, hq⟩ : ∃ q, L.all (fitA xs) = q := ⟨_, rfl⟩
          have HQ := Lib.hid hq
          clear hq
          go_wp2_with fail
          refine (fit_any (HH.out.later HB.out) (HX.out.later HB.out) HK.out.inX (by omega) (by omega)).mono ?_
          rw [HQ.out]
          rintro e w2 ⟨rfl, B2⟩
          have HB2 := Lib.hid (below_then HB.out HB.out.size B2)
          clear B2
          cases q with
          | false =>
            go_wp2_with fail
            go_ret
            exact ⟨ret_int (ck_fit HE.out ⟨rfl, HFAR.out⟩ (by rw [HQ.out]; decide)).symm, HB2.out⟩
          | true =>
            have HCK := Lib.hid (ck_ok (fs := fs) HE.out ⟨rfl, HFAR.out⟩ HQ.out)
            by_cases hfl2 : fs.length = L.length
            · have hne2 : ((fs.length : Int) != (L.length : Int)) = false := by simp [hfl2]
              have HFL := Lib.hid hfl2
              clear hfl2
              go_wp2_with fail
              go_loopw [13] (fun q wr => ∃ i : Nat, i ≤ fs.length ∧ q = .int .i64 i ∧ Hid ((fs.take i).any badF = false) ∧ wr = w2) (fun q _ => fs.length - (intOf q).toNat)
              case atStart => exact ⟨0, by omega, rfl, Lib.hid rfl, rfl⟩
              case round =>
                obtain ⟨i, hi, rfl, hz, hwr⟩ := hrel
                subst hwr
                obtain ⟨wp, rfl⟩ : ∃ q : World, q = wr := ⟨_, rfl⟩
                by_cases hil : i < fs.length
                · have hd : decide ((i : Int) < fs.length) = true := by simp; omega
                  obtain ⟨b, off, rfl, hc⟩ := HAF.out (by omega)
                  have HFI := Lib.hid (List.getElem?_eq_getElem hil)
                  have c0 := cell_later HB2.out (hc i _ HFI.out)
                  have i1 : (0 : Int) ≤ (i : Int) := by omega
                  have i2 : (i : Int) < (fs.length : Int) := by omega
                  clear hc
                  generalize fs[i] = x at *
                  by_cases hx1 : x < 0
                  · have hd1 : decide (x < 0) = true := by simpa using hx1
                    go_wp2_with fail
                    go_ret
                    refine ⟨ret_int ?_, HB2.out⟩
                    rw [HCK.out, if_neg (fun h => any_atB HFI.out (by simp [badF]; omega) h.2)]
                  · have hd1 : decide (x < 0) = false := by simpa using hx1
                    by_cases hx2 : 1099511627776 < x
                    · have hd2 : decide (1099511627776 < x) = true := by simpa using hx2
                      go_wp2_with fail
                      go_ret
                      refine ⟨ret_int ?_, HB2.out⟩
                      rw [HCK.out, if_neg (fun h => any_atB HFI.out (by simp [badF]; omega) h.2)]
                    · have hd2 : decide (1099511627776 < x) = false := by simpa using hx2
                      have hnx : badF x = false := by simp [badF]; omega
                      have HN := Lib.hid (any_takeB HFI.out hz.out hnx)
                      clear hnx
                      go_wp2_with fail
                      exact ⟨⟨i + 1, by omega, by go_num, HN, trivial⟩, by simp [intOf]; omega⟩
                · have e : i = fs.length := by omega
                  subst e
                  have hd : decide ((fs.length : Int) < fs.length) = false := by simp
                  have hbad := hz.out
                  rw [List.take_of_length_le (Nat.le_refl _)] at hbad
                  have HBD := Lib.hid (badF_bd hbad)
                  have HBAD : Hid (fs.length = L.length ∧ fs.any badF = false) := Lib.hid ⟨HFL.out, hbad⟩
                  clear hbad hz
                  obtain ⟨r, hr⟩ : ∃ r, rightF xs.length L fs = r := ⟨_, rfl⟩
                  have HR := Lib.hid hr
                  clear hr
                  go_wp2_with fail
                  refine (flowRight_any xs.length (HH.out.later HB2.out) (HF.out.later HB2.out) HK.out (fun y hy => by have := HBD.out y hy; omega) hfl).mono ?_
                  rw [HR.out]
                  rintro e w3 ⟨rfl, B3⟩
                  have HB3 := Lib.hid (below_then HB2.out HB2.out.size B3)
                  clear B3
                  cases r with
                  | false =>
                    go_wp2_with fail
                    go_ret
                    refine ⟨ret_int ?_, HB3.out⟩
                    rw [HCK.out, if_pos HBAD.out, if_neg (by rw [HR.out]; decide)]
                  | true =>
                    have hfs2 : fs.length ≤ 16384 := by have := HFL.out; omega
                    obtain ⟨C, hC⟩ : ∃ C, costL xs L = C := ⟨_, rfl⟩
                    obtain ⟨S, hS⟩ : ∃ S, sumN (ff fs) fs.length = S := ⟨_, rfl⟩
                    have HC := Lib.hid hC
                    have HS := Lib.hid hS
                    clear hC hS
                    go_wp2_with fail
                    refine (refCost_any (HH.out.later HB3.out) (HX.out.later HB3.out) HK.out.inX (by omega) (by omega) (okg_w HK.out) (far_bd HFAR.out)).mono ?_
                    rw [HC.out]
                    rintro e w4 ⟨rfl, B4⟩
                    have HB4 := Lib.hid (below_then HB3.out HB3.out.size B4)
                    clear B4
                    go_wp2_with fail
                    refine (sum_any (HF.out.later HB4.out) (by omega) (fun y hy => by have := HBD.out y hy; omega)).mono ?_
                    rw [HS.out]
                    rintro e w5 ⟨rfl, B5⟩
                    have HB5 := Lib.hid (below_then HB4.out HB4.out.size B5)
                    clear B5
                    by_cases hcs : C = S
                    · have hd3 : (C != S) = false := by simp [hcs]
                      have HCS := Lib.hid hcs
                      clear hcs
                      go_wp2_with fail
                      go_ret
                      refine ⟨ret_int ?_, HB5.out⟩
                      rw [HCK.out, if_pos HBAD.out, if_pos HR.out, if_pos (by rw [HC.out, HS.out]; exact HCS.out)]
                    · have hd3 : (C != S) = true := by simp [hcs]
                      have HCS := Lib.hid hcs
                      clear hcs
                      go_wp2_with fail
                      go_ret
                      refine ⟨ret_int ?_, HB5.out⟩
                      rw [HCK.out, if_pos HBAD.out, if_pos HR.out, if_neg (by rw [HC.out, HS.out]; exact HCS.out)]
            · have hne2 : ((fs.length : Int) != (L.length : Int)) = true := by simp; omega
              have HFL := Lib.hid hfl2
              clear hfl2
              go_wp2_with fail
              go_ret
              refine ⟨ret_int ?_, HB2.out⟩
              rw [HCK.out, if_neg (fun h => HFL.out h.1)]
    · have hne : ((xs.length : Int) != n) = true := by simp; omega
      have HLN := Lib.hid hlen
      clear hlen
      go_wp2_with fail
      go_ret
      exact ⟨ret_int (ck_far HE.out (fun h => HLN.out (by have := h.1; omega))).symm, HB.out⟩
  · have hne : (E != 0) = true := by simp [h0]
    have H0 := Lib.hid h0
    clear h0
    go_wp2_with fail
    go_ret
    exact ⟨ret_int (by rw [ck_ord (by rw [HE.out]; exact H0.out), HE.out]), HB.out⟩
end
end Go.Proofs.YtjgloineooadoaaGreatDoor
