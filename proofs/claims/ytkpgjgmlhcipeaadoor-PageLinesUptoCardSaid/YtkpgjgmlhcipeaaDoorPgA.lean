/- page.many, muntinref28.Many, page.pair, muntinref28.in: what each computes. -/
import Derived.Test.YtkpgjgmlhcipeaaDoorPgS
import Derived.Test.YtkpgjgmlhcipeaaDoorLexW
namespace Go.Proofs.YtkpgjgmlhcipeaaDoor
open Go.RowKit
theorem box_two {w w1 : World} {x y : Value} {t : TypeId} (h : w.alloc (.cells #[x, y] t) = w1) : Below w.heap.size w w1 ∧ w1.cell? ⟨w.heap.size, 0, none⟩ = some x ∧ w1.cell? ⟨w.heap.size, 1, none⟩ = some y := by
  subst h
  exact ⟨(Below.refl _ _).alloc (Nat.le_refl _) _, (Cl.of_block (heap_at rfl) (j := 0) rfl).cell, (Cl.of_block (heap_at rfl) (j := 1) rfl).cell⟩
theorem totP_take {rs : List Rt} {i : Nat} (h : i < rs.length) : totP (rs.take (i + 1)) = totP (rs.take i) + rs[i].2.length := by
  unfold totP
  rw [List.take_succ_eq_append_getElem h, List.map_append, List.sum_append]
  simp
theorem totP_le (rs : List Rt) (i : Nat) : totP (rs.take i) ≤ totP rs := by
  have h : totP (rs.take i) + totP (rs.drop i) = totP rs := by
    unfold totP
    rw [← List.sum_append, ← List.map_append, List.take_append_drop]
  omega
set_option maxRecDepth 100000 in
set_option maxHeartbeats 2000000 in
theorem many_any {w : World} {B R : Value} {D : Dr} (h : Drw w B R D) (hb : D.1.length ≤ 1000000000) (hr : D.2.length ≤ 1000000000) (ht : totP D.2 ≤ 1000000000) :
    Calls Tryd.prog 57 #[.agg #[B, R]] w fun e w' => e = .returned (.bool (manyD D)) ∧ Below w.heap.size w w' := by
  obtain ⟨hB, M, hR, hP⟩ := h
  obtain ⟨AB, cB, rfl, -, -, -⟩ := hB.at_
  obtain ⟨AR, cR, rfl, -, -, hA⟩ := hR.at_
  have HA := Lib.hid hA
  have HP := Lib.hid hP
  have hml := hP.1
  clear hB hR hA hP
  rw [hml] at HA ⊢
  have HL := Lib.hid (totP_le D.2)
  clear hml
  go_enter Tryd.func57, Tryd.ntmps57
  go_wp2_with fail
  obtain ⟨w1, hw1⟩ : ∃ w1, w.alloc (.cells #[.slice AB D.1.length cB, .slice AR D.2.length cR] 45) = w1 := ⟨_, rfl⟩
  obtain ⟨B1, e1, e2⟩ := box_two hw1
  rw [hw1]
  have HB1 := Lib.hid B1
  have HE := Lib.hid (And.intro e1 e2)
  clear B1 e1 e2
  go_loopw [3, 5, 9] (fun qn _ qi wr => ∃ i : Nat, i ≤ D.2.length ∧ qn = .int .i64 (totP (D.2.take i)) ∧ qi = .int .i64 i ∧ Below w1.heap.size w1 wr) (fun _ _ q _ => D.2.length - (intOf q).toNat)
  case atStart => exact ⟨0, by omega, rfl, rfl, Below.refl _ _⟩
  case round =>
    obtain ⟨i, hi, rfl, rfl, B⟩ := hrel
    have hl := HL.out i
    by_cases hil : i < D.2.length
    · obtain ⟨b, off, rfl, hc⟩ := HA.out (by omega)
      obtain ⟨V, hm, hp⟩ := HP.out.at_ hil
      obtain ⟨Ap, cp, rfl, -, -, -⟩ := hp.at_
      obtain ⟨c0, c1, c2⟩ := hc i _ hm
      have d0 := cell_later (below_then HB1.out HB1.out.size B) c0
      have d1 := cell_later (below_then HB1.out HB1.out.size B) c1
      have d2 := cell_later (below_then HB1.out HB1.out.size B) c2
      have HB := Lib.hid B
      have HT := Lib.hid (totP_take hil)
      have hl1 := HL.out (i + 1)
      rw [HT.out] at hl1
      clear c0 c1 c2 hc hm hp B hl
      generalize D.2[i] = r at *
      go_wp2_with fail
      exact ⟨⟨i + 1, by omega, by rw [HT.out]; go_num, by go_num, below_then HB.out HB.out.size (((Below.refl _ _).alloc (Nat.le_refl _) _))⟩, by simp [intOf]; omega⟩
    · have e : i = D.2.length := by omega
      subst e
      have HB := Lib.hid B
      have f1 := cell_later B HE.out.1
      have f2 := cell_later B HE.out.2
      have hmx : max (D.1.length : Int) (D.2.length : Int) = ((max D.1.length D.2.length : Nat) : Int) := by omega
      clear B
      have HBB := Lib.hid (below_then HB1.out HB1.out.size HB.out)
      by_cases h4 : 4096 < max D.1.length D.2.length
      · have hx : decide ((4096 : Int) < ((max D.1.length D.2.length : Nat) : Int)) = true := by simp only [decide_eq_true_eq]; omega
        go_wp2_with fail
        go_ret
        exact ⟨ret_bool (by unfold manyD; rw [Bool.eq_iff_iff]; simp only [Bool.or_eq_true, decide_eq_true_eq, true_iff]; omega), HBB.out⟩
      · have hx : decide ((4096 : Int) < ((max D.1.length D.2.length : Nat) : Int)) = false := by simp only [decide_eq_false_iff_not]; omega
        go_wp2_with fail
        go_ret
        exact ⟨ret_bool (by unfold manyD; rw [Bool.eq_iff_iff]; simp only [Bool.or_eq_true, decide_eq_true_eq]; omega), HBB.out⟩
/-- A row that a slice literal has laid. -/
theorem own_lit {w : World} {base E sz n k : Nat} {cs : Array Value} {xs : List Value} (hb : base ≤ n) (hn : n = w.heap.size) (hx : cs.toList = xs) (hk : k ≤ maxLen) (hl : xs.length = k * sz) : (w.alloc (.cells cs E)).ownsRow base E sz (.slice (some ⟨n, 0, none⟩) k k) k xs := by
  refine ⟨hl, .inr ⟨n, k, cs, rfl, hb, heap_at hn, Nat.le_refl _, hk, ?_, ?_⟩⟩
  · rw [← Array.length_toList, hx, hl]
  · rw [hx, ← hl, List.take_length]
theorem pair_any {w : World} (p : Pt) :
    Calls Tryd.prog 77 #[.agg #[.int .i64 p.1, .int .i64 p.2]] w fun e w' => ∃ g, e = .returned (.slice (some ⟨g, 0, none⟩) 2 2) ∧ w'.ownsRow w.heap.size 3 1 (.slice (some ⟨g, 0, none⟩) 2 2) 2 [.int .i64 p.1, .int .i64 p.2] ∧ Below w.heap.size w w' := by
  go_enter Tryd.func77, Tryd.ntmps77
  go_wp2_with fail
  go_ret
  refine ⟨w.heap.size + 1, ?_, ?_, ?_⟩
  · simp
  · exact own_lit (by simp) (by simp) rfl (by decide) rfl
  · exact ((Below.refl _ _).alloc (Nat.le_refl _) _).alloc (by simp) _
theorem rin_any {w : World} (n : Int) :
    Calls Tryd.prog 60 #[.int .i64 n] w fun e w' => e = .returned (.bool (decide (0 ≤ n) && decide (n ≤ 1000000))) ∧ Below w.heap.size w w' := by
  go_enter Tryd.func60, Tryd.ntmps60
  by_cases h : 0 ≤ n
  · have hx : decide (0 ≤ n) = true := by simpa using h
    go_wp2_with fail
    go_ret
    exact ⟨ret_bool (by rw [hx]; rfl), Below.refl _ _⟩
  · have hx : decide (0 ≤ n) = false := by simpa using h
    go_wp2_with fail
    go_ret
    exact ⟨ret_bool rfl, Below.refl _ _⟩
set_option maxRecDepth 100000 in
set_option maxHeartbeats 2000000 in
theorem refMany_any {w : World} {B R : Value} {D : Dr} (h : Drw w B R D) (hb : D.1.length ≤ 1000000000) (hr : D.2.length ≤ 1000000000) (ht : totP D.2 ≤ 1000000000) :
    Calls Tryd.prog 36 #[.agg #[B, R]] w fun e w' => e = .returned (.bool (manyD D)) ∧ Below w.heap.size w w' := by
  obtain ⟨hB, M, hR, hP⟩ := h
  obtain ⟨AB, cB, rfl, -, -, -⟩ := hB.at_
  obtain ⟨AR, cR, rfl, -, -, hA⟩ := hR.at_
  have HA := Lib.hid hA
  have HP := Lib.hid hP
  have hml := hP.1
  clear hB hR hA hP
  rw [hml] at HA ⊢
  have HL := Lib.hid (totP_le D.2)
  clear hml
  go_enter Tryd.func36, Tryd.ntmps36
  go_wp2_with fail
  obtain ⟨w1, hw1⟩ : ∃ w1, w.alloc (.cells #[.slice AB D.1.length cB, .slice AR D.2.length cR] 45) = w1 := ⟨_, rfl⟩
  obtain ⟨B1, e1, e2⟩ := box_two hw1
  rw [hw1]
  have HB1 := Lib.hid B1
  have HE := Lib.hid (And.intro e1 e2)
  clear B1 e1 e2
  go_loopw [3, 4] (fun qn qi wr => ∃ i : Nat, i ≤ D.2.length ∧ qn = .int .i64 (totP (D.2.take i)) ∧ qi = .int .i64 i ∧ wr = w1) (fun _ q _ => D.2.length - (intOf q).toNat)
  case atStart => exact ⟨0, by omega, rfl, rfl, rfl⟩
  case round =>
    obtain ⟨i, hi, rfl, rfl, rfl⟩ := hrel
    obtain ⟨f1, f2⟩ := HE.out
    have hl := HL.out i
    by_cases hil : i < D.2.length
    · obtain ⟨b, off, rfl, hc⟩ := HA.out (by omega)
      obtain ⟨V, hm, hp⟩ := HP.out.at_ hil
      obtain ⟨Ap, cp, rfl, -, -, -⟩ := hp.at_
      obtain ⟨c0, c1, c2⟩ := hc i _ hm
      have d2 := cell_later HB1.out c2
      have HT := Lib.hid (totP_take hil)
      have hl1 := HL.out (i + 1)
      have hil' : (i : Int) < (D.2.length : Int) := by omega
      have hdi : decide ((i : Int) < (D.2.length : Int)) = true := by simp only [decide_eq_true_eq]; omega
      have hi0 : (0 : Int) ≤ (i : Int) := by omega
      rw [HT.out] at hl1
      clear c0 c1 c2 hc hm hp hl
      generalize D.2[i] = r at *
      go_wp2_with fail
      exact ⟨⟨i + 1, by omega, by rw [HT.out]; go_num, by go_num, trivial⟩, by simp [intOf]; omega⟩
    · have e : i = D.2.length := by omega
      subst e
      have hdi : decide ((D.2.length : Int) < (D.2.length : Int)) = false := by simp
      by_cases h4 : 4096 < D.1.length
      · have hx : decide ((4096 : Int) < (D.1.length : Int)) = true := by simp only [decide_eq_true_eq]; omega
        go_wp2_with fail
        go_ret
        exact ⟨ret_bool (by unfold manyD; rw [Bool.eq_iff_iff]; simp only [Bool.or_eq_true, decide_eq_true_eq, true_iff]; omega), HB1.out⟩
      · have hx : decide ((4096 : Int) < (D.1.length : Int)) = false := by simp only [decide_eq_false_iff_not]; omega
        by_cases h5 : 4096 < D.2.length
        · have hy : decide ((4096 : Int) < (D.2.length : Int)) = true := by simp only [decide_eq_true_eq]; omega
          go_wp2_with fail
          go_ret
          exact ⟨ret_bool (by unfold manyD; rw [Bool.eq_iff_iff]; simp only [Bool.or_eq_true, decide_eq_true_eq, true_iff]; omega), HB1.out⟩
        · have hy : decide ((4096 : Int) < (D.2.length : Int)) = false := by simp only [decide_eq_false_iff_not]; omega
          go_wp2_with fail
          go_ret
          exact ⟨ret_bool (by unfold manyD; rw [Bool.eq_iff_iff]; simp only [Bool.or_eq_true, decide_eq_true_eq]; omega), HB1.out⟩
end Go.Proofs.YtkpgjgmlhcipeaaDoor
