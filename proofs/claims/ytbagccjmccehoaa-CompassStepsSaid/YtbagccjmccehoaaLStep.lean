/- The law CompassSteps returns true at every number and point. No condition. -/
import Derived.Test.YtbagccjmccehoaaLRound
import Derived.Test.YtbagccjmccehoaaLBetw
import Derived.Lib.Hide
namespace Go.Proofs.Ytbagccjmccehoaa
open Go.RowKit
def sumX (x : Int) : Nat → Int
  | 0 => 0
  | k + 1 => sumX x k + stepX (leftF x k)
def sumY (x : Int) : Nat → Int
  | 0 => 0
  | k + 1 => sumY x k + stepY (leftF x k)
theorem sum_four {x : Int} (h : 0 ≤ x ∧ x ≤ 3) : sumX x 4 = 0 ∧ sumY x 4 = 0 := by
  obtain rfl | rfl | rfl | rfl : x = 0 ∨ x = 1 ∨ x = 2 ∨ x = 3 := by omega
  all_goals decide
theorem sum_bd {x : Int} (h : 0 ≤ x ∧ x ≤ 3) (k : Nat) (hk : k < 4) : -4 ≤ sumX x k ∧ sumX x k ≤ 4 ∧ -4 ≤ sumY x k ∧ sumY x k ≤ 4 := by
  obtain rfl | rfl | rfl | rfl : x = 0 ∨ x = 1 ∨ x = 2 ∨ x = 3 := by omega
  all_goals
    obtain rfl | rfl | rfl | rfl : k = 0 ∨ k = 1 ∨ k = 2 ∨ k = 3 := by omega
    all_goals decide
theorem step_facts {d : Int} (h : 0 ≤ d ∧ d ≤ 3) : -1 ≤ stepX d ∧ stepX d ≤ 1 ∧ -1 ≤ stepY d ∧ stepY d ≤ 1 ∧ stepX d + stepX (leftF d 2) = 0 ∧ stepY d + stepY (leftF d 2) = 0 ∧
    max (stepX d) (-(stepX d)) + max (stepY d) (-(stepY d)) = 1 := by
  obtain rfl | rfl | rfl | rfl : d = 0 ∨ d = 1 ∨ d = 2 ∨ d = 3 := by omega
  all_goals decide
theorem bet_next {d : Int} (h : 0 ≤ d ∧ d ≤ 3) (p q : Int) : betD p q (p + stepX d) (q + stepY d) = d ∧ betB p q (p + stepX d) (q + stepY d) = true := by
  obtain rfl | rfl | rfl | rfl : d = 0 ∨ d = 1 ∨ d = 2 ∨ d = 3 := by omega
  all_goals
    simp [betD, betB, stepX, stepY]
    try omega
theorem heap_at {w : World} {o : Obj} {n : Nat} (h : n = w.heap.size) : (w.alloc o).heap[n]? = some o := by subst h; exact heap_alloc_new w o
/-- An open cell: it holds v, and may be written. -/
structure Cl (w : World) (a : Addr) (v : Value) : Prop where
  cell : w.cell? a = some v
  free : w.frozen? a = false
theorem Cl.later {w wx : World} {a : Addr} {v : Value} (h : Cl w a v) (hb : Below w.heap.size w wx) : Cl wx a v :=
  ⟨cell_later hb h.cell, (hb.frozen (World.block_lt_of_cell? w a h.cell)).trans h.free⟩
theorem Cl.alloc {w : World} {a : Addr} {v : Value} (h : Cl w a v) (o : Obj) : Cl (w.alloc o) a v :=
  h.later ((Below.refl _ _).alloc (Nat.le_refl _) o)
theorem Cl.new {w : World} {c : Array Value} {t : TypeId} {j : Nat} {v : Value} (h : c[j]? = some v) : Cl (w.alloc (.cells c t)) ⟨w.heap.size, j, none⟩ v := by
  have hb := heap_alloc_new w (.cells c t)
  exact ⟨by rw [World.cell?, hb]; simpa using h, by rw [World.frozen?, hb]; simp⟩
theorem Cl.of_block {w : World} {b j : Nat} {c : Array Value} {t : TypeId} {v : Value} (hb : w.heap[b]? = some (.cells c t)) (h : c[j]? = some v) : Cl w ⟨b, j, none⟩ v :=
  ⟨by simp [World.cell?, hb, h], by simp [World.frozen?, hb]⟩
set_option maxRecDepth 100000 in
set_option maxHeartbeats 1000000 in
theorem step_walk (a0 px py : Int) (_w0 : (Lit.int .i64 a0).wf = true) (_w1 : (Lit.int .i64 px).wf = true) (_w2 : (Lit.int .i64 py).wf = true) (w : World) :
    Calls Try.prog 11 #[.int .i64 a0, .agg #[.int .i64 px, .int .i64 py]] w fun e w' => e = .returned (.bool true) ∧ Below w.heap.size w w' := by
  have hx : 0 ≤ max 0 a0 % 4 ∧ max 0 a0 % 4 ≤ 3 := by omega
  have hpx := tmod1000 px
  have hpy := tmod1000 py
  go_enter Try.func11, Try.ntmps11
  go_wp2_with fail
  generalize max 0 a0 % 4 = x at hx ⊢
  generalize px.tmod 1000 = qx at hpx ⊢
  generalize py.tmod 1000 = qy at hpy ⊢
  go_loopw [25] (fun c wr => ∃ (k : Nat) (u v : Int), k ≤ 4 ∧ c = .int .i64 k ∧ Below w.heap.size w wr ∧ wr.heap[w.heap.size + 1]? = some (.cells #[.int .i64 qx, .int .i64 qy] 72) ∧ wr.heap[w.heap.size + 1 + 1]? = some (.cells #[.int .i64 u, .int .i64 v] 72) ∧ u = qx + sumX x k ∧ v = qy + sumY x k) (fun c _ => 4 - (intOf c).toNat)
  case atStart =>
    refine ⟨0, qx, qy, by omega, rfl, (((Below.refl _ _).alloc (Nat.le_refl _) _).alloc (by simp) _).alloc (by simp; omega) _, ?_, heap_at (by simp), by simp [sumX], by simp [sumY]⟩
    rw [Below.heap_alloc _ _ _ (by simp)]
    exact heap_at (by simp)
  case round =>
    obtain ⟨k, u, v, hk, rfl, hb, hq, hr, hu, hv⟩ := hrel
    have z2 : w.heap.size + 1 + 1 < wr.heap.size := (Array.getElem?_eq_some_iff.1 hr).1
    have z1 : w.heap.size + 1 < wr.heap.size := by omega
    have c1 : wr.cell? ⟨w.heap.size + 1, 0, none⟩ = some (.int .i64 qx) := by simp [World.cell?, hq]
    have c2 : wr.cell? ⟨w.heap.size + 1, 1, none⟩ = some (.int .i64 qy) := by simp [World.cell?, hq]
    have c3 : wr.cell? ⟨w.heap.size + 1 + 1, 0, none⟩ = some (.int .i64 u) := by simp [World.cell?, hr]
    have c4 : wr.cell? ⟨w.heap.size + 1 + 1, 1, none⟩ = some (.int .i64 v) := by simp [World.cell?, hr]
    have fz : ∀ o, wr.frozen? ⟨w.heap.size + 1 + 1, o, none⟩ = false := fun o => by simp [World.frozen?, hr]
    have HQ := Lib.hid hq
    have HR := Lib.hid hr
    have HU := Lib.hid hu
    have HV := Lib.hid hv
    clear hq hr hu hv
    by_cases hlt : k < 4
    · have hbd := sum_bd hx k hlt
      have ub : -1003 ≤ u ∧ u ≤ 1003 ∧ -1003 ≤ v ∧ v ≤ 1003 := by have h1 := HU.out; have h2 := HV.out; omega
      obtain ⟨d, HD⟩ : ∃ d, Hid (leftF x k = d) := ⟨_, rfl⟩
      have hd : 0 ≤ d ∧ d ≤ 3 := by rw [← HD.out]; exact leftF_good hx _
      have HD2 : Hid (leftF x (k + 2) = leftF d 2) := by rw [← HD.out, leftF_left hx]; rfl
      obtain ⟨s1, s2, s3, s4, s5, s6, s7⟩ := step_facts hd
      obtain ⟨n1, n2⟩ := bet_next hd u v
      have HX : Hid (sumX x (k + 1) = sumX x k + stepX d) := by show _ = _; rw [sumX, HD.out]
      have HY : Hid (sumY x (k + 1) = sumY x k + stepY d) := by show _ = _; rw [sumY, HD.out]
      obtain ⟨t1, t2, t3, t4, _⟩ := step_facts (leftF_good hd 2)
      generalize hex : stepX (leftF d 2) = ex at s5 t1 t2
      generalize hey : stepY (leftF d 2) = ey at s6 t3 t4
      generalize hsx : stepX d = sx at s1 s2 s5 s7 n1 n2 HX
      generalize hsy : stepY d = sy at s3 s4 s6 s7 n1 n2 HY
      have W1 : ∀ wx, Calls Try.prog 39 #[.int .i64 d] wx fun e w' => e = .returned (.agg #[.int .i64 sx, .int .i64 sy]) ∧ Below wx.heap.size wx w' := by rw [← hsx, ← hsy]; exact fun wx => step_any d wx
      have W2 : ∀ wx, Calls Try.prog 39 #[.int .i64 (leftF d 2)] wx fun e w' => e = .returned (.agg #[.int .i64 ex, .int .i64 ey]) ∧ Below wx.heap.size wx w' := by rw [← hex, ← hey]; exact fun wx => step_any _ wx
      have W1' := Lib.hid W1
      have W2' := Lib.hid W2
      clear W1 W2 hex hey hsx hsy hbd
      have b5 : (sx + ex != 0) = false := by simp [s5]
      have b6 : (sy + ey != 0) = false := by simp [s6]
      have b7 : (max sx (-sx) + max sy (-sy) != 1) = false := by simp [s7]
      have b8 : (d != d) = false := by simp
      have HN1 := Lib.hid n1
      have HN2 := Lib.hid n2
      clear s5 s6 s7 n1 n2
      obtain ⟨ub1, ub2, ub3, ub4⟩ := ub
      obtain ⟨hd1, hd2⟩ := hd
      go_wp2_with fail
      refine (left_any x k _).mono ?_
      rw [HD.out]
      rintro e w' ⟨rfl, rfl⟩
      go_wp2_with fail
      refine (W1'.out _).mono ?_
      rintro e w1 ⟨rfl, hb1⟩
      obtain ⟨r1, r1'⟩ := bcell hb1
      go_wp2_with fail
      refine (left_any x (k + 2) _).mono ?_
      rw [HD2.out]
      rintro e w' ⟨rfl, rfl⟩
      go_wp2_with fail
      refine (W2'.out _).mono ?_
      rintro e w2 ⟨rfl, hb2⟩
      have C3 := (((Cl.of_block HR.out (j := 0) (v := .int .i64 u) rfl).later hb1).alloc (.cells #[.int .i64 sx, .int .i64 sy] 72)).later hb2
      have C4 := (((Cl.of_block HR.out (j := 1) (v := .int .i64 v) rfl).later hb1).alloc (.cells #[.int .i64 sx, .int .i64 sy] 72)).later hb2
      have C5 := (Cl.new (w := w1) (c := #[.int .i64 sx, .int .i64 sy]) (t := 72) (j := 0) (v := .int .i64 sx) rfl).later hb2
      have C6 := (Cl.new (w := w1) (c := #[.int .i64 sx, .int .i64 sy]) (t := 72) (j := 1) (v := .int .i64 sy) rfl).later hb2
      obtain ⟨C3a, C3b⟩ := C3
      obtain ⟨C4a, C4b⟩ := C4
      obtain ⟨C5a, C5b⟩ := C5
      obtain ⟨C6a, C6b⟩ := C6
      have y3 := World.block_lt_of_cell? _ _ C3a
      have y5 := World.block_lt_of_cell? _ _ C5a
      simp only at y3 y5
      have y3' : w.heap.size + 1 + 1 < w2.heap.size + 1 := by omega
      have HB2 := Lib.hid ((hb1.alloc hb1.size (.cells #[.int .i64 sx, .int .i64 sy] 72)).trans (hb2.mono (by have := hb1.size; simp; omega)))
      clear r1 r1' hb1 hb2 c1 c2 c3 c4 fz z1
      go_wp2_with fail
      refine (between_any _ _ _ _ _).mono ?_
      rw [HN1.out, HN2.out]
      rintro e w3 ⟨rfl, hb3⟩
      go_wp2_with fail
      refine (left_any x k _).mono ?_
      rw [HD.out]
      rintro e w' ⟨rfl, rfl⟩
      have HB3 := Lib.hid hb3
      have D3 := (((Cl.mk C3a C3b).alloc (.cells #[.int .i64 ex, .int .i64 ey] 72)).alloc (.cells #[.int .i64 (u + sx), .int .i64 (v + sy)] 72)).later hb3
      have D4 := (((Cl.mk C4a C4b).alloc (.cells #[.int .i64 ex, .int .i64 ey] 72)).alloc (.cells #[.int .i64 (u + sx), .int .i64 (v + sy)] 72)).later hb3
      have D5 := (Cl.new (w := w2.alloc (.cells #[.int .i64 ex, .int .i64 ey] 72)) (c := #[.int .i64 (u + sx), .int .i64 (v + sy)]) (t := 72) (j := 0) (v := .int .i64 (u + sx)) rfl).later hb3
      have D6 := (Cl.new (w := w2.alloc (.cells #[.int .i64 ex, .int .i64 ey] 72)) (c := #[.int .i64 (u + sx), .int .i64 (v + sy)]) (t := 72) (j := 1) (v := .int .i64 (v + sy)) rfl).later hb3
      rw [World.size_alloc] at D5 D6
      obtain ⟨D3a, D3b⟩ := D3
      obtain ⟨D4a, D4b⟩ := D4
      obtain ⟨D5a, D5b⟩ := D5
      obtain ⟨D6a, D6b⟩ := D6
      clear C3a C3b C4a C4b C5a C5b C6a C6b hb3
      go_wp2_with fail
      have F : Below wr.heap.size wr w3 := ((HB2.out.alloc HB2.out.size (.cells #[.int .i64 ex, .int .i64 ey] 72)).alloc (by have := HB2.out.size; simp; omega) (.cells #[.int .i64 (u + sx), .int .i64 (v + sy)] 72)).trans (HB3.out.mono (by have := HB2.out.size; simp; omega))
      have g1 := (F.block _ (show w.heap.size + 1 < wr.heap.size by omega)).trans HQ.out
      have g2 := (F.block _ z2).trans HR.out
      have g3 := heap_setCell_same w3 _ 0 _ _ (.int .i64 (u + sx)) g2
      have g4 := heap_setCell_same _ _ 1 _ _ (.int .i64 (v + sy)) g3
      refine ⟨⟨k + 1, u + sx, v + sy, by omega, by go_num, ((hb.trans (F.mono (by omega))).setCell (by simp; omega) _).setCell (by simp; omega) _, ?_, g4, ?_, ?_⟩, by simp [intOf]; omega⟩
      · rw [Below.heap_setCell _ _ _ _ (by simp), Below.heap_setCell _ _ _ _ (by simp)]
        exact g1
      · rw [HX.out, HU.out]; omega
      · rw [HY.out, HV.out]; omega
    · obtain rfl : k = 4 := by omega
      obtain ⟨q1, q2⟩ := sum_four hx
      obtain rfl : u = qx := by rw [HU.out, q1]; omega
      obtain rfl : v = qy := by rw [HV.out, q2]; omega
      clear HU HV q1 q2
      go_wp2_with fail
      refine (wakes_any _).mono ?_
      rintro e w1 ⟨rfl, hb1⟩
      have e1 := cell_later hb1 c1
      have e2 := cell_later hb1 c2
      have e3 := cell_later hb1 c3
      have e4 := cell_later hb1 c4
      go_wp2_with fail
      go_ret
      exact ⟨ret_bool (by simp), hb.trans (hb1.mono (by omega))⟩
end Go.Proofs.Ytbagccjmccehoaa
