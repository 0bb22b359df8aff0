/- muntinref25.Same: two drawings are the same. -/
import Derived.Test.YtkpgjgmlhcipeaaDoorPgA
namespace Go.Proofs.YtkpgjgmlhcipeaaDoor
open Go.RowKit
theorem take_step {α : Type} {a b : List α} {i : Nat} {x : α} (h : a.take i = b.take i) (hx : a[i]? = some x) (hy : b[i]? = some x) : a.take (i + 1) = b.take (i + 1) := by
  rw [List.take_add_one, List.take_add_one, h, hx, hy]
theorem take_diff {α : Type} {a b : List α} {i : Nat} {x y : α} (hx : a[i]? = some x) (hy : b[i]? = some y) (h : x ≠ y) : a ≠ b := by
  rintro rfl
  rw [hx] at hy
  exact h (by simpa using hy)
theorem take_all {α : Type} {a b : List α} {n : Nat} (h : a.take n = b.take n) (ha : a.length = n) (hb : b.length = n) : a = b := by
  rwa [List.take_of_length_le (by omega), List.take_of_length_le (by omega)] at h
theorem dec_no {p : Prop} [Decidable p] (h : ¬p) : Value.bool false = .bool (decide p) := by simp [h]
set_option maxRecDepth 100000 in
set_option maxHeartbeats 4000000 in
theorem same_any {w : World} {B1 R1 B2 R2 : Value} {D1 D2 : Dr} (h1 : Drw w B1 R1 D1) (h2 : Drw w B2 R2 D2) (hb : D1.1.length ≤ 1000000000) (hr : D1.2.length ≤ 1000000000) (hp : ∀ r ∈ D1.2, r.2.length ≤ 1000000000) :
    Calls Tryd.prog 29 #[.agg #[B1, R1], .agg #[B2, R2]] w fun e w' => e = .returned (.bool (decide (D1 = D2))) ∧ Below w.heap.size w w' := by
  obtain ⟨bs1, rs1⟩ := D1
  obtain ⟨bs2, rs2⟩ := D2
  obtain ⟨hB1, M1, hR1, hP1⟩ := h1
  obtain ⟨hB2, M2, hR2, hP2⟩ := h2
  obtain ⟨AB1, cB1, rfl, -, -, hb1⟩ := hB1.at_
  obtain ⟨AB2, cB2, rfl, -, -, hb2⟩ := hB2.at_
  obtain ⟨AR1, cR1, rfl, -, -, hr1⟩ := hR1.at_
  obtain ⟨AR2, cR2, rfl, -, -, hr2⟩ := hR2.at_
  have hm1 := hP1.1
  have hm2 := hP2.1
  simp only at hB1 hB2 hP1 hP2 hb hr hp hb1 hb2 hm1 hm2
  rw [hm1] at hr1 ⊢
  rw [hm2] at hr2 ⊢
  obtain ⟨n1, hn1⟩ : ∃ n, bs1.length = n := ⟨_, rfl⟩
  obtain ⟨n2, hn2⟩ : ∃ n, bs2.length = n := ⟨_, rfl⟩
  obtain ⟨k1, hk1⟩ : ∃ n, rs1.length = n := ⟨_, rfl⟩
  obtain ⟨k2, hk2⟩ : ∃ n, rs2.length = n := ⟨_, rfl⟩
  simp only [hn1, hn2, hk1, hk2] at hb hr hb1 hb2 hr1 hr2 ⊢
  have HB1 := Lib.hid hb1
  have HB2 := Lib.hid hb2
  have HR1 := Lib.hid hr1
  have HR2 := Lib.hid hr2
  have HP1 := Lib.hid hP1
  have HP2 := Lib.hid hP2
  have HPL := Lib.hid hp
  clear hB1 hB2 hR1 hR2 hP1 hP2 hb1 hb2 hr1 hr2 hm1 hm2 hp
  have HN1 := Lib.hid hn1
  have HN2 := Lib.hid hn2
  have HK1 := Lib.hid hk1
  have HK2 := Lib.hid hk2
  clear hn1 hn2 hk1 hk2
  go_enter Tryd.func29, Tryd.ntmps29
  by_cases hnn : n1 = n2
  case neg =>
    have HE : Hid (¬((bs1, rs1) : Dr) = (bs2, rs2)) := Lib.hid (fun e => hnn (by cases e; exact HN1.out.symm.trans HN2.out))
    have hx : ((n1 : Int) != (n2 : Int)) = true := by simp; omega
    clear hnn
    go_wp2_with fail
    go_ret
    exact ⟨ret_bool (by simpa using HE.out), ((Below.refl _ _).alloc (Nat.le_refl _) _).alloc (by simp) _⟩
  case pos =>
    subst hnn
    have hx : ((n1 : Int) != (n1 : Int)) = false := by simp
    by_cases hkk : k1 = k2
    case neg =>
      have HE : Hid (¬((bs1, rs1) : Dr) = (bs2, rs2)) := Lib.hid (fun e => hkk (by cases e; exact HK1.out.symm.trans HK2.out))
      have hx : ((k1 : Int) != (k2 : Int)) = true := by simp; omega
      clear hkk
      go_wp2_with fail
      go_ret
      exact ⟨ret_bool (by simpa using HE.out), ((Below.refl _ _).alloc (Nat.le_refl _) _).alloc (by simp) _⟩
    case pos =>
      subst hkk
      have hx2 : ((k1 : Int) != (k1 : Int)) = false := by simp
      go_wp2_with fail
      obtain ⟨w1, hw1⟩ : ∃ q, q = ((w.alloc (.cells #[.slice AB1 n1 cB1, .slice AR1 k1 cR1] 45)).alloc (.cells #[.slice AB2 n1 cB2, .slice AR2 k1 cR2] 45)) := ⟨_, rfl⟩
      rw [← hw1]
      have HW1 : Hid (Below w.heap.size w w1) := Lib.hid (by rw [hw1]; exact ((Below.refl _ _).alloc (Nat.le_refl _) _).alloc (by simp) _)
      have g1 : w1.heap[w.heap.size]? = some (.cells #[.slice AB1 n1 cB1, .slice AR1 k1 cR1] 45) := by rw [hw1]; exact (((Below.refl _ _).alloc (Nat.le_refl _) _).block _ (by simp)).trans (heap_at rfl)
      have g2 : w1.heap[w.heap.size + 1]? = some (.cells #[.slice AB2 n1 cB2, .slice AR2 k1 cR2] 45) := by rw [hw1]; exact heap_at (by simp)
      have HG1 := Lib.hid g1
      have HG2 := Lib.hid g2
      have a0 := (Cl.of_block g1 (j := 0) rfl).cell
      have a1 := (Cl.of_block g1 (j := 1) rfl).cell
      have b0 := (Cl.of_block g2 (j := 0) rfl).cell
      have b1 := (Cl.of_block g2 (j := 1) rfl).cell
      clear hw1 g1 g2
      go_loopw [5] (fun qi wr => ∃ i : Nat, i ≤ n1 ∧ qi = .int .i64 i ∧ Hid (bs1.take i = bs2.take i) ∧ Below w1.heap.size w1 wr) (fun q _ => n1 - (intOf q).toNat)
      case atStart => exact ⟨0, by omega, rfl, Lib.hid rfl, Below.refl _ _⟩
      case round =>
        obtain ⟨i, hi, rfl, HT, Bw⟩ := hrel
        have HBw := Lib.hid Bw
        have HWx := Lib.hid (below_then HW1.out HW1.out.size Bw)
        have a0 := cell_later Bw a0
        have a1 := cell_later Bw a1
        have b0 := cell_later Bw b0
        have b1 := cell_later Bw b1
        clear Bw
        by_cases hin : i < n1
        · obtain ⟨p1, o1, rfl, hc1⟩ := HB1.out (by omega)
          obtain ⟨p2, o2, rfl, hc2⟩ := HB2.out (by omega)
          have X1 := Lib.hid (List.getElem?_eq_getElem (l := bs1) (i := i) (by rw [HN1.out]; exact hin))
          have X2 := Lib.hid (List.getElem?_eq_getElem (l := bs2) (i := i) (by rw [HN2.out]; exact hin))
          have c1 := hc1 i _ X1.out
          have c2 := hc2 i _ X2.out
          have hlt1 : i < bs1.length := by rw [HN1.out]; exact hin
          generalize bs1[i]'hlt1 = y1 at *
          have hlt2 : i < bs2.length := by rw [HN2.out]; exact hin
          generalize bs2[i]'hlt2 = y2 at *
          clear hlt1 hlt2
          obtain ⟨⟨s1, s2⟩, s3, s4⟩ := y1
          obtain ⟨⟨t1, t2⟩, t3, t4⟩ := y2
          obtain ⟨u1, u2, u3, u4⟩ := c1
          obtain ⟨v1, v2, v3, v4⟩ := c2
          have d1 := cell_later HWx.out u1
          have d2 := cell_later HWx.out u2
          have d3 := cell_later HWx.out u3
          have d4 := cell_later HWx.out u4
          have f1 := cell_later HWx.out v1
          have f2 := cell_later HWx.out v2
          have f3 := cell_later HWx.out v3
          have f4 := cell_later HWx.out v4
          have hd : decide ((i : Int) < (n1 : Int)) = true := by simp only [decide_eq_true_eq]; omega
          have hi0 : (0 : Int) ≤ (i : Int) := by omega
          have hi1 : (i : Int) < (n1 : Int) := by omega
          have HD := Lib.hid (take_diff X1.out X2.out)
          clear u1 u2 u3 u4 v1 v2 v3 v4 hc1 hc2
          by_cases z1 : s1 = t1
          case pos =>
            by_cases z2 : s2 = t2
            case pos =>
              by_cases z3 : s3 = t3
              case pos =>
                by_cases z4 : s4 = t4
                case pos =>
                  subst z1 z2 z3 z4
                  have HS := Lib.hid (take_step HT.out X1.out X2.out)
                  go_upto_region 6 with fail
                  go_quiet (fail)
                  go_wp2_with fail
                  exact ⟨⟨i + 1, by omega, by go_num, HS, below_then HBw.out HBw.out.size (below_drewN _ _)⟩, by simp [intOf]; omega⟩
                case neg =>
                  have HE : Hid (¬((bs1, rs1) : Dr) = (bs2, rs2)) := Lib.hid (fun e => HD.out (fun h => z4 (by cases h; rfl)) (by cases e; rfl))
                  subst z1 z2 z3
                  go_upto_region 6 with fail
                  go_quiet (fail)
                  go_wp2_with fail
                  go_ret
                  exact ⟨ret_bool (by simpa using HE.out), below_then HWx.out HWx.out.size (below_drewN _ _)⟩
              case neg =>
                have HE : Hid (¬((bs1, rs1) : Dr) = (bs2, rs2)) := Lib.hid (fun e => HD.out (fun h => z3 (by cases h; rfl)) (by cases e; rfl))
                subst z1 z2
                go_upto_region 6 with fail
                go_quiet (fail)
                go_wp2_with fail
                go_ret
                exact ⟨ret_bool (by simpa using HE.out), below_then HWx.out HWx.out.size (below_drewN _ _)⟩
            case neg =>
              have HE : Hid (¬((bs1, rs1) : Dr) = (bs2, rs2)) := Lib.hid (fun e => HD.out (fun h => z2 (by cases h; rfl)) (by cases e; rfl))
              subst z1
              go_upto_region 6 with fail
              go_quiet (fail)
              go_wp2_with fail
              go_ret
              exact ⟨ret_bool (by simpa using HE.out), below_then HWx.out HWx.out.size (below_drewN _ _)⟩
          case neg =>
            have HE : Hid (¬((bs1, rs1) : Dr) = (bs2, rs2)) := Lib.hid (fun e => HD.out (fun h => z1 (by cases h; rfl)) (by cases e; rfl))
            go_upto_region 6 with fail
            go_quiet (fail)
            go_wp2_with fail
            go_ret
            exact ⟨ret_bool (by simpa using HE.out), below_then HWx.out HWx.out.size (below_drewN _ _)⟩
        · have e : i = n1 := by omega
          subst e
          have hd : decide ((i : Int) < (i : Int)) = false := by simp
          have HBS := Lib.hid (take_all HT.out HN1.out HN2.out)
          clear HB1 HB2 HT hin
          go_wp2_with fail
          obtain ⟨wy, rfl⟩ : ∃ q : World, q = wr := ⟨_, rfl⟩
          go_loopw [6] (fun qi wr => ∃ j : Nat, j ≤ k1 ∧ qi = .int .i64 j ∧ Hid (rs1.take j = rs2.take j) ∧ Below wy.heap.size wy wr) (fun q _ => k1 - (intOf q).toNat)
          case atStart => exact ⟨0, by omega, rfl, Lib.hid rfl, Below.refl _ _⟩
          case round =>
            obtain ⟨j, hj, rfl, HT, Bw⟩ := hrel
            have HBw := Lib.hid Bw
            have HBW := Lib.hid (below_then HWx.out HWx.out.size Bw)
            have a1 := cell_later Bw a1
            have b1 := cell_later Bw b1
            clear Bw
            by_cases hjk : j < k1
            · obtain ⟨p1, o1, rfl, hc1⟩ := HR1.out (by omega)
              obtain ⟨p2, o2, rfl, hc2⟩ := HR2.out (by omega)
              have hlt1 : j < rs1.length := by rw [HK1.out]; exact hjk
              have hlt2 : j < rs2.length := by rw [HK2.out]; exact hjk
              obtain ⟨V1, hM1, hV1⟩ := HP1.out.at_ hlt1
              obtain ⟨V2, hM2, hV2⟩ := HP2.out.at_ hlt2
              have X1 := Lib.hid (List.getElem?_eq_getElem (l := rs1) (i := j) hlt1)
              have X2 := Lib.hid (List.getElem?_eq_getElem (l := rs2) (i := j) hlt2)
              have hpl := HPL.out _ (List.getElem_mem hlt1)
              have c1 := hc1 j _ hM1
              have c2 := hc2 j _ hM2
              generalize rs1[j]'hlt1 = y1 at *
              generalize rs2[j]'hlt2 = y2 at *
              clear hlt1 hlt2
              obtain ⟨⟨s1, s2⟩, ps1⟩ := y1
              obtain ⟨⟨t1, t2⟩, ps2⟩ := y2
              obtain ⟨A1, e1, rfl, -, -, hq1⟩ := hV1.at_
              obtain ⟨A2, e2, rfl, -, -, hq2⟩ := hV2.at_
              obtain ⟨u1, u2, u3⟩ := c1
              obtain ⟨v1, v2, v3⟩ := c2
              have d1 := cell_later HBW.out u1
              have d2 := cell_later HBW.out u2
              have d3 := cell_later HBW.out u3
              have f1 := cell_later HBW.out v1
              have f2 := cell_later HBW.out v2
              have f3 := cell_later HBW.out v3
              simp only at hpl hq1 hq2 d1 d2 d3 f1 f2 f3
              obtain ⟨m1, hm1⟩ : ∃ n, ps1.length = n := ⟨_, rfl⟩
              obtain ⟨m2, hm2⟩ : ∃ n, ps2.length = n := ⟨_, rfl⟩
              rw [hm1] at hpl hq1 d3
              rw [hm2] at hq2 f3
              have HM1 := Lib.hid hm1
              have HM2 := Lib.hid hm2
              have Q1 := Lib.hid hq1
              have Q2 := Lib.hid hq2
              have HD := Lib.hid (take_diff X1.out X2.out)
              have hd : decide ((j : Int) < (k1 : Int)) = true := by simp only [decide_eq_true_eq]; omega
              have hi0 : (0 : Int) ≤ (j : Int) := by omega
              have hi1 : (j : Int) < (k1 : Int) := by omega
              clear u1 u2 u3 v1 v2 v3 hc1 hc2 hV1 hV2 hM1 hM2 hm1 hm2 hq1 hq2 hx hx2
              have BX : Below w.heap.size w ((wr.alloc (.cells #[.int .i64 s1, .int .i64 s2, .slice A1 m1 e1] 78)).alloc (.cells #[.int .i64 t1, .int .i64 t2, .slice A2 m2 e2] 78)) := (HBW.out.alloc HBW.out.size _).alloc (by have := HBW.out.size; simp; omega) _
              have HBX := Lib.hid BX
              have bA : Below wr.heap.size wr (wr.alloc (.cells #[.int .i64 s1, .int .i64 s2, .slice A1 m1 e1] 78)) := (Below.refl _ _).alloc (Nat.le_refl _) _
              have b1q := cell_later bA b1
              have f1 := cell_later bA f1
              have f2 := cell_later bA f2
              have f3 := cell_later bA f3
              clear BX bA
              by_cases z1 : s1 = t1
              case neg =>
                have HE : Hid (¬((bs1, rs1) : Dr) = (bs2, rs2)) := Lib.hid (fun e => HD.out (fun h => z1 (by cases h; rfl)) (by cases e; rfl))
                have hz : (s1 != t1) = true := by simpa using z1
                go_wp2_with fail
                go_ret
                exact ⟨ret_bool (by simpa using HE.out), HBX.out⟩
              case pos =>
                have hz : (s1 != t1) = false := by simpa using z1
                by_cases z2 : s2 = t2
                case neg =>
                  have HE : Hid (¬((bs1, rs1) : Dr) = (bs2, rs2)) := Lib.hid (fun e => HD.out (fun h => z2 (by cases h; rfl)) (by cases e; rfl))
                  have hz : (s2 != t2) = true := by simpa using z2
                  clear z1
                  go_wp2_with fail
                  go_ret
                  exact ⟨ret_bool (by simpa using HE.out), HBX.out⟩
                case pos =>
                  have hz2 : (s2 != t2) = false := by simpa using z2
                  by_cases z3 : m1 = m2
                  case neg =>
                    have HE : Hid (¬((bs1, rs1) : Dr) = (bs2, rs2)) := Lib.hid (fun e => HD.out (fun h => z3 (by rw [← HM1.out, ← HM2.out]; cases h; rfl)) (by cases e; rfl))
                    have hz : ((m1 : Int) != (m2 : Int)) = true := by simp; omega
                    clear z1 z2
                    go_wp2_with fail
                    go_ret
                    exact ⟨ret_bool (by simpa using HE.out), HBX.out⟩
                  case pos =>
                    subst z1 z2 z3
                    have hz3 : ((m1 : Int) != (m1 : Int)) = false := by simp
                    go_wp2_with fail
                    obtain ⟨wq, hwq⟩ : ∃ q, q = ((wr.alloc (.cells #[.int .i64 s1, .int .i64 s2, .slice A1 m1 e1] 78)).alloc (.cells #[.int .i64 s1, .int .i64 s2, .slice A2 m1 e2] 78)) := ⟨_, rfl⟩
                    rw [← hwq]
                    have bq : Below wr.heap.size wr wq := by rw [hwq]; exact ((Below.refl _ _).alloc (Nat.le_refl _) _).alloc (by simp) _
                    have g1 : wq.heap[wr.heap.size]? = some (.cells #[.int .i64 s1, .int .i64 s2, .slice A1 m1 e1] 78) := by rw [hwq]; exact (((Below.refl _ _).alloc (Nat.le_refl _) _).block _ (by simp)).trans (heap_at rfl)
                    have g2 : wq.heap[wr.heap.size + 1]? = some (.cells #[.int .i64 s1, .int .i64 s2, .slice A2 m1 e2] 78) := by rw [hwq]; exact heap_at (by simp)
                    have l1 := (Cl.of_block g1 (j := 2) rfl).cell
                    have l2 := (Cl.of_block g2 (j := 2) rfl).cell
                    have HBq := Lib.hid (below_then HBw.out HBw.out.size bq)
                    have HWq := Lib.hid (below_then HBW.out HBW.out.size bq)
                    have HQ := Lib.hid bq
                    clear g1 g2 hwq bq HBX d1 d2 d3 f1 f2 f3
                    go_loopw [9] (fun qk ws => ∃ k : Nat, k ≤ m1 ∧ qk = .int .i64 k ∧ Hid (ps1.take k = ps2.take k) ∧ Below wq.heap.size wq ws) (fun q _ => m1 - (intOf q).toNat)
                    case atStart => exact ⟨0, by omega, rfl, Lib.hid rfl, Below.refl _ _⟩
                    case round =>
                      obtain ⟨k, hk, rfl, HTk, Bx⟩ := hrel
                      obtain ⟨wv, rfl⟩ : ∃ q : World, q = wr := ⟨_, rfl⟩
                      have HBx := Lib.hid (below_then HBq.out HBq.out.size Bx)
                      have HBz := Lib.hid Bx
                      have HWz := Lib.hid (below_then HWq.out HWq.out.size Bx)
                      have l1 := cell_later Bx l1
                      have l2 := cell_later Bx l2
                      have a1 := cell_later (below_then HQ.out HQ.out.size Bx) a1
                      have b1 := cell_later (below_then HQ.out HQ.out.size Bx) b1
                      clear Bx
                      by_cases hkm : k < m1
                      · obtain ⟨p3, o3, rfl, hc3⟩ := Q1.out (by omega)
                        obtain ⟨p4, o4, rfl, hc4⟩ := Q2.out (by omega)
                        have hlt3 : k < ps1.length := by rw [HM1.out]; exact hkm
                        have hlt4 : k < ps2.length := by rw [HM2.out]; exact hkm
                        have X3 := Lib.hid (List.getElem?_eq_getElem (l := ps1) (i := k) hlt3)
                        have X4 := Lib.hid (List.getElem?_eq_getElem (l := ps2) (i := k) hlt4)
                        have c3 := hc3 k _ X3.out
                        have c4 := hc4 k _ X4.out
                        generalize ps1[k]'hlt3 = y3 at *
                        generalize ps2[k]'hlt4 = y4 at *
                        clear hlt3 hlt4
                        obtain ⟨x1, x2⟩ := y3
                        obtain ⟨x3, x4⟩ := y4
                        have d1 := cell_later HWz.out c3.1
                        have d2 := cell_later HWz.out c3.2
                        have f1 := cell_later HWz.out c4.1
                        have f2 := cell_later HWz.out c4.2
                        have HD2 := Lib.hid (take_diff X3.out X4.out)
                        have hdk : decide ((k : Int) < (m1 : Int)) = true := by simp only [decide_eq_true_eq]; omega
                        have hk0 : (0 : Int) ≤ (k : Int) := by omega
                        have hk1 : (k : Int) < (m1 : Int) := by omega
                        clear hc3 hc4 c3 c4
                        by_cases z1 : x1 = x3
                        case neg =>
                          have HE : Hid (¬((bs1, rs1) : Dr) = (bs2, rs2)) := Lib.hid (fun e => HD.out (fun h => HD2.out (fun h => z1 (by cases h; rfl)) (by cases h; rfl)) (by cases e; rfl))
                          go_upto_region 18 with fail
                          go_quiet (fail)
                          go_wp2_with fail
                          go_ret
                          exact ⟨ret_bool (by simpa using HE.out), below_then HWz.out HWz.out.size (below_drewN _ _)⟩
                        case pos =>
                          by_cases z2 : x2 = x4
                          case neg =>
                            have HE : Hid (¬((bs1, rs1) : Dr) = (bs2, rs2)) := Lib.hid (fun e => HD.out (fun h => HD2.out (fun h => z2 (by cases h; rfl)) (by cases h; rfl)) (by cases e; rfl))
                            subst z1
                            go_upto_region 18 with fail
                            go_quiet (fail)
                            go_wp2_with fail
                            go_ret
                            exact ⟨ret_bool (by simpa using HE.out), below_then HWz.out HWz.out.size (below_drewN _ _)⟩
                          case pos =>
                            subst z1 z2
                            have HS := Lib.hid (take_step HTk.out X3.out X4.out)
                            go_upto_region 18 with fail
                            go_quiet (fail)
                            go_wp2_with fail
                            exact ⟨⟨k + 1, by omega, by go_num, HS, below_then HBz.out HBz.out.size (below_drewN _ _)⟩, by simp [intOf]; omega⟩
                      · have e : k = m1 := by omega
                        subst e
                        have hdk : decide ((k : Int) < (k : Int)) = false := by simp
                        have hps := take_all HTk.out HM1.out HM2.out
                        have HS : Hid (rs1.take (j + 1) = rs2.take (j + 1)) := Lib.hid (take_step HT.out X1.out (by rw [hps]; exact X2.out))
                        clear hps
                        go_wp2_with fail
                        go_roundw
                        case rel => exact ⟨j + 1, by omega, by go_num, HS, HBx.out⟩
                        case measure => simp [intOf]; omega
            · have e : j = k1 := by omega
              subst e
              have hd2 : decide ((j : Int) < (j : Int)) = false := by simp
              have hrs := take_all HT.out HK1.out HK2.out
              have HE : Hid (((bs1, rs1) : Dr) = (bs2, rs2)) := Lib.hid (by rw [HBS.out, hrs])
              clear hrs
              go_wp2_with fail
              go_ret
              exact ⟨ret_bool (by simpa using HE.out), HBW.out⟩
end Go.Proofs.YtkpgjgmlhcipeaaDoor
