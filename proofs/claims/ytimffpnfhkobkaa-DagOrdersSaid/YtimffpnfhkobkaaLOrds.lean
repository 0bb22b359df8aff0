/- DagOrders: whether any graph may be, is a dag, and the order of its nodes, is the document's answer. -/
import Derived.Test.YtimffpnfhkobkaaRaw
namespace Go.Proofs.Ytimffpnfhkobkaa
open Go.RowKit
set_option maxRecDepth 100000 in
set_option maxHeartbeats 4000000 in
theorem orders_core {w : World} {V : Value} {L0 : List Arc} (n : Int) (hn : -9223372036854775808 ≤ n ∧ n ≤ 9223372036854775807) (h0 : Arcs w V L0) (hl0 : L0.length ≤ 5864062014634) :
    Calls Try.prog 3 #[.int .i64 n, V] w fun e w' => e = .returned (.bool true) ∧ Below w.heap.size w w' := by
  obtain ⟨m, hm, hm20, hme⟩ : ∃ m, m ≤ L0.length ∧ m ≤ 20 ∧ min (L0.length : Int) 20 = (m : Nat) := ⟨min L0.length 20, by omega, by omega, by omega⟩
  obtain ⟨AX, cpX, rfl, hcp, hnil, -⟩ := h0.at_
  obtain ⟨L, hLL⟩ : ∃ L, L0.take m = L := ⟨_, rfl⟩
  have h := Sl.take h0 rfl m hm
  rw [hLL] at h
  have hLl : L.length = m := by rw [← hLL, List.length_take]; omega
  have HH := Lib.hid h
  have HLl := Lib.hid hLl
  obtain ⟨b, hb, hb0⟩ : ∃ b, max 0 n = b ∧ 0 ≤ b := ⟨_, rfl, by omega⟩
  obtain ⟨s, hs, hs0, hs1⟩ : ∃ s, b % 12 = s ∧ 0 ≤ s ∧ s < 12 := ⟨_, rfl, by omega, by omega⟩
  obtain ⟨k, hk⟩ : ∃ k, n.tmod 200 = k := ⟨_, rfl⟩
  clear h h0 hLL hLl
  go_enter Try.func3, Try.ntmps3
  go_wp2_with fail
  refine (raw_any s hs0 (by omega) HH.out (by have := HLl.out; omega)).mono ?_
  rintro e w1 ⟨V1, rfl, I1, B1⟩
  obtain ⟨A1, cap1, rfl, -, -, -⟩ := Arcs.at_ I1
  obtain ⟨M, hM⟩ : ∃ M, rawL s L = M := ⟨_, rfl⟩
  rw [hM] at I1 ⊢
  clear hM
  obtain ⟨w2, hw2⟩ : ∃ w2, w1.alloc (.cells #[.int .i64 k, .slice AX m cpX, .int .i64 s, .slice A1 M.length cap1] 23) = w2 := ⟨_, rfl⟩
  have b12 : Below w1.heap.size w1 w2 := by rw [← hw2]; exact (Below.refl _ _).alloc (Nat.le_refl _) _
  have hG : w2.heap[w1.heap.size]? = some (.cells #[.int .i64 k, .slice AX m cpX, .int .i64 s, .slice A1 M.length cap1] 23) := by rw [← hw2]; exact heap_at rfl
  have hs2 : w1.heap.size < w2.heap.size := by rw [← hw2]; simp
  have HB2 := Lib.hid (below_then B1 B1.size b12)
  have hA0 := ((HH.out.later B1).later b12)
  have hA1 := I1.later b12
  have KEY : Hid (∀ i, i < 2 → ∃ (q : Int) (A : Option Addr) (c l : Nat) (Q : List Arc), Arcs w2 (.slice A l c) Q ∧ w2.cell? ⟨w1.heap.size, i * 2, none⟩ = some (.int .i64 q) ∧ w2.cell? ⟨w1.heap.size, i * 2 + 1, none⟩ = some (.slice A l c)) := Lib.hid (by
    intro i hi
    have : i = 0 ∨ i = 1 := by omega
    rcases this with rfl | rfl
    · exact ⟨k, AX, cpX, m, L, hA0, (Cl.of_block hG (j := 0) rfl).cell, (Cl.of_block hG (j := 1) rfl).cell⟩
    · exact ⟨s, A1, cap1, M.length, M, hA1, (Cl.of_block hG (j := 2) rfl).cell, (Cl.of_block hG (j := 3) rfl).cell⟩)
  clear I1 B1 b12 hG hA0 hA1
  go_wp2_with fail
  clear hw2
  go_loopw [31] (fun q wr => ∃ i : Nat, i ≤ 2 ∧ q = .int .i64 i ∧ Below w2.heap.size w2 wr) (fun q _ => 2 - (intOf q).toNat)
  case atStart => exact ⟨0, by omega, rfl, Below.refl _ _⟩
  case round => as_aux_lemma =>
    obtain ⟨i, hi, rfl, B⟩ := hrel
    obtain ⟨wo, rfl⟩ : ∃ x : World, x = wr := ⟨_, rfl⟩
    have HB := Lib.hid B
    clear B
    by_cases hi2 : i < 2
    · have hd : decide ((i : Int) < 2) = true := by simp; omega
      obtain ⟨q, A, c, l, Q, hQ, c0, c1⟩ := KEY.out i hi2
      have c0 := cell_later HB.out c0
      have c1 := cell_later HB.out c1
      obtain ⟨wA, hwA⟩ : ∃ wA, wo.alloc (.cells #[.int .i64 q, .slice A l c] 23) = wA := ⟨_, rfl⟩
      have bA : Below wo.heap.size wo wA := by rw [← hwA]; exact (Below.refl _ _).alloc (Nat.le_refl _) _
      have hG : wA.heap[wo.heap.size]? = some (.cells #[.int .i64 q, .slice A l c] 23) := by rw [← hwA]; exact heap_at rfl
      have HA := Lib.hid ((hQ.later HB.out).later bA)
      have HG := Lib.hid hG
      have HBA := Lib.hid (HB.out.trans (bA.mono HB.out.size))
      have i1 : (0 : Int) ≤ (i : Int) := by omega
      have i2 : (i : Int) < 2 := by omega
      have a0 : wA.cell? ⟨wo.heap.size, 0, none⟩ = some (.int .i64 q) := (Cl.of_block hG (j := 0) rfl).cell
      have a1 : wA.cell? ⟨wo.heap.size, 1, none⟩ = some (.slice A l c) := (Cl.of_block hG (j := 1) rfl).cell
      clear hG bA hQ
      go_wp2_with fail
      clear hwA
      refine (order_any q HA.out).mono ?_
      rintro e w3 ⟨V3, rfl, B3, R3⟩
      have HA3 := Lib.hid (HA.out.later B3)
      have hG3 := block_later B3 HG.out
      have HG3 := Lib.hid hG3
      have HB3 := Lib.hid (HBA.out.trans (B3.mono HBA.out.size))
      have HI3 := Lib.hid (Ints.of_ord R3)
      have d0 : w3.cell? ⟨wo.heap.size, 0, none⟩ = some (.int .i64 q) := (Cl.of_block hG3 (j := 0) rfl).cell
      have d1 : w3.cell? ⟨wo.heap.size, 1, none⟩ = some (.slice A l c) := (Cl.of_block hG3 (j := 1) rfl).cell
      obtain ⟨A3, c3, rfl, -⟩ := own_shape R3
      clear B3 R3 hG3 a0 a1 c0 c1
      obtain ⟨oe, hoe⟩ : ∃ oe, ordE q Q = oe := ⟨_, rfl⟩
      have HOE := Lib.hid hoe
      rw [hoe]
      clear hoe
      go_wp2_with fail
      refine (refOrder_any q HA3.out).mono ?_
      rintro e w4 ⟨V4, rfl, B4, R4⟩
      have HA4 := Lib.hid (HA3.out.later B4)
      have hG4 := block_later B4 HG3.out
      have HG4 := Lib.hid hG4
      have HB4 := Lib.hid (HB3.out.trans (B4.mono HB3.out.size))
      have HI4 := Lib.hid (Ints.of_ord R4)
      have HI3 := Lib.hid (HI3.out.later B4)
      obtain ⟨A4, c4, rfl, -⟩ := own_shape R4
      rw [HOE.out]
      clear B4 R4 hG4 d0 d1
      go_wp2_with fail
      have hol : (ordR q Q).length ≤ 1000000000000000 := by
        unfold ordR
        split
        · rename_i h0
          obtain ⟨mm, rfl, hm4, _, _⟩ := right_gr (ordE_right h0)
          have := Tk.len (ordL_tk (gOf Q) (mm : Int).toNat)
          simp at this
          simp
          omega
        · simp
      refine (equalI_any HI3.out HI4.out (by rw [List.length_map]; exact hol)).mono ?_
      rw [show decide ((ordR q Q).map (fun x : Nat => (x : Int)) = (ordR q Q).map (fun x : Nat => (x : Int))) = true by simp]
      rintro e w5 ⟨rfl, B5⟩
      have HA5 := Lib.hid (HA4.out.later B5)
      have hG5 := block_later B5 HG4.out
      have HB5 := Lib.hid (HB4.out.trans (B5.mono HB4.out.size))
      have d0 : w5.cell? ⟨wo.heap.size, 0, none⟩ = some (.int .i64 q) := (Cl.of_block hG5 (j := 0) rfl).cell
      have d1 : w5.cell? ⟨wo.heap.size, 1, none⟩ = some (.slice A l c) := (Cl.of_block hG5 (j := 1) rfl).cell
      clear B5 hG5 hol
      go_wp2_with fail
      refine (check_any q HA5.out).mono ?_
      rintro e w6 ⟨rfl, B6⟩
      have HB6 := Lib.hid (HB5.out.trans (B6.mono HB5.out.size))
      rw [HOE.out]
      clear B6 d0 d1
      go_wp2_with fail
      exact ⟨⟨i + 1, by omega, by go_num, HB6.out⟩, by simp [intOf]; omega⟩
    · obtain rfl : i = 2 := by omega
      go_wp2_with fail
      refine (dwakes_any _).mono ?_
      rintro e w5 ⟨rfl, B5⟩
      have HB5 := Lib.hid (below_then HB2.out HB2.out.size (HB.out.trans (B5.mono HB.out.size)))
      clear B5
      go_wp2_with fail
      go_ret
      exact ⟨rfl, HB5.out⟩
end Go.Proofs.Ytimffpnfhkobkaa
