/- muntinref28.one: a drawing with a line more, the document's way. -/
import Derived.Test.YtkpgjgmlhcipeaaDoorPgE
import Derived.Test.YtkpgjgmlhcipeaaDoorLexR
import Derived.Test.YtkpgjgmlhcipeaaDoorLexC
import Derived.Test.YtkpgjgmlhcipeaaDoorPgL
namespace Go.Proofs.YtkpgjgmlhcipeaaDoor
open Go.RowKit
/-- A drawing's rows, all of them the caller's own. -/
structure DrR (w : World) (base : Nat) (B R : Value) (M : List Mt) (D : Dr) : Prop where
  bx : w.ownsRow base 75 4 B D.1.length (flat encB D.1)
  rt : w.ownsRow base 78 3 R D.2.length (flat encM M)
  pc : PcsO w base M D.2
theorem DrO.rows {w : World} {base b : Nat} {B R : Value} {M : List Mt} {D : Dr} (h : DrO w base b B R M D) : DrR w base B R M D := ⟨h.bx, h.rt, h.pc⟩
theorem DrR.later {w w' : World} {base : Nat} {B R : Value} {M : List Mt} {D : Dr} (h : DrR w base B R M D) (k : Below w.heap.size w w') : DrR w' base B R M D := ⟨own_later h.bx k, own_later h.rt k, h.pc.later k⟩
theorem DrR.own {w : World} {base b : Nat} {B R : Value} {M : List Mt} {D : Dr} (h : DrR w base B R M D) (hc : w.heap[b]? = some (.cells #[B, R] 45)) (hb : base ≤ b) : DrO w base b B R M D := ⟨hc, hb, h.bx, h.rt, h.pc⟩
theorem DrR.drw {w : World} {base : Nat} {B R : Value} {M : List Mt} {D : Dr} (h : DrR w base B R M D) : Drw w B R D := by
  have h2 := h.rt
  rw [← h.pc.1] at h2
  exact ⟨Sl.of_own encB_length h.bx, M, Sl.of_own encM_length h2, h.pc.pcs⟩
theorem DrR.nil (w : World) (base : Nat) : DrR w base (.slice none 0 0) (.slice none 0 0) [] ([], []) := ⟨World.ownsRow_nil _ _ _ _, World.ownsRow_nil _ _ _ _, ⟨rfl, fun i m r h => by simp at h⟩⟩
theorem set_two {w : World} {b : Nat} {x y z v : Value} {t : TypeId} (h : w.heap[b]? = some (.cells #[x, y, z] t)) : (w.setCell ⟨b, 2, none⟩ v).heap[b]? = some (.cells #[x, y, v] t) := by
  obtain ⟨hlt, hk⟩ := Array.getElem?_eq_some_iff.1 h
  show (w.heap.modify b _)[b]? = _
  rw [Array.getElem?_eq_getElem (by rw [Array.size_modify]; exact hlt), Array.getElem_modify_self, hk]
  rfl
theorem numsO_step {r : List ByteArray} {i : Nat} {y : ByteArray} {ns : List Int} {v : Nat} (h : numsO (r.take i) = some ns) (hy : r[i]? = some y) (hv : numO y.data.toList 1000000 = some v) : numsO (r.take (i + 1)) = some (ns ++ [(v : Int)]) := by
  obtain ⟨hi, hy⟩ := List.getElem?_eq_some_iff.1 hy
  rw [List.take_succ_eq_append_getElem hi, hy, numsO_snoc, h, hv]
  rfl
theorem bytes_point {x : ByteArray} : (x.toList == [112, 111, 105, 110, 116]) = decide (x = bPoint) := by
  rw [← bytes_eq (x := x) (y := bPoint), ByteArray.toList_eq bPoint]
  rfl
theorem bytes_box' {x : ByteArray} : (x.toList == [98, 111, 120]) = decide (x = bBox) := by
  rw [← bytes_eq (x := x) (y := bBox), ByteArray.toList_eq bBox]
  rfl
theorem bytes_route' {x : ByteArray} : (x.toList == [114, 111, 117, 116, 101]) = decide (x = bRoute) := by
  rw [← bytes_eq (x := x) (y := bRoute), ByteArray.toList_eq bRoute]
  rfl
theorem DrR.set {w : World} {base q o : Nat} {B R v : Value} {M : List Mt} {D : Dr} {cs : Array Value} (h : DrR w base B R M D) (hq : w.heap[q]? = some (.cells cs 45)) : DrR (w.setCell ⟨q, o, none⟩ v) base B R M D := by
  have k : ∀ (E sz k : Nat) (V : Value) (xs : List Value), E ≠ 45 → w.ownsRow base E sz V k xs → (w.setCell ⟨q, o, none⟩ v).ownsRow base E sz V k xs := fun E sz k V xs hE hr => row_other hr (grown_set w q o v) (fun b' e => by cases e; exact ⟨_, _, hq, hE.symm⟩)
  exact ⟨k _ _ _ _ _ (by decide) h.bx, k _ _ _ _ _ (by decide) h.rt, h.pc.map (fun _ _ _ _ hr => k _ _ _ _ _ (by decide) hr)⟩
theorem refNumber_some {w : World} {s : ByteArray} {m : Nat} (h : numO s.data.toList 1000000 = some m) : Calls Tryd.prog 19 #[.string s, .int .i64 1000000] w fun e w' => e = .returned (.tuple #[.int .i64 (m : Int), .bool true]) ∧ Below w.heap.size w w' := by
  have := refNumber_any (w := w) s 1000000
  rw [h] at this
  exact this
theorem refNumber_none {w : World} {s : ByteArray} (h : numO s.data.toList 1000000 = none) : Calls Tryd.prog 19 #[.string s, .int .i64 1000000] w fun e w' => e = .returned (.tuple #[.int .i64 0, .bool false]) ∧ Below w.heap.size w w' := by
  have := refNumber_any (w := w) s 1000000
  rw [h] at this
  exact this
theorem right_cases {x : ByteArray} {n : Nat} (h : rightW x n = true) : (x = bPoint ∧ n = 2) ∨ (x = bBox ∧ n = 4) ∨ (x = bRoute ∧ n = 2 + 2 * ((n - 2) / 2)) := by
  unfold rightW at h
  simp only [Bool.or_eq_true, Bool.and_eq_true, decide_eq_true_eq] at h
  rcases h with (⟨h, h2⟩ | ⟨h, h2⟩) | ⟨⟨h, h2⟩, h3⟩
  · exact .inl ⟨h, h2⟩
  · exact .inr (.inl ⟨h, h2⟩)
  · exact .inr (.inr ⟨h, by omega⟩)
theorem oneP_many {D : Dr} {s : ByteArray} (h : (oneP D s).1 = 0) : manyD (oneP D s).2 = false := by
  unfold oneP at h ⊢
  split at h
  · rename_i h0
    rw [if_pos h0]
    exact addP_ok (D := D) (w := (rdP s).2.1) (ns := (rdP s).2.2) (by rw [← h])
  · rename_i h0
    exact absurd h h0
def F3 (g bL oL p : Nat) (V : Value) (x y : Int) (w : World) : Prop := w.cell? ⟨g, 2, none⟩ = some V ∧ w.cell? ⟨bL, oL + p, none⟩ = some (.int .i64 x) ∧ w.cell? ⟨bL, oL + (p + 1), none⟩ = some (.int .i64 y)
theorem F3.later {g bL oL p : Nat} {V : Value} {x y : Int} {w w' : World} (h : F3 g bL oL p V x y w) (k : Below w.heap.size w w') : F3 g bL oL p V x y w' := ⟨cell_later k h.1, cell_later k h.2.1, cell_later k h.2.2⟩
def G2 (bL oL : Nat) (x y : Int) (w : World) : Prop := w.cell? ⟨bL, oL, none⟩ = some (.int .i64 x) ∧ w.cell? ⟨bL, oL + 1, none⟩ = some (.int .i64 y)
theorem G2.later {bL oL : Nat} {x y : Int} {w w' : World} (h : G2 bL oL x y w) (k : Below w.heap.size w w') : G2 bL oL x y w' := ⟨cell_later k h.1, cell_later k h.2⟩
def G4 (bL oL : Nat) (x y u v : Int) (w : World) : Prop := w.cell? ⟨bL, oL, none⟩ = some (.int .i64 x) ∧ w.cell? ⟨bL, oL + 1, none⟩ = some (.int .i64 y) ∧ w.cell? ⟨bL, oL + 2, none⟩ = some (.int .i64 u) ∧ w.cell? ⟨bL, oL + 3, none⟩ = some (.int .i64 v)
theorem G4.later {bL oL : Nat} {x y u v : Int} {w w' : World} (h : G4 bL oL x y u v w) (k : Below w.heap.size w w') : G4 bL oL x y u v w' := ⟨cell_later k h.1, cell_later k h.2.1, cell_later k h.2.2.1, cell_later k h.2.2.2⟩
set_option maxRecDepth 100000 in
set_option maxHeartbeats 9000000 in
theorem one_any {w : World} {base : Nat} {B R : Value} {M : List Mt} {D : Dr} (hD : DrR w base B R M D) (hm : manyD D = false) (s : ByteArray) (hs : s.size ≤ 400000000) (hbase : base ≤ w.heap.size) :
    Calls Tryd.prog 56 #[.agg #[B, R], .string s] w fun e w' => ∃ A1 l1 c1 A2 l2 c2, e = .returned (.tuple #[.agg #[.slice A1 l1 c1, .slice A2 l2 c2], .int .i64 (oneP D s).1]) ∧ ((oneP D s).1 = 0 → ∃ M', DrR w' base (.slice A1 l1 c1) (.slice A2 l2 c2) M' (oneP D s).2) ∧ Below base w w' := by
  obtain ⟨iI, hiI, hzI0, hzI1, hzI2⟩ := info_parts (show (Tryd.prog.info? 3).map (fun i => (i.zero, i.size, i.bytes)) = some (some (.int .i64 0), 1, 8) by kernel_rfl)
  obtain ⟨iB, hiB, hzB0, hzB1, hzB2⟩ := info_parts info_box
  obtain ⟨iR, hiR, hzR0, hzR1, hzR2⟩ := info_parts info_route
  obtain ⟨iP, hiP, hzP0, hzP1, hzP2⟩ := info_parts (show (Tryd.prog.info? 73).map (fun i => (i.zero, i.size, i.bytes)) = some (some (.agg #[.int .i64 0, .int .i64 0]), 2, 16) by kernel_rfl)
  obtain ⟨one, hone⟩ : ∃ one, oneP D s = one := ⟨_, rfl⟩
  obtain ⟨E, D'⟩ := one
  rw [hone]
  have HONE := Lib.hid hone
  obtain ⟨q, hq⟩ : ∃ q, wdO s.data.toList = q := ⟨_, rfl⟩
  have hsz := Lib.size_eq s
  have hwl : (wdL s.data.toList).length ≤ 400000001 := Nat.le_trans wdL_le.1 (by omega)
  obtain ⟨WW, hWW⟩ : ∃ WW, wdL s.data.toList = WW := ⟨_, rfl⟩
  rw [hWW] at hwl
  have HQ := Lib.hid hq
  have HWW := Lib.hid hWW
  clear hq hWW hone hsz
  obtain ⟨mb1, mb2, mb3⟩ := manyD_bd hm
  obtain ⟨AB, cB, rfl, hcB⟩ := own_shape hD.bx
  obtain ⟨AR, cR, rfl, hcR⟩ := own_shape hD.rt
  go_enter Tryd.func56, Tryd.ntmps56
  go_wp2_with fail
  obtain ⟨w1, hw1⟩ : ∃ q, q = ((w.alloc (.cells #[(.slice AB D.1.length cB), (.slice AR D.2.length cR)] 45)).alloc (.cells #[.slice none 0 0, .slice none 0 0] 45)) := ⟨_, rfl⟩
  rw [← hw1]
  have B1 : Below w.heap.size w w1 := by rw [hw1]; exact ((Below.refl _ _).alloc (Nat.le_refl _) _).alloc (by simp) _
  have HR1 : Hid (w1.heap[w.heap.size + 1]? = some (.cells #[.slice none 0 0, .slice none 0 0] 45)) := Lib.hid (by rw [hw1]; exact heap_at (by simp))
  have HD1 : Hid (DrO w1 base w.heap.size (.slice AB D.1.length cB) (.slice AR D.2.length cR) M D) := Lib.hid ((hD.later B1).own (by rw [hw1]; exact (((Below.refl _ _).alloc (Nat.le_refl _) _).block _ (by simp)).trans (heap_at rfl)) hbase)
  have HB1 := Lib.hid B1
  have hs1 : w1.heap.size = w.heap.size + 2 := by rw [hw1]; simp
  have HS1 := Lib.hid hs1
  clear hw1 B1 hD hs1
  refine (refWords_any s (by omega)).mono ?_
  rw [HQ.out, HWW.out]
  rintro e w2 ⟨V2, rfl, S2, B2⟩
  obtain ⟨A2, c2, hV2, hc2, -, hA2⟩ := Strs.at_ S2
  subst hV2
  have HA2 := Lib.hid hA2
  have hs2 := B2.size
  have HR2 := Lib.hid (block_later B2 HR1.out)
  have HD2 := Lib.hid (HD1.out.later B2)
  have HB2 := Lib.hid (below_then HB1.out HB1.out.size B2)
  have hl2 : w.heap.size + 2 ≤ w2.heap.size := by have := HS1.out; omega
  clear S2 B2 hA2 HR1 HD1 HB1 HS1 hs2
  cases q with
  | false =>
    have HE : Hid (E = 4) := Lib.hid (by
      have hE := HONE.out.symm.trans (oneP_bad (by rw [rdP_sp HQ.out]; decide))
      rw [rdP_sp HQ.out] at hE
      exact congrArg Prod.fst hE)
    have d0 := (Cl.of_block HD2.out.cell (j := 0) rfl).cell
    have d1 := (Cl.of_block HD2.out.cell (j := 1) rfl).cell
    have p0 := (Cl.of_block HR2.out (j := 0) rfl).cell
    have p1 := (Cl.of_block HR2.out (j := 1) rfl).cell
    have r0 := (Cl.of_block HR2.out (j := 0) rfl).free
    have r1 := (Cl.of_block HR2.out (j := 1) rfl).free
    go_wp2_with fail
    refine bodyPost_ret (v := .tuple #[.agg #[(.slice AB D.1.length cB), (.slice AR D.2.length cR)], .int .i64 4]) ?_ rfl ⟨AB, D.1.length, cB, AR, D.2.length, cR, by rw [HE.out], ?_, ?_⟩
    · rw [results_cell_tmp rfl]
      go_simp
    · exact fun h => absurd (HE.out.symm.trans h) (by decide)
    · exact ((HB2.out.mono hbase |> Lib.hid).out.setCell (p := ⟨w.heap.size + 1, 0, none⟩) (by simp; omega) _).setCell (p := ⟨w.heap.size + 1, 1, none⟩) (by simp; omega) _
  | true =>
    obtain ⟨x, r, hxr⟩ := wdL_ne HQ.out
    have hWx : WW = x :: r := HWW.out.symm.trans hxr
    subst hWx
    have HR := Lib.hid (rdP_wd HQ.out hxr)
    obtain ⟨bA, oA, rfl, hcA⟩ := HA2.out (by simp)
    have c0 := hcA 0 x rfl
    rw [Nat.add_zero] at c0
    have HCA : Hid (∀ (i : Nat) (y : ByteArray), r[i]? = some y → w2.cell? ⟨bA, oA + (i + 1), none⟩ = some (.string y)) := Lib.hid (fun i y h => hcA (i + 1) y h)
    obtain ⟨n, hn⟩ : ∃ n, r.length = n := ⟨_, rfl⟩
    have hn1 : (x :: r).length = n + 1 := by simp [hn]
    have hnl : n ≤ 400000000 := by rw [hn1] at hwl; omega
    rw [hn1] at hc2 ⊢
    rw [hn] at HR
    have HN := Lib.hid hn
    have j0 : (0 : Int) < (n : Int) + 1 := by omega
    have jn : (0 : Int) ≤ (n : Int) := by omega
    clear hcA HA2 hn hn1 hwl hxr
    obtain ⟨q1, h1⟩ : ∃ q, (x.toList == [112, 111, 105, 110, 116]) = q := ⟨_, rfl⟩
    obtain ⟨q2, h2⟩ : ∃ q, (x.toList == [98, 111, 120]) = q := ⟨_, rfl⟩
    obtain ⟨q3, h3⟩ : ∃ q, (x.toList == [114, 111, 117, 116, 101]) = q := ⟨_, rfl⟩
    have H1 : Hid (decide (x = bPoint) = q1) := Lib.hid (by rw [← bytes_point, h1])
    have H2 : Hid (decide (x = bBox) = q2) := Lib.hid (by rw [← bytes_box', h2])
    have H3 : Hid (decide (x = bRoute) = q3) := Lib.hid (by rw [← bytes_route', h3])
    obtain ⟨m2, e2⟩ : ∃ q, ((n : Int) == 2) = q := ⟨_, rfl⟩
    obtain ⟨m4, e4⟩ : ∃ q, ((n : Int) == 4) = q := ⟨_, rfl⟩
    obtain ⟨d2, ed⟩ : ∃ q, decide (2 ≤ (n : Int)) = q := ⟨_, rfl⟩
    obtain ⟨k2, hk2⟩ : ∃ k2, (n : Int) % 2 = k2 := ⟨_, rfl⟩
    obtain ⟨m0, e0⟩ : ∃ q, (k2 == 0) = q := ⟨_, rfl⟩
    have HRW : Hid (rightW x n = ((q1 && m2) || (q2 && m4) || (q3 && d2 && m0))) := Lib.hid (by
      unfold rightW
      rw [H1.out, H2.out, H3.out, ← e2, ← e4, ← ed, ← e0, ← hk2]
      congr 1
      · congr 1
        · congr 1
          rw [Bool.eq_iff_iff]; simp; omega
        · congr 1
          rw [Bool.eq_iff_iff]; simp; omega
      · congr 1
        · congr 1
          rw [Bool.eq_iff_iff]; simp; omega
        · rw [Bool.eq_iff_iff]; simp; omega)
    have HX : Hid (q1 = true → q2 = false ∧ q3 = false) := Lib.hid (by
      intro h
      rw [← H2.out, ← H3.out]
      have : x = bPoint := by have := H1.out.trans h; simpa using this
      rw [this]; decide)
    have HX2 : Hid (q2 = true → q3 = false) := Lib.hid (by
      intro h
      rw [← H3.out]
      have : x = bBox := by have := H2.out.trans h; simpa using this
      rw [this]; decide)
    go_upto_region 4 with fail
    go_upto_region 5 with fail
    go_cut [61] (fun p wx => p = .bool (!(rightW x n)) ∧ wx = w2)
    case first =>
      have hx := HX.out
      have hx2 := HX2.out
      clear HX HX2 H1 H2 H3 HR HONE
      cases q1 with
      | true =>
        obtain ⟨rfl, rfl⟩ := hx rfl
        clear hx hx2
        cases m2 <;> (go_wp2_with fail; go_meet; exact ⟨by rw [HRW.out]; simp, rfl⟩)
      | false =>
        clear hx
        cases q2 with
        | true =>
          obtain rfl := hx2 rfl
          clear hx2
          cases m4 <;> (go_wp2_with fail; go_meet; exact ⟨by rw [HRW.out]; simp, rfl⟩)
        | false =>
          clear hx2
          cases q3 with
          | false => (go_wp2_with fail; go_meet; exact ⟨by rw [HRW.out]; simp, rfl⟩)
          | true =>
            cases d2 with
            | false => (go_wp2_with fail; go_meet; exact ⟨by rw [HRW.out]; simp, rfl⟩)
            | true => cases m0 <;> (go_wp2_with fail; go_meet; exact ⟨by rw [HRW.out]; simp, rfl⟩)
    obtain ⟨rfl, hwc⟩ := hcut
    subst hwc
    obtain ⟨w2, rfl⟩ : ∃ q : World, q = wc := ⟨_, rfl⟩
    clear HX HX2 H1 H2 H3 HRW h1 h2 h3 e2 e4 ed hk2 e0 m2 m4 d2 m0 q1 q2 q3
    have HCX := Lib.hid c0
    clear c0
    obtain ⟨rr, hrr⟩ : ∃ rr, rightW x n = rr := ⟨_, rfl⟩
    rw [hrr]
    have HRR := Lib.hid hrr
    clear hrr
    cases rr with
    | false =>
      have HE : Hid (E = 4) := Lib.hid (by
        have hr := HR.out
        rw [HRR.out, if_neg (by decide)] at hr
        have hE := HONE.out.symm.trans (oneP_bad (by rw [hr]; decide))
        rw [hr] at hE
        exact congrArg Prod.fst hE)
      have d0 := (Cl.of_block HD2.out.cell (j := 0) rfl).cell
      have d1 := (Cl.of_block HD2.out.cell (j := 1) rfl).cell
      have p0 := (Cl.of_block HR2.out (j := 0) rfl).cell
      have p1 := (Cl.of_block HR2.out (j := 1) rfl).cell
      have r0 := (Cl.of_block HR2.out (j := 0) rfl).free
      have r1 := (Cl.of_block HR2.out (j := 1) rfl).free
      go_wp2_with fail
      refine bodyPost_ret (v := .tuple #[.agg #[(.slice AB D.1.length cB), (.slice AR D.2.length cR)], .int .i64 4]) ?_ rfl ⟨AB, D.1.length, cB, AR, D.2.length, cR, by rw [HE.out], ?_, ?_⟩
      · rw [results_cell_tmp rfl]
        go_simp
      · exact fun h => absurd (HE.out.symm.trans h) (by decide)
      · exact ((HB2.out.mono hbase |> Lib.hid).out.setCell (p := ⟨w.heap.size + 1, 0, none⟩) (by simp; omega) _).setCell (p := ⟨w.heap.size + 1, 1, none⟩) (by simp; omega) _
    | true =>
      have hR2 := HR.out
      rw [HRR.out, if_pos rfl] at hR2
      have HR3 := Lib.hid hR2
      clear hR2
      rw [show (!true) = false from rfl]
      go_wp2_with fail
      have HB2b := Lib.hid (HB2.out.mono hbase)
      go_loopw [9, 10, 11, 12] (fun Vl qi _ _ wr => ∃ (i j : Nat) (ns : List Int), i ≤ n ∧ j ≤ i + 1 ∧ i + 1 ≤ j ∧ qi = .int .i64 j ∧ wr.ownsRow w2.heap.size 3 1 Vl i (flat encI ns) ∧ ns.length ≤ i ∧ i ≤ ns.length ∧ Hid (numsO (r.take i) = some ns) ∧ Below w2.heap.size w2 wr) (fun _ q _ _ _ => n + 1 - (intOf q).toNat)
      case atStart => exact ⟨0, 1, [], by omega, by omega, by omega, rfl, World.ownsRow_nil _ _ _ _, by simp, by simp, Lib.hid rfl, Below.refl _ _⟩
      case round =>
        obtain ⟨i, j, ns, hi, hj1, hj2, rfl, R3, hnl1, hnl2, HNO, B3⟩ := hrel
        obtain ⟨w3, rfl⟩ : ∃ x : World, x = wr := ⟨_, rfl⟩
        obtain ⟨AL, cL, rfl, hcL⟩ := own_shape R3
        have HRL := Lib.hid R3
        have HB23 := Lib.hid B3
        have hs3 := B3.size
        have HD3 := Lib.hid (HD2.out.later B3)
        have HR3g := Lib.hid (block_later B3 HR2.out)
        have HB3 := Lib.hid (below_then HB2b.out (by omega) B3)
        clear R3 B3
        by_cases hin : i < n
        · have hdi : decide ((j : Int) < (n : Int) + 1) = true := by simp only [decide_eq_true_eq]; omega
          have k1 : (0 : Int) ≤ (j : Int) := by omega
          have k2 : (j : Int) < (n : Int) + 1 := by omega
          have hilr : i < r.length := by rw [HN.out]; exact hin
          have HY := Lib.hid (List.getElem?_eq_getElem hilr)
          have HYM := Lib.hid (List.getElem_mem hilr)
          have cy := HCA.out i _ HY.out
          generalize r[i] = y at *
          have cy3 : w3.cell? ⟨bA, oA + j, none⟩ = some (.string y) := by
            rw [show j = i + 1 by omega]
            exact cell_later HB23.out cy
          clear cy hilr
          go_wp2_with fail
          obtain ⟨O, hO⟩ : ∃ O, numO y.data.toList 1000000 = O := ⟨_, rfl⟩
          cases O with
          | none =>
            refine (refNumber_none hO).mono ?_
            rintro e w4 ⟨rfl, B4⟩
            have HE : Hid (E = 5) := Lib.hid (by
              have hr := HR3.out
              rw [numsO_bad r y HYM.out hO] at hr
              have hE := HONE.out.symm.trans (oneP_bad (by rw [hr]; show (5 : Int) ≠ 0; decide))
              rw [hr] at hE
              exact congrArg Prod.fst hE)
            have HD4 := Lib.hid (HD3.out.later B4)
            have HR4 := Lib.hid (block_later B4 HR3g.out)
            have HB4 := Lib.hid (HB3.out.trans (B4.mono (by omega)))
            clear B4 hO cy3
            have d0 := (Cl.of_block HD4.out.cell (j := 0) rfl).cell
            have d1 := (Cl.of_block HD4.out.cell (j := 1) rfl).cell
            have p0 := (Cl.of_block HR4.out (j := 0) rfl).cell
            have p1 := (Cl.of_block HR4.out (j := 1) rfl).cell
            have r0 := (Cl.of_block HR4.out (j := 0) rfl).free
            have r1 := (Cl.of_block HR4.out (j := 1) rfl).free
            go_wp2_with fail
            refine bodyPost_ret (v := .tuple #[.agg #[(.slice AB D.1.length cB), (.slice AR D.2.length cR)], .int .i64 5]) ?_ rfl ⟨AB, D.1.length, cB, AR, D.2.length, cR, by rw [HE.out], ?_, ?_⟩
            · rw [results_cell_tmp rfl]
              go_simp
            · exact fun h => absurd (HE.out.symm.trans h) (by decide)
            · exact (HB4.out.setCell (p := ⟨w.heap.size + 1, 0, none⟩) (by simp; omega) _).setCell (p := ⟨w.heap.size + 1, 1, none⟩) (by simp; omega) _
          | some v =>
            refine (refNumber_some hO).mono ?_
            rintro e w4 ⟨rfl, B4⟩
            have HST := Lib.hid (numsO_step HNO.out HY.out hO)
            have HR4 := Lib.hid (own_later HRL.out B4)
            have HB4 := Lib.hid (below_then HB23.out hs3 B4)
            have hs4 := B4.size
            clear B4 hO cy3
            go_wp2_with (refine wpList_append_lies _ rfl (.tmp 80) (.tmp 82) 101 rfl w2.heap.size 3 iI (.int .i64 0) 1 8 Tryd.underlying101 hiI hzI0 hzI1 hzI2 rfl (by decide) (.slice AL i cL) i (flat encI ns) rfl (own_later HR4.out ((Below.refl _ _).alloc (Nat.le_refl _) _)) ⟨w4.heap.size, 0, none⟩ 1 1 [.int .i64 (v : Int)] rfl rfl (World.news_of_block (heap_at rfl)) (by intro u hu; simp at hu; subst hu; rfl) (by omega) (by simp only [maxLen]; omega) (by omega) (by simp; omega) _ rfl ?_; intro gq cq w8 hown hgrow hat hlt)
            have HB8 := (HB4.out.trans (((Below.refl w4.heap.size w4).alloc (Nat.le_refl _) _).mono (by omega))).grown hgrow (by simp; omega) (fun q hq => own_ge HR4.out hq)
            go_roundw
            case rel => exact ⟨i + 1, j + 1, ns ++ [(v : Int)], by omega, by omega, by omega, by go_num, (by rw [flat_append]; simpa [flat, encI] using hown), by simp; omega, by simp; omega, HST, HB8⟩
            case measure => simp [intOf]; omega
        · have hni : i = n := by omega
          subst hni
          have hdi : decide ((j : Int) < (i : Int) + 1) = false := by simp only [decide_eq_false_iff_not]; omega
          have HNS : Hid (Ints w3 (.slice AL i cL) ns) := Lib.hid (by
            have hl : ns.length = i := by omega
            have h := HRL.out
            rw [← hl] at h ⊢
            exact Sl.of_own encI_length h)
          have HONE2 : Hid ((E, D') = addP D x ns) := Lib.hid (by
            have hr := HR3.out
            have hnn := HNO.out
            rw [List.take_of_length_le (by rw [HN.out]; exact Nat.le_refl _)] at hnn
            rw [hnn] at hr
            have h := HONE.out.symm.trans (oneP_of (D := D) (s := s) (by rw [hr]))
            rw [hr] at h
            exact h)
          have c0 := cell_later HB23.out (HCX.out)
          have hrc := right_cases HRR.out
          clear HR HR3 HONE HNO HRR
          have h2i : 2 ≤ i := by rcases hrc with ⟨-, h⟩ | ⟨-, h⟩ | ⟨-, h⟩ <;> omega
          obtain ⟨AL', cL', e, -, -, h3⟩ := HNS.out.at_
          obtain ⟨bL, oL, hAL, hcc⟩ := h3 (by omega)
          injection e with e1 e2 e3
          rw [hAL] at e1
          subst e1
          clear e2 e3 hAL h3
          have HIN := Lib.hid hcc
          clear hcc hdi
          rcases hrc with ⟨hx, hn2⟩ | ⟨hx, hn4⟩ | ⟨hx, hn3⟩
          · subst hn2
            obtain ⟨a, b, hns⟩ := len_two (l := ns) (by omega)
            subst hns
            have hq : (x.toList == [114, 111, 117, 116, 101]) = false := by rw [bytes_route', hx]; decide
            have HADD : Hid ((E, D') = if 0 < D.2.length then (15, D) else if manyD (D.1 ++ [((a, b), (a, b))], D.2) = true then (6, D) else (0, (D.1 ++ [((a, b), (a, b))], D.2))) := Lib.hid (by
              rw [HONE2.out, hx]
              unfold addP
              rw [if_neg (by decide)]
              by_cases h0 : 0 < D.2.length
              · rw [if_pos h0, if_pos h0]
              · rw [if_neg h0, if_neg h0, if_neg (fun h => absurd h.1 (by decide))]
                rfl)
            clear hx HONE2
            have wr0 : IntKind.i64.wrap 0 = 0 := by rw [IntKind.wrap_i64]; omega
            have wr1 : IntKind.i64.wrap 1 = 1 := by rw [IntKind.wrap_i64]; omega
            have wr2 : IntKind.i64.wrap 2 = 2 := by rw [IntKind.wrap_i64]; omega
            have wr3 : IntKind.i64.wrap 3 = 3 := by rw [IntKind.wrap_i64]; omega
            have HS0 : Hid (G2 bL oL a b w3.drew) := Lib.hid ⟨HIN.out 0 _ rfl, HIN.out 1 _ rfl⟩
            go_wp2_with fail
            refine wp_region_headsV [(0, false), (1, false), (2, true), (3, false), (4, false), (5, true), (6, false), (7, false), (8, false), (9, false), (10, false), (11, true), (12, false), (13, false), (14, false), (15, false), (16, true), (17, false), (18, false)] [20] (fun _ => True) (G2 bL oL a b) (by kernel_rfl) (by kernel_rfl) trivial HS0.out ?_
            iterate 19 (first | (refine wpHv_skip rfl (by rfl) ?_) | (refine wpHv_cons (v := ?_) rfl (by rfl) (fun wS hwS => ?_) ?_; rotate_left 1; (focus ((first | (have hwA := And.right hwS rfl) | (have hwA := And.left hwS)); clear hwS; (try dsimp only [G2] at hwA); go_simp; (try with_reducible rfl); (try (trace_state; fail))))); (try simp only [List.getElem_toArray, List.getElem_cons_zero, List.getElem_cons_succ]); (try simp only [Act.put, List.setIfInBounds_toArray, List.set_cons_zero, List.set_cons_succ]))
            refine wpHv_nil ?_
            change wpV _ _ _ _ _ _ _ (1 + 1) _ _ _
            refine wpV_one (k := 19) (by kernel_rfl) rfl (fun K hK => ?_)
            have HKK := Lib.hid hK
            clear hK
            go_simp
            have HS1 : Hid (G2 bL oL a b (w3.drew.alloc (.cells #[.int .i64 0, .int .i64 0, .int .i64 0, .int .i64 0] 75))) := Lib.hid (HS0.out.later ((Below.refl _ _).alloc (Nat.le_refl _) _))
            go_simp
            refine HKK.out _ _ ⟨trivial, fun _ _ => HS1.out⟩ ?_
            clear HKK K
            change wpV _ _ _ _ _ _ _ (0 + 1) _ _ _
            refine wpV_one (k := 20) (by kernel_rfl) rfl (fun K hK => ?_)
            have HKK := Lib.hid hK
            clear hK
            go_simp
            go_simp
            refine HKK.out _ _ ⟨trivial, fun hn => absurd (by decide) hn⟩ ?_
            clear HKK K
            refine wpV_done (by kernel_rfl) (NoPanic.normal ?_)
            clear wr0 wr1 wr2 wr3
            have B4 : Below w3.heap.size w3 (w3.alloc (.cells #[.int .i64 a, .int .i64 b, .int .i64 a, .int .i64 b] 75)).drew := ((Below.refl _ _).alloc (Nat.le_refl _) _).drew
            have hG4 : (w3.alloc (.cells #[.int .i64 a, .int .i64 b, .int .i64 a, .int .i64 b] 75)).drew.heap[w3.heap.size]? = some (.cells #[.int .i64 a, .int .i64 b, .int .i64 a, .int .i64 b] 75) := heap_at rfl
            obtain ⟨w4, hw4⟩ : ∃ x4, (w3.alloc (.cells #[.int .i64 a, .int .i64 b, .int .i64 a, .int .i64 b] 75)).drew = x4 := ⟨_, rfl⟩
            rw [hw4] at B4 hG4 ⊢
            have HD4 := Lib.hid (HD3.out.later B4)
            have HR4 := Lib.hid (block_later B4 HR3g.out)
            have HB4 := Lib.hid (HB3.out.trans (B4.mono (by omega)))
            have HB4s : Hid (w.heap.size + 2 ≤ w4.heap.size) := Lib.hid (by have := B4.size; omega)
            have g0 := (Cl.of_block hG4 (j := 0) rfl).cell
            have g1 := (Cl.of_block hG4 (j := 1) rfl).cell
            have g2 := (Cl.of_block hG4 (j := 2) rfl).cell
            have g3 := (Cl.of_block hG4 (j := 3) rfl).cell
            have t0 := (Cl.of_block HD4.out.cell (j := 0) rfl).cell
            have t1 := (Cl.of_block HD4.out.cell (j := 1) rfl).cell
            have hs4 := B4.size
            clear hw4 B4 hG4 HD3 HR3g HB3
            skip
            by_cases h0 : 0 < D.2.length
            · have d0 : decide ((0 : Int) < (D.2.length : Int)) = true := by simp only [decide_eq_true_eq]; omega
              have HE : Hid (E = 15) := Lib.hid (by
                have hE := HADD.out
                rw [if_pos h0] at hE
                exact congrArg Prod.fst hE)
              have d0 := (Cl.of_block HD4.out.cell (j := 0) rfl).cell
              have d1 := (Cl.of_block HD4.out.cell (j := 1) rfl).cell
              have p0 := (Cl.of_block HR4.out (j := 0) rfl).cell
              have p1 := (Cl.of_block HR4.out (j := 1) rfl).cell
              have r0 := (Cl.of_block HR4.out (j := 0) rfl).free
              have r1 := (Cl.of_block HR4.out (j := 1) rfl).free
              go_wp2_with fail
              refine bodyPost_ret (v := .tuple #[.agg #[(.slice AB D.1.length cB), (.slice AR D.2.length cR)], .int .i64 15]) ?_ rfl ⟨AB, D.1.length, cB, AR, D.2.length, cR, by rw [HE.out], ?_, ?_⟩
              · rw [results_cell_tmp rfl]
                go_simp
              · exact fun h => absurd (HE.out.symm.trans h) (by decide)
              · exact (HB4.out.setCell (p := ⟨w.heap.size + 1, 0, none⟩) (by simp; omega) _).setCell (p := ⟨w.heap.size + 1, 1, none⟩) (by simp; omega) _
            · have d0 : decide ((0 : Int) < (D.2.length : Int)) = false := by simp only [decide_eq_false_iff_not]; omega
              have HDz : Hid (DrO (w4.alloc (.cells #[.int .i64 a, .int .i64 b, .int .i64 a, .int .i64 b] 75)) base w.heap.size (.slice AB D.1.length cB) (.slice AR D.2.length cR) M D) := Lib.hid (HD4.out.later ((Below.refl _ _).alloc (Nat.le_refl _) _))
              have HGz : Hid ((w4.alloc (.cells #[.int .i64 a, .int .i64 b, .int .i64 a, .int .i64 b] 75)).heap[w4.heap.size]? = some (.cells #[.int .i64 a, .int .i64 b, .int .i64 a, .int .i64 b] 75)) := Lib.hid (heap_at rfl)
              skip
              go_upto_region 28 with (at_builtin; refine wpList_append_lies _ rfl (.tmp 157) (.tmp 159) 42 rfl base 75 iB (.agg #[.int .i64 0, .int .i64 0, .int .i64 0, .int .i64 0]) 4 32 Tryd.underlying42 hiB hzB0 hzB1 hzB2 rfl (by decide) (.slice AB D.1.length cB) D.1.length (flat encB D.1) rfl (own_later HD4.out.bx ((Below.refl _ _).alloc (Nat.le_refl _) _)) ⟨w4.heap.size, 0, none⟩ 1 1 [.int .i64 a, .int .i64 b, .int .i64 a, .int .i64 b] rfl rfl (World.news_of_block HGz.out) (by intro y hy; simp at hy; rcases hy with rfl | rfl | rfl | rfl <;> rfl) (by omega) (by simp only [maxLen]; omega) (by omega) (by simp; omega) _ rfl ?_; intro gq cq w8 hown hgrow hat hlt; have hb8 := (hgrow.block w.heap.size (Array.getElem?_eq_some_iff.1 HDz.out.cell).1 (by intro e; obtain ⟨cur, hcur⟩ := own_typ HDz.out.bx e.symm; exact ne_of_typ HDz.out.cell hcur (by decide) rfl)).trans HDz.out.cell; have q8 := (Cl.of_block hb8 (j := 0) rfl).cell; have r8 := (Cl.of_block hb8 (j := 0) rfl).free; clear hb8)
              have HD6 := Lib.hid (DrO.box (x := ((a, b), (a, b))) HDz.out hgrow hown)
              have hb8 := ((hgrow.block (w.heap.size + 1) (by have := HB4s.out; simp; omega) (by intro e; obtain ⟨cur, hcur⟩ := own_typ HDz.out.bx e.symm; exact ne_of_typ (HR4.out |> block_later ((Below.refl _ _).alloc (Nat.le_refl _) (.cells #[.int .i64 a, .int .i64 b, .int .i64 a, .int .i64 b] 75))) hcur (by decide) rfl)).trans (block_later ((Below.refl _ _).alloc (Nat.le_refl _) _) HR4.out))
              have HB6 : Hid (Below base w (w8.setCell ⟨w.heap.size, 0, none⟩ (.slice (some ⟨gq, 0, none⟩) (D.1.length + 1) cq))) := Lib.hid (((HB4.out.alloc (by have := HB4s.out; omega) _).grown hgrow (by simp; have := HB4s.out; omega) (fun q hq => own_ge HDz.out.bx hq)).setCell (p := ⟨w.heap.size, 0, none⟩) hbase _)
              have HR6 : Hid ((w8.setCell ⟨w.heap.size, 0, none⟩ (.slice (some ⟨gq, 0, none⟩) (D.1.length + 1) cq)).heap[w.heap.size + 1]? = some (.cells #[.slice none 0 0, .slice none 0 0] 45)) := Lib.hid (((grown_set w8 w.heap.size 0 (.slice (some ⟨gq, 0, none⟩) (D.1.length + 1) cq)).block (w.heap.size + 1) (Array.getElem?_eq_some_iff.1 hb8).1 (fun e => by injection e with e; omega)).trans hb8)
              have HS6 : Hid (w.heap.size + 2 ≤ (w8.setCell ⟨w.heap.size, 0, none⟩ (.slice (some ⟨gq, 0, none⟩) (D.1.length + 1) cq)).heap.size) := Lib.hid (by have := (Array.getElem?_eq_some_iff.1 HR6.out).1; omega)
              obtain ⟨w6, hw6⟩ : ∃ q, q = w8.setCell ⟨w.heap.size, 0, none⟩ (.slice (some ⟨gq, 0, none⟩) (D.1.length + 1) cq) := ⟨_, rfl⟩
              rw [← hw6] at HD6 HB6 HR6 HS6 ⊢
              clear hw6 hown hgrow hat hlt q8 r8 hb8 HDz
              have p0 := (Cl.of_block HD6.out.cell (j := 0) rfl).cell
              have p1 := (Cl.of_block HD6.out.cell (j := 1) rfl).cell
              go_wp2_with fail
              refine (refMany_any HD6.out.drw (by simp; omega) (by show D.2.length ≤ _; omega) (by show totP D.2 ≤ _; omega)).mono ?_
              obtain ⟨mm, hmm⟩ : ∃ mm, manyD (D.1 ++ [((a, b), (a, b))], D.2) = mm := ⟨_, rfl⟩
              rw [hmm]
              have HMM := Lib.hid hmm
              clear hmm p0 p1
              rintro e w7 ⟨rfl, B7⟩
              have HD7 := Lib.hid (HD6.out.later B7)
              have HR7 := Lib.hid (block_later B7 HR6.out)
              have HB7 := Lib.hid (HB6.out.trans (B7.mono (by have := HS6.out; omega)))
              clear B7 HD6 HR6 HB6
              cases mm with
              | true =>
                have HE : Hid (E = 6) := Lib.hid (by
                  have hE := HADD.out
                  rw [if_neg h0, if_pos HMM.out] at hE
                  exact congrArg Prod.fst hE)
                have d0 := (Cl.of_block HD7.out.cell (j := 0) rfl).cell
                have d1 := (Cl.of_block HD7.out.cell (j := 1) rfl).cell
                have p0 := (Cl.of_block HR7.out (j := 0) rfl).cell
                have p1 := (Cl.of_block HR7.out (j := 1) rfl).cell
                have r0 := (Cl.of_block HR7.out (j := 0) rfl).free
                have r1 := (Cl.of_block HR7.out (j := 1) rfl).free
                go_wp2_with fail
                refine bodyPost_ret (v := .tuple #[.agg #[(.slice (some ⟨gq, 0, none⟩) (D.1.length + 1) cq), (.slice AR D.2.length cR)], .int .i64 6]) ?_ rfl ⟨(some ⟨gq, 0, none⟩), (D.1.length + 1), cq, AR, D.2.length, cR, by rw [HE.out], ?_, ?_⟩
                · rw [results_cell_tmp rfl]
                  go_simp
                · exact fun h => absurd (HE.out.symm.trans h) (by decide)
                · exact (HB7.out.setCell (p := ⟨w.heap.size + 1, 0, none⟩) (by simp; omega) _).setCell (p := ⟨w.heap.size + 1, 1, none⟩) (by simp; omega) _
              | false =>
                have HED : Hid ((E, D') = (0, (D.1 ++ [((a, b), (a, b))], D.2))) := Lib.hid (by
                  have hE := HADD.out
                  rw [if_neg h0, if_neg (by rw [HMM.out]; decide)] at hE
                  exact hE)
                have HE : Hid (E = 0) := Lib.hid (congrArg Prod.fst HED.out)
                have d0 := (Cl.of_block HD7.out.cell (j := 0) rfl).cell
                have d1 := (Cl.of_block HD7.out.cell (j := 1) rfl).cell
                have p0 := (Cl.of_block HR7.out (j := 0) rfl).cell
                have p1 := (Cl.of_block HR7.out (j := 1) rfl).cell
                have r0 := (Cl.of_block HR7.out (j := 0) rfl).free
                have r1 := (Cl.of_block HR7.out (j := 1) rfl).free
                go_wp2_with fail
                refine bodyPost_ret (v := .tuple #[.agg #[(.slice (some ⟨gq, 0, none⟩) (D.1.length + 1) cq), (.slice AR D.2.length cR)], .int .i64 0]) ?_ rfl ⟨(some ⟨gq, 0, none⟩), (D.1.length + 1), cq, AR, D.2.length, cR, by rw [HE.out], ?_, ?_⟩
                · rw [results_cell_tmp rfl]
                  go_simp
                · exact fun _ => ⟨M, by rw [show D' = _ from congrArg Prod.snd HED.out]; exact (HD7.out.rows.set HR7.out).set (set_zero HR7.out)⟩
                · exact (HB7.out.setCell (p := ⟨w.heap.size + 1, 0, none⟩) (by simp; omega) _).setCell (p := ⟨w.heap.size + 1, 1, none⟩) (by simp; omega) _
          · subst hn4
            obtain ⟨a, b, c, d, hns⟩ := len_four (l := ns) (by omega)
            subst hns
            have hq : (x.toList == [114, 111, 117, 116, 101]) = false := by rw [bytes_route', hx]; decide
            have HADD : Hid ((E, D') = if 0 < D.2.length then (15, D) else if ((a, b) : Pt) = (c, d) then (2, D) else if manyD (D.1 ++ [((a, b), (c, d))], D.2) = true then (6, D) else (0, (D.1 ++ [((a, b), (c, d))], D.2))) := Lib.hid (by
              rw [HONE2.out, hx]
              unfold addP
              rw [if_neg (by decide)]
              by_cases h0 : 0 < D.2.length
              · rw [if_pos h0, if_pos h0]
              · rw [if_neg h0, if_neg h0]
                by_cases hj : ((a, b) : Pt) = (c, d)
                · rw [if_pos ⟨rfl, hj⟩, if_pos hj]
                · rw [if_neg (fun h => hj h.2), if_neg hj]
                  rfl)
            clear hx HONE2
            have wr0 : IntKind.i64.wrap 0 = 0 := by rw [IntKind.wrap_i64]; omega
            have wr1 : IntKind.i64.wrap 1 = 1 := by rw [IntKind.wrap_i64]; omega
            have wr2 : IntKind.i64.wrap 2 = 2 := by rw [IntKind.wrap_i64]; omega
            have wr3 : IntKind.i64.wrap 3 = 3 := by rw [IntKind.wrap_i64]; omega
            have HS0 : Hid (G4 bL oL a b c d w3.drew) := Lib.hid ⟨HIN.out 0 _ rfl, HIN.out 1 _ rfl, HIN.out 2 _ rfl, HIN.out 3 _ rfl⟩
            go_wp2_with fail
            refine wp_region_headsV [(0, false), (1, false), (2, true), (3, false), (4, false), (5, true), (6, false), (7, false), (8, false), (9, false), (10, false), (11, true), (12, false), (13, false), (14, false), (15, false), (16, true), (17, false), (18, false)] [20] (fun _ => True) (G4 bL oL a b c d) (by kernel_rfl) (by kernel_rfl) trivial HS0.out ?_
            iterate 19 (first | (refine wpHv_skip rfl (by rfl) ?_) | (refine wpHv_cons (v := ?_) rfl (by rfl) (fun wS hwS => ?_) ?_; rotate_left 1; (focus ((first | (have hwA := And.right hwS rfl) | (have hwA := And.left hwS)); clear hwS; (try dsimp only [G4] at hwA); go_simp; (try with_reducible rfl); (try (trace_state; fail))))); (try simp only [List.getElem_toArray, List.getElem_cons_zero, List.getElem_cons_succ]); (try simp only [Act.put, List.setIfInBounds_toArray, List.set_cons_zero, List.set_cons_succ]))
            refine wpHv_nil ?_
            change wpV _ _ _ _ _ _ _ (1 + 1) _ _ _
            refine wpV_one (k := 19) (by kernel_rfl) rfl (fun K hK => ?_)
            have HKK := Lib.hid hK
            clear hK
            go_simp
            have HS1 : Hid (G4 bL oL a b c d (w3.drew.alloc (.cells #[.int .i64 0, .int .i64 0, .int .i64 0, .int .i64 0] 75))) := Lib.hid (HS0.out.later ((Below.refl _ _).alloc (Nat.le_refl _) _))
            go_simp
            refine HKK.out _ _ ⟨trivial, fun _ _ => HS1.out⟩ ?_
            clear HKK K
            change wpV _ _ _ _ _ _ _ (0 + 1) _ _ _
            refine wpV_one (k := 20) (by kernel_rfl) rfl (fun K hK => ?_)
            have HKK := Lib.hid hK
            clear hK
            go_simp
            go_simp
            refine HKK.out _ _ ⟨trivial, fun hn => absurd (by decide) hn⟩ ?_
            clear HKK K
            refine wpV_done (by kernel_rfl) (NoPanic.normal ?_)
            clear wr0 wr1 wr2 wr3
            have B4 : Below w3.heap.size w3 (w3.alloc (.cells #[.int .i64 a, .int .i64 b, .int .i64 c, .int .i64 d] 75)).drew := ((Below.refl _ _).alloc (Nat.le_refl _) _).drew
            have hG4 : (w3.alloc (.cells #[.int .i64 a, .int .i64 b, .int .i64 c, .int .i64 d] 75)).drew.heap[w3.heap.size]? = some (.cells #[.int .i64 a, .int .i64 b, .int .i64 c, .int .i64 d] 75) := heap_at rfl
            obtain ⟨w4, hw4⟩ : ∃ x4, (w3.alloc (.cells #[.int .i64 a, .int .i64 b, .int .i64 c, .int .i64 d] 75)).drew = x4 := ⟨_, rfl⟩
            rw [hw4] at B4 hG4 ⊢
            have HD4 := Lib.hid (HD3.out.later B4)
            have HR4 := Lib.hid (block_later B4 HR3g.out)
            have HB4 := Lib.hid (HB3.out.trans (B4.mono (by omega)))
            have HB4s : Hid (w.heap.size + 2 ≤ w4.heap.size) := Lib.hid (by have := B4.size; omega)
            have g0 := (Cl.of_block hG4 (j := 0) rfl).cell
            have g1 := (Cl.of_block hG4 (j := 1) rfl).cell
            have g2 := (Cl.of_block hG4 (j := 2) rfl).cell
            have g3 := (Cl.of_block hG4 (j := 3) rfl).cell
            have t0 := (Cl.of_block HD4.out.cell (j := 0) rfl).cell
            have t1 := (Cl.of_block HD4.out.cell (j := 1) rfl).cell
            have hs4 := B4.size
            clear hw4 B4 hG4 HD3 HR3g HB3
            skip
            by_cases h0 : 0 < D.2.length
            · have d0 : decide ((0 : Int) < (D.2.length : Int)) = true := by simp only [decide_eq_true_eq]; omega
              have HE : Hid (E = 15) := Lib.hid (by
                have hE := HADD.out
                rw [if_pos h0] at hE
                exact congrArg Prod.fst hE)
              have d0 := (Cl.of_block HD4.out.cell (j := 0) rfl).cell
              have d1 := (Cl.of_block HD4.out.cell (j := 1) rfl).cell
              have p0 := (Cl.of_block HR4.out (j := 0) rfl).cell
              have p1 := (Cl.of_block HR4.out (j := 1) rfl).cell
              have r0 := (Cl.of_block HR4.out (j := 0) rfl).free
              have r1 := (Cl.of_block HR4.out (j := 1) rfl).free
              go_wp2_with fail
              refine bodyPost_ret (v := .tuple #[.agg #[(.slice AB D.1.length cB), (.slice AR D.2.length cR)], .int .i64 15]) ?_ rfl ⟨AB, D.1.length, cB, AR, D.2.length, cR, by rw [HE.out], ?_, ?_⟩
              · rw [results_cell_tmp rfl]
                go_simp
              · exact fun h => absurd (HE.out.symm.trans h) (by decide)
              · exact (HB4.out.setCell (p := ⟨w.heap.size + 1, 0, none⟩) (by simp; omega) _).setCell (p := ⟨w.heap.size + 1, 1, none⟩) (by simp; omega) _
            · have d0 : decide ((0 : Int) < (D.2.length : Int)) = false := by simp only [decide_eq_false_iff_not]; omega
              by_cases hac : a = c
              · subst hac
                by_cases hbd : b = d
                · subst hbd
                  have HE : Hid (E = 2) := Lib.hid (by
                    have hE := HADD.out
                    rw [if_neg h0, if_pos rfl] at hE
                    exact congrArg Prod.fst hE)
                  have d0 := (Cl.of_block HD4.out.cell (j := 0) rfl).cell
                  have d1 := (Cl.of_block HD4.out.cell (j := 1) rfl).cell
                  have p0 := (Cl.of_block HR4.out (j := 0) rfl).cell
                  have p1 := (Cl.of_block HR4.out (j := 1) rfl).cell
                  have r0 := (Cl.of_block HR4.out (j := 0) rfl).free
                  have r1 := (Cl.of_block HR4.out (j := 1) rfl).free
                  go_wp2_with fail
                  refine bodyPost_ret (v := .tuple #[.agg #[(.slice AB D.1.length cB), (.slice AR D.2.length cR)], .int .i64 2]) ?_ rfl ⟨AB, D.1.length, cB, AR, D.2.length, cR, by rw [HE.out], ?_, ?_⟩
                  · rw [results_cell_tmp rfl]
                    go_simp
                  · exact fun h => absurd (HE.out.symm.trans h) (by decide)
                  · exact (HB4.out.setCell (p := ⟨w.heap.size + 1, 0, none⟩) (by simp; omega) _).setCell (p := ⟨w.heap.size + 1, 1, none⟩) (by simp; omega) _
                · have HCJ : Hid (¬((a, b) : Pt) = (a, d)) := Lib.hid (fun h => hbd (by simp only [Prod.mk.injEq] at h; exact h.2))
                  have HDz : Hid (DrO (w4.alloc (.cells #[.int .i64 a, .int .i64 b, .int .i64 a, .int .i64 d] 75)) base w.heap.size (.slice AB D.1.length cB) (.slice AR D.2.length cR) M D) := Lib.hid (HD4.out.later ((Below.refl _ _).alloc (Nat.le_refl _) _))
                  have HGz : Hid ((w4.alloc (.cells #[.int .i64 a, .int .i64 b, .int .i64 a, .int .i64 d] 75)).heap[w4.heap.size]? = some (.cells #[.int .i64 a, .int .i64 b, .int .i64 a, .int .i64 d] 75)) := Lib.hid (heap_at rfl)
                  skip
                  go_upto_region 28 with (at_builtin; refine wpList_append_lies _ rfl (.tmp 157) (.tmp 159) 42 rfl base 75 iB (.agg #[.int .i64 0, .int .i64 0, .int .i64 0, .int .i64 0]) 4 32 Tryd.underlying42 hiB hzB0 hzB1 hzB2 rfl (by decide) (.slice AB D.1.length cB) D.1.length (flat encB D.1) rfl (own_later HD4.out.bx ((Below.refl _ _).alloc (Nat.le_refl _) _)) ⟨w4.heap.size, 0, none⟩ 1 1 [.int .i64 a, .int .i64 b, .int .i64 a, .int .i64 d] rfl rfl (World.news_of_block HGz.out) (by intro y hy; simp at hy; rcases hy with rfl | rfl | rfl | rfl <;> rfl) (by omega) (by simp only [maxLen]; omega) (by omega) (by simp; omega) _ rfl ?_; intro gq cq w8 hown hgrow hat hlt; have hb8 := (hgrow.block w.heap.size (Array.getElem?_eq_some_iff.1 HDz.out.cell).1 (by intro e; obtain ⟨cur, hcur⟩ := own_typ HDz.out.bx e.symm; exact ne_of_typ HDz.out.cell hcur (by decide) rfl)).trans HDz.out.cell; have q8 := (Cl.of_block hb8 (j := 0) rfl).cell; have r8 := (Cl.of_block hb8 (j := 0) rfl).free; clear hb8)
                  have HD6 := Lib.hid (DrO.box (x := ((a, b), (a, d))) HDz.out hgrow hown)
                  have hb8 := ((hgrow.block (w.heap.size + 1) (by have := HB4s.out; simp; omega) (by intro e; obtain ⟨cur, hcur⟩ := own_typ HDz.out.bx e.symm; exact ne_of_typ (HR4.out |> block_later ((Below.refl _ _).alloc (Nat.le_refl _) (.cells #[.int .i64 a, .int .i64 b, .int .i64 a, .int .i64 d] 75))) hcur (by decide) rfl)).trans (block_later ((Below.refl _ _).alloc (Nat.le_refl _) _) HR4.out))
                  have HB6 : Hid (Below base w (w8.setCell ⟨w.heap.size, 0, none⟩ (.slice (some ⟨gq, 0, none⟩) (D.1.length + 1) cq))) := Lib.hid (((HB4.out.alloc (by have := HB4s.out; omega) _).grown hgrow (by simp; have := HB4s.out; omega) (fun q hq => own_ge HDz.out.bx hq)).setCell (p := ⟨w.heap.size, 0, none⟩) hbase _)
                  have HR6 : Hid ((w8.setCell ⟨w.heap.size, 0, none⟩ (.slice (some ⟨gq, 0, none⟩) (D.1.length + 1) cq)).heap[w.heap.size + 1]? = some (.cells #[.slice none 0 0, .slice none 0 0] 45)) := Lib.hid (((grown_set w8 w.heap.size 0 (.slice (some ⟨gq, 0, none⟩) (D.1.length + 1) cq)).block (w.heap.size + 1) (Array.getElem?_eq_some_iff.1 hb8).1 (fun e => by injection e with e; omega)).trans hb8)
                  have HS6 : Hid (w.heap.size + 2 ≤ (w8.setCell ⟨w.heap.size, 0, none⟩ (.slice (some ⟨gq, 0, none⟩) (D.1.length + 1) cq)).heap.size) := Lib.hid (by have := (Array.getElem?_eq_some_iff.1 HR6.out).1; omega)
                  obtain ⟨w6, hw6⟩ : ∃ q, q = w8.setCell ⟨w.heap.size, 0, none⟩ (.slice (some ⟨gq, 0, none⟩) (D.1.length + 1) cq) := ⟨_, rfl⟩
                  rw [← hw6] at HD6 HB6 HR6 HS6 ⊢
                  clear hw6 hown hgrow hat hlt q8 r8 hb8 HDz
                  have p0 := (Cl.of_block HD6.out.cell (j := 0) rfl).cell
                  have p1 := (Cl.of_block HD6.out.cell (j := 1) rfl).cell
                  go_wp2_with fail
                  refine (refMany_any HD6.out.drw (by simp; omega) (by show D.2.length ≤ _; omega) (by show totP D.2 ≤ _; omega)).mono ?_
                  obtain ⟨mm, hmm⟩ : ∃ mm, manyD (D.1 ++ [((a, b), (a, d))], D.2) = mm := ⟨_, rfl⟩
                  rw [hmm]
                  have HMM := Lib.hid hmm
                  clear hmm p0 p1
                  rintro e w7 ⟨rfl, B7⟩
                  have HD7 := Lib.hid (HD6.out.later B7)
                  have HR7 := Lib.hid (block_later B7 HR6.out)
                  have HB7 := Lib.hid (HB6.out.trans (B7.mono (by have := HS6.out; omega)))
                  clear B7 HD6 HR6 HB6
                  cases mm with
                  | true =>
                    have HE : Hid (E = 6) := Lib.hid (by
                      have hE := HADD.out
                      rw [if_neg h0, if_neg HCJ.out, if_pos HMM.out] at hE
                      exact congrArg Prod.fst hE)
                    have d0 := (Cl.of_block HD7.out.cell (j := 0) rfl).cell
                    have d1 := (Cl.of_block HD7.out.cell (j := 1) rfl).cell
                    have p0 := (Cl.of_block HR7.out (j := 0) rfl).cell
                    have p1 := (Cl.of_block HR7.out (j := 1) rfl).cell
                    have r0 := (Cl.of_block HR7.out (j := 0) rfl).free
                    have r1 := (Cl.of_block HR7.out (j := 1) rfl).free
                    go_wp2_with fail
                    refine bodyPost_ret (v := .tuple #[.agg #[(.slice (some ⟨gq, 0, none⟩) (D.1.length + 1) cq), (.slice AR D.2.length cR)], .int .i64 6]) ?_ rfl ⟨(some ⟨gq, 0, none⟩), (D.1.length + 1), cq, AR, D.2.length, cR, by rw [HE.out], ?_, ?_⟩
                    · rw [results_cell_tmp rfl]
                      go_simp
                    · exact fun h => absurd (HE.out.symm.trans h) (by decide)
                    · exact (HB7.out.setCell (p := ⟨w.heap.size + 1, 0, none⟩) (by simp; omega) _).setCell (p := ⟨w.heap.size + 1, 1, none⟩) (by simp; omega) _
                  | false =>
                    have HED : Hid ((E, D') = (0, (D.1 ++ [((a, b), (a, d))], D.2))) := Lib.hid (by
                      have hE := HADD.out
                      rw [if_neg h0, if_neg HCJ.out, if_neg (by rw [HMM.out]; decide)] at hE
                      exact hE)
                    have HE : Hid (E = 0) := Lib.hid (congrArg Prod.fst HED.out)
                    have d0 := (Cl.of_block HD7.out.cell (j := 0) rfl).cell
                    have d1 := (Cl.of_block HD7.out.cell (j := 1) rfl).cell
                    have p0 := (Cl.of_block HR7.out (j := 0) rfl).cell
                    have p1 := (Cl.of_block HR7.out (j := 1) rfl).cell
                    have r0 := (Cl.of_block HR7.out (j := 0) rfl).free
                    have r1 := (Cl.of_block HR7.out (j := 1) rfl).free
                    go_wp2_with fail
                    refine bodyPost_ret (v := .tuple #[.agg #[(.slice (some ⟨gq, 0, none⟩) (D.1.length + 1) cq), (.slice AR D.2.length cR)], .int .i64 0]) ?_ rfl ⟨(some ⟨gq, 0, none⟩), (D.1.length + 1), cq, AR, D.2.length, cR, by rw [HE.out], ?_, ?_⟩
                    · rw [results_cell_tmp rfl]
                      go_simp
                    · exact fun _ => ⟨M, by rw [show D' = _ from congrArg Prod.snd HED.out]; exact (HD7.out.rows.set HR7.out).set (set_zero HR7.out)⟩
                    · exact (HB7.out.setCell (p := ⟨w.heap.size + 1, 0, none⟩) (by simp; omega) _).setCell (p := ⟨w.heap.size + 1, 1, none⟩) (by simp; omega) _
              · have HCJ : Hid (¬((a, b) : Pt) = (c, d)) := Lib.hid (fun h => hac (by simp only [Prod.mk.injEq] at h; exact h.1))
                have HDz : Hid (DrO (w4.alloc (.cells #[.int .i64 a, .int .i64 b, .int .i64 c, .int .i64 d] 75)) base w.heap.size (.slice AB D.1.length cB) (.slice AR D.2.length cR) M D) := Lib.hid (HD4.out.later ((Below.refl _ _).alloc (Nat.le_refl _) _))
                have HGz : Hid ((w4.alloc (.cells #[.int .i64 a, .int .i64 b, .int .i64 c, .int .i64 d] 75)).heap[w4.heap.size]? = some (.cells #[.int .i64 a, .int .i64 b, .int .i64 c, .int .i64 d] 75)) := Lib.hid (heap_at rfl)
                skip
                go_upto_region 28 with (at_builtin; refine wpList_append_lies _ rfl (.tmp 157) (.tmp 159) 42 rfl base 75 iB (.agg #[.int .i64 0, .int .i64 0, .int .i64 0, .int .i64 0]) 4 32 Tryd.underlying42 hiB hzB0 hzB1 hzB2 rfl (by decide) (.slice AB D.1.length cB) D.1.length (flat encB D.1) rfl (own_later HD4.out.bx ((Below.refl _ _).alloc (Nat.le_refl _) _)) ⟨w4.heap.size, 0, none⟩ 1 1 [.int .i64 a, .int .i64 b, .int .i64 c, .int .i64 d] rfl rfl (World.news_of_block HGz.out) (by intro y hy; simp at hy; rcases hy with rfl | rfl | rfl | rfl <;> rfl) (by omega) (by simp only [maxLen]; omega) (by omega) (by simp; omega) _ rfl ?_; intro gq cq w8 hown hgrow hat hlt; have hb8 := (hgrow.block w.heap.size (Array.getElem?_eq_some_iff.1 HDz.out.cell).1 (by intro e; obtain ⟨cur, hcur⟩ := own_typ HDz.out.bx e.symm; exact ne_of_typ HDz.out.cell hcur (by decide) rfl)).trans HDz.out.cell; have q8 := (Cl.of_block hb8 (j := 0) rfl).cell; have r8 := (Cl.of_block hb8 (j := 0) rfl).free; clear hb8)
                have HD6 := Lib.hid (DrO.box (x := ((a, b), (c, d))) HDz.out hgrow hown)
                have hb8 := ((hgrow.block (w.heap.size + 1) (by have := HB4s.out; simp; omega) (by intro e; obtain ⟨cur, hcur⟩ := own_typ HDz.out.bx e.symm; exact ne_of_typ (HR4.out |> block_later ((Below.refl _ _).alloc (Nat.le_refl _) (.cells #[.int .i64 a, .int .i64 b, .int .i64 c, .int .i64 d] 75))) hcur (by decide) rfl)).trans (block_later ((Below.refl _ _).alloc (Nat.le_refl _) _) HR4.out))
                have HB6 : Hid (Below base w (w8.setCell ⟨w.heap.size, 0, none⟩ (.slice (some ⟨gq, 0, none⟩) (D.1.length + 1) cq))) := Lib.hid (((HB4.out.alloc (by have := HB4s.out; omega) _).grown hgrow (by simp; have := HB4s.out; omega) (fun q hq => own_ge HDz.out.bx hq)).setCell (p := ⟨w.heap.size, 0, none⟩) hbase _)
                have HR6 : Hid ((w8.setCell ⟨w.heap.size, 0, none⟩ (.slice (some ⟨gq, 0, none⟩) (D.1.length + 1) cq)).heap[w.heap.size + 1]? = some (.cells #[.slice none 0 0, .slice none 0 0] 45)) := Lib.hid (((grown_set w8 w.heap.size 0 (.slice (some ⟨gq, 0, none⟩) (D.1.length + 1) cq)).block (w.heap.size + 1) (Array.getElem?_eq_some_iff.1 hb8).1 (fun e => by injection e with e; omega)).trans hb8)
                have HS6 : Hid (w.heap.size + 2 ≤ (w8.setCell ⟨w.heap.size, 0, none⟩ (.slice (some ⟨gq, 0, none⟩) (D.1.length + 1) cq)).heap.size) := Lib.hid (by have := (Array.getElem?_eq_some_iff.1 HR6.out).1; omega)
                obtain ⟨w6, hw6⟩ : ∃ q, q = w8.setCell ⟨w.heap.size, 0, none⟩ (.slice (some ⟨gq, 0, none⟩) (D.1.length + 1) cq) := ⟨_, rfl⟩
                rw [← hw6] at HD6 HB6 HR6 HS6 ⊢
                clear hw6 hown hgrow hat hlt q8 r8 hb8 HDz
                have p0 := (Cl.of_block HD6.out.cell (j := 0) rfl).cell
                have p1 := (Cl.of_block HD6.out.cell (j := 1) rfl).cell
                go_wp2_with fail
                refine (refMany_any HD6.out.drw (by simp; omega) (by show D.2.length ≤ _; omega) (by show totP D.2 ≤ _; omega)).mono ?_
                obtain ⟨mm, hmm⟩ : ∃ mm, manyD (D.1 ++ [((a, b), (c, d))], D.2) = mm := ⟨_, rfl⟩
                rw [hmm]
                have HMM := Lib.hid hmm
                clear hmm p0 p1
                rintro e w7 ⟨rfl, B7⟩
                have HD7 := Lib.hid (HD6.out.later B7)
                have HR7 := Lib.hid (block_later B7 HR6.out)
                have HB7 := Lib.hid (HB6.out.trans (B7.mono (by have := HS6.out; omega)))
                clear B7 HD6 HR6 HB6
                cases mm with
                | true =>
                  have HE : Hid (E = 6) := Lib.hid (by
                    have hE := HADD.out
                    rw [if_neg h0, if_neg HCJ.out, if_pos HMM.out] at hE
                    exact congrArg Prod.fst hE)
                  have d0 := (Cl.of_block HD7.out.cell (j := 0) rfl).cell
                  have d1 := (Cl.of_block HD7.out.cell (j := 1) rfl).cell
                  have p0 := (Cl.of_block HR7.out (j := 0) rfl).cell
                  have p1 := (Cl.of_block HR7.out (j := 1) rfl).cell
                  have r0 := (Cl.of_block HR7.out (j := 0) rfl).free
                  have r1 := (Cl.of_block HR7.out (j := 1) rfl).free
                  go_wp2_with fail
                  refine bodyPost_ret (v := .tuple #[.agg #[(.slice (some ⟨gq, 0, none⟩) (D.1.length + 1) cq), (.slice AR D.2.length cR)], .int .i64 6]) ?_ rfl ⟨(some ⟨gq, 0, none⟩), (D.1.length + 1), cq, AR, D.2.length, cR, by rw [HE.out], ?_, ?_⟩
                  · rw [results_cell_tmp rfl]
                    go_simp
                  · exact fun h => absurd (HE.out.symm.trans h) (by decide)
                  · exact (HB7.out.setCell (p := ⟨w.heap.size + 1, 0, none⟩) (by simp; omega) _).setCell (p := ⟨w.heap.size + 1, 1, none⟩) (by simp; omega) _
                | false =>
                  have HED : Hid ((E, D') = (0, (D.1 ++ [((a, b), (c, d))], D.2))) := Lib.hid (by
                    have hE := HADD.out
                    rw [if_neg h0, if_neg HCJ.out, if_neg (by rw [HMM.out]; decide)] at hE
                    exact hE)
                  have HE : Hid (E = 0) := Lib.hid (congrArg Prod.fst HED.out)
                  have d0 := (Cl.of_block HD7.out.cell (j := 0) rfl).cell
                  have d1 := (Cl.of_block HD7.out.cell (j := 1) rfl).cell
                  have p0 := (Cl.of_block HR7.out (j := 0) rfl).cell
                  have p1 := (Cl.of_block HR7.out (j := 1) rfl).cell
                  have r0 := (Cl.of_block HR7.out (j := 0) rfl).free
                  have r1 := (Cl.of_block HR7.out (j := 1) rfl).free
                  go_wp2_with fail
                  refine bodyPost_ret (v := .tuple #[.agg #[(.slice (some ⟨gq, 0, none⟩) (D.1.length + 1) cq), (.slice AR D.2.length cR)], .int .i64 0]) ?_ rfl ⟨(some ⟨gq, 0, none⟩), (D.1.length + 1), cq, AR, D.2.length, cR, by rw [HE.out], ?_, ?_⟩
                  · rw [results_cell_tmp rfl]
                    go_simp
                  · exact fun _ => ⟨M, by rw [show D' = _ from congrArg Prod.snd HED.out]; exact (HD7.out.rows.set HR7.out).set (set_zero HR7.out)⟩
                  · exact (HB7.out.setCell (p := ⟨w.heap.size + 1, 0, none⟩) (by simp; omega) _).setCell (p := ⟨w.heap.size + 1, 1, none⟩) (by simp; omega) _
          · skip
            obtain ⟨k, hk⟩ : ∃ k, (i - 2) / 2 = k := ⟨_, rfl⟩
            rw [hk] at hn3
            subst hn3
            obtain ⟨f, hf⟩ : ∃ f, ns[0]'(by omega) = f := ⟨_, rfl⟩
            obtain ⟨t, ht⟩ : ∃ t, ns[1]'(by omega) = t := ⟨_, rfl⟩
            have n0 := HIN.out 0 f (by rw [List.getElem?_eq_getElem (by omega), hf])
            have n1 := HIN.out 1 t (by rw [List.getElem?_eq_getElem (by omega), ht])
            obtain ⟨PS, hPS⟩ : ∃ PS, pairs (ns.drop 2) = PS := ⟨_, rfl⟩
            have hpl : PS.length = k := by rw [← hPS]; exact pairs_len k _ (by rw [List.length_drop]; omega)
            have HPC : Hid (∀ (j : Nat) (p : Pt), PS[j]? = some p → w3.cell? ⟨bL, oL + (2 + 2 * j), none⟩ = some (.int .i64 p.1) ∧ w3.cell? ⟨bL, oL + (2 + 2 * j + 1), none⟩ = some (.int .i64 p.2)) := Lib.hid (fun j p hp => by
              have hj : j < k := by rw [← hpl]; exact (List.getElem?_eq_some_iff.1 hp).1
              have hg := pairs_get (ns.drop 2) j (by rw [List.length_drop]; omega)
              rw [hPS, hp] at hg
              have hg := Option.some.inj hg
              rw [hg, List.getElem?_drop, List.getElem?_drop]
              have e1 : 2 + 2 * j < ns.length := by omega
              have e2 : 2 + (2 * j + 1) < ns.length := by omega
              rw [List.getElem?_eq_getElem e1, List.getElem?_eq_getElem e2]
              exact ⟨HIN.out _ _ (List.getElem?_eq_getElem e1), by rw [show 2 + 2 * j + 1 = 2 + (2 * j + 1) by omega]; exact HIN.out _ _ (List.getElem?_eq_getElem e2)⟩)
            have HADD : Hid ((E, D') = if manyD (D.1, D.2 ++ [((f, t), PS)]) = true then (6, D) else (0, (D.1, D.2 ++ [((f, t), PS)]))) := Lib.hid (by
              rw [HONE2.out, hx]
              unfold addP
              rw [if_pos rfl, List.getElem?_eq_getElem (by omega : 0 < ns.length), List.getElem?_eq_getElem (by omega : 1 < ns.length), hf, ht, hPS]
              rfl)
            have hq : (x.toList == [114, 111, 117, 116, 101]) = true := by rw [bytes_route', hx]; decide
            have HPL := Lib.hid hpl
            have HS0 : Hid (G2 bL oL f t w3.drew) := Lib.hid ⟨n0, n1⟩
            have i0 : (0 : Int) < 2 + 2 * (k : Int) := by omega
            have i1 : (1 : Int) < 2 + 2 * (k : Int) := by omega
            have hkk : k ≤ 200000000 := by omega
            clear hk hf ht n0 n1 hPS hpl HONE2 hx HIN HNS
            go_wp2_with fail
            clear hq
            refine wp_region_headsV [(0, false), (1, false), (2, true), (3, false), (4, false), (5, true), (6, false)] [8] (fun _ => True) (G2 bL oL f t) (by kernel_rfl) (by kernel_rfl) trivial HS0.out ?_
            iterate 7 (first | (refine wpHv_skip rfl (by rfl) ?_) | (refine wpHv_cons (v := ?_) rfl (by rfl) (fun wS hwS => ?_) ?_; rotate_left 1; (focus ((first | (have hwA := And.right hwS rfl) | (have hwA := And.left hwS)); clear hwS; (try dsimp only [G2] at hwA); go_simp; (try with_reducible rfl); (try (trace_state; fail))))); (try simp only [List.getElem_toArray, List.getElem_cons_zero, List.getElem_cons_succ]); (try simp only [Act.put, List.setIfInBounds_toArray, List.set_cons_zero, List.set_cons_succ]))
            refine wpHv_nil ?_
            change wpV _ _ _ _ _ _ _ (1 + 1) _ _ _
            refine wpV_one (k := 7) (by kernel_rfl) rfl (fun K hK => ?_)
            have HKK := Lib.hid hK
            clear hK
            go_simp
            have HS1 : Hid (G2 bL oL f t (w3.drew.alloc (.cells #[.int .i64 0, .int .i64 0, .slice none 0 0] 78))) := Lib.hid (HS0.out.later ((Below.refl _ _).alloc (Nat.le_refl _) _))
            go_simp
            refine HKK.out _ _ ⟨trivial, fun _ _ => HS1.out⟩ ?_
            clear HKK K
            change wpV _ _ _ _ _ _ _ (0 + 1) _ _ _
            refine wpV_one (k := 8) (by kernel_rfl) rfl (fun K hK => ?_)
            have HKK := Lib.hid hK
            clear hK
            go_simp
            go_simp
            refine HKK.out _ _ ⟨trivial, fun hn => absurd (by decide) hn⟩ ?_
            clear HKK K
            refine wpV_done (by kernel_rfl) (NoPanic.normal ?_)
            have B4 : Below w3.heap.size w3 (w3.alloc (.cells #[.int .i64 f, .int .i64 t, .slice none 0 0] 78)).drew := ((Below.refl _ _).alloc (Nat.le_refl _) _).drew
            have hG4 : (w3.alloc (.cells #[.int .i64 f, .int .i64 t, .slice none 0 0] 78)).drew.heap[w3.heap.size]? = some (.cells #[.int .i64 f, .int .i64 t, .slice none 0 0] 78) := heap_at rfl
            obtain ⟨w4, hw4⟩ : ∃ x4, (w3.alloc (.cells #[.int .i64 f, .int .i64 t, .slice none 0 0] 78)).drew = x4 := ⟨_, rfl⟩
            rw [hw4] at B4 hG4 ⊢
            clear hw4 HS0
            go_wp2_with fail
            obtain ⟨g3, hg3⟩ : ∃ g3, w3.heap.size = g3 := ⟨_, rfl⟩
            rw [hg3] at B4 hG4 ⊢
            have HG3 := Lib.hid hg3
            have hg3a : w.heap.size + 2 ≤ g3 := by omega
            clear hg3
            go_loopw [14] (fun qi wr => ∃ (i j : Nat) (V : Value), j ≤ k ∧ i ≤ 2 + 2 * j ∧ 2 + 2 * j ≤ i ∧ qi = .int .i64 i ∧ wr.heap[g3]? = some (.cells #[.int .i64 f, .int .i64 t, V] 78) ∧ wr.ownsRow g3 73 2 V j (flat encP (PS.take j)) ∧ Below g3 w3 wr) (fun q _ => 2 + 2 * k - (intOf q).toNat)
            case atStart => exact ⟨2, 0, .slice none 0 0, by omega, by omega, by omega, rfl, hG4, World.ownsRow_nil _ _ _ _, B4⟩
            case round =>
              clear hG4 B4
              obtain ⟨i, j, V, hj, hi1, hi2, rfl, hGr, hRr, Br⟩ := hrel
              obtain ⟨wq, rfl⟩ : ∃ q : World, q = wr := ⟨_, rfl⟩
              obtain ⟨AV, cV, rfl, hcV⟩ := own_shape hRr
              have hsq : g3 + 1 ≤ wq.heap.size := (Array.getElem?_eq_some_iff.1 hGr).1
              have HGr := Lib.hid hGr
              have HRr := Lib.hid hRr
              have HBr := Lib.hid Br
              have HBx : Hid (Below w3.heap.size w3 wq) := Lib.hid (by rw [HG3.out]; exact Br)
              clear hRr Br
              by_cases hjk : j < k
              · have hdj : decide ((i : Int) < 2 + 2 * (k : Int)) = true := by simp only [decide_eq_true_eq]; omega
                have k0 : (0 : Int) ≤ (i : Int) := by omega
                have k1 : (i : Int) < 2 + 2 * (k : Int) := by omega
                have k3 : (0 : Int) ≤ (i : Int) + 1 := by omega
                have k4 : (i : Int) + 1 < 2 + 2 * (k : Int) := by omega
                have k5 : IntKind.i64.wrap ((i : Int) + 1) = (i : Int) + 1 := by rw [IntKind.wrap_i64]; omega
                have k6 : ((i : Int) + 1).toNat = i + 1 := by omega
                have hjl : j < PS.length := by rw [HPL.out]; exact hjk
                have HP := Lib.hid (List.getElem?_eq_getElem hjl)
                generalize PS[j] = pp at *
                clear hjl
                obtain ⟨px, py⟩ := pp
                obtain ⟨m1, m2⟩ := HPC.out j _ HP.out
                rw [show 2 + 2 * j = i by omega] at m1 m2
                have HF0 : Hid (F3 g3 bL oL i (.slice AV j cV) px py wq.drew) := Lib.hid ⟨(Cl.of_block hGr (j := 2) rfl).cell, cell_later HBx.out.drew m1, cell_later HBx.out.drew m2⟩
                clear m1 m2 hGr
                go_wp2_with fail
                refine wp_region_headsV [(0, false), (1, true), (2, false), (3, false), (4, false), (5, true), (6, false), (7, false), (8, false), (9, false), (10, true), (11, false)] [13, 15] (fun _ => True) (F3 g3 bL oL i (.slice AV j cV) px py) (by kernel_rfl) (by kernel_rfl) trivial HF0.out ?_
                iterate 12 (first | (refine wpHv_skip rfl (by rfl) ?_) | (refine wpHv_cons (v := ?_) rfl (by rfl) (fun wS hwS => ?_) ?_; rotate_left 1; (focus ((first | (have hwA := And.right hwS rfl) | (have hwA := And.left hwS)); clear hwS; (try dsimp only [F3] at hwA); go_simp; (try with_reducible rfl); (try (trace_state; fail))))); (try simp only [List.getElem_toArray, List.getElem_cons_zero, List.getElem_cons_succ]); (try simp only [Act.put, List.setIfInBounds_toArray, List.set_cons_zero, List.set_cons_succ]))
                refine wpHv_nil ?_
                change wpV _ _ _ _ _ _ _ (3 + 1) _ _ _
                refine wpV_one (k := 12) (by kernel_rfl) rfl (fun K hK => ?_)
                have HKK := Lib.hid hK
                clear hK
                go_simp
                obtain ⟨wz, hwz⟩ : ∃ q, q = (wq.alloc (.cells #[.int .i64 px, .int .i64 py] 73)).drew := ⟨_, rfl⟩
                rw [← hwz]
                have Bz : Below wq.heap.size wq wz := by rw [hwz]; exact ((Below.refl _ _).alloc (Nat.le_refl _) _).drew
                have HGz : Hid (wz.heap[wq.heap.size]? = some (.cells #[.int .i64 px, .int .i64 py] 73)) := Lib.hid (by rw [hwz]; exact heap_at rfl)
                have HF6 : Hid (F3 g3 bL oL i (.slice AV j cV) px py wz) := Lib.hid (F3.later (w := wq) HF0.out Bz)
                have HRz := Lib.hid (own_later HRr.out Bz)
                have HQz := Lib.hid (block_later Bz HGr.out)
                have HBz := Lib.hid (HBr.out.trans (Bz.mono (by omega)))
                have hsz := Bz.size
                clear hwz Bz
                refine HKK.out _ _ ⟨trivial, fun _ _ => HF6.out⟩ ?_
                clear HKK K
                change wpV _ _ _ _ _ _ _ (2 + 1) _ _ _
                refine wpV_one (k := 13) (by kernel_rfl) rfl (fun K hK => ?_)
                have HKK := Lib.hid hK
                clear hK
                rw [if_pos (by rfl)]
                refine wp_append_own _ (.tmp 102) (.tmp 113) 76 rfl g3 73 iP (.agg #[.int .i64 0, .int .i64 0]) 2 16 Tryd.underlying76 hiP hzP0 hzP1 hzP2 rfl (by decide) (.slice AV j cV) j (flat encP (PS.take j)) rfl HRz.out ⟨wq.heap.size, 0, none⟩ 1 1 [.int .i64 px, .int .i64 py] rfl rfl (World.news_of_block HGz.out) (by intro u hu; simp at hu; rcases hu with rfl | rfl <;> rfl) (by simp only [maxLen]; omega) (by omega) (by omega) ?_
                intro V5 w5 hown hgrow _
                obtain ⟨g5, c5, rfl⟩ := ownsRow_succ hown
                have HO5 := Lib.hid hown
                have HGR := Lib.hid hgrow
                have hb5 := (hgrow.block g3 (Array.getElem?_eq_some_iff.1 HQz.out).1 (by intro e; obtain ⟨cur, hcur⟩ := own_typ HRz.out e.symm; exact ne_of_typ HQz.out hcur (by decide) rfl)).trans HQz.out
                have q5 := (Cl.of_block hb5 (j := 2) rfl).cell
                have r5 := (Cl.of_block hb5 (j := 2) rfl).free
                have HB5 := Lib.hid hb5
                clear hown hgrow hb5
                refine HKK.out _ _ ⟨trivial, fun hn => absurd (by decide) hn⟩ ?_
                clear HKK K
                change wpV _ _ _ _ _ _ _ (1 + 1) _ _ _
                refine wpV_one (k := 14) (by kernel_rfl) rfl (fun K hK => ?_)
                have HKK := Lib.hid hK
                clear hK
                go_simp
                refine HKK.out _ _ ⟨trivial, fun _ h => h⟩ ?_
                clear HKK K
                change wpV _ _ _ _ _ _ _ (0 + 1) _ _ _
                refine wpV_one (k := 15) (by kernel_rfl) rfl (fun K hK => ?_)
                have HKK := Lib.hid hK
                clear hK
                go_simp
                go_simp
                refine HKK.out _ _ ⟨trivial, fun hn => absurd (by decide) hn⟩ ?_
                clear HKK K
                refine wpV_done (by kernel_rfl) (NoPanic.normal ?_)
                have HW : Hid (Below g3 w3 (w5.setCell ⟨g3, 2, none⟩ (.slice (some ⟨g5, 0, none⟩) (j + 1) c5))) := Lib.hid ((HBz.out.grown HGR.out (by omega) (fun q e => own_ge HRz.out e)).setCell (p := ⟨g3, 2, none⟩) (Nat.le_refl _) _)
                have HX5 : Hid ((w5.setCell ⟨g3, 2, none⟩ (.slice (some ⟨g5, 0, none⟩) (j + 1) c5)).heap[g3]? = some (.cells #[.int .i64 f, .int .i64 t, .slice (some ⟨g5, 0, none⟩) (j + 1) c5] 78)) := Lib.hid (set_two HB5.out)
                have HY5 : Hid ((w5.setCell ⟨g3, 2, none⟩ (.slice (some ⟨g5, 0, none⟩) (j + 1) c5)).ownsRow g3 73 2 (.slice (some ⟨g5, 0, none⟩) (j + 1) c5) (j + 1) (flat encP (PS.take (j + 1)))) := Lib.hid (by
                  have h := row_other HO5.out (grown_set w5 g3 2 (.slice (some ⟨g5, 0, none⟩) (j + 1) c5)) (fun b' e => by cases e; exact ⟨_, _, HB5.out, by decide⟩)
                  rw [List.take_add_one, HP.out, flat_append]
                  simpa [flat, encP] using h)
                clear q5 r5 k5 k6
                go_wp2_with fail
                go_roundw
                case rel => exact ⟨i + 2, j + 1, _, by omega, by omega, by omega, by go_num, HX5.out, HY5.out, HW.out⟩
                case measure => simp [intOf]; omega
              · have hjj : j = k := by omega
                subst hjj
                have hdj : decide ((i : Int) < 2 + 2 * (j : Int)) = false := by simp only [decide_eq_false_iff_not]; omega
                rw [List.take_of_length_le (by rw [HPL.out]; exact Nat.le_refl _)] at HRr
                have HD5 := Lib.hid (HD3.out.later HBx.out)
                have HR5 := Lib.hid (block_later HBx.out HR3g.out)
                have HB5 := Lib.hid (HB3.out.trans (HBx.out.mono (by omega)))
                have HP5 : Hid (wq.ownsRow base 73 2 (.slice AV j cV) PS.length (flat encP PS)) := Lib.hid (by rw [HPL.out]; exact row_rebase HRr.out (by omega))
                have d0 := (Cl.of_block HD5.out.cell (j := 0) rfl).cell
                have d1 := (Cl.of_block HD5.out.cell (j := 1) rfl).cell
                have u0 := (Cl.of_block hGr (j := 0) rfl).cell
                have u1 := (Cl.of_block hGr (j := 1) rfl).cell
                have u2 := (Cl.of_block hGr (j := 2) rfl).cell
                clear hGr
                have HDz : Hid (DrO (wq.alloc (.cells #[.int .i64 f, .int .i64 t, .slice AV j cV] 78)) base w.heap.size (.slice AB D.1.length cB) (.slice AR D.2.length cR) M D) := Lib.hid (HD5.out.later ((Below.refl _ _).alloc (Nat.le_refl _) _))
                have HPz := Lib.hid (own_later HP5.out ((Below.refl _ _).alloc (Nat.le_refl _) (.cells #[.int .i64 f, .int .i64 t, .slice AV j cV] 78)))
                go_upto_region 21 with fail
                go_upto_region 28 with (at_builtin; refine wpList_append_lies _ rfl (.tmp 117) (.tmp 119) 43 rfl base 78 iR (.agg #[.int .i64 0, .int .i64 0, .slice none 0 0]) 3 40 Tryd.underlying43 hiR hzR0 hzR1 hzR2 rfl (by decide) (.slice AR D.2.length cR) D.2.length (flat encM M) rfl HDz.out.rt ⟨wq.heap.size, 0, none⟩ 1 1 [.int .i64 f, .int .i64 t, .slice AV j cV] rfl rfl (World.news_of_block (heap_at rfl)) (by intro y hy; simp at hy; rcases hy with rfl | rfl | rfl <;> rfl) (by omega) (by simp only [maxLen]; omega) (by omega) (by simp; omega) _ rfl ?_; intro gq cq w8 hown hgrow hat hlt; have hb8 := (hgrow.block w.heap.size (Array.getElem?_eq_some_iff.1 HDz.out.cell).1 (by intro e; obtain ⟨cur, hcur⟩ := own_typ HDz.out.rt e.symm; exact ne_of_typ HDz.out.cell hcur (by decide) rfl)).trans HDz.out.cell; have q8 := (Cl.of_block hb8 (j := 1) rfl).cell; have r8 := (Cl.of_block hb8 (j := 1) rfl).free; clear hb8)
                have HD6 := Lib.hid (DrO.route (m := (f, t, .slice AV j cV)) HDz.out hgrow hown HPz.out)
                have hb8 := ((hgrow.block (w.heap.size + 1) (by simp; omega) (by intro e; obtain ⟨cur, hcur⟩ := own_typ HDz.out.rt e.symm; exact ne_of_typ (HR5.out |> block_later ((Below.refl _ _).alloc (Nat.le_refl _) (.cells #[.int .i64 f, .int .i64 t, .slice AV j cV] 78))) hcur (by decide) rfl)).trans (block_later ((Below.refl _ _).alloc (Nat.le_refl _) _) HR5.out))
                have HB6 : Hid (Below base w (w8.setCell ⟨w.heap.size, 1, none⟩ (.slice (some ⟨gq, 0, none⟩) (D.2.length + 1) cq))) := Lib.hid (((HB5.out.alloc (by omega) _).grown hgrow (by simp; omega) (fun q hq => own_ge HDz.out.rt hq)).setCell (p := ⟨w.heap.size, 1, none⟩) hbase _)
                have HR6 : Hid ((w8.setCell ⟨w.heap.size, 1, none⟩ (.slice (some ⟨gq, 0, none⟩) (D.2.length + 1) cq)).heap[w.heap.size + 1]? = some (.cells #[.slice none 0 0, .slice none 0 0] 45)) := Lib.hid (((grown_set w8 w.heap.size 1 (.slice (some ⟨gq, 0, none⟩) (D.2.length + 1) cq)).block (w.heap.size + 1) (Array.getElem?_eq_some_iff.1 hb8).1 (fun e => by injection e with e; omega)).trans hb8)
                have HS6 : Hid (w.heap.size + 2 ≤ (w8.setCell ⟨w.heap.size, 1, none⟩ (.slice (some ⟨gq, 0, none⟩) (D.2.length + 1) cq)).heap.size) := Lib.hid (by have := (Array.getElem?_eq_some_iff.1 HR6.out).1; omega)
                obtain ⟨w6, hw6⟩ : ∃ q, q = w8.setCell ⟨w.heap.size, 1, none⟩ (.slice (some ⟨gq, 0, none⟩) (D.2.length + 1) cq) := ⟨_, rfl⟩
                rw [← hw6] at HD6 HB6 HR6 HS6 ⊢
                clear hw6 hown hgrow hat hlt q8 r8 hb8 HDz HPz d0 d1 u0 u1 u2
                have p0 := (Cl.of_block HD6.out.cell (j := 0) rfl).cell
                have p1 := (Cl.of_block HD6.out.cell (j := 1) rfl).cell
                have hto := totP_snoc D.2 ((f, t), PS)
                have hpl := HPL.out
                go_wp2_with fail
                refine (refMany_any HD6.out.drw (by show D.1.length ≤ _; omega) (by simp; omega) (by show totP (D.2 ++ [((f, t), PS)]) ≤ _; rw [hto]; show totP D.2 + PS.length ≤ _; omega)).mono ?_
                obtain ⟨mm, hmm⟩ : ∃ mm, manyD (D.1, D.2 ++ [((f, t), PS)]) = mm := ⟨_, rfl⟩
                simp only [hmm]
                have HMM := Lib.hid hmm
                clear hmm p0 p1 hto hpl
                rintro e w7 ⟨rfl, B7⟩
                have HD7 := Lib.hid (HD6.out.later B7)
                have HR7 := Lib.hid (block_later B7 HR6.out)
                have HB7 := Lib.hid (HB6.out.trans (B7.mono (by have := HS6.out; omega)))
                clear B7 HD6 HR6 HB6
                cases mm with
                | true =>
                  have HE : Hid (E = 6) := Lib.hid (by
                    have hE := HADD.out
                    rw [if_pos HMM.out] at hE
                    exact congrArg Prod.fst hE)
                  have d0 := (Cl.of_block HD7.out.cell (j := 0) rfl).cell
                  have d1 := (Cl.of_block HD7.out.cell (j := 1) rfl).cell
                  have p0 := (Cl.of_block HR7.out (j := 0) rfl).cell
                  have p1 := (Cl.of_block HR7.out (j := 1) rfl).cell
                  have r0 := (Cl.of_block HR7.out (j := 0) rfl).free
                  have r1 := (Cl.of_block HR7.out (j := 1) rfl).free
                  go_wp2_with fail
                  refine bodyPost_ret (v := .tuple #[.agg #[(.slice AB D.1.length cB), (.slice (some ⟨gq, 0, none⟩) (D.2.length + 1) cq)], .int .i64 6]) ?_ rfl ⟨AB, D.1.length, cB, (some ⟨gq, 0, none⟩), (D.2.length + 1), cq, by rw [HE.out], ?_, ?_⟩
                  · rw [results_cell_tmp rfl]
                    go_simp
                  · exact fun h => absurd (HE.out.symm.trans h) (by decide)
                  · exact (HB7.out.setCell (p := ⟨w.heap.size + 1, 0, none⟩) (by simp; omega) _).setCell (p := ⟨w.heap.size + 1, 1, none⟩) (by simp; omega) _
                | false =>
                  have HED : Hid ((E, D') = (0, (D.1, D.2 ++ [((f, t), PS)]))) := Lib.hid (by
                    have hE := HADD.out
                    rw [if_neg (by rw [HMM.out]; decide)] at hE
                    exact hE)
                  have HE : Hid (E = 0) := Lib.hid (congrArg Prod.fst HED.out)
                  have d0 := (Cl.of_block HD7.out.cell (j := 0) rfl).cell
                  have d1 := (Cl.of_block HD7.out.cell (j := 1) rfl).cell
                  have p0 := (Cl.of_block HR7.out (j := 0) rfl).cell
                  have p1 := (Cl.of_block HR7.out (j := 1) rfl).cell
                  have r0 := (Cl.of_block HR7.out (j := 0) rfl).free
                  have r1 := (Cl.of_block HR7.out (j := 1) rfl).free
                  go_wp2_with fail
                  refine bodyPost_ret (v := .tuple #[.agg #[(.slice AB D.1.length cB), (.slice (some ⟨gq, 0, none⟩) (D.2.length + 1) cq)], .int .i64 0]) ?_ rfl ⟨AB, D.1.length, cB, (some ⟨gq, 0, none⟩), (D.2.length + 1), cq, by rw [HE.out], ?_, ?_⟩
                  · rw [results_cell_tmp rfl]
                    go_simp
                  · exact fun _ => ⟨M ++ [(f, t, .slice AV j cV)], by rw [show D' = _ from congrArg Prod.snd HED.out]; exact (HD7.out.rows.set HR7.out).set (set_zero HR7.out)⟩
                  · exact (HB7.out.setCell (p := ⟨w.heap.size + 1, 0, none⟩) (by simp; omega) _).setCell (p := ⟨w.heap.size + 1, 1, none⟩) (by simp; omega) _
end Go.Proofs.YtkpgjgmlhcipeaaDoor

