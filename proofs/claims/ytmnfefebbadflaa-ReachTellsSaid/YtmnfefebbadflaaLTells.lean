/- The law ReachTells returns true at every input. -/
import Derived.Test.YtmnfefebbadflaaTellsA
namespace Go.Proofs.Ytmnfefebbadflaa
open Go.RowKit
theorem leaves56 : leaves Try.prog 3 56 = some [(0, 3), (1, 3)] := by kernel_rfl
/-- A slice of pairs of numbers. -/
theorem open_ipairs {H : Type} {enc : TypeId × Value → H} {W : World} {A : Option Addr} {len cap : Nat} (R : Rd enc Try.prog W 0 (fun _ => true) true 55 [.slice A len cap]) :
    len ≤ cap ∧ cap ≤ 140737488351232 ∧ (A = none → len = 0 ∧ cap = 0) ∧
      (0 < len → ∃ b off, A = some ⟨b, off, none⟩ ∧ ∀ i, i < len → ∃ x y : Int, -9223372036854775808 ≤ x ∧ x ≤ 9223372036854775807 ∧ -9223372036854775808 ≤ y ∧ y ≤ 9223372036854775807 ∧ W.cell? ⟨b, off + i * 2, none⟩ = some (.int .i64 x) ∧ W.cell? ⟨b, off + i * 2 + 1, none⟩ = some (.int .i64 y)) := by
  obtain ⟨A', len', cap', e, h1, h2, _, h3, h4⟩ := R.slice (sz := 2) (by_ := 16) Try.underlying55 (by kernel_rfl) (by kernel_rfl) leaves56 ⟨3, by simp⟩
  cases e
  have h2' := h2 rfl
  refine ⟨h1, by omega, h3, fun hl => ?_⟩
  obtain ⟨b, off, rfl, _, hc⟩ := h4 hl
  refine ⟨b, off, rfl, fun i hi => ?_⟩
  obtain ⟨c0, e0, r0⟩ := hc i hi (0, 3) (by simp)
  obtain ⟨c1, e1, r1⟩ := hc i hi (1, 3) (by simp)
  obtain ⟨n0, k0, w0⟩ := r0.int Try.underlying3
  obtain ⟨n1, k1, w1⟩ := r1.int Try.underlying3
  obtain ⟨l0, l1⟩ := int_of w0
  obtain ⟨l2, l3⟩ := int_of w1
  cases k0; cases k1
  exact ⟨n0, n1, l0, l1, l2, l3, e0, e1⟩
/-- The copy, if it was made. -/
def CO (w : World) (B0 n m : Nat) (Va : Value) (L : List (Nat × Nat)) (Vo pc : Value) : Prop :=
  pc = .pointer none ∨ ∃ cb A' cap' g' c' B Y Lo, pc = .pointer (some ⟨cb, 0, none⟩) ∧ B0 ≤ B ∧ B ≤ cb ∧ RR w cb A' cap' g' c' B n m Y ∧ Bnd n m Y ∧ Inv n Y Lo ∧ OS w Va L Vo Lo
theorem CO.later {w w' : World} {B0 n m : Nat} {Va : Value} {L : List (Nat × Nat)} {Vo pc : Value} (h : CO w B0 n m Va L Vo pc) (b : Below w.heap.size w w') : CO w' B0 n m Va L Vo pc := by
  rcases h with h | ⟨cb, A', cap', g', c', B, Y, Lo, h1, h2, h3, h4, h5, h6, h7⟩
  · exact .inl h
  · exact .inr ⟨cb, A', cap', g', c', B, Y, Lo, h1, h2, h3, h4.later b, h5, h6, h7.of_heap (fun q cur hq => b.block q (Array.getElem?_eq_some_iff.1 hq).1)⟩
theorem CO.grow {w w' : World} {B0 n m B : Nat} {Va : Value} {L : List (Nat × Nat)} {Vo pc : Value} (h : CO w B0 n m Va L Vo pc) (o : w.ownsRow B 56 2 Va L.length (flat encP L)) {p : Nat × Nat} {g cap : Nat}
    (hown : w'.ownsRow B 56 2 (.slice (some ⟨g, 0, none⟩) (L.length + 1) cap) (L.length + 1) (flat encP L ++ encP p)) (hg : w.grownBy w' Va.ownBlock) (hat : Va.ownBlock = some g ∨ (w.heap.size ≤ g ∧ w.grownBy w' none)) :
    CO w' B0 n m (.slice (some ⟨g, 0, none⟩) (L.length + 1) cap) (L ++ [p]) Vo pc := by
  rcases h with h | ⟨cb, A', cap', g', c', B, Y, Lo, h1, h2, h3, h4, h5, h6, h7⟩
  · exact .inl h
  · exact .inr ⟨cb, A', cap', g', c', B, Y, Lo, h1, h2, h3, h4.row_grow o hg, h5, h6, h7.append hown hg hat⟩
theorem CO.add {w w' : World} {rb : Nat} {A : Option Addr} {cap : Nat} {g c : Nat → Nat} {base B0 n m : Nat} {X : Nat → Nat → Nat} {Va : Value} {L : List (Nat × Nat)} {Vo pc : Value} (h : CO w B0 n m Va L Vo pc) (r : RR w rb A cap g c base n m X)
    (k : Chg (fun b => ∃ i, i < n ∧ b = g i) w w') (hg : ∀ i, i < n → g i < B0) : CO w' B0 n m Va L Vo pc := by
  rcases h with h | ⟨cb, A', cap', g', c', B, Y, Lo, h1, h2, h3, h4, h5, h6, h7⟩
  · exact .inl h
  · refine .inr ⟨cb, A', cap', g', c', B, Y, Lo, h1, h2, h3, h4.chg' k (fun ⟨i, hi, e⟩ => ?_) (fun i hi ⟨j, hj, e⟩ => ?_) (fun hn a ha ⟨j, hj, e⟩ => ?_), h5, h6, h7.of_heap (fun q cur hq => chg_typ r k q cur hq (by decide))⟩
    · have := hg i hi; omega
    · have := hg j hj; have := (h4.rows i hi).2.1; omega
    · obtain ⟨gb, z, f, hA', hb, _⟩ := h4.top hn
      rw [ha] at hA'; cases hA'
      have := hg j hj
      simp at e; omega
theorem info56 : (Try.prog.info? 56).map (fun i => (i.zero, i.size, i.bytes)) = some (some (.agg #[.int .i64 0, .int .i64 0]), 2, 16) := by kernel_rfl
theorem row_later' {w w' : World} {B E sz : Nat} {V : Value} {k : Nat} {xs : List Value} (o : w.ownsRow B E sz V k xs) (b : Below w.heap.size w w') : w'.ownsRow B E sz V k xs := row_typ o (fun q _ hq => b.block q (Array.getElem?_eq_some_iff.1 hq).1)
theorem row_lt' {w : World} {B E sz : Nat} {V : Value} {k : Nat} {xs : List Value} (o : w.ownsRow B E sz V k xs) {g : Nat} (h : V.ownBlock = some g) : g < w.heap.size := (o.lt g h).2
set_option maxRecDepth 100000 in
set_option maxHeartbeats 2000000 in
theorem tells_walk {H : Type} {enc : TypeId × Value → H} (sz : Int) (A : Option Addr) (len cap : Nat) (at_ : Int) (w : World) (hsz : (Lit.int .u8 sz).wf = true) (R : Rd enc Try.prog w 0 (fun _ => true) true 55 [.slice A len cap]) (hat : (Lit.int .u8 at_).wf = true) :
    Calls Try.prog 6 #[.int .u8 sz, .slice A len cap, .int .u8 at_] w fun e w' => e = .returned (.bool true) ∧ Below w.heap.size w w' := by
  obtain ⟨hlc, hcap, hN, hA⟩ := open_ipairs R
  obtain ⟨s0, rfl, hs0⟩ := byte_of hsz
  obtain ⟨t0, rfl, ht0⟩ := byte_of hat
  clear R hsz hat
  obtain ⟨N, hNe⟩ : ∃ N : Nat, N = min len 30 := ⟨min len 30, rfl⟩
  have hN1 : N ≤ len := by omega
  have hN2 : N ≤ 30 := by omega
  obtain ⟨n, hn⟩ : ∃ n, n = s0 % 70 := ⟨_, rfl⟩
  have hn1 : n < 70 := by omega
  have hne : ((s0 : Int) % 70) = (n : Int) := by omega
  clear hn
  go_enter Try.func6, Try.ntmps6
  go_wp2_with fail
  refine (new_in n (by omega) _).mono ?_
  obtain ⟨m, hm⟩ : ∃ m, m = (n + 63) / 64 := ⟨_, rfl⟩
  rw [← hm]
  have hm1 : n ≤ m * 64 := by omega
  have hm2 : m ≤ 2 := by omega
  have hm3 : 0 < n → 0 < m := by omega
  clear hm
  rintro e w1 ⟨rfl, M1⟩
  have HM1 := Lib.hid M1
  have hs1 : w1.heap.size ≤ w.heap.size + 2 + n ∧ w.heap.size + 2 + n ≤ w1.heap.size := by have := M1.size; omega
  clear M1
  go_wp2_with fail
  refine (rwakes_any _).mono ?_
  rintro e w2 ⟨rfl, B2⟩
  have hs2 := B2.size
  have HR := Lib.hid (HM1.out.rr.later B2)
  have HB2 := Lib.hid (below_then HM1.out.below HM1.out.below.size B2)
  clear B2
  go_upto_region 7 with fail
  go_cut [36, 37, 38] (fun s n c wx => s = .slice A N cap ∧ n = .int .i64 N ∧ c = .int .i64 0 ∧ wx = w2)
  case first =>
    by_cases h : (len : Int) ≤ 30
    · obtain rfl : N = len := by omega
      clear hNe
      go_wp2_with fail
      go_meet
      exact ⟨rfl, congrArg (Value.int .i64) (by omega), rfl, rfl⟩
    · obtain rfl : N = 30 := by omega
      clear hNe
      go_wp2_with fail
      go_meet
      exact ⟨rfl, by rfl, rfl, rfl⟩
  case rest =>
    obtain ⟨rfl, rfl, rfl, hwx⟩ := hcut
    replace hwx := hwx.symm
    subst hwx
    clear hNe
    obtain ⟨g1, hg1⟩ : ∃ g : Nat → Nat, g = fun i => w.heap.size + 2 + i := ⟨_, rfl⟩
    have G1 : ∀ i, g1 i = w.heap.size + 2 + i := fun i => by rw [hg1]
    rw [← hg1] at HR
    have HG1 := Lib.hid G1
    have HG2 : Hid (∀ i, i < n → g1 i < w1.heap.size) := Lib.hid (fun i hi => by have := G1 i; omega)
    clear hg1 G1
    go_wp2_with fail
    go_loopw [10, 11, 12, 38] (fun Va Vo pc c wr => ∃ (k : Nat) (X : Nat → Nat → Nat) (L : List (Nat × Nat)), k ≤ N ∧ c = .int .i64 k ∧ wr.ownsRow w.heap.size 56 2 Va L.length (flat encP L) ∧ L.length ≤ 2 * k ∧
      RR wr (w.heap.size + 1) (some ⟨w.heap.size, 0, none⟩) n g1 (fun _ => m) w.heap.size n m X ∧ Bnd n m X ∧ Inv n X L ∧ CO wr w1.heap.size n m Va L Vo pc ∧ Below w.heap.size w wr ∧ w1.heap.size ≤ wr.heap.size) (fun _ _ _ c _ => N - (intOf c).toNat)
    case atStart => exact ⟨0, _, [], by omega, rfl, World.ownsRow_nil _ _ _ _, by simp, HR.out, bnd_zero _ _, Inv.zero _, .inl rfl, HB2.out, hs2⟩
    case round =>
      obtain ⟨k, X, L, hk, rfl, OA, hL2, RX, BX, IX, CC, Bl, hz1⟩ := hrel
      by_cases hlt : k < N
      · obtain ⟨b, off, rfl, hcells⟩ := hA (by omega)
        obtain ⟨a0, a1, l0, l1, l2, l3, c0, c1⟩ := hcells k (by omega)
        have c0 := cell_later Bl c0
        have c1 := cell_later Bl c1
        have HO := Lib.hid OA
        have HRX := Lib.hid RX
        have HBX := Lib.hid BX
        have HIX := Lib.hid IX
        have HCC := Lib.hid CC
        have HBl := Lib.hid Bl
        have hsz := Bl.size
        clear OA RX BX IX CC Bl hcells hA hN
        obtain ⟨Va, rfl⟩ : ∃ v : Value, v = u10 := ⟨_, rfl⟩
        obtain ⟨Vo, rfl⟩ : ∃ v : Value, v = u11 := ⟨_, rfl⟩
        obtain ⟨pc, rfl⟩ : ∃ v : Value, v = u12 := ⟨_, rfl⟩
        go_upto_region 10 with fail
        go_cut [53, 54, 55] (fun s l c wx => ∃ (gs : Nat) (z : Nat → Int) (cz : Array Value), s = .slice (some ⟨gs, 0, none⟩) 2 2 ∧ l = .int .i64 2 ∧ c = .int .i64 0 ∧ wx.heap[gs]? = some (.cells cz 56) ∧ (∀ r, r < 4 → -9223372036854775808 ≤ z r ∧ z r ≤ 9223372036854775807 ∧ cz[r]? = some (.int .i64 (z r))) ∧ Below wr.heap.size wr wx ∧ wr.heap.size ≤ gs)
        case first =>
          have fin : ∀ (z0 z1 z2 z3 : Int), (-9223372036854775808 ≤ z0 ∧ z0 ≤ 9223372036854775807) → (-9223372036854775808 ≤ z1 ∧ z1 ≤ 9223372036854775807) → (-9223372036854775808 ≤ z2 ∧ z2 ≤ 9223372036854775807) → (-9223372036854775808 ≤ z3 ∧ z3 ≤ 9223372036854775807) →
              ∃ z : Nat → Int, ∀ r, r < 4 → -9223372036854775808 ≤ z r ∧ z r ≤ 9223372036854775807 ∧ (#[.int .i64 z0, .int .i64 z1, .int .i64 z2, .int .i64 z3] : Array Value)[r]? = some (.int .i64 (z r)) := by
            intro z0 z1 z2 z3 h0 h1 h2 h3
            refine ⟨fun r => if r = 0 then z0 else if r = 1 then z1 else if r = 2 then z2 else z3, fun r hr => ?_⟩
            rcases (by omega : r = 0 ∨ r = 1 ∨ r = 2 ∨ r = 3) with rfl | rfl | rfl | rfl
            · exact ⟨h0.1, h0.2, rfl⟩
            · exact ⟨h1.1, h1.2, rfl⟩
            · exact ⟨h2.1, h2.2, rfl⟩
            · exact ⟨h3.1, h3.2, rfl⟩
          have HF := Lib.hid fin
          clear fin
          by_cases q0 : 0 < a0 <;> by_cases q1 : 0 < a1
          · go_wp2_with fail
            go_meet
            obtain ⟨z, hz⟩ := HF.out a0 a1 (a0 % 72) (a1 % 72) ⟨l0, l1⟩ ⟨l2, l3⟩ (by omega) (by omega)
            exact ⟨wr.heap.size + 1, z, _, rfl, rfl, rfl, heap_at (by simp), hz, ((Below.refl _ _).alloc (Nat.le_refl _) _).alloc (by simp) _, by omega⟩
          · go_wp2_with fail
            go_meet
            obtain ⟨z, hz⟩ := HF.out a0 a1 (a0 % 72) 0 ⟨l0, l1⟩ ⟨l2, l3⟩ (by omega) (by omega)
            exact ⟨wr.heap.size + 1, z, _, rfl, rfl, rfl, heap_at (by simp), hz, ((Below.refl _ _).alloc (Nat.le_refl _) _).alloc (by simp) _, by omega⟩
          · go_wp2_with fail
            go_meet
            obtain ⟨z, hz⟩ := HF.out a0 a1 0 (a1 % 72) ⟨l0, l1⟩ ⟨l2, l3⟩ (by omega) (by omega)
            exact ⟨wr.heap.size + 1, z, _, rfl, rfl, rfl, heap_at (by simp), hz, ((Below.refl _ _).alloc (Nat.le_refl _) _).alloc (by simp) _, by omega⟩
          · go_wp2_with fail
            go_meet
            obtain ⟨z, hz⟩ := HF.out a0 a1 0 0 ⟨l0, l1⟩ ⟨l2, l3⟩ (by omega) (by omega)
            exact ⟨wr.heap.size + 1, z, _, rfl, rfl, rfl, heap_at (by simp), hz, ((Below.refl _ _).alloc (Nat.le_refl _) _).alloc (by simp) _, by omega⟩
        case rest =>
          clear c0 c1
          rename World => wq
          obtain ⟨gs, z, cz, rfl, rfl, rfl, hgs, hz, Bq, hgs0⟩ := hcut
          have HO1 := Lib.hid (row_later' HO.out Bq)
          have HRX1 := Lib.hid (HRX.out.later Bq)
          have HCC1 := Lib.hid (HCC.out.later Bq)
          have HBl1 := Lib.hid (below_then HBl.out hsz Bq)
          have hsq := Bq.size
          have hVg : Hid (Va.ownBlock ≠ some gs) := Lib.hid (fun e => by have := row_lt' HO.out e; omega)
          have HGS := Lib.hid hgs
          have HZ := Lib.hid hz
          clear hgs hz Bq
          go_wp2_with fail
          go_loopw [10, 55] (fun Va' c wx => ∃ (j : Nat) (X' : Nat → Nat → Nat) (L' : List (Nat × Nat)), j ≤ 2 ∧ c = .int .i64 j ∧ wx.ownsRow w.heap.size 56 2 Va' L'.length (flat encP L') ∧ L'.length ≤ 2 * k + j ∧
            RR wx (w.heap.size + 1) (some ⟨w.heap.size, 0, none⟩) n g1 (fun _ => m) w.heap.size n m X' ∧ Bnd n m X' ∧ Inv n X' L' ∧ CO wx w1.heap.size n m Va' L' Vo pc ∧ Below w.heap.size w wx ∧ w1.heap.size ≤ wx.heap.size ∧ wx.heap[gs]? = some (.cells cz 56) ∧ Hid (Va'.ownBlock ≠ some gs)) (fun _ c _ => 2 - (intOf c).toNat)
          case atStart => exact ⟨0, X, L, by omega, rfl, HO1.out, by omega, HRX1.out, HBX.out, HIX.out, HCC1.out, HBl1.out, by omega, HGS.out, hVg⟩
          case round =>
            clear HGS hVg HO1 HRX1 HCC1 HBl1
            obtain ⟨j, X', L', hj, rfl, OA, hL3, RX, BX, IX, CC, Bl, hz3, hgs, hVg⟩ := hrel
            obtain ⟨wx, rfl⟩ : ∃ v : World, v = wr := ⟨_, rfl⟩
            obtain ⟨Vb, rfl⟩ : ∃ v : Value, v = u10 := ⟨_, rfl⟩
            have HO2 := Lib.hid OA
            have HRX2 := Lib.hid RX
            have HBX2 := Lib.hid BX
            have HIX2 := Lib.hid IX
            have HCC2 := Lib.hid CC
            have HBl2 := Lib.hid Bl
            have hsx := Bl.size
            have hgl : gs < wx.heap.size := (Array.getElem?_eq_some_iff.1 hgs).1
            have HGS2 := Lib.hid hgs
            clear OA RX BX IX CC Bl
            by_cases hj2 : j < 2
            · obtain ⟨e0, e1, y0⟩ := HZ.out (j * 2) (by omega)
              obtain ⟨e2, e3, y1⟩ := HZ.out (j * 2 + 1) (by omega)
              have f0 := (Cl.of_block hgs y0).cell
              have f1 := (Cl.of_block hgs y1).cell
              generalize z (j * 2) = x0 at *
              generalize z (j * 2 + 1) = x1 at *
              clear y0 y1 hgs
              have hjd : decide ((j : Int) < 2) = true := by simp; omega
              go_upto_region 14 with fail
              have BXX : Below wx.heap.size wx (wx.alloc (.cells #[.int .i64 x0, .int .i64 x1] 56)) := (Below.refl _ _).alloc (Nat.le_refl _) _
              have g0 : (wx.alloc (.cells #[.int .i64 x0, .int .i64 x1] 56)).cell? ⟨wx.heap.size, 0, none⟩ = some (.int .i64 x0) := (Cl.new rfl).cell
              have g1' : (wx.alloc (.cells #[.int .i64 x0, .int .i64 x1] 56)).cell? ⟨wx.heap.size, 1, none⟩ = some (.int .i64 x1) := (Cl.new rfl).cell
              have hxs : (wx.alloc (.cells #[.int .i64 x0, .int .i64 x1] 56)).heap.size ≤ wx.heap.size + 1 ∧ wx.heap.size + 1 ≤ (wx.alloc (.cells #[.int .i64 x0, .int .i64 x1] 56)).heap.size := by simp
              have hxb : (wx.alloc (.cells #[.int .i64 x0, .int .i64 x1] 56)).heap[wx.heap.size]? = some (.cells #[.int .i64 x0, .int .i64 x1] 56) := heap_at rfl
              have HXB := Lib.hid hxb
              have HO3 := Lib.hid (row_later' HO2.out BXX)
              have HRX3 := Lib.hid (HRX2.out.later BXX)
              have HCC3 := Lib.hid (HCC2.out.later BXX)
              have HBl3 := Lib.hid (below_then HBl2.out hsx BXX)
              have HGS3 := Lib.hid ((BXX.block gs hgl).trans HGS2.out)
              have HV3 : Hid (∀ q, Vb.ownBlock = some q → q < wx.heap.size) := Lib.hid (fun q h => row_lt' HO2.out h)
              clear f0 f1 BXX hxb
              generalize wx.alloc (.cells #[.int .i64 x0, .int .i64 x1] 56) = wy at *
              by_cases hin : 0 ≤ x0 ∧ x0 < n ∧ 0 ≤ x1 ∧ x1 < n
              · go_cut [73] (fun s wv => s = .bool true ∧ wv = wy)
                case first =>
                  by_cases hc : x1 < x0 <;> by_cases hd : x0 < x1
                  all_goals
                    go_wp2_with fail
                    go_meet
                    exact ⟨rfl, rfl⟩
                case rest =>
                  obtain ⟨rfl, hwv⟩ := hcut
                  replace hwv := hwv.symm
                  subst hwv
                  obtain ⟨p0, rfl⟩ := Int.eq_ofNat_of_zero_le hin.1
                  obtain ⟨p1, rfl⟩ := Int.eq_ofNat_of_zero_le hin.2.2.1
                  have hp0 : p0 < n := by omega
                  have hp1 : p1 < n := by omega
                  clear hin
                  obtain ⟨i0, hi, hz0, hz1, hz2⟩ := info_parts info56
                  have BY : Below wy.heap.size wy (wy.alloc (.cells #[.int .i64 (p0 : Nat), .int .i64 (p1 : Nat)] 56)) := (Below.refl _ _).alloc (Nat.le_refl _) _
                  have HRX4 := Lib.hid (HRX3.out.later BY)
                  have HCC4 := Lib.hid (HCC3.out.later BY)
                  have HBl4 := Lib.hid (below_then HBl3.out (by omega) BY)
                  have HGS4 := Lib.hid ((BY.block gs (by omega)).trans HGS3.out)
                  have HXB4 := Lib.hid ((BY.block wx.heap.size (by omega)).trans HXB.out)
                  have HO4 := Lib.hid (row_later' HO3.out BY)
                  clear BY
                  go_wp2_with (refine wpList_append_keep _ rfl (.tmp 74) (.tmp 76) 55 rfl w.heap.size 56 i0 (.agg #[.int .i64 0, .int .i64 0]) 2 16 Try.underlying55 hi hz0 hz1 hz2 rfl (by decide) Vb L'.length (flat encP L') rfl HO4.out ⟨wy.heap.size, 0, none⟩ 1 1 (encP (p0, p1)) rfl rfl (World.news_of_block (heap_at rfl)) (by intro u hu; simp [encP] at hu; rcases hu with rfl | rfl <;> rfl) (by omega) (by simp only [maxLen]; omega) (by omega) (by simp; omega) ?_; intro q cq w5 hown hgrow hat; have hxb5 := (hgrow.block wx.heap.size (by simp; omega) (fun e => by have := HV3.out _ e.symm; omega)).trans HXB4.out; have u0 := (Cl.of_block hxb5 (j := 0) rfl).cell; have u1 := (Cl.of_block hxb5 (j := 1) rfl).cell)
                  have hgs5 : w5.heap[gs]? = some (.cells cz 56) := (hgrow.block gs (by simp; omega) (fun e => hVg.out e.symm)).trans HGS4.out
                  have RX5 := HRX4.out.row_grow HO4.out hgrow
                  have CC5 := HCC4.out.grow HO4.out hown hgrow hat
                  have B5 := HBl4.out.grown hgrow (by simp; omega) (fun q hq => (HO4.out.lt q hq).1)
                  have hs5 := hgrow.size
                  simp only [World.size_alloc] at hs5
                  have hq5 : Hid ((Value.slice (some ⟨q, 0, none⟩) (L'.length + 1) cq).ownBlock ≠ some gs) := Lib.hid (fun e => by
                    have e' : q = gs := by simpa [Value.ownBlock] using e
                    rcases hat with h | ⟨h, _⟩
                    · exact hVg.out (by rw [h, e'])
                    · simp only [World.size_alloc] at h; omega)
                  have HO5 : Hid (w5.ownsRow w.heap.size 56 2 (.slice (some ⟨q, 0, none⟩) (L'.length + 1) cq) (L' ++ [(p0, p1)]).length (flat encP (L' ++ [(p0, p1)]))) := by
                    show World.ownsRow _ _ _ _ _ _ _
                    rw [flat_append, List.length_append]
                    exact hown
                  have HRX5 := Lib.hid RX5
                  have HCC5 := Lib.hid CC5
                  have HB5 := Lib.hid B5
                  have HGS5 := Lib.hid hgs5
                  clear hgs5 hxb5 RX5 CC5 B5 hown hgrow hat HRX4 HCC4 HBl4 HGS4 HXB4 HO4 g0 g1' u0 u1
                  refine (add_in HRX5.out HBX2.out hm1 (by omega) (by omega) p0 p1 hp0 hp1).mono ?_
                  rintro e w6 ⟨rfl, RX6, C6⟩
                  have HRX6 := Lib.hid RX6
                  have HO6 := Lib.hid (row_typ HO5.out (fun b cur hb => chg_typ HRX5.out C6 b cur hb (by decide)))
                  have HCC6 := Lib.hid (HCC5.out.add HRX5.out C6 HG2.out)
                  have HB6 := Lib.hid (below_add HB5.out C6 (fun i hi => by have := HG1.out i; omega))
                  have HGS6 := Lib.hid ((chg_typ HRX5.out C6 gs cz HGS5.out (by decide)).trans HGS5.out)
                  have hs6 := C6.size
                  have HI6 : Hid (Inv n (addX n X' p0 p1) (L' ++ [(p0, p1)])) := Lib.hid (HIX2.out.add hp0 hp1 (fun q => by rw [List.mem_append, List.mem_singleton]; exact Or.comm))
                  clear RX6 C6
                  go_wp2_with fail
                  exact ⟨⟨j + 1, _, _, by omega, by go_num, HO6.out, by simp; omega, HRX6.out, addX_bnd HBX2.out _ hp1, HI6.out, HCC6.out, HB6.out, by omega, HGS6.out, hq5⟩, by simp [intOf]; omega⟩
              · go_cut [73] (fun s wv => s = .bool false ∧ wv = wy)
                case first =>
                  by_cases hc : x1 < x0 <;> by_cases hd : x0 < x1 <;> by_cases hx0 : 0 ≤ x0 <;> by_cases hx1 : 0 ≤ x1
                  all_goals
                    go_wp2_with fail
                    go_meet
                    exact ⟨by first | rfl | exact congrArg Value.bool (decide_eq_false (by omega)), rfl⟩
                case rest =>
                  obtain ⟨rfl, hwv⟩ := hcut
                  replace hwv := hwv.symm
                  subst hwv
                  go_wp2_with fail
                  refine (add_out HRX3.out x0 x1 (fun h => hin ⟨h.1, h.2.1, h.2.2.1, h.2.2.2⟩)).mono ?_
                  rintro e w' ⟨rfl, hw'⟩
                  replace hw' := hw'.symm
                  subst hw'
                  go_wp2_with fail
                  exact ⟨⟨j + 1, _, _, by omega, by go_num, HO3.out, by omega, HRX3.out, HBX2.out, HIX2.out, HCC3.out, HBl3.out, by omega, HGS3.out, hVg⟩, by simp [intOf]; omega⟩
            · obtain rfl : j = 2 := by omega
              by_cases hk0 : k = t0 % 30
              · have hkt : ((k : Int) == (t0 : Int) % 30) = true := by simp; omega
                clear hgs hk0
                obtain ⟨AV, cV, rfl⟩ : ∃ A c, Vb = .slice A L'.length c := by
                  rcases HO2.out.2 with ⟨h, h0⟩ | ⟨g, cap, cur, h, _⟩
                  · have h0' : L'.length = 0 := h0
                    exact ⟨none, 0, by rw [h, h0']⟩
                  · exact ⟨_, cap, h⟩
                have hcV : L'.length ≤ cV := by
                  rcases HO2.out.2 with ⟨h, h0⟩ | ⟨g, cap, cur, h, _, _, hle, _⟩
                  · have h0' : L'.length = 0 := h0
                    omega
                  · cases h; exact hle
                go_wp2_with fail
                have HRD := Lib.hid (HRX2.out.later ((Below.refl _ _).drew))
                go_region_with (go_at_call 30; refine (copy_in HRD.out (by omega) hm3 (by omega)).mono ?_; rintro e w7 ⟨rfl, ⟨A', cap', g', c', RC⟩, B7⟩)
                go_wp2_with fail
                have B7' : Below wx.heap.size wx w7 := ((Below.refl _ _).drew).trans B7
                have OA7 := row_later' HO2.out B7'
                have hos : OS w7 (.slice AV L'.length cV) L' (.slice AV L'.length L'.length) L' := by
                  refine ⟨by omega, AV, L'.length, rfl, fun hl => ?_⟩
                  rcases OA7.2 with ⟨h, h0⟩ | ⟨g, cap, cur, h, _, hh, _, _, _, ht⟩
                  · have h0' : L'.length = 0 := h0
                    omega
                  · cases h
                    exact ⟨g, cur, rfl, hh, ht, fun _ => List.prefix_refl _⟩
                exact ⟨⟨k + 1, _, _, by omega, by go_num, OA7, by omega, HRX2.out.later B7', HBX2.out, HIX2.out, .inr ⟨_, _, _, _, _, _, _, _, rfl, hz3, Nat.le_refl _, RC, HBX2.out, HIX2.out, hos⟩, below_then HBl2.out hsx B7', Nat.le_trans hz3 B7'.size⟩, by simp [intOf]; omega⟩
              · have hkt : ((k : Int) == (t0 : Int) % 30) = false := by simp; omega
                clear hgs hk0
                go_wp2_with fail
                exact ⟨⟨k + 1, _, _, by omega, by go_num, HO2.out, by omega, HRX2.out, HBX2.out, HIX2.out, HCC2.out, HBl2.out, hz3⟩, by simp [intOf]; omega⟩
      · obtain rfl : k = N := by omega
        have HO := Lib.hid OA
        have HP := Lib.hid (PA.of_own OA)
        have HRX := Lib.hid RX
        have HBX := Lib.hid BX
        have HIX := Lib.hid IX
        have HBl := Lib.hid Bl
        have hsz := Bl.size
        have fin : ∀ (wz : World), Below wr.heap.size wr wz → Below w.heap.size w wz := fun _ b => below_then Bl hsz b
        have HF := Lib.hid fin
        clear OA RX BX IX Bl hA hN HR HM1 HB2 fin
        obtain ⟨wo, rfl⟩ : ∃ v : World, v = wr := ⟨_, rfl⟩
        rcases CC with hpc | ⟨cb, A', cap', g', c', B, Y, Lo, hpc, h2, h3, h4, h5, h6, h7⟩
        · subst hpc
          go_wp2_with fail
          refine (same_any HRX.out HBX.out hm1 (by omega) (by omega) HIX.out HP.out (by omega)).mono ?_
          rintro e w3 ⟨rfl, B3⟩
          have HR3 := Lib.hid (HRX.out.later B3)
          have HB3 := Lib.hid (HF.out _ B3)
          clear B3
          go_wp2_with fail
          refine (has_out HR3.out (-1) 0 (by omega)).mono ?_
          rintro e w' ⟨rfl, hw'⟩
          replace hw' := hw'.symm
          subst hw'
          go_wp2_with fail
          refine (has_out HR3.out 0 n (by omega)).mono ?_
          rintro e w' ⟨rfl, hw'⟩
          replace hw' := hw'.symm
          subst hw'
          go_wp2_with fail
          go_ret
          exact ⟨rfl, HB3.out⟩
        · subst hpc
          have HY := Lib.hid h4
          have HBY := Lib.hid h5
          have HIY := Lib.hid h6
          have HPo := Lib.hid h7.pa
          have hlo := h7.1
          clear h4 h5 h6 h7
          go_wp2_with fail
          refine (same_any HY.out HBY.out hm1 (by omega) (by omega) HIY.out HPo.out (by omega)).mono ?_
          rintro e w3 ⟨rfl, B3⟩
          have HR3 := Lib.hid (HRX.out.later B3)
          have HP3 := Lib.hid (HP.out.later B3)
          have hs3 := B3.size
          have HB3 := Lib.hid B3
          clear B3
          go_wp2_with fail
          refine (same_any HR3.out HBX.out hm1 (by omega) (by omega) HIX.out HP3.out (by omega)).mono ?_
          rintro e w4 ⟨rfl, B4⟩
          have HR4 := Lib.hid (HR3.out.later B4)
          have HB4 := Lib.hid (HF.out _ (below_then HB3.out hs3 B4))
          clear B4
          go_wp2_with fail
          refine (has_out HR4.out (-1) 0 (by omega)).mono ?_
          rintro e w' ⟨rfl, hw'⟩
          replace hw' := hw'.symm
          subst hw'
          go_wp2_with fail
          refine (has_out HR4.out 0 n (by omega)).mono ?_
          rintro e w' ⟨rfl, hw'⟩
          replace hw' := hw'.symm
          subst hw'
          go_wp2_with fail
          go_ret
          exact ⟨rfl, HB4.out⟩
end Go.Proofs.Ytmnfefebbadflaa
