/- The law ReachTwice returns true at every input. -/
import Derived.Test.YtmnfefebbadflaaLOrd
import Derived.Test.YtmnfefebbadflaaRCopy
import Derived.Test.YtmnfefebbadflaaLNil
namespace Go.Proofs.Ytmnfefebbadflaa
open Go.RowKit
theorem open_two {H : Type} {enc : TypeId × Value → H} {W : World} {cs : Array Value} (hs : cs.size = Try.prog.cellsOf 52) (R : Rd enc Try.prog W 0 (fun _ => true) true 52 cs.toList) :
    ∃ a b : Nat, a < 256 ∧ b < 256 ∧ cs = #[.int .u8 (a : Nat), .int .u8 (b : Nat)] := by
  have hc2 : Try.prog.cellsOf 52 = 2 := by kernel_rfl
  have hs2 : cs.size = 2 := by rw [hs, hc2]
  obtain ⟨c0, e0, r0⟩ := R.cells 3 leaves52 (0, 5) (by simp)
  obtain ⟨c1, e1, r1⟩ := R.cells 3 leaves52 (1, 5) (by simp)
  obtain ⟨n0, k0, w0⟩ := r0.int Try.underlying5
  obtain ⟨n1, k1, w1⟩ := r1.int Try.underlying5
  obtain ⟨m0, rfl, l0⟩ := byte_of w0
  obtain ⟨m1, rfl, l1⟩ := byte_of w1
  cases k0; cases k1
  obtain ⟨l⟩ := cs
  match l, hs2 with
  | [x, y], _ =>
    simp at e0 e1
    subst e0 e1
    exact ⟨m0, m1, l0, l1, rfl⟩
theorem addX_same {n : Nat} {X : Nat → Nat → Nat} {u v : Nat} (h : hasX X u v = true) : addX n X u v = X := by unfold addX; rw [if_pos h]
set_option maxRecDepth 100000 in
set_option maxHeartbeats 2000000 in
theorem twice_walk {H : Type} {enc : TypeId × Value → H} (A : Option Addr) (len cap : Nat) (cs : Array Value) (w : World) (R : Rd enc Try.prog w 0 (fun _ => true) true 47 [.slice A len cap])
    (hs : cs.size = Try.prog.cellsOf 52) (R2 : Rd enc Try.prog w 0 (fun _ => true) true 52 cs.toList) :
    Calls Try.prog 8 #[.slice A len cap, .agg cs] w fun e w' => e = .returned (.bool true) ∧ Below w.heap.size w w' := by
  obtain ⟨hlc, hcap, hN, p, hp, hA⟩ := open_pairs R
  obtain ⟨a, b, ha, hb, rfl⟩ := open_two hs R2
  clear R R2 hs
  have hA' : 0 < len → ∃ b_1 off, A = some ⟨b_1, off, none⟩ ∧ ∀ i, i < len → (w.alloc (.cells #[.int .u8 (a : Nat), .int .u8 (b : Nat)] 52)).cell? ⟨b_1, off + i * 2, none⟩ = some (.int .u8 ((p i).1 : Nat)) ∧ (w.alloc (.cells #[.int .u8 (a : Nat), .int .u8 (b : Nat)] 52)).cell? ⟨b_1, off + i * 2 + 1, none⟩ = some (.int .u8 ((p i).2 : Nat)) := fun h => by
    obtain ⟨b1, off, e, hc⟩ := hA h
    exact ⟨b1, off, e, fun i hi => ⟨cell_later ((Below.refl _ _).alloc (Nat.le_refl _) _) (hc i hi).1, cell_later ((Below.refl _ _).alloc (Nat.le_refl _) _) (hc i hi).2⟩⟩
  have B0 : Below w.heap.size w (w.alloc (.cells #[.int .u8 (a : Nat), .int .u8 (b : Nat)] 52)) := (Below.refl _ _).alloc (Nat.le_refl _) _
  have q0 : Cl (w.alloc (.cells #[.int .u8 (a : Nat), .int .u8 (b : Nat)] 52)) ⟨w.heap.size, 0, none⟩ (.int .u8 (a : Nat)) := Cl.new rfl
  have q1 : Cl (w.alloc (.cells #[.int .u8 (a : Nat), .int .u8 (b : Nat)] 52)) ⟨w.heap.size, 1, none⟩ (.int .u8 (b : Nat)) := Cl.new rfl
  have HB0 := Lib.hid B0
  have Q0 := Lib.hid q0
  have Q1 := Lib.hid q1
  clear hA B0 q0 q1
  obtain ⟨N, hNe⟩ : ∃ N : Nat, N = min len 40 := ⟨min len 40, rfl⟩
  have hN1 : N ≤ len := by omega
  have hN2 : N ≤ 40 := by omega
  go_enter Try.func8, Try.ntmps8
  go_wp2_with fail
  have hz0 : w.heap.size < (w.alloc (.cells #[.int .u8 (a : Nat), .int .u8 (b : Nat)] 52)).heap.size := by simp
  generalize w.alloc (.cells #[.int .u8 (a : Nat), .int .u8 (b : Nat)] 52) = w0 at *
  refine (new_in 24 (by omega) _).mono ?_
  rintro e w1 ⟨rfl, hM⟩
  have M1 : Made w0 w1 24 1 24 := hM
  have HM1 := Lib.hid M1
  have hs1 : w1.heap.size ≤ w0.heap.size + 26 ∧ w0.heap.size + 26 ≤ w1.heap.size := by have := M1.size; omega
  clear hM M1
  go_wp2_with fail
  refine (rwakes_any _).mono ?_
  rintro e w2 ⟨rfl, B2⟩
  have HR := Lib.hid (HM1.out.rr.later B2)
  have hs2 := B2.size
  have HB2 := Lib.hid (below_then HM1.out.below HM1.out.below.size B2)
  clear B2
  go_upto_region 4 with fail
  go_cut [32, 33, 34] (fun s n c wx => s = .slice A N cap ∧ n = .int .i64 N ∧ c = .int .i64 0 ∧ wx = w2)
  case first =>
    by_cases h : (len : Int) ≤ 40
    · obtain rfl : N = len := by omega
      clear hNe
      go_wp2_with fail
      go_meet
      exact ⟨rfl, congrArg (Value.int .i64) (by omega), rfl, rfl⟩
    · obtain rfl : N = 40 := by omega
      clear hNe
      go_wp2_with fail
      go_meet
      exact ⟨rfl, by rfl, rfl, rfl⟩
  case rest =>
    obtain ⟨rfl, rfl, rfl, hwx⟩ := hcut
    replace hwx := hwx.symm
    subst hwx
    clear hNe
    obtain ⟨g1, hg1⟩ : ∃ g : Nat → Nat, g = fun i => w0.heap.size + 2 + i := ⟨_, rfl⟩
    have G1 : ∀ i, g1 i = w0.heap.size + 2 + i := fun i => by rw [hg1]
    rw [← hg1] at HR
    have HG1 := Lib.hid G1
    clear hg1 G1
    go_wp2_with fail
    go_loopw [34] (fun c wr => ∃ (k : Nat) (X : Nat → Nat → Nat), k ≤ N ∧ c = .int .i64 k ∧ RR wr (w0.heap.size + 1) (some ⟨w0.heap.size, 0, none⟩) 24 g1 (fun _ => 1) w0.heap.size 24 1 X ∧
      Bnd 24 1 X ∧ Inv 24 X ((List.range k).map fun j => pr 24 (p j)) ∧ Below w0.heap.size w0 wr ∧ w1.heap.size ≤ wr.heap.size) (fun c _ => N - (intOf c).toNat)
    case atStart => exact ⟨0, _, by omega, rfl, HR.out, bnd_zero _ _, Inv.zero _, HB2.out, hs2⟩
    case round =>
      obtain ⟨k, X, hk, rfl, RX, BX, IX, Bl, hz1⟩ := hrel
      by_cases hlt : k < N
      · obtain ⟨b1, off, rfl, hcells⟩ := hA' (by omega)
        obtain ⟨c0, c1⟩ := hcells k (by omega)
        have c0 := cell_later Bl c0
        have c1 := cell_later Bl c1
        obtain ⟨x0, hx0⟩ : ∃ x, x = (p k).1 := ⟨_, rfl⟩
        obtain ⟨x1, hx1⟩ : ∃ x, x = (p k).2 := ⟨_, rfl⟩
        rw [← hx0] at c0
        rw [← hx1] at c1
        have bx0 : x0 < 256 := by rw [hx0]; exact (hp k (by omega)).1
        have bx1 : x1 < 256 := by rw [hx1]; exact (hp k (by omega)).2
        have PX : Hid (pr 24 (p k) = (x0 % 24, x1 % 24)) := by show _ = _; rw [hx0, hx1]; rfl
        have HRX := Lib.hid RX
        have HBX := Lib.hid BX
        have HIX := Lib.hid IX
        have HBl := Lib.hid Bl
        have hsz := Bl.size
        clear RX BX IX Bl hcells hA' hN hx0 hx1
        go_wp2_with fail
        have bq : Below wr.heap.size wr (wr.alloc (.cells #[.int .u8 (x0 : Nat), .int .u8 (x1 : Nat)] 52)) := (Below.refl _ _).alloc (Nat.le_refl _) _
        have HRX1 := Lib.hid (HRX.out.later bq)
        have HB1 := Lib.hid (below_then HBl.out hsz bq)
        have hb1s := bq.size
        clear bq
        rw [show ((x0 : Int) % 24) = ((x0 % 24 : Nat) : Int) from by omega, show ((x1 : Int) % 24) = ((x1 % 24 : Nat) : Int) from by omega]
        refine (add_in HRX1.out HBX.out (by omega) (by omega) (by omega) (x0 % 24) (x1 % 24) (by omega) (by omega)).mono ?_
        rintro e w4 ⟨rfl, RX2, C2⟩
        have HRX2 := Lib.hid RX2
        have HB2 := Lib.hid (below_add HB1.out C2 (fun i _ => by have := HG1.out i; omega))
        have hc2s := C2.size
        clear RX2 C2
        go_wp2_with fail
        refine ⟨⟨k + 1, _, by omega, by go_num, HRX2.out, addX_bnd HBX.out _ (by omega), ?_, HB2.out, Nat.le_trans hz1 (Nat.le_trans hb1s hc2s)⟩, by simp [intOf]; omega⟩
        refine HIX.out.add (by omega) (by omega) (fun q => ?_)
        rw [List.range_succ, List.map_append, List.mem_append, List.map_singleton, List.mem_singleton, PX.out]
        exact Or.comm
      · obtain rfl : k = N := by omega
        obtain ⟨L, hL⟩ : ∃ L, L = (List.range k).map fun j => pr 24 (p j) := ⟨_, rfl⟩
        rw [← hL] at IX
        have HRX := Lib.hid RX
        have HBX := Lib.hid BX
        have HIX := Lib.hid IX
        have HBl := Lib.hid Bl
        have hsz := Bl.size
        clear RX BX IX Bl hA' hN HR HB2 HM1 hL
        obtain ⟨wo, rfl⟩ : ∃ wo : World, wo = wr := ⟨_, rfl⟩
        go_wp2_with fail
        refine (copy_in HRX.out (by omega) (by omega) (by omega)).mono ?_
        rintro e w3 ⟨rfl, ⟨A', cap', g', c', RC⟩, B3⟩
        have hgb : ∀ i, i < 24 → wo.heap.size ≤ g' i := fun i hi => (RC.rows i hi).2.1
        have HGB := Lib.hid hgb
        have HRC := Lib.hid RC
        have HB3 := Lib.hid B3
        have hs3 := B3.size
        clear RC B3 hgb
        go_wp2_with fail
        go_loopw [51] (fun c wx => ∃ u : Nat, u ≤ 24 ∧ c = .int .i64 u ∧ RR wx wo.heap.size A' cap' g' c' wo.heap.size 24 1 X ∧ Below wo.heap.size wo wx) (fun c _ => 24 - (intOf c).toNat)
        case atStart => exact ⟨0, by omega, rfl, HRC.out, HB3.out⟩
        case round =>
          clear HRC HB3
          obtain ⟨u, hu, rfl, RC, B3⟩ := hrel
          have HRC := Lib.hid RC
          have HB3 := Lib.hid B3
          clear RC B3
          obtain ⟨wx, rfl⟩ : ∃ wx : World, wx = wr := ⟨_, rfl⟩
          by_cases hu2 : u < 24
          · have hud : decide ((u : Int) < 24) = true := by simp; omega
            go_wp2_with fail
            go_loopw [54] (fun c wy => ∃ v : Nat, v ≤ 24 ∧ c = .int .i64 v ∧ RR wy wo.heap.size A' cap' g' c' wo.heap.size 24 1 X ∧ Below wo.heap.size wo wy) (fun c _ => 24 - (intOf c).toNat)
            case atStart => exact ⟨0, by omega, rfl, HRC.out, HB3.out⟩
            case round =>
              clear HRC HB3
              obtain ⟨v, hv, rfl, RC, B3⟩ := hrel
              have HRC := Lib.hid RC
              have HB3 := Lib.hid B3
              clear RC B3
              obtain ⟨wy, rfl⟩ : ∃ wx : World, wx = wr := ⟨_, rfl⟩
              by_cases hv2 : v < 24
              · have hvd : decide ((v : Int) < 24) = true := by simp; omega
                go_wp2_with fail
                refine (has_in HRC.out (by omega) (by omega) u v (by omega) (by omega) (HBX.out u (by omega) _ (by omega))).mono ?_
                obtain ⟨b0, hb0⟩ : ∃ b0, hasX X u v = b0 := ⟨_, rfl⟩
                have HBB := Lib.hid hb0
                rw [hb0]
                clear hb0
                rintro e w' ⟨rfl, hw'⟩
                replace hw' := hw'.symm
                subst hw'
                cases b0
                · go_wp2_with fail
                  exact ⟨⟨v + 1, by omega, by go_num, HRC.out, HB3.out⟩, by simp [intOf]; omega⟩
                · go_wp2_with fail
                  refine (add_in HRC.out HBX.out (by omega) (by omega) (by omega) u v (by omega) (by omega)).mono ?_
                  rw [addX_same HBB.out]
                  rintro e w4 ⟨rfl, RC4, C4⟩
                  have HRC4 := Lib.hid RC4
                  have HB4 := Lib.hid (below_add HB3.out C4 HGB.out)
                  clear RC4 C4
                  go_wp2_with fail
                  exact ⟨⟨v + 1, by omega, by go_num, HRC4.out, HB4.out⟩, by simp [intOf]; omega⟩
              · obtain rfl : v = 24 := by omega
                go_wp2_with fail
                exact ⟨⟨u + 1, by omega, by go_num, HRC.out, HB3.out⟩, by simp [intOf]; omega⟩
          · obtain rfl : u = 24 := by omega
            have hsx := HB3.out.size
            have HRX1 := Lib.hid (HRX.out.later HB3.out)
            have HBl1 := Lib.hid (below_then HBl.out hsz HB3.out)
            go_wp2_with fail
            refine (count_any HRC.out HBX.out (by omega) (by omega)).mono ?_
            rintro e w4 ⟨rfl, B4⟩
            have HRC4 := Lib.hid (HRC.out.later B4)
            have HRX4 := Lib.hid (HRX1.out.later B4)
            have HB4 := Lib.hid (below_then HB3.out hsx B4)
            have hs4 := B4.size
            clear B4
            go_wp2_with fail
            refine (count_any HRX4.out HBX.out (by omega) (by omega)).mono ?_
            rintro e w5 ⟨rfl, B5⟩
            have HRC5 := Lib.hid (HRC4.out.later B5)
            have HB5 := Lib.hid (below_then HB4.out HB4.out.size B5)
            have hs5 := B5.size
            clear B5
            have HBl5 := Lib.hid (below_then HBl.out hsz HB5.out)
            have q0 := (Q0.out.later HBl5.out).cell
            have q1 := (Q1.out.later HBl5.out).cell
            have hcn : (((cntC X 1 24 : Nat) : Int) != ((cntC X 1 24 : Nat) : Int)) = false := by simp
            clear HRC4 HRX4 HB4 HRX1 HRC
            go_wp2_with fail
            go_quiet (fail)
            go_wp2_with fail
            have b9 : Below w5.heap.size w5 (w5.drewN nq) := below_drewN (Below.refl _ _) _
            have HRX6 := Lib.hid ((HRX.out.later HB5.out).later b9)
            have HRC6 := Lib.hid (HRC5.out.later b9)
            have HB6 := Lib.hid (below_then HB5.out HB5.out.size b9)
            clear b9
            generalize w5.drewN nq = w6 at *
            obtain ⟨u0, hu0⟩ : ∃ u0 : Nat, u0 = a % 24 := ⟨_, rfl⟩
            obtain ⟨v0, hv0⟩ : ∃ v0 : Nat, v0 = b % 24 := ⟨_, rfl⟩
            have hm1 : u0 < 24 := by omega
            have hm2 : v0 < 24 := by omega
            rw [show ((a : Int) % 24) = (u0 : Int) from by omega, show ((b : Int) % 24) = (v0 : Int) from by omega]
            clear hu0 hv0 q0 q1 hcn HRC5 HB5 HB3
            refine (has_in HRX6.out (by omega) (by omega) u0 v0 (by omega) (by omega) (HBX.out u0 (by omega) _ (by omega))).mono ?_
            rintro e w' ⟨rfl, hw'⟩
            replace hw' := hw'.symm
            subst hw'
            go_wp2_with fail
            refine (add_in HRC6.out HBX.out (by omega) (by omega) (by omega) u0 v0 (by omega) (by omega)).mono ?_
            rintro e w7 ⟨rfl, RC7, C7⟩
            have HY : Hid (Bnd 24 1 (addX 24 X u0 v0)) := Lib.hid (addX_bnd HBX.out _ (by omega))
            have HRC7 := Lib.hid RC7
            have HB7 := Lib.hid (below_add HB6.out C7 HGB.out)
            have HRX7 := Lib.hid (HRX.out.later HB7.out)
            clear RC7 C7
            go_wp2_with fail
            refine (has_in HRC7.out (by omega) (by omega) u0 v0 (by omega) (by omega) (HY.out u0 (by omega) _ (by omega))).mono ?_
            rw [has_added (by omega)]
            rintro e w' ⟨rfl, hw'⟩
            replace hw' := hw'.symm
            subst hw'
            go_wp2_with fail
            refine (count_any HRC7.out HY.out (by omega) (by omega)).mono ?_
            rintro e w8 ⟨rfl, B8⟩
            have HRC8 := Lib.hid (HRC7.out.later B8)
            have HRX8 := Lib.hid (HRX7.out.later B8)
            have HB8 := Lib.hid (below_then HB7.out HB7.out.size B8)
            clear B8
            go_wp2_with fail
            refine (count_any HRX8.out HBX.out (by omega) (by omega)).mono ?_
            rintro e w9 ⟨rfl, B9⟩
            have HRC9 := Lib.hid (HRC8.out.later B9)
            have HRX9 := Lib.hid (HRX8.out.later B9)
            have HB9 := Lib.hid (below_then HB8.out HB8.out.size B9)
            clear B9
            have hcq : (((cntC (addX 24 X u0 v0) 1 24 : Nat) : Int) == ((cntC X 1 24 : Nat) : Int)) = hasX X u0 v0 := by
              rw [Bool.eq_iff_iff, beq_iff_eq]
              have := cnt_more HIX.out (m := 1) (by omega) hm1 hm2
              rw [← this]
              omega
            have hcr : (hasX X u0 v0 != hasX X u0 v0) = false := by simp
            clear HRC8 HRX8 HB8 HRC7 HRX7 HB7 HRC6 HRX6 HB6
            go_wp2_with fail
            clear hcq hcr
            go_loopw [102] (fun c wx => ∃ u : Nat, u ≤ 24 ∧ c = .int .i64 u ∧ wx = w9) (fun c _ => 24 - (intOf c).toNat)
            case atStart => exact ⟨0, by omega, rfl, rfl⟩
            case round =>
              obtain ⟨u, hu, rfl, hwx⟩ := hrel
              subst hwx
              by_cases hu2 : u < 24
              · have hud : decide ((u : Int) < 24) = true := by simp; omega
                go_wp2_with fail
                go_loopw [105] (fun c wx => ∃ v : Nat, v ≤ 24 ∧ c = .int .i64 v ∧ wx = wr) (fun c _ => 24 - (intOf c).toNat)
                case atStart => exact ⟨0, by omega, rfl, rfl⟩
                case round =>
                  obtain ⟨v, hv, rfl, hwx⟩ := hrel
                  replace hwx := hwx.symm
                  subst hwx
                  by_cases hv2 : v < 24
                  · have hvd : decide ((v : Int) < 24) = true := by simp; omega
                    have hw := has_addX HIX.out hm1 hm2 hu2 v
                    have HW := Lib.hid hw
                    clear hw
                    go_upto_region 33 with fail
                    go_cut [17] (fun s wx => s = .bool (hasX (addX 24 X u0 v0) u v) ∧ wx = wr)
                    case first =>
                      go_wp2_with fail
                      refine (has_in HRX9.out (by omega) (by omega) u v (by omega) (by omega) (HBX.out u (by omega) _ (by omega))).mono ?_
                      obtain ⟨b0, hb0⟩ : ∃ b0, hasX X u v = b0 := ⟨_, rfl⟩
                      have HBB := Lib.hid hb0
                      rw [hb0]
                      clear hb0
                      rintro e w' ⟨rfl, hw'⟩
                      replace hw' := hw'.symm
                      subst hw'
                      cases b0
                      · obtain ⟨b1, hb1, HB1⟩ : ∃ b1 : Bool, ((u : Int) == (u0 : Int)) = b1 ∧ Hid ((u == u0) = b1) := ⟨_, rfl, by show _ = _; rw [Bool.eq_iff_iff]; simp; omega⟩
                        obtain ⟨b2, hb2, HB2⟩ : ∃ b2 : Bool, ((v : Int) == (v0 : Int)) = b2 ∧ Hid (decide (v = v0) = b2) := ⟨_, rfl, by show _ = _; rw [Bool.eq_iff_iff]; simp; omega⟩
                        cases b1
                        · go_wp2_with fail
                          refine (has_in HRX9.out (by omega) (by omega) u u0 (by omega) (by omega) (HBX.out u (by omega) _ (by omega))).mono ?_
                          obtain ⟨b3, hb3⟩ : ∃ b0, hasX X u u0 = b0 := ⟨_, rfl⟩
                          have HB3 := Lib.hid hb3
                          rw [hb3]
                          clear hb3
                          rintro e w' ⟨rfl, hw'⟩
                          replace hw' := hw'.symm
                          subst hw'
                          cases b3
                          · go_wp2_with fail
                            go_meet
                            exact ⟨by rw [HW.out, HBB.out, HB1.out, HB3.out]; rfl, rfl⟩
                          · cases b2
                            · go_wp2_with fail
                              refine (has_in HRX9.out (by omega) (by omega) v0 v (by omega) (by omega) (HBX.out v0 (by omega) _ (by omega))).mono ?_
                              rintro e w' ⟨rfl, hw'⟩
                              replace hw' := hw'.symm
                              subst hw'
                              go_wp2_with fail
                              go_meet
                              exact ⟨by rw [HW.out, HBB.out, HB1.out, HB3.out, HB2.out]; simp, rfl⟩
                            · go_wp2_with fail
                              go_meet
                              exact ⟨by rw [HW.out, HBB.out, HB1.out, HB3.out, HB2.out]; simp, rfl⟩
                        · cases b2
                          · go_wp2_with fail
                            refine (has_in HRX9.out (by omega) (by omega) v0 v (by omega) (by omega) (HBX.out v0 (by omega) _ (by omega))).mono ?_
                            rintro e w' ⟨rfl, hw'⟩
                            replace hw' := hw'.symm
                            subst hw'
                            go_wp2_with fail
                            go_meet
                            exact ⟨by rw [HW.out, HBB.out, HB1.out, HB2.out]; simp, rfl⟩
                          · go_wp2_with fail
                            go_meet
                            exact ⟨by rw [HW.out, HBB.out, HB1.out, HB2.out]; simp, rfl⟩
                      · go_wp2_with fail
                        go_meet
                        exact ⟨by rw [HW.out, HBB.out]; rfl, rfl⟩
                    case rest =>
                      obtain ⟨rfl, hwx⟩ := hcut
                      replace hwx := hwx.symm
                      subst hwx
                      go_wp2_with fail
                      refine (has_in HRC9.out (by omega) (by omega) u v (by omega) (by omega) (HY.out u (by omega) _ (by omega))).mono ?_
                      obtain ⟨b0, hb0⟩ : ∃ b0, hasX (addX 24 X u0 v0) u v = b0 := ⟨_, rfl⟩
                      rw [hb0]
                      clear hb0
                      rintro e w' ⟨rfl, hw'⟩
                      replace hw' := hw'.symm
                      subst hw'
                      have bb : (b0 != b0) = false := by simp
                      go_wp2_with fail
                      exact ⟨⟨v + 1, by omega, by go_num, trivial⟩, by simp [intOf]; omega⟩
                  · obtain rfl : v = 24 := by omega
                    go_wp2_with fail
                    exact ⟨⟨u + 1, by omega, by go_num, trivial⟩, by simp [intOf]; omega⟩
              · obtain rfl : u = 24 := by omega
                go_wp2_with fail
                go_ret
                exact ⟨rfl, below_then (below_then HB0.out HB0.out.size HBl.out) (by omega) HB9.out⟩
end Go.Proofs.Ytmnfefebbadflaa
