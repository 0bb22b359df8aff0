/- The law ReachOrder returns true at every slice. -/
import Derived.Test.YtmnfefebbadflaaPairs
namespace Go.Proofs.Ytmnfefebbadflaa
open Go.RowKit
/-- Arcs added to one, not to another one. -/
theorem RR.apart {w w' : World} {rb : Nat} {A : Option Addr} {cap : Nat} {g c g' : Nat → Nat} {base n n' m : Nat} {X : Nat → Nat → Nat} (h : RR w rb A cap g c base n m X) (k : Chg (fun b => ∃ i, i < n' ∧ b = g' i) w w')
    (h1 : ∀ i, i < n' → g' i ≠ rb) (h2 : ∀ i j, i < n → j < n' → g' j ≠ g i) (h3 : ∀ a, A = some a → ∀ j, j < n' → g' j ≠ a.block) : RR w' rb A cap g c base n m X :=
  h.chg k (fun ⟨i, hi, e⟩ => h1 i hi e.symm) (fun i hi ⟨j, hj, e⟩ => h2 i j hi hj e.symm) (fun a ha ⟨j, hj, e⟩ => h3 a ha j hj e.symm)
theorem Cl.chg {w w' : World} {a : Addr} {v : Value} {S : Nat → Prop} (h : Cl w a v) (hc : Chg S w w') (hs : ¬ S a.block) : Cl w' a v := by
  have hb := hc.block a.block (World.block_lt_of_cell? _ _ h.cell) hs
  exact ⟨(World.cell?_of_block hb).trans h.cell, (World.frozen?_of_block hb).trans h.free⟩
def pr (n : Nat) (p : Nat × Nat) : Nat × Nat := (p.1 % n, p.2 % n)
set_option maxRecDepth 100000 in
set_option maxHeartbeats 2000000 in
theorem order_walk {H : Type} {enc : TypeId × Value → H} (A : Option Addr) (len cap : Nat) (w : World) (R : Rd enc Try.prog w 0 (fun _ => true) true 47 [.slice A len cap]) :
    Calls Try.prog 5 #[.slice A len cap] w fun e w' => e = .returned (.bool true) ∧ Below w.heap.size w w' := by
  obtain ⟨hlc, hcap, hN, p, hp, hA⟩ := open_pairs R
  clear R
  go_enter Try.func5, Try.ntmps5
  obtain ⟨N, hNe⟩ : ∃ N : Nat, N = min len 30 := ⟨min len 30, rfl⟩
  have hN1 : N ≤ len := by omega
  have hN2 : N ≤ 30 := by omega
  go_upto_region 1 with fail
  go_cut [0] (fun s wx => s = .slice A N cap ∧ wx = w)
  case first =>
    by_cases h : (len : Int) ≤ 30
    · obtain rfl : N = len := by omega
      clear hNe
      go_wp2_with fail
      go_meet
      exact ⟨rfl, rfl⟩
    · obtain rfl : N = 30 := by omega
      clear hNe
      go_wp2_with fail
      go_meet
      exact ⟨rfl, rfl⟩
  case rest =>
    obtain ⟨rfl, hwx⟩ := hcut
    replace hwx := hwx.symm
    subst hwx
    clear hNe
    go_wp2_with fail
    refine (new_in 20 (by omega) _).mono ?_
    rintro e w1 ⟨rfl, hM⟩
    have M1 : Made w w1 20 1 20 := hM
    have HM1 := Lib.hid M1
    have hs1 : w1.heap.size ≤ w.heap.size + 22 ∧ w.heap.size + 22 ≤ w1.heap.size := by have := M1.size; omega
    clear hM M1
    go_wp2_with fail
    refine (new_in 20 (by omega) _).mono ?_
    rintro e w2 ⟨rfl, hM⟩
    have M2 : Made w1 w2 20 1 20 := hM
    have HM2 := Lib.hid M2
    have hs2 : w2.heap.size ≤ w1.heap.size + 22 ∧ w1.heap.size + 22 ≤ w2.heap.size := by have := M2.size; omega
    clear hM M2
    go_wp2_with fail
    refine (rwakes_any _).mono ?_
    rintro e w3 ⟨rfl, B3⟩
    have HR := Lib.hid ((HM1.out.rr.later HM2.out.below).later B3)
    have HS := Lib.hid (HM2.out.rr.later B3)
    have HB := Lib.hid (below_then (below_then HM1.out.below HM1.out.below.size HM2.out.below) (by omega) B3)
    have hs3 := B3.size
    clear B3
    go_wp2_with fail
    obtain ⟨g1, hg1⟩ : ∃ g : Nat → Nat, g = fun i => w.heap.size + 2 + i := ⟨_, rfl⟩
    obtain ⟨g2, hg2⟩ : ∃ g : Nat → Nat, g = fun i => w1.heap.size + 2 + i := ⟨_, rfl⟩
    have G1 : ∀ i, g1 i = w.heap.size + 2 + i := fun i => by rw [hg1]
    have G2 : ∀ i, g2 i = w1.heap.size + 2 + i := fun i => by rw [hg2]
    rw [← hg1] at HR
    rw [← hg2] at HS
    have HG1 := Lib.hid G1
    have HG2 := Lib.hid G2
    clear hg1 hg2 G1 G2
    go_loopw [38] (fun c wr => ∃ (k : Nat) (X Y : Nat → Nat → Nat), k ≤ N ∧ c = .int .i64 k ∧ RR wr (w.heap.size + 1) (some ⟨w.heap.size, 0, none⟩) 20 g1 (fun _ => 1) w.heap.size 20 1 X ∧
      RR wr (w1.heap.size + 1) (some ⟨w1.heap.size, 0, none⟩) 20 g2 (fun _ => 1) w1.heap.size 20 1 Y ∧ Bnd 20 1 X ∧ Bnd 20 1 Y ∧
      Inv 20 X ((List.range k).map fun j => pr 20 (p j)) ∧ Inv 20 Y ((List.range k).map fun j => pr 20 (p (N - 1 - j))) ∧ Below w.heap.size w wr ∧ w3.heap.size ≤ wr.heap.size) (fun c _ => N - (intOf c).toNat)
    case atStart => exact ⟨0, _, _, by omega, rfl, HR.out, HS.out, bnd_zero _ _, bnd_zero _ _, Inv.zero _, Inv.zero _, HB.out, Nat.le_refl _⟩
    case round =>
      obtain ⟨k, X, Y, hk, rfl, RX, RY, BX, BY, IX, IY, Bl, hz3⟩ := hrel
      by_cases hlt : k < N
      · obtain ⟨b, off, rfl, hcells⟩ := hA (by omega)
        obtain ⟨c0, c1⟩ := hcells k (by omega)
        obtain ⟨d0, d1⟩ := hcells (N - 1 - k) (by omega)
        have c0 := cell_later Bl c0
        have c1 := cell_later Bl c1
        have d0 := cell_later Bl d0
        have d1 := cell_later Bl d1
        obtain ⟨j, hj⟩ : ∃ j, j = N - 1 - k := ⟨_, rfl⟩
        have e1 : Hid (p k = p k) := Lib.hid rfl
        obtain ⟨x0, hx0⟩ : ∃ x, x = (p k).1 := ⟨_, rfl⟩
        obtain ⟨x1, hx1⟩ : ∃ x, x = (p k).2 := ⟨_, rfl⟩
        obtain ⟨y0, hy0⟩ : ∃ x, x = (p (N - 1 - k)).1 := ⟨_, rfl⟩
        obtain ⟨y1, hy1⟩ : ∃ x, x = (p (N - 1 - k)).2 := ⟨_, rfl⟩
        rw [← hx0] at c0
        rw [← hx1] at c1
        rw [← hy0, ← hj] at d0
        rw [← hy1, ← hj] at d1
        have d0' : ∀ o, (wr.alloc o).cell? ⟨b, off + j * 2, none⟩ = some (.int .u8 (y0 : Nat)) := fun o => cell_later ((Below.refl _ _).alloc (Nat.le_refl _) o) d0
        have d1' : ∀ o, (wr.alloc o).cell? ⟨b, off + j * 2 + 1, none⟩ = some (.int .u8 (y1 : Nat)) := fun o => cell_later ((Below.refl _ _).alloc (Nat.le_refl _) o) d1
        have bx0 : x0 < 256 := by rw [hx0]; exact (hp k (by omega)).1
        have bx1 : x1 < 256 := by rw [hx1]; exact (hp k (by omega)).2
        have by0 : y0 < 256 := by rw [hy0]; exact (hp _ (by omega)).1
        have by1 : y1 < 256 := by rw [hy1]; exact (hp _ (by omega)).2
        have hj1 : j < N := by omega
        have hj2 : ((N : Int) - 1 - k) = j := by omega
        have PX : Hid (pr 20 (p k) = (x0 % 20, x1 % 20)) := by show _ = _; rw [hx0, hx1]; rfl
        have PY : Hid (pr 20 (p (N - 1 - k)) = (y0 % 20, y1 % 20)) := by show _ = _; rw [hy0, hy1]; rfl
        have HRX := Lib.hid RX
        have HRY := Lib.hid RY
        have HBX := Lib.hid BX
        have HBY := Lib.hid BY
        have HIX := Lib.hid IX
        have HIY := Lib.hid IY
        have HBl := Lib.hid Bl
        have hsz := Bl.size
        clear RX RY BX BY IX IY Bl hcells hA hN hx0 hx1 hy0 hy1 hj
        go_wp2_with fail
        have b1 : Below wr.heap.size wr ((wr.alloc (.cells #[.int .u8 (x0 : Nat), .int .u8 (x1 : Nat)] 52)).alloc (.cells #[.int .u8 (y0 : Nat), .int .u8 (y1 : Nat)] 52)) := ((Below.refl _ _).alloc (Nat.le_refl _) _).alloc (by simp) _
        have q0 : Cl ((wr.alloc (.cells #[.int .u8 (x0 : Nat), .int .u8 (x1 : Nat)] 52)).alloc (.cells #[.int .u8 (y0 : Nat), .int .u8 (y1 : Nat)] 52)) ⟨wr.heap.size + 1, 0, none⟩ (.int .u8 (y0 : Nat)) := by
          have := Cl.new (w := wr.alloc (.cells #[.int .u8 (x0 : Nat), .int .u8 (x1 : Nat)] 52)) (c := #[.int .u8 (y0 : Nat), .int .u8 (y1 : Nat)]) (t := 52) (j := 0) (v := .int .u8 (y0 : Nat)) rfl
          rwa [World.size_alloc] at this
        have q1 : Cl ((wr.alloc (.cells #[.int .u8 (x0 : Nat), .int .u8 (x1 : Nat)] 52)).alloc (.cells #[.int .u8 (y0 : Nat), .int .u8 (y1 : Nat)] 52)) ⟨wr.heap.size + 1, 1, none⟩ (.int .u8 (y1 : Nat)) := by
          have := Cl.new (w := wr.alloc (.cells #[.int .u8 (x0 : Nat), .int .u8 (x1 : Nat)] 52)) (c := #[.int .u8 (y0 : Nat), .int .u8 (y1 : Nat)]) (t := 52) (j := 1) (v := .int .u8 (y1 : Nat)) rfl
          rwa [World.size_alloc] at this
        have HRX1 := Lib.hid (HRX.out.later b1)
        have HRY1 := Lib.hid (HRY.out.later b1)
        have HB1 := Lib.hid (below_then HBl.out hsz b1)
        have Q0 := Lib.hid q0
        have Q1 := Lib.hid q1
        have hb1s := b1.size
        clear b1 q0 q1
        rw [show ((x0 : Int) % 20) = ((x0 % 20 : Nat) : Int) from by omega, show ((x1 : Int) % 20) = ((x1 % 20 : Nat) : Int) from by omega]
        generalize (wr.alloc (.cells #[.int .u8 (x0 : Nat), .int .u8 (x1 : Nat)] 52)).alloc (.cells #[.int .u8 (y0 : Nat), .int .u8 (y1 : Nat)] 52) = wq at *
        refine (add_in HRX1.out HBX.out (by omega) (by omega) (by omega) (x0 % 20) (x1 % 20) (by omega) (by omega)).mono ?_
        rintro e w4 ⟨rfl, RX2, C2⟩
        have nS : ¬ ∃ i, i < 20 ∧ wr.heap.size + 1 = g1 i := by
          rintro ⟨i, hi, e⟩
          have := HG1.out i
          omega
        have z0 := (Q0.out.chg C2 nS).cell
        have z1 := (Q1.out.chg C2 nS).cell
        have HRX2 := Lib.hid RX2
        have HRY2 := Lib.hid (HRY1.out.apart C2 (fun i hi => by have := HG1.out i; omega) (fun i j hi hj => by have := HG1.out j; have := HG2.out i; omega) (fun a ha j hj => by cases ha; have := HG1.out j; simp; omega))
        have HB2 := Lib.hid (below_add HB1.out C2 (fun i _ => by have := HG1.out i; omega))
        have hc2s := C2.size
        clear RX2 C2 nS Q0 Q1
        go_wp2_with fail
        rw [show ((y0 : Int) % 20) = ((y0 % 20 : Nat) : Int) from by omega, show ((y1 : Int) % 20) = ((y1 % 20 : Nat) : Int) from by omega]
        refine (add_in HRY2.out HBY.out (by omega) (by omega) (by omega) (y0 % 20) (y1 % 20) (by omega) (by omega)).mono ?_
        rintro e w5 ⟨rfl, RY3, C3⟩
        have HRY3 := Lib.hid RY3
        have HRX3 := Lib.hid (HRX2.out.apart C3 (fun i hi => by have := HG2.out i; omega) (fun i j hi hj => by have := HG2.out j; have := HG1.out i; omega) (fun a ha j hj => by cases ha; have := HG2.out j; simp; omega))
        have HB3 := Lib.hid (HB2.out.trans (C3.below (HB2.out.size) (fun b ⟨i, hi, e⟩ => by have := HG2.out i; omega)))
        have hc3s := C3.size
        clear RY3 C3
        go_wp2_with fail
        refine ⟨⟨k + 1, _, _, by omega, by go_num, HRX3.out, HRY3.out, addX_bnd HBX.out _ (by omega), addX_bnd HBY.out _ (by omega), ?_, ?_, HB3.out, Nat.le_trans hz3 (Nat.le_trans hb1s (Nat.le_trans hc2s hc3s))⟩, by simp [intOf]; omega⟩
        · refine HIX.out.add (by omega) (by omega) (fun q => ?_)
          rw [List.range_succ, List.map_append, List.mem_append, List.map_singleton, List.mem_singleton, PX.out]
          exact Or.comm
        · refine HIY.out.add (by omega) (by omega) (fun q => ?_)
          rw [List.range_succ, List.map_append, List.mem_append, List.map_singleton, List.mem_singleton, PY.out]
          exact Or.comm
      · obtain rfl : k = N := by omega
        have IY' : Inv 20 Y ((List.range k).map fun j => pr 20 (p j)) := IY.congr (fun q => by
          simp only [List.mem_map, List.mem_range]
          constructor
          · rintro ⟨j, hj, rfl⟩
            exact ⟨k - 1 - j, by omega, by rw [show k - 1 - (k - 1 - j) = j by omega]⟩
          · rintro ⟨j, hj, rfl⟩
            exact ⟨k - 1 - j, by omega, rfl⟩)
        have HRX := Lib.hid RX
        have HRY := Lib.hid RY
        have HBX := Lib.hid BX
        have HBY := Lib.hid BY
        have HIX := Lib.hid IX
        have HIY := Lib.hid IY'
        have HBl := Lib.hid Bl
        have hsz := Bl.size
        clear RX RY BX BY IX IY Bl hA hN IY' HR HS HB HM1 HM2
        go_wp2_with fail
        go_loopw [72] (fun c wx => ∃ u : Nat, u ≤ 20 ∧ c = .int .i64 u ∧ wx = wr) (fun c _ => 20 - (intOf c).toNat)
        case atStart => exact ⟨0, by omega, rfl, rfl⟩
        case round =>
          obtain ⟨u, hu, rfl, hwx⟩ := hrel
          replace hwx := hwx.symm
          subst hwx
          by_cases hu2 : u < 20
          · have hud : decide ((u : Int) < 20) = true := by simp; omega
            go_wp2_with fail
            go_loopw [75] (fun c wx => ∃ v : Nat, v ≤ 20 ∧ c = .int .i64 v ∧ wx = wr) (fun c _ => 20 - (intOf c).toNat)
            case atStart => exact ⟨0, by omega, rfl, rfl⟩
            case round =>
              obtain ⟨v, hv, rfl, hwx⟩ := hrel
              replace hwx := hwx.symm
              subst hwx
              by_cases hv2 : v < 20
              · have hvd : decide ((v : Int) < 20) = true := by simp; omega
                go_wp2_with fail
                refine (has_in HRX.out (by omega) (by omega) u v (by omega) (by omega) (HBX.out u (by omega) _ (by omega))).mono ?_
                rintro e w' ⟨rfl, hw'⟩
                replace hw' := hw'.symm
                subst hw'
                go_wp2_with fail
                refine (has_in HRY.out (by omega) (by omega) u v (by omega) (by omega) (HBY.out u (by omega) _ (by omega))).mono ?_
                rw [← HIX.out.same HIY.out (by omega : u < 20) v]
                obtain ⟨b0, hb0⟩ : ∃ b0, hasX X u v = b0 := ⟨_, rfl⟩
                have HB0 := Lib.hid hb0
                rw [hb0]
                clear hb0
                rintro e w' ⟨rfl, hw'⟩
                replace hw' := hw'.symm
                subst hw'
                have bb : (b0 != b0) = false := by simp
                go_wp2_with fail
                go_loopw [87] (fun c wx => ∃ t : Nat, t ≤ 20 ∧ c = .int .i64 t ∧ wx = wr) (fun c _ => 20 - (intOf c).toNat)
                case atStart => exact ⟨0, by omega, rfl, rfl⟩
                case round =>
                  obtain ⟨t, ht, rfl, hwx⟩ := hrel
                  replace hwx := hwx.symm
                  subst hwx
                  by_cases ht2 : t < 20
                  · go_wp2_with fail
                    refine (has_in HRX.out (by omega) (by omega) u v (by omega) (by omega) (HBX.out u (by omega) _ (by omega))).mono ?_
                    rw [HB0.out]
                    rintro e w' ⟨rfl, hw'⟩
                    replace hw' := hw'.symm
                    subst hw'
                    cases b0
                    · go_wp2_with fail
                      exact ⟨⟨t + 1, by omega, by go_num, trivial⟩, by simp [intOf]; omega⟩
                    · go_wp2_with fail
                      refine (has_in HRX.out (by omega) (by omega) v t (by omega) (by omega) (HBX.out v (by omega) _ (by omega))).mono ?_
                      obtain ⟨b1, hb1⟩ : ∃ b1, hasX X v t = b1 := ⟨_, rfl⟩
                      have HB1 := Lib.hid hb1
                      rw [hb1]
                      clear hb1
                      rintro e w' ⟨rfl, hw'⟩
                      replace hw' := hw'.symm
                      subst hw'
                      cases b1
                      · go_wp2_with fail
                        exact ⟨⟨t + 1, by omega, by go_num, trivial⟩, by simp [intOf]; omega⟩
                      · go_wp2_with fail
                        refine (has_in HRX.out (by omega) (by omega) u t (by omega) (by omega) (HBX.out u (by omega) _ (by omega))).mono ?_
                        rw [HIX.out.trans (by omega : u < 20) HB0.out HB1.out]
                        rintro e w' ⟨rfl, hw'⟩
                        replace hw' := hw'.symm
                        subst hw'
                        go_wp2_with fail
                        exact ⟨⟨t + 1, by omega, by go_num, trivial⟩, by simp [intOf]; omega⟩
                  · obtain rfl : t = 20 := by omega
                    go_wp2_with fail
                    exact ⟨⟨v + 1, by omega, by go_num, trivial⟩, by simp [intOf]; omega⟩
              · obtain rfl : v = 20 := by omega
                go_wp2_with fail
                exact ⟨⟨u + 1, by omega, by go_num, trivial⟩, by simp [intOf]; omega⟩
          · obtain rfl : u = 20 := by omega
            go_wp2_with fail
            refine (count_any HRX.out HBX.out (by omega) (by omega)).mono ?_
            rintro e w6 ⟨rfl, B6⟩
            have HRY6 := Lib.hid (HRY.out.later B6)
            have HB6 := Lib.hid (below_then HBl.out hsz B6)
            have hs6 := B6.size
            clear B6
            go_wp2_with fail
            refine (count_any HRY6.out HBY.out (by omega) (by omega)).mono ?_
            rw [← cnt_same HIX.out HIY.out HBX.out HBY.out]
            rintro e w7 ⟨rfl, B7⟩
            have HB7 := Lib.hid (below_then HB6.out HB6.out.size B7)
            clear B7
            go_wp2_with fail
            go_ret
            exact ⟨ret_bool (by simp), HB7.out⟩
end Go.Proofs.Ytmnfefebbadflaa
