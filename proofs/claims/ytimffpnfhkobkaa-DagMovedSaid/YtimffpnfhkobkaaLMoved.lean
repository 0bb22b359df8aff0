/- DagMoved: coordinates moved, turned, stretched. -/
import Derived.Test.YtimffpnfhkobkaaLMovA
import Derived.Test.YtimffpnfhkobkaaRowS
import Derived.Test.YtimffpnfhkobkaaOpn
namespace Go.Proofs.Ytimffpnfhkobkaa
open Go.RowKit
theorem map_snoc4 (xs : List Int) (f : Int → Int) (k : Nat) : (valsG 20 30 xs (k + 1)).map f = (valsG 20 30 xs k).map f ++ [f (valG 20 30 xs k)] := by
  rw [valsG_succ, List.map_append]; rfl
theorem backL_take {L : List Arc} {i : Nat} {a : Arc} (h : L[i]? = some a) : backL (L.take (i + 1)) = backL (L.take i) ++ [(a.2.1, a.1, a.2.2)] := by
  obtain ⟨h1, h2⟩ := List.getElem?_eq_some_iff.1 h
  rw [List.take_succ_eq_append_getElem h1, h2, backL_snoc]
theorem backL_length (L : List Arc) : (backL L).length = L.length := by simp [backL]
set_option maxRecDepth 100000 in
set_option maxHeartbeats 4000000 in
theorem moved_core {w : World} {V VX : Value} {T : List Tri} {xs : List Int} (N : Nat) (b : Int) (b0 : -32768 ≤ b) (b1 : b ≤ 32767) (hN : N ≤ 255) (h : Tris w V T) (hs : Small T) (hl : T.length ≤ 1000000000000000) (hx : Ints w VX xs) (hxl : xs.length ≤ 1000000000000000) :
    Calls Try.prog 7 #[.agg #[.int .u8 (N : Int), V], VX, .int .i16 b] w fun e w' => e = .returned (.bool true) ∧ Below w.heap.size w w' := by
  have HX := Lib.hid hx
  obtain ⟨AX, cpX, rfl, -, -, hAX⟩ := hx.at_
  have HAX := Lib.hid hAX
  clear hAX
  obtain ⟨A, cap, rfl, -, -⟩ := h.at_
  have hb : Below w.heap.size w (w.alloc (.cells #[.int .u8 (N : Int), .slice A T.length cap] 38)) := (Below.refl _ _).alloc (Nat.le_refl _) _
  have HH := Lib.hid (Sl.later h hb)
  clear h hx
  obtain ⟨L0, hL0⟩ : ∃ f : Nat → List Int, f = fun k => valsG 20 30 xs k := ⟨_, rfl⟩
  obtain ⟨L1, hL1⟩ : ∃ f : Nat → List Int, f = fun k => (valsG 20 30 xs k).map (fun v => v + b) := ⟨_, rfl⟩
  obtain ⟨L2, hL2⟩ : ∃ f : Nat → List Int, f = fun k => (valsG 20 30 xs k).map (fun v => -v) := ⟨_, rfl⟩
  obtain ⟨L3, hL3⟩ : ∃ f : Nat → List Int, f = fun k => (valsG 20 30 xs k).map (fun v => 3 * v) := ⟨_, rfl⟩
  have S0 : Hid (∀ k, L0 (k + 1) = L0 k ++ [valG 20 30 xs k]) := Lib.hid (by intro k; rw [hL0]; exact valsG_succ 20 30 xs k)
  have S1 : Hid (∀ k, L1 (k + 1) = L1 k ++ [valG 20 30 xs k + b]) := Lib.hid (by intro k; rw [hL1]; exact map_snoc4 xs (fun v => v + b) k)
  have S2 : Hid (∀ k, L2 (k + 1) = L2 k ++ [-(valG 20 30 xs k)]) := Lib.hid (by intro k; rw [hL2]; exact map_snoc4 xs (fun v => -v) k)
  have S3 : Hid (∀ k, L3 (k + 1) = L3 k ++ [3 * valG 20 30 xs k]) := Lib.hid (by intro k; rw [hL3]; exact map_snoc4 xs (fun v => 3 * v) k)
  have Z0 : Hid (∀ n : Nat, L1 n = (L0 n).map (fun v => v + b) ∧ L2 n = (L0 n).map (fun v => -v) ∧ L3 n = (L0 n).map (fun v => 3 * v) ∧ (L0 n).length = n ∧ ((n ≤ 100) → ∀ v ∈ L0 n, -1000 ≤ v ∧ v ≤ 11000)) := Lib.hid (by
    intro n
    rw [hL0, hL1, hL2, hL3]
    exact ⟨rfl, rfl, rfl, valsG_length 20 30 xs n, fun h => valsG_bd (by omega) (by omega) (by omega) (by omega) xs h⟩)
  have E0 : Hid (L0 0 = [] ∧ L1 0 = [] ∧ L2 0 = [] ∧ L3 0 = []) := Lib.hid (by rw [hL0, hL1, hL2, hL3]; exact ⟨rfl, rfl, rfl, rfl⟩)
  clear hL0 hL1 hL2 hL3
  obtain ⟨i0, hi0, hz0, hz1, hz2⟩ := info_parts infoInt
  go_enter Try.func7, Try.ntmps7
  go_wp2_with fail
  refine (make_any (T := T) N 12 hN (by omega) (by omega) HH.out hs hl).mono ?_
  rintro e w1 ⟨V1, rfl, R1, B1⟩
  have HL := Lib.hid (Sl.of_own encA_length R1)
  have HB1 := Lib.hid (hb.trans (B1.mono (by simp)))
  have HLL := makeL_length N 12 T
  have HIN := Lib.hid (makeL_in N 12 T)
  have HW := Lib.hid (makeL_w N 12 T)
  have HD := Lib.hid (makeL_dag N 12 (by omega) (by omega) T)
  have HDB := Lib.hid (makeL_back N 12 (by omega) (by omega) T)
  obtain ⟨n, hn⟩ : ∃ n, mkN N 12 = n := ⟨_, rfl⟩
  have hn1 : 1 ≤ n ∧ n ≤ 12 := by rw [← hn]; unfold mkN; omega
  rw [hn] at HD HDB HIN ⊢
  obtain ⟨L, hL⟩ : ∃ L, makeL N 12 T = L := ⟨_, rfl⟩
  rw [hL] at HD HDB HIN HW HL HLL
  obtain ⟨AL, capL, rfl, -, -, hAL⟩ := Arcs.at_ HL.out
  have HAL := Lib.hid hAL
  clear hb R1 B1 HH hs hl hL hn hAL
  go_wp2_with fail
  go_loopw [9, 10, 11, 12, 32] (fun V0 V1 V2 V3 q wr => ∃ k : Nat, k ≤ n ∧ q = .int .i64 k ∧ RS wr w1.heap.size 3 1 4 (four V0 V1 V2 V3) (fun _ => k) (four (flat encI (L0 k)) (flat encI (L1 k)) (flat encI (L2 k)) (flat encI (L3 k))) ∧ Below w1.heap.size w1 wr) (fun _ _ _ _ q _ => n - (intOf q).toNat)
  case atStart =>
    obtain ⟨z0, z1, z2, z3⟩ := E0.out
    refine ⟨0, by omega, rfl, ⟨fun j hj => ?_, fun u v hu hv hne g hgu => ?_⟩, Below.refl _ _⟩
    · have : j = 0 ∨ j = 1 ∨ j = 2 ∨ j = 3 := by omega
      rcases this with rfl | rfl | rfl | rfl
      · show w1.ownsRow _ _ _ (.slice none 0 0) 0 (flat encI (L0 0)); rw [z0]; exact World.ownsRow_nil _ _ _ _
      · show w1.ownsRow _ _ _ (.slice none 0 0) 0 (flat encI (L1 0)); rw [z1]; exact World.ownsRow_nil _ _ _ _
      · show w1.ownsRow _ _ _ (.slice none 0 0) 0 (flat encI (L2 0)); rw [z2]; exact World.ownsRow_nil _ _ _ _
      · show w1.ownsRow _ _ _ (.slice none 0 0) 0 (flat encI (L3 0)); rw [z3]; exact World.ownsRow_nil _ _ _ _
    · exfalso
      have : u = 0 ∨ u = 1 ∨ u = 2 ∨ u = 3 := by omega
      rcases this with rfl | rfl | rfl | rfl <;> simp [four, Value.ownBlock] at hgu
  case round => as_aux_lemma =>
    obtain ⟨k, hk, rfl, R, B⟩ := hrel
    obtain ⟨V0, rfl⟩ : ∃ x : Value, x = u9 := ⟨_, rfl⟩
    obtain ⟨V1, rfl⟩ : ∃ x : Value, x = u10 := ⟨_, rfl⟩
    obtain ⟨V2, rfl⟩ : ∃ x : Value, x = u11 := ⟨_, rfl⟩
    obtain ⟨V3, rfl⟩ : ∃ x : Value, x = u12 := ⟨_, rfl⟩
    obtain ⟨wi, rfl⟩ : ∃ x : World, x = wr := ⟨_, rfl⟩
    obtain ⟨A0, c0, e, -⟩ := own_shape (R.rows 0 (by omega))
    obtain rfl : V0 = .slice A0 k c0 := e
    obtain ⟨A1, c1, e, -⟩ := own_shape (R.rows 1 (by omega))
    obtain rfl : V1 = .slice A1 k c1 := e
    obtain ⟨A2, c2, e, -⟩ := own_shape (R.rows 2 (by omega))
    obtain rfl : V2 = .slice A2 k c2 := e
    obtain ⟨A3, c3, e, -⟩ := own_shape (R.rows 3 (by omega))
    obtain rfl : V3 = .slice A3 k c3 := e
    have RS0 := Lib.hid R
    have HBi := Lib.hid B
    have hwi := B.size
    clear R B
    by_cases hkn : k < n
    · have hd3 : decide ((k : Int) < n) = true := by simp; omega
      have HS0 := Lib.hid (S0.out k)
      have HS1 := Lib.hid (S1.out k)
      have HS2 := Lib.hid (S2.out k)
      have HS3 := Lib.hid (S3.out k)
      have k1 : (0 : Int) ≤ (k : Int) := by omega
      by_cases hkx : k < xs.length
      · have hd4 : decide ((k : Int) < xs.length) = true := by simp; omega
        have k2 : (k : Int) < (xs.length : Int) := by omega
        obtain ⟨x, hx⟩ : ∃ x, xs[k]? = some x := ⟨_, List.getElem?_eq_getElem hkx⟩
        obtain ⟨bx, off, rfl, hcx⟩ := HAX.out (by omega)
        have cx := cell_later HBi.out (cell_later HB1.out (hcx k x hx))
        have hvv := valG_yes (s := 20) (m := 30) hx
        clear hcx hx
        obtain ⟨r, hr⟩ : ∃ r, x.tmod 30 = r := ⟨_, rfl⟩
        have hr1 : -30 < r ∧ r < 30 := by rw [← hr]; exact tmod_bounds x 30 (by omega)
        rw [hr] at hvv
        have HVV := Lib.hid hvv
        clear hvv
        go_upto_region 9 with fail
        generalize hv : 20 * (k : Int) + r = v
        have hv1 : -1000 ≤ v ∧ v ≤ 11000 := by omega
        have HV : Hid (valG 20 30 xs k = v) := Lib.hid (by rw [HVV.out, hv])
        clear hv
        go_wp2_with (first | (refine wpList_append_lies _ rfl (.tmp 48) (.tmp 50) 26 rfl w1.heap.size 3 i0 (.int .i64 0) 1 8 Try.underlying26 hi0 hz0 hz1 hz2 rfl (by decide) (.slice A0 k c0) k (flat encI (L0 k)) rfl (own_later (RS0.out.rows 0 (by omega)) ((Below.refl _ _).alloc (Nat.le_refl _) _)) ⟨wi.heap.size, 0, none⟩ 1 1 (encI (v)) rfl rfl (World.news_of_block (heap_at rfl)) (by intro u hu; simp [encI] at hu; subst hu; rfl) (by omega) (by simp only [maxLen]; omega) (by omega) (by simp; omega) _ rfl ?_; intro g0 q0 x0 hown hgrow hat hlt; have HZ0 : wi.heap.size + 1 ≤ x0.heap.size := (by have := hgrow.size; simp at this; omega); have HB0 := Lib.hid ((HBi.out.alloc (by omega) (.cells (encI (v)).toArray 3)).grown hgrow (by simp; omega) (fun q hq => own_ge (RS0.out.rows 0 (by omega)) hq)); have RS1 := Lib.hid ((RS0.out.later ((Below.refl _ _).alloc (Nat.le_refl _) (.cells (encI (v)).toArray 3))).push 0 (by omega) hown hgrow (hat.imp id (fun h => by rw [h]; simp))); clear hown hgrow hat) | (refine wpList_append_lies _ rfl (.tmp 52) (.tmp 57) 26 rfl w1.heap.size 3 i0 (.int .i64 0) 1 8 Try.underlying26 hi0 hz0 hz1 hz2 rfl (by decide) (.slice A1 k c1) k (flat encI (L1 k)) rfl (own_later (RS1.out.rows 1 (by omega)) ((Below.refl _ _).alloc (Nat.le_refl _) _)) ⟨x0.heap.size, 0, none⟩ 1 1 (encI (v + b)) rfl rfl (World.news_of_block (heap_at rfl)) (by intro u hu; simp [encI] at hu; subst hu; rfl) (by omega) (by simp only [maxLen]; omega) (by omega) (by simp; omega) _ rfl ?_; intro g1 q1 x1 hown hgrow hat hlt; have HZ1 : x0.heap.size + 1 ≤ x1.heap.size := (by have := hgrow.size; simp at this; omega); have HB1 := Lib.hid ((HB0.out.alloc (by omega) (.cells (encI (v + b)).toArray 3)).grown hgrow (by simp; omega) (fun q hq => own_ge (RS1.out.rows 1 (by omega)) hq)); have RS2 := Lib.hid ((RS1.out.later ((Below.refl _ _).alloc (Nat.le_refl _) (.cells (encI (v + b)).toArray 3))).push 1 (by omega) hown hgrow (hat.imp id (fun h => by rw [h]; simp))); clear hown hgrow hat) | (refine wpList_append_lies _ rfl (.tmp 59) (.tmp 62) 26 rfl w1.heap.size 3 i0 (.int .i64 0) 1 8 Try.underlying26 hi0 hz0 hz1 hz2 rfl (by decide) (.slice A2 k c2) k (flat encI (L2 k)) rfl (own_later (RS2.out.rows 2 (by omega)) ((Below.refl _ _).alloc (Nat.le_refl _) _)) ⟨x1.heap.size, 0, none⟩ 1 1 (encI (-v)) rfl rfl (World.news_of_block (heap_at rfl)) (by intro u hu; simp [encI] at hu; subst hu; rfl) (by omega) (by simp only [maxLen]; omega) (by omega) (by simp; omega) _ rfl ?_; intro g2 q2 x2 hown hgrow hat hlt; have HZ2 : x1.heap.size + 1 ≤ x2.heap.size := (by have := hgrow.size; simp at this; omega); have HB2 := Lib.hid ((HB1.out.alloc (by omega) (.cells (encI (-v)).toArray 3)).grown hgrow (by simp; omega) (fun q hq => own_ge (RS2.out.rows 2 (by omega)) hq)); have RS3 := Lib.hid ((RS2.out.later ((Below.refl _ _).alloc (Nat.le_refl _) (.cells (encI (-v)).toArray 3))).push 2 (by omega) hown hgrow (hat.imp id (fun h => by rw [h]; simp))); clear hown hgrow hat) | (refine wpList_append_lies _ rfl (.tmp 64) (.tmp 67) 26 rfl w1.heap.size 3 i0 (.int .i64 0) 1 8 Try.underlying26 hi0 hz0 hz1 hz2 rfl (by decide) (.slice A3 k c3) k (flat encI (L3 k)) rfl (own_later (RS3.out.rows 3 (by omega)) ((Below.refl _ _).alloc (Nat.le_refl _) _)) ⟨x2.heap.size, 0, none⟩ 1 1 (encI (3 * v)) rfl rfl (World.news_of_block (heap_at rfl)) (by intro u hu; simp [encI] at hu; subst hu; rfl) (by omega) (by simp only [maxLen]; omega) (by omega) (by simp; omega) _ rfl ?_; intro g3 q3 x3 hown hgrow hat hlt; have HZ3 : x2.heap.size + 1 ≤ x3.heap.size := (by have := hgrow.size; simp at this; omega); have HB3 := Lib.hid ((HB2.out.alloc (by omega) (.cells (encI (3 * v)).toArray 3)).grown hgrow (by simp; omega) (fun q hq => own_ge (RS3.out.rows 3 (by omega)) hq)); have RS4 := Lib.hid ((RS3.out.later ((Below.refl _ _).alloc (Nat.le_refl _) (.cells (encI (3 * v)).toArray 3))).push 3 (by omega) hown hgrow (hat.imp id (fun h => by rw [h]; simp))); clear hown hgrow hat))
        refine ⟨⟨k + 1, by omega, by go_num, ?_, HB3.out⟩, by simp [intOf]; omega⟩
        refine RS.congr4 RS4.out rfl rfl rfl rfl ?_ ?_ ?_ ?_
        · exact ⟨rfl, by show flat encI (L0 k) ++ encI v = flat encI (L0 (k + 1)); rw [HS0.out, HV.out]; simp [flat]⟩
        · exact ⟨rfl, by show flat encI (L1 k) ++ encI (v + b) = flat encI (L1 (k + 1)); rw [HS1.out, HV.out]; simp [flat]⟩
        · exact ⟨rfl, by show flat encI (L2 k) ++ encI (-v) = flat encI (L2 (k + 1)); rw [HS2.out, HV.out]; simp [flat]⟩
        · exact ⟨rfl, by show flat encI (L3 k) ++ encI (3 * v) = flat encI (L3 (k + 1)); rw [HS3.out, HV.out]; simp [flat]⟩
      · have hd4 : decide ((k : Int) < xs.length) = false := by simp; omega
        have hvv := Lib.hid (valG_no (s := 20) (m := 30) hkx)
        go_upto_region 9 with fail
        generalize hv : 20 * (k : Int) = v
        have hv1 : -1000 ≤ v ∧ v ≤ 11000 := by omega
        have HV : Hid (valG 20 30 xs k = v) := Lib.hid (by rw [hvv.out, hv])
        clear hv
        go_wp2_with (first | (refine wpList_append_lies _ rfl (.tmp 48) (.tmp 50) 26 rfl w1.heap.size 3 i0 (.int .i64 0) 1 8 Try.underlying26 hi0 hz0 hz1 hz2 rfl (by decide) (.slice A0 k c0) k (flat encI (L0 k)) rfl (own_later (RS0.out.rows 0 (by omega)) ((Below.refl _ _).alloc (Nat.le_refl _) _)) ⟨wi.heap.size, 0, none⟩ 1 1 (encI (v)) rfl rfl (World.news_of_block (heap_at rfl)) (by intro u hu; simp [encI] at hu; subst hu; rfl) (by omega) (by simp only [maxLen]; omega) (by omega) (by simp; omega) _ rfl ?_; intro g0 q0 x0 hown hgrow hat hlt; have HZ0 : wi.heap.size + 1 ≤ x0.heap.size := (by have := hgrow.size; simp at this; omega); have HB0 := Lib.hid ((HBi.out.alloc (by omega) (.cells (encI (v)).toArray 3)).grown hgrow (by simp; omega) (fun q hq => own_ge (RS0.out.rows 0 (by omega)) hq)); have RS1 := Lib.hid ((RS0.out.later ((Below.refl _ _).alloc (Nat.le_refl _) (.cells (encI (v)).toArray 3))).push 0 (by omega) hown hgrow (hat.imp id (fun h => by rw [h]; simp))); clear hown hgrow hat) | (refine wpList_append_lies _ rfl (.tmp 52) (.tmp 57) 26 rfl w1.heap.size 3 i0 (.int .i64 0) 1 8 Try.underlying26 hi0 hz0 hz1 hz2 rfl (by decide) (.slice A1 k c1) k (flat encI (L1 k)) rfl (own_later (RS1.out.rows 1 (by omega)) ((Below.refl _ _).alloc (Nat.le_refl _) _)) ⟨x0.heap.size, 0, none⟩ 1 1 (encI (v + b)) rfl rfl (World.news_of_block (heap_at rfl)) (by intro u hu; simp [encI] at hu; subst hu; rfl) (by omega) (by simp only [maxLen]; omega) (by omega) (by simp; omega) _ rfl ?_; intro g1 q1 x1 hown hgrow hat hlt; have HZ1 : x0.heap.size + 1 ≤ x1.heap.size := (by have := hgrow.size; simp at this; omega); have HB1 := Lib.hid ((HB0.out.alloc (by omega) (.cells (encI (v + b)).toArray 3)).grown hgrow (by simp; omega) (fun q hq => own_ge (RS1.out.rows 1 (by omega)) hq)); have RS2 := Lib.hid ((RS1.out.later ((Below.refl _ _).alloc (Nat.le_refl _) (.cells (encI (v + b)).toArray 3))).push 1 (by omega) hown hgrow (hat.imp id (fun h => by rw [h]; simp))); clear hown hgrow hat) | (refine wpList_append_lies _ rfl (.tmp 59) (.tmp 62) 26 rfl w1.heap.size 3 i0 (.int .i64 0) 1 8 Try.underlying26 hi0 hz0 hz1 hz2 rfl (by decide) (.slice A2 k c2) k (flat encI (L2 k)) rfl (own_later (RS2.out.rows 2 (by omega)) ((Below.refl _ _).alloc (Nat.le_refl _) _)) ⟨x1.heap.size, 0, none⟩ 1 1 (encI (-v)) rfl rfl (World.news_of_block (heap_at rfl)) (by intro u hu; simp [encI] at hu; subst hu; rfl) (by omega) (by simp only [maxLen]; omega) (by omega) (by simp; omega) _ rfl ?_; intro g2 q2 x2 hown hgrow hat hlt; have HZ2 : x1.heap.size + 1 ≤ x2.heap.size := (by have := hgrow.size; simp at this; omega); have HB2 := Lib.hid ((HB1.out.alloc (by omega) (.cells (encI (-v)).toArray 3)).grown hgrow (by simp; omega) (fun q hq => own_ge (RS2.out.rows 2 (by omega)) hq)); have RS3 := Lib.hid ((RS2.out.later ((Below.refl _ _).alloc (Nat.le_refl _) (.cells (encI (-v)).toArray 3))).push 2 (by omega) hown hgrow (hat.imp id (fun h => by rw [h]; simp))); clear hown hgrow hat) | (refine wpList_append_lies _ rfl (.tmp 64) (.tmp 67) 26 rfl w1.heap.size 3 i0 (.int .i64 0) 1 8 Try.underlying26 hi0 hz0 hz1 hz2 rfl (by decide) (.slice A3 k c3) k (flat encI (L3 k)) rfl (own_later (RS3.out.rows 3 (by omega)) ((Below.refl _ _).alloc (Nat.le_refl _) _)) ⟨x2.heap.size, 0, none⟩ 1 1 (encI (3 * v)) rfl rfl (World.news_of_block (heap_at rfl)) (by intro u hu; simp [encI] at hu; subst hu; rfl) (by omega) (by simp only [maxLen]; omega) (by omega) (by simp; omega) _ rfl ?_; intro g3 q3 x3 hown hgrow hat hlt; have HZ3 : x2.heap.size + 1 ≤ x3.heap.size := (by have := hgrow.size; simp at this; omega); have HB3 := Lib.hid ((HB2.out.alloc (by omega) (.cells (encI (3 * v)).toArray 3)).grown hgrow (by simp; omega) (fun q hq => own_ge (RS3.out.rows 3 (by omega)) hq)); have RS4 := Lib.hid ((RS3.out.later ((Below.refl _ _).alloc (Nat.le_refl _) (.cells (encI (3 * v)).toArray 3))).push 3 (by omega) hown hgrow (hat.imp id (fun h => by rw [h]; simp))); clear hown hgrow hat))
        refine ⟨⟨k + 1, by omega, by go_num, ?_, HB3.out⟩, by simp [intOf]; omega⟩
        refine RS.congr4 RS4.out rfl rfl rfl rfl ?_ ?_ ?_ ?_
        · exact ⟨rfl, by show flat encI (L0 k) ++ encI v = flat encI (L0 (k + 1)); rw [HS0.out, HV.out]; simp [flat]⟩
        · exact ⟨rfl, by show flat encI (L1 k) ++ encI (v + b) = flat encI (L1 (k + 1)); rw [HS1.out, HV.out]; simp [flat]⟩
        · exact ⟨rfl, by show flat encI (L2 k) ++ encI (-v) = flat encI (L2 (k + 1)); rw [HS2.out, HV.out]; simp [flat]⟩
        · exact ⟨rfl, by show flat encI (L3 k) ++ encI (3 * v) = flat encI (L3 (k + 1)); rw [HS3.out, HV.out]; simp [flat]⟩
    · obtain rfl : k = n := by omega
      have hd3 : decide ((k : Int) < k) = false := by simp
      obtain ⟨z1, z2, z3, z4, z5⟩ := Z0.out k
      obtain ⟨l, hl⟩ : ∃ l, L0 k = l := ⟨_, rfl⟩
      rw [z1, z2, z3, hl] at RS0
      rw [hl] at z4 z5
      have I0 : Ints wi (.slice A0 k c0) l := Sl.of_own encI_length (by rw [z4]; exact RS0.out.rows 0 (by omega))
      have I1 : Ints wi (.slice A1 k c1) (l.map fun v => v + b) := Sl.of_own encI_length (by rw [List.length_map, z4]; exact RS0.out.rows 1 (by omega))
      have I2 : Ints wi (.slice A2 k c2) (l.map fun v => -v) := Sl.of_own encI_length (by rw [List.length_map, z4]; exact RS0.out.rows 2 (by omega))
      have I3 : Ints wi (.slice A3 k c3) (l.map fun v => 3 * v) := Sl.of_own encI_length (by rw [List.length_map, z4]; exact RS0.out.rows 3 (by omega))
      have HI0 := Lib.hid I0
      have HI1 := Lib.hid I1
      have HI2 := Lib.hid I2
      have HI3 := Lib.hid I3
      have HML := Lib.hid (moved_law HD.out HDB.out z4 HIN.out (z5 (by omega)) b0 b1)
      have HBD := Lib.hid (moved_bd (n := k) HLL HW.out (by rw [z4]; exact HIN.out) (z5 (by omega)))
      have HLi := Lib.hid (HL.out.later HBi.out)
      have HLEN := Lib.hid z4
      have HBo := Lib.hid (below_then HB1.out HB1.out.size HBi.out)
      clear I0 I1 I2 I3 z1 z2 z3 z4 z5 hl
      go_wp2_with fail
      go_loopw [15, 72] (fun Vl q wr => ∃ i : Nat, i ≤ L.length ∧ q = .int .i64 i ∧ wr.ownsRow wi.heap.size 52 3 Vl i (flat encA (backL (L.take i))) ∧ Below wi.heap.size wi wr) (fun _ q _ => L.length - (intOf q).toNat)
      case atStart => exact ⟨0, by omega, rfl, World.ownsRow_nil _ _ _ _, Below.refl _ _⟩
      case round => as_aux_lemma =>
        obtain ⟨i, hi, rfl, R, B⟩ := hrel
        obtain ⟨Vl, rfl⟩ : ∃ x : Value, x = u15 := ⟨_, rfl⟩
        obtain ⟨wo, rfl⟩ : ∃ x : World, x = wr := ⟨_, rfl⟩
        obtain ⟨AV, cV, rfl, -⟩ := own_shape R
        have HR := Lib.hid R
        have HB := Lib.hid B
        have hwo := B.size
        clear R B
        by_cases hil : i < L.length
        · have hd1 : decide ((i : Int) < L.length) = true := by simp; omega
          obtain ⟨ba, off, rfl, hc⟩ := HAL.out (by omega)
          obtain ⟨a, ha⟩ : ∃ a, L[i]? = some a := ⟨_, List.getElem?_eq_getElem hil⟩
          have HStep := Lib.hid (backL_take ha)
          obtain ⟨e0, e1, e2⟩ := hc i a ha
          have e0 := cell_later HB.out (cell_later HBi.out e0)
          have e1 := cell_later HB.out (cell_later HBi.out e1)
          have e2 := cell_later HB.out (cell_later HBi.out e2)
          obtain ⟨f, t, x⟩ := a
          simp only at e0 e1 e2
          have i1 : (0 : Int) ≤ (i : Int) := by omega
          have i2 : (i : Int) < (L.length : Int) := by omega
          clear hc ha
          obtain ⟨j0, hj0, hy0, hy1, hy2⟩ := info_parts info_arcM
          go_wp2_with (refine wpList_append_lies _ rfl (.tmp 76) (.tmp 84) 22 rfl wi.heap.size 52 j0 (.agg #[.int .i64 0, .int .i64 0, .int .i64 0]) 3 24 Try.underlying22 hj0 hy0 hy1 hy2 rfl (by decide) (.slice AV i cV) i (flat encA (backL (L.take i))) rfl (own_later HR.out (((Below.refl _ _).alloc (Nat.le_refl _) _).alloc (by simp) _)) ⟨wo.heap.size + 1, 0, none⟩ 1 1 (encA (t, f, x)) rfl rfl (World.news_of_block (heap_at (by simp))) (by intro u hu; simp [encA] at hu; rcases hu with rfl | rfl | rfl <;> rfl) (by omega) (by simp only [maxLen]; omega) (by omega) (by simp; omega) _ rfl ?_; intro g cq w3 hown hgrow hat hlt)
          have HB4 := (HB.out.trans ((((Below.refl wo.heap.size wo).alloc (Nat.le_refl _) _).alloc (by simp) _).mono hwo)).grown hgrow (by simp; omega) (fun q hq => own_ge HR.out hq)
          refine ⟨⟨i + 1, by omega, by go_num, ?_, HB4⟩, by simp [intOf]; omega⟩
          rw [HStep.out, flat_append]
          simpa [flat] using hown
        · obtain rfl : i = L.length := by omega
          have hd1 : decide ((L.length : Int) < L.length) = false := by simp
          have RB := HR.out
          rw [List.take_of_length_le (Nat.le_refl _)] at RB
          have HBK := Lib.hid (Sl.of_own encA_length (by rw [backL_length]; exact RB) : Arcs wo (.slice AV L.length cV) (backL L))
          have HI0 := Lib.hid (HI0.out.later HB.out)
          have HI1 := Lib.hid (HI1.out.later HB.out)
          have HI2 := Lib.hid (HI2.out.later HB.out)
          have HI3 := Lib.hid (HI3.out.later HB.out)
          have HLo := Lib.hid (HLi.out.later HB.out)
          have HBF := Lib.hid (below_then HBo.out HBo.out.size HB.out)
          clear RB HR
          go_wp2_with fail
          refine (cost_any _ HLo.out HI0.out (by have := HLEN.out; omega)).mono ?_
          rintro e y1 ⟨rfl, B1⟩
          have HI1 := Lib.hid (HI1.out.later B1)
          have HI2 := Lib.hid (HI2.out.later B1)
          have HI3 := Lib.hid (HI3.out.later B1)
          have HLo := Lib.hid (HLo.out.later B1)
          have HBK := Lib.hid (HBK.out.later B1)
          have HBF := Lib.hid (below_then HBF.out HBF.out.size B1)
          clear B1
          go_wp2_with fail
          refine (cost_any _ HLo.out HI1.out (by have := HLEN.out; simp; omega)).mono ?_
          rintro e y2 ⟨rfl, B2⟩
          have HI2 := Lib.hid (HI2.out.later B2)
          have HI3 := Lib.hid (HI3.out.later B2)
          have HLo := Lib.hid (HLo.out.later B2)
          have HBK := Lib.hid (HBK.out.later B2)
          have HBF := Lib.hid (below_then HBF.out HBF.out.size B2)
          clear B2
          go_wp2_with fail
          refine (cost_any _ HBK.out HI2.out (by have := HLEN.out; simp; omega)).mono ?_
          rintro e y3 ⟨rfl, B3⟩
          have HI3 := Lib.hid (HI3.out.later B3)
          have HLo := Lib.hid (HLo.out.later B3)
          have HBK := Lib.hid (HBK.out.later B3)
          have HBF := Lib.hid (below_then HBF.out HBF.out.size B3)
          clear B3
          go_wp2_with fail
          refine (cost_any _ HLo.out HI3.out (by have := HLEN.out; simp; omega)).mono ?_
          rintro e y4 ⟨rfl, B4⟩
          have HBK := Lib.hid (HBK.out.later B4)
          have HBF := Lib.hid (below_then HBF.out HBF.out.size B4)
          clear B4
          obtain ⟨m1, m2, m3, m4, m5, m6⟩ := HML.out
          rw [m1, m2, m3, m4, m5, m6]
          clear m1 m2 m3 m4 m5 m6
          obtain ⟨ce, hce⟩ : ∃ ce, costE k L l = ce := ⟨_, rfl⟩
          obtain ⟨cv, hcv⟩ : ∃ cv, costV k L l = cv := ⟨_, rfl⟩
          rw [hce, hcv]
          have hbd := HBD.out
          rw [hcv] at hbd
          clear hce hcv
          go_wp2_with fail
          refine (dwakes_any _).mono ?_
          rintro e y5 ⟨rfl, B5⟩
          have HBK := Lib.hid (HBK.out.later B5)
          have HBF := Lib.hid (below_then HBF.out HBF.out.size B5)
          clear B5
          go_wp2_with fail
          refine (check_any _ HBK.out).mono ?_
          rintro e y6 ⟨rfl, B6⟩
          have HBF := Lib.hid (below_then HBF.out HBF.out.size B6)
          clear B6
          rw [HDB.out]
          go_wp2_with fail
          go_ret
          exact ⟨rfl, HBF.out⟩
end Go.Proofs.Ytimffpnfhkobkaa
