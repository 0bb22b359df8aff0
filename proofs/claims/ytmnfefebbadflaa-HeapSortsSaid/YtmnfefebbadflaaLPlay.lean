/- The law HeapPlays returns true at every list of acts. No condition. -/
import Derived.Test.YtmnfefebbadflaaPlay
import Derived.Test.YtmnfefebbadflaaWake
import Derived.Test.YtmnfefebbadflaaHeapEOne
import Derived.Deep.DeepCutAuto
namespace Go.Proofs.Ytmnfefebbadflaa
open Go.RowKit
theorem lessO : HOne.Less 12 ltO := ⟨enter12, fun a b w => less_any a b w⟩
theorem row_chg {w w' : World} {base E sz : Nat} {V : Value} {n : Nat} {xs : List Value} {S : Nat → Prop} (h : w.ownsRow base E sz V n xs) (hc : Chg S w w') (hs : ∀ g, V.ownBlock = some g → ¬ S g) : w'.ownsRow base E sz V n xs := by
  refine ⟨h.1, ?_⟩
  rcases h.2 with h0 | ⟨g, cap, cur, rfl, hg, hh, r⟩
  · exact .inl h0
  · exact .inr ⟨g, cap, cur, rfl, hg, (hc.block g (Array.getElem?_eq_some_iff.1 hh).1 (hs g rfl)).trans hh, r⟩
theorem Cl_chg' {w w' : World} {a : Addr} {v : Value} {S : Nat → Prop} (h : Cl w a v) (hc : Chg S w w') (hs : ¬ S a.block) : Cl w' a v := by
  have hl := World.block_lt_of_cell? w a h.cell
  have hb := hc.block a.block hl hs
  exact ⟨(World.cell?_of_block hb).trans h.cell, (World.frozen?_of_block hb).trans h.free⟩
theorem row_base {w : World} {base base' E sz : Nat} {V : Value} {n : Nat} {xs : List Value} (h : w.ownsRow base E sz V n xs) (hb : base' ≤ base) : w.ownsRow base' E sz V n xs := by
  refine ⟨h.1, ?_⟩
  rcases h.2 with h0 | ⟨g, cap, cur, rfl, hg, r⟩
  · exact .inl h0
  · exact .inr ⟨g, cap, cur, rfl, by omega, r⟩
theorem row_block {w : World} {base E sz : Nat} {V : Value} {n : Nat} {xs : List Value} (h : w.ownsRow base E sz V n xs) {g : Nat} (hg : V.ownBlock = some g) : ∃ cur, w.heap[g]? = some (.cells cur E) := by
  rcases h.2 with ⟨rfl, _⟩ | ⟨g', cap, cur, rfl, _, hh, _⟩
  · simp [Value.ownBlock] at hg
  · simp [Value.ownBlock] at hg; subst hg; exact ⟨cur, hh⟩
theorem apart_row {w : World} {hb : Nat} {F V Vl : Value} {t : Int} {base base' n : Nat} {l : List (One × Int)} {xs : List Value} (H : HOne.Rep w hb F V t base l) (O : w.ownsRow base' 26 2 Vl n xs) : ∀ g, Vl.ownBlock = some g → ¬ (g = hb ∨ V.ownBlock = some g) := by
  intro g hg h
  obtain ⟨cur, hc⟩ := row_block O hg
  rcases h with rfl | h
  · rw [H.blk] at hc; cases hc
  · obtain ⟨cur', hc'⟩ := row_block H.row h
    rw [hc] at hc'; cases hc'
set_option maxRecDepth 100000 in
set_option maxHeartbeats 1000000 in
theorem play_walk (A : Option Addr) (len cap : Nat) (w : World) (hlc : len ≤ cap) (hcap : cap ≤ 140737488351232)
    (hA : 0 < len → ∃ b off, A = some ⟨b, off, none⟩ ∧ ∀ i, i < len → ∃ d k m : Int, 0 ≤ d ∧ d ≤ 255 ∧ -128 ≤ k ∧ k ≤ 127 ∧ -128 ≤ m ∧ m ≤ 127 ∧ w.cell? ⟨b, off + i * 3, none⟩ = some (.int .u8 d) ∧ w.cell? ⟨b, off + i * 3 + 1, none⟩ = some (.int .i8 k) ∧ w.cell? ⟨b, off + i * 3 + 2, none⟩ = some (.int .i8 m))
    (hN : A = none → len = 0 ∧ cap = 0) :
    Calls Try.prog 3 #[.slice A len cap] w fun e w' => e = .returned (.bool true) ∧ Below w.heap.size w w' := by
  go_enter Try.func3, Try.ntmps3
  go_wp2_with fail
  refine (HOne.new_any 12 _).mono ?_
  rintro e w' ⟨rfl, hw⟩
  have R0 := HOne.new_rep (.func (.func 12) #[] #[]) w w.heap.size
  rw [← hw] at R0
  have B0 : Below w.heap.size w w' := by rw [hw]; exact (Below.refl _ _).alloc (Nat.le_refl _) _
  have HR0 := Lib.hid R0
  have HB0 := Lib.hid B0
  clear hw R0 B0
  obtain ⟨N, hNe⟩ : ∃ N : Nat, N = min len 200 := ⟨min len 200, rfl⟩
  have hN1 : N ≤ len := by omega
  have hN2 : N ≤ 200 := by omega
  go_upto_region 3 with fail
  go_cut [18, 19, 20] (fun s n c wx => s = .slice A N cap ∧ n = .int .i64 N ∧ c = .int .i64 0 ∧ wx = w')
  case first =>
    by_cases h : (len : Int) ≤ 200
    · obtain rfl : N = len := by omega
      clear hNe
      go_wp2_with fail
      go_meet
      exact ⟨rfl, congrArg (Value.int .i64) (by omega), rfl, rfl⟩
    · obtain rfl : N = 200 := by omega
      clear hNe
      go_wp2_with fail
      go_meet
      exact ⟨rfl, by rfl, rfl, rfl⟩
  case rest =>
    obtain ⟨rfl, rfl, rfl, rfl⟩ := hcut
    clear hNe
    have s0 := HB0.out.size
    go_wp2_with fail
    go_loopw [4, 20] (fun o c wr => ∃ (k : Nat) (V : Value) (t : Int) (hl : List (One × Int)) (m : List One) (s : List (One × Int)), k ≤ N ∧ c = .int .i64 k ∧ HOne.Rep wr w.heap.size (.func (.func 12) #[] #[]) V t w.heap.size hl ∧ Sim hl t m s ∧ wr.ownsRow w.heap.size 26 2 o m.length (flat encO m) ∧ Below w.heap.size w wr ∧ 0 ≤ t ∧ t ≤ k ∧ m.length ≤ k) (fun _ c _ => N - (intOf c).toNat)
    case atStart => exact ⟨0, _, 0, [], [], [], by omega, rfl, HR0.out, Sim.nil, World.ownsRow_nil _ _ _ _, HB0.out, by omega, by omega, by simp⟩
    case round =>
      obtain ⟨k, V, t, hl, m, s, hk, rfl, R, S, O, Bl, ht0, htk, hmk⟩ := hrel
      by_cases hlt : k < N
      · obtain ⟨b, off, rfl, hcells⟩ := hA (by omega)
        obtain ⟨d, ky, mo, hd0, hd1, hky0, hky1, hmo0, hmo1, c0, c1, c2⟩ := hcells k (by omega)
        have c0 := cell_later Bl c0
        have c1 := cell_later Bl c1
        have c2 := cell_later Bl c2
        have HR := Lib.hid R
        have HS := Lib.hid S
        have HO := Lib.hid O
        have HB := Lib.hid Bl
        have hs := Bl.size
        clear R S O Bl hcells hA hN
        go_wp2_with fail
        have BX : Below wr.heap.size wr ((wr.alloc (.cells #[.int .u8 d, .int .i8 ky, .int .i8 mo] 31)).alloc (.cells #[.int .i64 ky, .int .i64 mo] 26)) := ((Below.refl _ _).alloc (Nat.le_refl _) _).alloc (by simp) _
        refine (least_any (row_later HO.out BX) (by omega)).mono ?_
        rintro e w1 ⟨rfl, hw1⟩
        have BW : Below wr.heap.size wr w1 := below_then BX BX.size hw1
        have X0 := (Cl.new (w := wr.alloc (.cells #[.int .u8 d, .int .i8 ky, .int .i8 mo] 31)) (c := #[.int .i64 ky, .int .i64 mo]) (t := 26) (j := 0) (v := .int .i64 ky) rfl).later hw1
        have X1 := (Cl.new (w := wr.alloc (.cells #[.int .u8 d, .int .i8 ky, .int .i8 mo] 31)) (c := #[.int .i64 ky, .int .i64 mo]) (t := 26) (j := 1) (v := .int .i64 mo) rfl).later hw1
        have D0 := (((Cl.new (w := wr) (c := #[.int .u8 d, .int .i8 ky, .int .i8 mo]) (t := 31) (j := 0) (v := .int .u8 d) rfl).alloc (.cells #[.int .i64 ky, .int .i64 mo] 26)).later hw1).cell
        rw [World.size_alloc] at X0 X1
        have R1 := HR.out.later BW
        have O1 := row_later HO.out BW
        have HR1 := Lib.hid R1
        have HO1 := Lib.hid O1
        have HB1 := Lib.hid (HB.out.trans (BW.mono hs))
        have hs1 := BW.size
        have hVl : ∀ g, V.ownBlock = some g → g < wr.heap.size := fun g h => (HR.out.row.lt g h).2
        have HV := Lib.hid hVl
        have HX0 := Lib.hid X0
        have HX1 := Lib.hid X1
        have hbl := HR.out.lt
        have x0c := X0.cell
        have x1c := X1.cell
        clear R1 O1 BW BX hw1 hVl X0 X1
        by_cases h2 : d % 4 = 2
        · have e2 : (d % 4 == 2) = true := by simp [h2]
          clear h2 x0c x1c
          rcases hl with _ | ⟨a, r⟩
          · have hm0 : m = [] := List.eq_nil_of_length_eq_zero (by rw [← HS.out.len]; rfl)
            subst hm0
            rw [show leastTo [] ([] : List One).length = -1 from rfl]
            go_wp2_with fail
            refine (HOne.pop_none HR1.out).mono ?_
            rintro e w2 ⟨rfl, hw2⟩
            have HR2 := Lib.hid (HR1.out.later hw2)
            have HO2 := Lib.hid (row_later HO1.out hw2)
            have HB2 := Lib.hid (below_then HB1.out HB1.out.size hw2)
            clear hw2
            go_wp2_with fail
            go_quiet (fail)
            go_wp2_with fail
            have BY : Below w2.heap.size w2 ((w2.alloc (.cells #[.int .i64 0, .int .i64 0] 26)).drewN nq) := below_drewN ((Below.refl _ _).alloc (Nat.le_refl _) _) _
            refine (without_any (-1) (row_later HO2.out BY) (by simp)).mono ?_
            rintro e w3 ⟨V3, rfl, hO3, hw3⟩
            have hs2 := HB2.out.size
            have hs3 := BY.size
            have HR3 := Lib.hid (HR2.out.later (below_then BY BY.size hw3))
            have HO3 := Lib.hid (row_base hO3 (base' := w.heap.size) (by omega))
            have HB3 := Lib.hid (below_then HB2.out HB2.out.size (below_then BY BY.size hw3))
            clear hO3 hw3 BY
            obtain ⟨A3, cap3, hV3, _⟩ := row_shape HO3.out
            rw [hV3]
            have HV3 := Lib.hid hV3
            clear hV3
            go_wp2_with fail
            refine (HOne.len_any HR3.out).mono ?_
            rintro e w9 ⟨rfl, rfl⟩
            go_wp2_with fail
            exact ⟨⟨k + 1, V, t, [], [], s, by omega, by go_num, HR3.out, HS.out, by have h := HO3.out; rw [HV3.out] at h; exact h, HB3.out, by omega, by omega, by simp⟩, by simp [intOf]; omega⟩
          · obtain ⟨p, s', hp1, hp2, hp3, hS2⟩ := HS.out.pop
            rw [hp1]
            have HS2 := Lib.hid hS2
            have HP3 := Lib.hid hp3
            have hp0 : (0 : Int) ≤ (p : Int) := by omega
            have hp2' : (p : Int) < (m.length : Int) := by omega
            clear hS2 hp3 hp1
            obtain ⟨gl, capl, hu, hgl0, hgl1⟩ := HO1.out.form (by omega)
            subst hu
            go_wp2_with fail
            refine (HOne.pop_some lessO HR1.out (by have := HS.out.len; simp at this; omega)).mono ?_
            rintro e w2 ⟨rfl, ⟨V2, _, R2⟩, C2⟩
            have O2 := row_chg HO1.out C2 (apart_row HR1.out HO1.out)
            have B2 := HB1.out.trans (rep_below HR1.out C2 (Nat.le_refl _) (Nat.le_refl _))
            have q0 := (row_item encO_length O2 HP3.out (r := 0) (by omega) (v := .int .i64 a.1.1) rfl).cell
            have q1 := (row_item encO_length O2 HP3.out (r := 1) (by omega) (v := .int .i64 a.1.2) rfl).cell
            rw [Nat.add_zero] at q0
            have zg : gl < w2.heap.size := World.block_lt_of_cell? _ _ q0
            have HR2 := Lib.hid R2
            have HO2 := Lib.hid O2
            have HB2 := Lib.hid B2
            clear R2 O2 B2 C2
            go_wp2_with fail
            go_quiet (fail)
            go_wp2_with fail
            have BY : Below w2.heap.size w2 ((w2.alloc (.cells #[.int .i64 a.1.1, .int .i64 a.1.2] 26)).drewN nq) := below_drewN ((Below.refl _ _).alloc (Nat.le_refl _) _) _
            refine (without_any p (row_later HO2.out BY) (by omega)).mono ?_
            rintro e w3 ⟨V3, rfl, hO3, hw3⟩
            have hs2 := HB2.out.size
            have hs3 := BY.size
            have HR3 := Lib.hid (HR2.out.later (below_then BY BY.size hw3))
            have HO3 := Lib.hid (row_base hO3 (base' := w.heap.size) (by omega))
            have HB3 := Lib.hid (below_then HB2.out HB2.out.size (below_then BY BY.size hw3))
            have hwl := wTo_len m p m.length
            have hle : Hid (((popL ltO (a :: r)).length : Int) = ((wTo m p m.length).length : Int)) := by
              show _ = _
              rw [HS2.out.len]
            clear hO3 hw3 BY
            obtain ⟨A3, cap3, hV3, _⟩ := row_shape HO3.out
            rw [hV3]
            have HV3 := Lib.hid hV3
            clear hV3
            go_wp2_with fail
            refine (HOne.len_any HR3.out).mono ?_
            rw [hle.out]
            rintro e w9 ⟨rfl, rfl⟩
            go_wp2_with fail
            exact ⟨⟨k + 1, V2, t, _, _, s', by omega, by go_num, HR3.out, HS2.out, by have h := HO3.out; rw [HV3.out] at h; exact h, HB3.out, by omega, by omega, by omega⟩, by simp [intOf]; omega⟩
        · have e2 : (d % 4 == 2) = false := by simp [h2]
          by_cases h3 : d % 4 = 3
          · have e3 : (d % 4 == 3) = true := by simp [h3]
            clear h2 h3 x0c x1c
            rcases hl with _ | ⟨a, r⟩
            · have hm0 : m = [] := List.eq_nil_of_length_eq_zero (by rw [← HS.out.len]; rfl)
              subst hm0
              rw [show leastTo [] ([] : List One).length = -1 from rfl]
              obtain ⟨A3, cap3, hV3, _⟩ := row_shape HO1.out
              subst hV3
              go_wp2_with fail
              refine (HOne.top_none HR1.out).mono ?_
              rintro e w2 ⟨rfl, hw2⟩
              have HR2 := Lib.hid (HR1.out.later hw2)
              have HO2 := Lib.hid (row_later HO1.out hw2)
              have HB2 := Lib.hid (below_then HB1.out HB1.out.size hw2)
              clear hw2
              go_wp2_with fail
              go_quiet (fail)
              go_wp2_with fail
              have BY : Below w2.heap.size w2 ((w2.alloc (.cells #[.int .i64 0, .int .i64 0] 26)).drewN nq) := below_drewN ((Below.refl _ _).alloc (Nat.le_refl _) _) _
              have HR3 := Lib.hid (HR2.out.later BY)
              have HO3 := Lib.hid (row_later HO2.out BY)
              have HB3 := Lib.hid (below_then HB2.out HB2.out.size BY)
              clear BY
              refine (HOne.len_any HR3.out).mono ?_
              rintro e w9 ⟨rfl, rfl⟩
              go_wp2_with fail
              exact ⟨⟨k + 1, V, t, [], [], s, by omega, by go_num, HR3.out, HS.out, HO3.out, HB3.out, by omega, by omega, by simp⟩, by simp [intOf]; omega⟩
            · obtain ⟨p, s', hp1, hp2, hp3, hS2⟩ := HS.out.pop
              rw [hp1]
              have HP3 := Lib.hid hp3
              have hp0 : (0 : Int) ≤ (p : Int) := by omega
              have hp2' : (p : Int) < (m.length : Int) := by omega
              clear hS2 hp3 hp1
              obtain ⟨gl, capl, hu, hgl0, hgl1⟩ := HO1.out.form (by omega)
              subst hu
              have hle : Hid ((((a :: r).length : Nat) : Int) = (m.length : Int)) := by
                show _ = _
                rw [HS.out.len]
              go_wp2_with fail
              refine (HOne.top_some HR1.out).mono ?_
              rintro e w2 ⟨rfl, hw2⟩
              have O2 := row_later HO1.out hw2
              have q0 := (row_item encO_length O2 HP3.out (r := 0) (by omega) (v := .int .i64 a.1.1) rfl).cell
              have q1 := (row_item encO_length O2 HP3.out (r := 1) (by omega) (v := .int .i64 a.1.2) rfl).cell
              rw [Nat.add_zero] at q0
              have zg : gl < w2.heap.size := World.block_lt_of_cell? _ _ q0
              have HR2 := Lib.hid (HR1.out.later hw2)
              have HO2 := Lib.hid O2
              have HB2 := Lib.hid (below_then HB1.out HB1.out.size hw2)
              clear O2 hw2
              go_wp2_with fail
              go_quiet (fail)
              go_wp2_with fail
              have BY : Below w2.heap.size w2 ((w2.alloc (.cells #[.int .i64 a.1.1, .int .i64 a.1.2] 26)).drewN nq) := below_drewN ((Below.refl _ _).alloc (Nat.le_refl _) _) _
              have HR3 := Lib.hid (HR2.out.later BY)
              have HO3 := Lib.hid (row_later HO2.out BY)
              have HB3 := Lib.hid (below_then HB2.out HB2.out.size BY)
              clear BY
              refine (HOne.len_any HR3.out).mono ?_
              rw [hle.out]
              rintro e w9 ⟨rfl, rfl⟩
              go_wp2_with fail
              exact ⟨⟨k + 1, V, t, _, _, s, by omega, by go_num, HR3.out, HS.out, HO3.out, HB3.out, by omega, by omega, by omega⟩, by simp [intOf]; omega⟩
          · have e3 : (d % 4 == 3) = false := by simp [h3]
            clear h2 h3
            obtain ⟨i0, hi, hz0, hz1, hz2⟩ := info_parts info_one
            go_wp2_with fail
            refine (HOne.push_any lessO (x := (ky, mo)) HR1.out (by rw [HS.out.len]; omega) ht0 (by omega) (by omega)).mono ?_
            rintro e w2 ⟨rfl, ⟨V2, _, R2⟩, C2⟩
            have O2 := row_chg HO1.out C2 (apart_row HR1.out HO1.out)
            have B2 := HB1.out.trans (rep_below HR1.out C2 (Nat.le_refl _) (Nat.le_refl _))
            have hX : ¬ (wr.heap.size + 1 = w.heap.size ∨ V.ownBlock = some (wr.heap.size + 1)) := by
              rintro (h | h)
              · omega
              · have := HV.out _ h; omega
            have y0c := (Cl_chg' HX0.out C2 hX).cell
            have y1c := (Cl_chg' HX1.out C2 hX).cell
            have S2 := HS.out.push (ky, mo)
            have hs2 := B2.size
            have HR2 := Lib.hid R2
            have HO2 := Lib.hid O2
            have HB2 := Lib.hid B2
            have HS2 := Lib.hid S2
            clear R2 O2 B2 S2 C2 x0c x1c
            go_wp2_with (refine wpList_append_lies _ rfl (.tmp 39) (.tmp 41) 28 rfl w.heap.size 26 i0 (.agg #[.int .i64 0, .int .i64 0]) 2 16 Try.underlying28 hi hz0 hz1 hz2 rfl (by decide) _ m.length (flat encO m) rfl (HO2.out.alloc _) ⟨w2.heap.size, 0, none⟩ 1 1 (encO (ky, mo)) rfl rfl (World.news_of_block (heap_at rfl)) (by intro u hu; simp [encO] at hu; rcases hu with rfl | rfl <;> rfl) (by omega) (by simp only [maxLen]; omega) (by omega) (by simp; omega) _ rfl ?_; intro g' cap' w' hown' hgrow hat hlt')
            have RA := HR2.out.later ((Below.refl _ _).alloc (Nat.le_refl _) (.cells #[.int .i64 ky, .int .i64 mo] 26))
            have OA := HO2.out.alloc (.cells #[.int .i64 ky, .int .i64 mo] 26)
            have R3 := RA.chg (Chg.of_grown hgrow (S := fun b => u4.ownBlock = some b) (fun k e => e.symm ▸ e)) (fun h => apart_row RA OA _ h (.inl rfl)) (fun q hq h => apart_row RA OA q h (.inr hq))
            have B3 : Below w.heap.size w w' := (HB2.out.alloc (by omega) _).grown hgrow (by simp; omega) (fun q hq => (HO2.out.lt q hq).1)
            have HR3 := Lib.hid R3
            have HB3 := Lib.hid B3
            have HO3 : Hid (w'.ownsRow w.heap.size 26 2 (.slice (some ⟨g', 0, none⟩) (m.length + 1) cap') (m ++ [(ky, mo)]).length (flat encO (m ++ [(ky, mo)]))) := by
              show World.ownsRow _ _ _ _ _ _ _
              rw [flat_append, List.length_append]
              exact hown'
            have hle : Hid (((pushL ltO hl (ky, mo) (t + 1)).length : Int) = (m.length : Int) + 1) := by
              show _ = _
              rw [HS2.out.len]; simp
            clear RA OA R3 B3 hown' hgrow hat
            refine (HOne.len_any HR3.out).mono ?_
            rw [hle.out]
            rintro e w9 ⟨rfl, rfl⟩
            go_wp2_with fail
            exact ⟨⟨k + 1, V2, t + 1, _, _, _, by omega, by go_num, HR3.out, HS2.out, HO3.out, HB3.out, by omega, by omega, by simp; omega⟩, by simp [intOf]; omega⟩
      · obtain rfl : k = N := by omega
        go_wp2_with fail
        refine (wakes_any _).mono ?_
        rintro e w1 ⟨rfl, hb1⟩
        go_wp2_with fail
        go_ret
        exact ⟨rfl, below_then Bl Bl.size hb1⟩
end Go.Proofs.Ytmnfefebbadflaa
