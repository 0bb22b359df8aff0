/- CertSolves: what Solve tells is a proof, moved it is one still; a unit less is none. -/
import Derived.Test.YtjgloineooadoaaGreatDoorMgZ13
import Derived.Test.YtjgloineooadoaaGreatDoorMgZ18
import Derived.Test.YtjgloineooadoaaGreatDoorMgZ14
import Derived.Test.YtjgloineooadoaaGreatDoorMgZ19
namespace Go.Proofs.YtjgloineooadoaaGreatDoor
open Go.RowKit
set_option maxRecDepth 100000 in
set_option maxHeartbeats 4000000 in
theorem certSolves_core {w : World} {V : Value} {T : List Tri} {m0 : Int} (N : Nat) (b : Int) (a : Nat) (hN : N ≤ 255) (hb : -32768 ≤ b ∧ b ≤ 32767) (ha : a ≤ 255) (h : Tris w V T) (hs : Small T) (hl : T.length ≤ 1000000000000000) (hM : w.cell? ⟨0, 0, none⟩ = some (.int .i64 m0)) :
    Calls Tryz.prog 3 #[.agg #[.int .u8 (N : Int), V], .int .i16 b, .int .u8 (a : Int)] w fun e w' => e = .returned (.bool true) ∧ Below w.heap.size w w' := by
  obtain ⟨A, cap, rfl, -, -⟩ := h.at_
  obtain ⟨w0, hw0⟩ : ∃ w0, w.alloc (.cells #[.int .u8 (N : Int), .slice A T.length cap] 24) = w0 := ⟨_, rfl⟩
  have B0 : Below w.heap.size w w0 := by rw [← hw0]; exact (Below.refl _ _).alloc (Nat.le_refl _) _
  have hG0 : w0.heap[w.heap.size]? = some (.cells #[.int .u8 (N : Int), .slice A T.length cap] 24) := by rw [← hw0]; exact heap_at rfl
  have p0 : w0.cell? ⟨w.heap.size, 0, none⟩ = some (.int .u8 (N : Int)) := (Cl.of_block hG0 (j := 0) rfl).cell
  have p1 : w0.cell? ⟨w.heap.size, 1, none⟩ = some (.slice A T.length cap) := (Cl.of_block hG0 (j := 1) rfl).cell
  have HB0 := Lib.hid B0
  have HH := Lib.hid (h.later B0)
  have HM0 := Lib.hid (cell_later B0 hM)
  clear h B0 hG0 hM
  go_enter Tryz.func3, Tryz.ntmps3
  go_wp2_with fail
  clear hw0 p0 p1
  refine (make_any (T := T) N 30 hN (by omega) (by omega) HH.out hs hl).mono ?_
  have HR0 := Lib.hid (makeL_right N 30 (by omega) (by omega) T)
  have HE := Lib.hid (makeL_dag N 30 (by omega) (by omega) T)
  have hn1 : 1 ≤ mkN N 30 := by unfold mkN; omega
  have hn2 : mkN N 30 ≤ 30 := by unfold mkN; omega
  have hlen : (makeL N 30 T).length ≤ 40 := makeL_length N 30 T
  generalize mkN N 30 = n at *
  generalize makeL N 30 T = L at *
  rintro e w1 ⟨V1, rfl, R1, B1⟩
  obtain ⟨A1, c1, rfl, -⟩ := own_shape R1
  have HK := Lib.hid (okg_of HR0.out hn1)
  have HA1 : Hid (Arcs w1 (.slice A1 L.length c1) L) := Lib.hid (Sl.of_own (enc := encA) (fun _ => rfl) R1)
  have HB1 := Lib.hid (below_then HB0.out HB0.out.size B1)
  have HM1 := Lib.hid (cell_later B1 HM0.out)
  clear R1 B1 HB0 HH hs HM0
  go_wp2_with fail
  refine (solve_any n HA1.out HK.out HE.out).mono ?_
  rintro e w2 ⟨VX, VF, xs, fs, ways, rfl, IX, IF, SS, B2⟩
  obtain ⟨AX, cX, rfl, -, -, -⟩ := IX.at_
  obtain ⟨AF, cF, rfl, -, -, -⟩ := IF.at_
  have HS := Lib.hid SS
  have hlx := SS.lx
  have hlf := SS.lf
  have HX := Lib.hid IX
  have HF := Lib.hid IF
  have HA2 := Lib.hid (HA1.out.later B2)
  have HB2 := Lib.hid (below_then HB1.out HB1.out.size B2)
  have HM2 := Lib.hid (cell_later B2 HM1.out)
  clear IX IF SS B2 HA1 HB1 HM1
  go_wp2_with fail
  obtain ⟨w3, hw3⟩ : ∃ x, x = w2.alloc (.cells #[.slice AX n cX, .slice AF L.length cF, .int .i64 (ways : Int)] 31) := ⟨_, rfl⟩
  rw [← hw3]
  have B3 : Below w2.heap.size w2 w3 := by rw [hw3]; exact (Below.refl _ _).alloc (Nat.le_refl _) _
  have hr : R3 w2.heap.size (.slice AX n cX) (.slice AF L.length cF) (.int .i64 (ways : Int)) w3 := by rw [hw3]; exact R3.of_alloc _ _ _ _ _
  have HR := Lib.hid hr
  have HX3 := Lib.hid (HX.out.later B3)
  have HF3 := Lib.hid (HF.out.later B3)
  have HA3 := Lib.hid (HA2.out.later B3)
  have HB3 := Lib.hid (below_then HB2.out HB2.out.size B3)
  have HM3 := Lib.hid (cell_later B3 HM2.out)
  clear hw3 B3 hr HX HF HA2 HB2 HM2
  generalize w2.heap.size = g at *
  refine (wakes_ok HM3.out).mono ?_
  rintro e w4 ⟨rfl, B4⟩
  have HR4 := Lib.hid (HR.out.later B4)
  have HX4 := Lib.hid (HX3.out.later B4)
  have HF4 := Lib.hid (HF3.out.later B4)
  have HA4 := Lib.hid (HA3.out.later B4)
  have HB4 := Lib.hid (below_then HB3.out HB3.out.size B4)
  clear B4 HR HX3 HF3 HA3 HB3 HM3
  have p0 := HR4.out.1
  have p1 := HR4.out.2.1
  go_wp2_with fail
  refine (certCheck_any n hn1 HA4.out (by rw [hlx] at HX4; exact HX4.out) (by rw [hlf] at HF4; exact HF4.out) (by omega) (by omega)).mono ?_
  rw [HS.out.check0 HK.out HE.out]
  rintro e w5 ⟨rfl, B5⟩
  have HR5 := Lib.hid (HR4.out.later B5)
  have HX5 := Lib.hid (HX4.out.later B5)
  have HF5 := Lib.hid (HF4.out.later B5)
  have HA5 := Lib.hid (HA4.out.later B5)
  have HB5 := Lib.hid (below_then HB4.out HB4.out.size B5)
  clear B5 HR4 HX4 HF4 HA4 HB4 p0 p1
  have p0 := HR5.out.1
  have p1 := HR5.out.2.1
  go_wp2_with fail
  obtain ⟨i0, hi0, hz0, hz1, hz2⟩ := info_parts info_intN
  have HXA : Hid (∃ A cap, Value.slice AX n cX = .slice A xs.length cap ∧ xs.length ≤ cap ∧ (A = none → xs.length = 0 ∧ cap = 0) ∧ (0 < xs.length → ∃ b off, A = some ⟨b, off, none⟩ ∧ ∀ i x, xs[i]? = some x → w5.cell? ⟨b, off + i, none⟩ = some (.int .i64 x))) := Lib.hid (by have := HX5.out; rw [hlx] at this; exact Ints.at_ this)
  clear p0 p1
  go_loopw [11, 53] (fun Vl q wr => ∃ i : Nat, i ≤ n ∧ q = .int .i64 i ∧ wr.ownsRow w5.heap.size 3 1 Vl i (flat encI ((xs.take i).map fun v => v + b)) ∧ Below w5.heap.size w5 wr) (fun _ q _ => n - (intOf q).toNat)
  case atStart => exact ⟨0, by omega, rfl, World.ownsRow_nil _ _ _ _, Below.refl _ _⟩
  case round =>
    obtain ⟨i, hi, rfl, R, B⟩ := hrel
    obtain ⟨wo, rfl⟩ : ∃ x : World, x = wr := ⟨_, rfl⟩
    obtain ⟨AV, cV, hVl, -⟩ := own_shape R
    subst hVl
    have HRo := Lib.hid R
    have HBo := Lib.hid B
    have hwo := B.size
    clear R B
    by_cases hil : i < n
    · have hd : decide ((i : Int) < n) = true := by simp; omega
      obtain ⟨A', c', hV', -, -, hA'⟩ := HXA.out
      cases hV'
      have hlx' : i < xs.length := by omega
      obtain ⟨ba, off, rfl, hc⟩ := hA' (by omega)
      have c0 := cell_later HBo.out (hc i _ (List.getElem?_eq_getElem hlx'))
      have HST := Lib.hid (take_map_succ (fun v : Int => v + b) hlx')
      have hxb := HS.out.lo _ (List.getElem_mem hlx')
      have i1 : (0 : Int) ≤ (i : Int) := by omega
      have i2 : (i : Int) < (xs.length : Int) := by omega
      clear hc hA'
      generalize xs[i] = x at *
      have e1 : IntKind.i64.wrap b = b := IntWalk.i64_in _ (by omega)
      have e2 : IntKind.i64.wrap (x + b) = x + b := IntWalk.i64_in _ (by omega)
      go_wp2_with (refine wpList_append_lies _ rfl (.tmp 57) (.tmp 62) 29 rfl w5.heap.size 3 i0 (.int .i64 0) 1 8 Tryz.underlying29 hi0 hz0 hz1 hz2 rfl (by decide) (.slice AV i cV) i (flat encI ((xs.take i).map fun v => v + b)) rfl (own_later HRo.out ((Below.refl _ _).alloc (Nat.le_refl _) _)) ⟨wo.heap.size, 0, none⟩ 1 1 (encI (x + b)) rfl rfl (World.news_of_block (heap_at rfl)) (by intro u hu; simp [encI] at hu; subst hu; rfl) (by omega) (by simp only [maxLen]; omega) (by omega) (by simp; omega) _ rfl ?_; intro gq cq w8 hown hgrow hat hlt)
      have HB8 := (HBo.out.trans (((Below.refl wo.heap.size wo).alloc (Nat.le_refl _) _).mono HBo.out.size)).grown hgrow (by simp; omega) (fun q hq => own_ge HRo.out hq)
      refine ⟨⟨i + 1, by omega, by go_num, ?_, HB8⟩, by simp [intOf]; omega⟩
      rw [HST.out, flat_append]
      simpa [flat] using hown
    · have e : i = n := by omega
      subst e
      have hd : decide ((i : Int) < i) = false := by simp
      have RB := HRo.out
      rw [List.take_of_length_le (by omega)] at RB
      have HRB : Hid (Ints wo (.slice AV i cV) (xs.map fun v => v + b)) := Lib.hid (Sl.of_own encI_length (by simpa [hlx] using RB))
      clear RB HRo HXA
      have HB6 := Lib.hid (below_then HB5.out HB5.out.size HBo.out)
      have HR6 := Lib.hid (HR5.out.later HBo.out)
      have HF6 := Lib.hid (HF5.out.later HBo.out)
      have HA6 := Lib.hid (HA5.out.later HBo.out)
      clear HR5 HF5 HA5 HB5 HX5 HBo
      have p0 := HR6.out.1
      have p1 := HR6.out.2.1
      go_wp2_with fail
      refine (certCheck_any i hn1 HA6.out HRB.out (by rw [hlf] at HF6; exact HF6.out) (by simp; omega) (by omega)).mono ?_
      rw [HS.out.check HK.out HE.out b (by omega)]
      rintro e w6 ⟨rfl, B6⟩
      have HRB7 := Lib.hid (HRB.out.later B6)
      have HR7 := Lib.hid (HR6.out.later B6)
      have HF7 := Lib.hid (HF6.out.later B6)
      have HA7 := Lib.hid (HA6.out.later B6)
      have HB7 := Lib.hid (below_then HB6.out HB6.out.size B6)
      clear B6 HRB HR6 HF6 HA6 HB6 p0 p1
      have p1 := HR7.out.2.1
      by_cases hL : L.length = 0
      · have hz : ((L.length : Int) == 0) = true := by simp [hL]
        go_wp2_with fail
        go_ret
        exact ⟨rfl, HB7.out⟩
      · have hz : ((L.length : Int) == 0) = false := by simp only [beq_eq_false_iff_ne, ne_eq]; omega
        go_wp2_with fail
        refine (cloneI_any (by have := HF7.out; rw [hlf] at this; exact this) (by omega)).mono ?_
        rintro e w7 ⟨V9, rfl, R9, B9⟩
        obtain ⟨g9, c9, hV9, hc9, hg9, LR⟩ := LRow.of_own R9 (by omega)
        rw [hlf] at hV9 hc9 LR
        subst hV9
        have HL9 := Lib.hid LR
        have HB9 := Lib.hid B9
        have HLF := Lib.hid hlf
        have HG9 := Lib.hid hg9
        have HC9 := Lib.hid hc9
        clear R9 B9 LR HR7 HF7 p1 hlf hg9 hc9
        have q0 : (a : Int) % (L.length : Int) = ((a % L.length : Nat) : Int) := by omega
        have hq : a % L.length < L.length := Nat.mod_lt _ (by omega)
        generalize a % L.length = q at *
        have hqf : q < fs.length := by rw [HLF.out]; exact hq
        have hle := HS.out.less HK.out HE.out b (by omega) q hqf
        have hfq : ff fs q = fs[q] := by unfold ff; simp [hqf]
        have hys := HS.out.nn q hq
        have c0 := HL9.out.cell hq
        have f0 := HL9.out.frozen q
        rw [hfq] at c0 hys
        have HST : Hid ((List.range L.length).map (upd (ff fs) q (fs[q] - 1)) = fs.set q (fs[q] - 1)) := Lib.hid (by
          apply List.ext_getElem
          · simp [HLF.out]
          · intro j h1 h2
            have hj : j < fs.length := by simpa using h2
            simp only [List.getElem_map, List.getElem_range, List.getElem_set, upd]
            by_cases e : q = j
            · subst e; simp
            · rw [if_neg (fun h => e h.symm), if_neg e]; unfold ff; simp [hj])
        obtain ⟨zs, hzs⟩ : ∃ zs, fs.set q (fs[q] - 1) = zs := ⟨_, rfl⟩
        have hzl : zs.length = L.length := by rw [← hzs, List.length_set]; exact HLF.out
        rw [hzs] at hle HST
        generalize fs[q] = y at *
        have e2 : IntKind.i64.wrap (y - 1) = y - 1 := IntWalk.i64_in _ (by omega)
        have i1 : (0 : Int) ≤ (q : Int) := by omega
        have i2 : (q : Int) < (L.length : Int) := by omega
        obtain ⟨G, hG, hG2⟩ : ∃ G, checkC i L (xs.map fun v => v + b) zs = G ∧ (G = 12 ∨ G = 2) := ⟨_, rfl, hle⟩
        have HG := Lib.hid hG
        have HG2 := Lib.hid hG2
        clear hfq hqf hzs hle hG hG2
        go_wp2_with fail
        obtain ⟨wz, hwz⟩ : ∃ x, x = w7.setCell ⟨g9, q, none⟩ (.int .i64 (y - 1)) := ⟨_, rfl⟩
        rw [← hwz]
        have RS : LRow wz g9 L.length (upd (ff fs) q (y - 1)) := by rw [hwz]; exact HL9.out.set q (y - 1)
        have BZ : Below w6.heap.size w6 wz := by rw [hwz]; exact HB9.out.setCell (p := ⟨g9, q, none⟩) HG9.out _
        have HZ : Hid (Ints wz (.slice (some ⟨g9, 0, none⟩) L.length c9) zs) := Lib.hid (by
          have := RS.ints HC9.out
          rw [HST.out] at this
          exact this)
        have HRBz := Lib.hid (HRB7.out.later BZ)
        have HAz := Lib.hid (HA7.out.later BZ)
        have HBz := Lib.hid (below_then HB7.out HB7.out.size BZ)
        clear hwz RS BZ HL9 HB9 HRB7 HA7 HB7 c0 f0
        refine (certCheck_any i hn1 HAz.out HRBz.out HZ.out (by simp; omega) (by omega)).mono ?_
        rw [HG.out]
        rintro e w8 ⟨rfl, B8⟩
        have HB8 := Lib.hid (below_then HBz.out HBz.out.size B8)
        clear B8 HBz HAz HRBz HZ
        rcases HG2.out with rfl | rfl
        · go_wp2_with fail
          go_ret
          exact ⟨rfl, HB8.out⟩
        · go_wp2_with fail
          go_ret
          exact ⟨rfl, HB8.out⟩
end Go.Proofs.YtjgloineooadoaaGreatDoor
