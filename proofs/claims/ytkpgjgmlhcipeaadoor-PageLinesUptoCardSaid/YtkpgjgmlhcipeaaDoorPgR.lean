/- page.read: the walk. -/
import Derived.Test.YtkpgjgmlhcipeaaDoorPgM
namespace Go.Proofs.YtkpgjgmlhcipeaaDoor
open Go.RowKit
theorem rdP_sp {s : ByteArray} (h : wdO s.data.toList = false) : rdP s = (4, ByteArray.empty, []) := by
  unfold rdP; rw [if_neg (by rw [h]; decide)]
theorem rdP_wd {s x : ByteArray} {r : List ByteArray} (h : wdO s.data.toList = true) (hl : wdL s.data.toList = x :: r) : rdP s = (if rightW x r.length = true then
        match numsO r with
        | some ns => (0, x, ns)
        | none => (5, ByteArray.empty, [])
      else (4, ByteArray.empty, []) : Int × ByteArray × List Int) := by
  unfold rdP; rw [if_pos h, hl]; rfl
theorem wdL_ne {l : List UInt8} (h : wdO l = true) : ∃ x r, wdL l = x :: r := by
  unfold wdL
  rw [if_pos h]
  cases hc : cut 32 l with
  | nil => exact absurd hc (cut_ne 32 l)
  | cons a t => exact ⟨_, _, rfl⟩
set_option maxRecDepth 100000 in
set_option maxHeartbeats 4000000 in
theorem read_any {w : World} {m : Int} (s : ByteArray) (hs : s.size ≤ 4000000000) (hm : w.cell? ⟨0, 0, none⟩ = some (.int .i64 m)) :
    Calls Tryd.prog 54 #[.string s] w fun e w' => ∃ N, e = .returned (.tuple #[.agg #[.string (rdP s).2.1, N], .int .i64 (rdP s).1]) ∧ Ints w' N (rdP s).2.2 ∧ Below w.heap.size w w' := by
  obtain ⟨i0, hi, hz0, hz1, hz2⟩ := info_parts (show (Tryd.prog.info? 3).map (fun i => (i.zero, i.size, i.bytes)) = some (some (.int .i64 0), 1, 8) by kernel_rfl)
  have hb0 := World.block_lt_of_cell? _ _ hm
  obtain ⟨q, hq⟩ : ∃ q, wdO s.data.toList = q := ⟨_, rfl⟩
  obtain ⟨rd, hrd⟩ : ∃ rd, rdP s = rd := ⟨_, rfl⟩
  obtain ⟨E, wd, ns⟩ := rd
  rw [hrd]
  have HRD := Lib.hid hrd
  have hsz := Lib.size_eq s
  have hwl : (wdL s.data.toList).length ≤ 4000000001 := Nat.le_trans wdL_le.1 (by omega)
  obtain ⟨WW, hWW⟩ : ∃ WW, wdL s.data.toList = WW := ⟨_, rfl⟩
  rw [hWW] at hwl
  have HQ := Lib.hid hq
  have HWW := Lib.hid hWW
  have HWB : Hid (∀ x ∈ WW, x.size ≤ maxLen) := Lib.hid (by
    rw [← hWW]
    intro x hx
    rw [Lib.size_eq]
    have := wdL_le.2 x hx
    simp only [maxLen]
    omega)
  clear hq hWW hrd hsz
  go_enter Tryd.func54, Tryd.ntmps54
  go_wp2_with fail
  obtain ⟨w0, hw0⟩ : ∃ w0, w.alloc (.cells #[.string ByteArray.empty, .slice none 0 0] 103) = w0 := ⟨_, rfl⟩
  have B0 : Below w.heap.size w w0 := by rw [← hw0]; exact (Below.refl _ _).alloc (Nat.le_refl _) _
  have hG : w0.heap[w.heap.size]? = some (.cells #[.string ByteArray.empty, .slice none 0 0] 103) := by rw [← hw0]; exact heap_at rfl
  have hm0 := cell_later B0 hm
  rw [show (w.alloc (.cells #[.string ⟨#[]⟩, .slice none 0 0] 103)) = w0 from hw0]
  have HB0 := Lib.hid B0
  have HM0 := Lib.hid hm0
  have HG := Lib.hid hG
  clear hw0 B0 hm0 hG hm
  refine (lexWords_any (s := s) (by omega) HM0.out).mono ?_
  rw [HQ.out, HWW.out]
  rintro e w1 ⟨V1, rfl, S1, B1⟩
  obtain ⟨A1, c1, hV1, hc1, -, hA1⟩ := Strs.at_ S1
  subst hV1
  have HA1 := Lib.hid hA1
  have HG1 := Lib.hid (block_later B1 HG.out)
  have hsz1 := B1.size
  have HB1 := Lib.hid (below_then HB0.out HB0.out.size B1)
  have hsz0 := HB0.out.size
  clear S1 B1 hA1 HG HM0
  cases q with
  | false =>
    have p0 := Cl.of_block HG1.out (j := 0) rfl
    have p1 := Cl.of_block HG1.out (j := 1) rfl
    have q0 := p0.cell
    have q1 := p1.cell
    have r0 := p0.free
    have r1 := p1.free
    clear p0 p1
    have hE := HRD.out.symm.trans (rdP_sp HQ.out)
    cases hE
    go_wp2_with fail
    refine bodyPost_ret (v := .tuple #[.agg #[.string ByteArray.empty, .slice none 0 0], .int .i64 4]) ?_ rfl ⟨_, rfl, ?_, ?_⟩
    · rw [results_cell_tmp rfl]
      go_simp
      rfl
    · exact ⟨none, 0, rfl, Nat.le_refl _, fun _ => ⟨rfl, rfl⟩, fun h => absurd h (by simp)⟩
    · exact (HB1.out.setCell (p := ⟨w.heap.size, 0, none⟩) (Nat.le_refl _) _).setCell (p := ⟨w.heap.size, 1, none⟩) (Nat.le_refl _) _
  | true =>
    obtain ⟨x, r, hxr⟩ := wdL_ne HQ.out
    have hWx : WW = x :: r := HWW.out.symm.trans hxr
    subst hWx
    have HR := Lib.hid (HRD.out.symm.trans (rdP_wd HQ.out hxr))
    obtain ⟨bA, oA, rfl, hcA⟩ := HA1.out (by simp)
    have c0 := hcA 0 x rfl
    rw [Nat.add_zero] at c0
    have HCA : Hid (∀ (i : Nat) (y : ByteArray), r[i]? = some y → w1.cell? ⟨bA, oA + 1 + i, none⟩ = some (.string y)) := Lib.hid (fun i y h => by
      have := hcA (i + 1) y h
      rw [show oA + 1 + i = oA + (i + 1) by omega]
      exact this)
    have hxm : x.size ≤ maxLen := HWB.out x (by simp)
    obtain ⟨n, hn⟩ : ∃ n, r.length = n := ⟨_, rfl⟩
    have hn1 : (x :: r).length = n + 1 := by simp [hn]
    rw [hn1] at hc1 ⊢
    have HN := Lib.hid hn
    have hnl : n ≤ 4000000000 := by rw [hn1] at hwl; omega
    have hmk := @run_makeMap Tryd.prog
    obtain ⟨rv, hrv⟩ : ∃ rv, (decide (2 ≤ n) && decide (n % 2 = 0)) = rv := ⟨_, rfl⟩
    obtain ⟨w2, w3, w4, hr1, hr2, hr3, hM4, g1, g2, g3⟩ := map_three w1 ((n : Int) == 2) ((n : Int) == 4) rv
    have hat := wMap_at n x
    rw [hrv] at hat
    rw [show decide (n = 2) = ((n : Int) == 2) by rw [Bool.eq_iff_iff]; simp; omega, show decide (n = 4) = ((n : Int) == 4) by rw [Bool.eq_iff_iff]; simp; omega] at hat
    obtain ⟨rr, hrr⟩ : ∃ rr, rightW x n = rr := ⟨_, rfl⟩
    rw [hrr] at hat
    have hlk := map_look hM4 hxm hat
    have hsz4 : w1.heap.size + 1 ≤ w4.heap.size := by
      have := g1.size; have := g2.size; have := g3.size; simp at *; omega
    have B4 : Below w1.heap.size w1 w4 := by
      have b0 : Below w1.heap.size w1 (w1.alloc (.map #[] 0)) := (Below.refl _ _).alloc (Nat.le_refl _) _
      exact ((b0.grown g1 (by simp) (fun k e => by cases e; exact Nat.le_refl _)).grown g2 (by have := g1.size; simp at *; omega) (fun k e => by cases e; exact Nat.le_refl _)).grown g3 (by have := g1.size; have := g2.size; simp at *; omega) (fun k e => by cases e; exact Nat.le_refl _)
    have c4 := cell_later B4 c0
    have HRR := Lib.hid hrr
    have HRV := Lib.hid hrv
    have HB4 := Lib.hid B4
    have HG4 := Lib.hid (block_later B4 HG1.out)
    clear hcA hxr HA1 hn hn1 hM4 g1 g2 g3 B4 hat hrr hrv hxm
    by_cases h2 : 2 ≤ n
    · obtain ⟨k2, hk2⟩ : ∃ k2, (n : Int) % 2 = k2 := ⟨_, rfl⟩
      have hd2 : decide (2 ≤ (n : Int)) = true := by simp only [decide_eq_true_eq]; omega
      have hrv : rv = (k2 == 0) := by
        rw [← HRV.out, ← hk2, Bool.eq_iff_iff]
        simp only [Bool.and_eq_true, decide_eq_true_eq, beq_iff_eq]
        omega
      rw [hrv] at hr3
      cases rr with
      | false =>
        have p0 := Cl.of_block HG4.out (j := 0) rfl
        have p1 := Cl.of_block HG4.out (j := 1) rfl
        have q0 := p0.cell
        have q1 := p1.cell
        have r0 := p0.free
        have r1 := p1.free
        clear p0 p1
        have hE := HR.out
        rw [HN.out, if_neg (by rw [HRR.out]; decide)] at hE
        cases hE
        go_wp2_with fail
        refine bodyPost_ret (v := .tuple #[.agg #[.string ByteArray.empty, .slice none 0 0], .int .i64 4]) ?_ rfl ⟨_, rfl, ?_, ?_⟩
        · rw [results_cell_tmp rfl]
          go_simp
          rfl
        · exact ⟨none, 0, rfl, Nat.le_refl _, fun _ => ⟨rfl, rfl⟩, fun h => absurd h (by simp)⟩
        · exact ((below_then HB1.out HB1.out.size HB4.out).setCell (p := ⟨w.heap.size, 0, none⟩) (Nat.le_refl _) _).setCell (p := ⟨w.heap.size, 1, none⟩) (Nat.le_refl _) _
      | true =>
        have hE := HR.out
        rw [HN.out, if_pos HRR.out] at hE
        have HE := Lib.hid hE
        clear hE
        have HC4 : Hid (∀ (i : Nat) (y : ByteArray), r[i]? = some y → w4.cell? ⟨bA, oA + 1 + i, none⟩ = some (.string y)) := Lib.hid (fun i y h => cell_later HB4.out (HCA.out i y h))
        go_wp2_with fail
        clear hr1 hr2 hr3 hlk c0 c4 hk2
        go_loopw [10, 11, 12, 51] (fun _ _ _ qi wr => ∃ (i : Nat) (V : Value) (ms : List Int), i ≤ n ∧ qi = .int .i64 i ∧ numsO (r.take i) = some ms ∧ ms.length = i ∧ wr.heap[w4.heap.size]? = some (.cells #[.string x, V] 103) ∧ wr.ownsRow w4.heap.size 3 1 V i (ms.map (Value.int .i64)) ∧ Below w4.heap.size w4 wr) (fun _ _ _ q _ => n - (intOf q).toNat)
        case atStart =>
          exact ⟨0, .slice none 0 0, [], by omega, rfl, rfl, rfl, heap_at rfl, World.ownsRow_nil _ _ _ _, (Below.refl _ _).alloc (Nat.le_refl _) _⟩
        case round =>
          obtain ⟨i, V, ms, hi', rfl, hms, hml, hG8, hV, B⟩ := hrel
          have HBr := Lib.hid B
          have HB8 := Lib.hid (below_then (below_then HB1.out HB1.out.size HB4.out) (by have := HB1.out.size; omega) B)
          have hGw := block_later B HG4.out
          by_cases hil : i < n
          · have hilr : i < r.length := by rw [HN.out]; exact hil
            have cy := cell_later B (HC4.out i _ (List.getElem?_eq_getElem hilr))
            have HSN := Lib.hid (numsO_snoc (r.take i) r[i])
            rw [hms, ← List.take_succ_eq_append_getElem hilr] at HSN
            have HBAD := Lib.hid (numsO_bad r r[i] (List.getElem_mem hilr))
            have hdi : decide ((i : Int) < (n : Int)) = true := by simp only [decide_eq_true_eq]; omega
            have j1 : (0 : Int) ≤ (i : Int) := by omega
            have j2 : (i : Int) < (n : Int) := by omega
            have HMS := Lib.hid hms
            have HG8 := Lib.hid hG8
            have HV := Lib.hid hV
            have HGW := Lib.hid hGw
            generalize r[i] = y at *
            clear hms hG8 hV hGw B
            obtain ⟨O, hO⟩ : ∃ O, numO y.data.toList 1000000 = O := ⟨_, rfl⟩
            rw [hO] at HSN HBAD
            go_wp2_with fail
            refine (lexNumber_any y 1000000).mono ?_
            rw [hO]
            rintro e wa ⟨rfl, Ba⟩
            have HBa := Lib.hid (below_then HBr.out HBr.out.size Ba)
            have HBa0 := Lib.hid (below_then HB8.out HB8.out.size Ba)
            have h8 := block_later Ba HG8.out
            have hVa := own_later HV.out Ba
            have hGa := block_later Ba HGW.out
            have hla : w4.heap.size < wa.heap.size := (Array.getElem?_eq_some_iff.1 h8).1
            clear Ba
            cases O with
            | none =>
              have hE := HE.out
              rw [HBAD.out rfl] at hE
              cases hE
              have p0 := Cl.of_block hGa (j := 0) rfl
              have p1 := Cl.of_block hGa (j := 1) rfl
              have q0 := p0.cell
              have q1 := p1.cell
              have r0 := p0.free
              have r1 := p1.free
              clear p0 p1 h8 hVa hGa
              go_wp2_with fail
              refine bodyPost_ret (v := .tuple #[.agg #[.string ByteArray.empty, .slice none 0 0], .int .i64 5]) ?_ rfl ⟨_, rfl, ?_, ?_⟩
              · rw [results_cell_tmp rfl]
                go_simp
                rfl
              · exact ⟨none, 0, rfl, Nat.le_refl _, fun _ => ⟨rfl, rfl⟩, fun h => absurd h (by simp)⟩
              · exact (HBa0.out.setCell (p := ⟨w.heap.size, 0, none⟩) (Nat.le_refl _) _).setCell (p := ⟨w.heap.size, 1, none⟩) (Nat.le_refl _) _
            | some v =>
              obtain ⟨AV, cV, rfl, hcV⟩ := own_shape hVa
              have H8 := Lib.hid h8
              have HVa := Lib.hid hVa
              have c8 := (Cl.of_block h8 (j := 1) rfl).cell
              clear h8 hVa hGa
              go_wp2_with (refine wpList_append_keep _ rfl (.tmp 64) (.tmp 66) 101 rfl w4.heap.size 3 i0 (.int .i64 0) 1 8 Tryd.underlying101 hi hz0 hz1 hz2 rfl (by decide) (.slice AV i cV) i (ms.map (Value.int .i64)) rfl (HVa.out.alloc _) ⟨wa.heap.size, 0, none⟩ 1 1 [.int .i64 (v : Int)] rfl rfl (World.news_of_block (heap_at rfl)) (by intro u hu; simp at hu; subst hu; rfl) (by omega) (by simp only [maxLen]; omega) (by omega) (by simp; omega) ?_; intro g cq w5 hown hgrow hat; have h85 := (hgrow.block w4.heap.size (by simp; omega) (by intro e; obtain ⟨cur, hcur⟩ := own_typ (HVa.out.alloc (.cells #[.int .i64 (v : Int)] 3)) e.symm; exact ne_of_typ (block_later ((Below.refl _ wa).alloc (Nat.le_refl _) _) H8.out) hcur (by decide) rfl)).trans (block_later ((Below.refl _ wa).alloc (Nat.le_refl _) _) H8.out); have q1 := (Cl.of_block h85 (j := 1) rfl).cell; have r1 := (Cl.of_block h85 (j := 1) rfl).free)
              have hne : (Value.slice (some ⟨g, 0, none⟩) (i + 1) cq).ownBlock ≠ some w4.heap.size := by
                intro e
                obtain ⟨cur, hcur⟩ := own_typ hown e
                exact ne_of_typ h85 hcur (by decide) rfl
              have B5 : Below w4.heap.size wa w5 := ((Below.refl _ wa).alloc (by omega) _).grown hgrow (by simp; omega) (fun k e => own_ge HVa.out e)
              go_roundw
              case rel =>
                refine ⟨i + 1, _, ms ++ [(v : Int)], by omega, by go_num, HSN.out, by simp [hml], set_one h85, ?_, (HBa.out.trans B5).setCell (p := ⟨w4.heap.size, 1, none⟩) (Nat.le_refl _) _⟩
                rw [List.map_append]
                exact hown.kept (grown_set w5 w4.heap.size 1 _) (.inr hne)
              case measure => simp [intOf]; omega
          · have hin : i = n := by omega
            subst hin
            have hdi : decide ((i : Int) < (i : Int)) = false := by simp
            have hE := HE.out
            rw [← HN.out, List.take_length] at hms
            rw [hms] at hE
            cases hE
            obtain ⟨AV, cV, rfl, hcV⟩ := own_shape hV
            have p0 := Cl.of_block hGw (j := 0) rfl
            have p1 := Cl.of_block hGw (j := 1) rfl
            have q0 := p0.cell
            have q1 := p1.cell
            have r0 := p0.free
            have r1 := p1.free
            have c80 := (Cl.of_block hG8 (j := 0) rfl).cell
            have c81 := (Cl.of_block hG8 (j := 1) rfl).cell
            have HV := Lib.hid hV
            clear p0 p1 hG8 hGw hV B
            go_wp2_with fail
            refine bodyPost_ret (v := .tuple #[.agg #[.string wd, .slice AV i cV], .int .i64 0]) ?_ rfl ⟨_, rfl, ?_, ?_⟩
            · rw [results_cell_tmp rfl]
              go_simp
            · have hV2 := HV.out
              rw [← flat_encI] at hV2
              have hno : (Value.slice AV i cV).ownBlock ≠ some w.heap.size := by
                intro e
                have := own_ge HV.out e
                omega
              have hV3 := (hV2.kept (grown_set wr w.heap.size 0 (.string wd)) (.inr hno)).kept (grown_set _ w.heap.size 1 (.slice AV i cV)) (.inr hno)
              exact Sl.of_own encI_length (L := ns) (by rw [hml]; exact hV3)
            · exact (HB8.out.setCell (p := ⟨w.heap.size, 0, none⟩) (Nat.le_refl _) _).setCell (p := ⟨w.heap.size, 1, none⟩) (Nat.le_refl _) _
    · have hd2 : decide (2 ≤ (n : Int)) = false := by simp only [decide_eq_false_iff_not]; omega
      have hrv : rv = false := by
        rw [← HRV.out, Bool.eq_false_iff]
        simp only [ne_eq, Bool.and_eq_true, decide_eq_true_eq]
        omega
      rw [hrv] at hr3
      have hrf : rr = false := by
        rw [← HRR.out]
        unfold rightW
        rw [Bool.eq_false_iff]
        simp only [ne_eq, Bool.or_eq_true, Bool.and_eq_true, decide_eq_true_eq]
        omega
      subst hrf
      have p0 := Cl.of_block HG4.out (j := 0) rfl
      have p1 := Cl.of_block HG4.out (j := 1) rfl
      have q0 := p0.cell
      have q1 := p1.cell
      have r0 := p0.free
      have r1 := p1.free
      clear p0 p1
      have hE := HR.out
      rw [HN.out, if_neg (by rw [HRR.out]; decide)] at hE
      cases hE
      go_wp2_with fail
      refine bodyPost_ret (v := .tuple #[.agg #[.string ByteArray.empty, .slice none 0 0], .int .i64 4]) ?_ rfl ⟨_, rfl, ?_, ?_⟩
      · rw [results_cell_tmp rfl]
        go_simp
        rfl
      · exact ⟨none, 0, rfl, Nat.le_refl _, fun _ => ⟨rfl, rfl⟩, fun h => absurd h (by simp)⟩
      · exact ((below_then HB1.out HB1.out.size HB4.out).setCell (p := ⟨w.heap.size, 0, none⟩) (Nat.le_refl _) _).setCell (p := ⟨w.heap.size, 1, none⟩) (Nat.le_refl _) _
end Go.Proofs.YtkpgjgmlhcipeaaDoor
