/- page.Parse: what a text is parsed to. -/
import Derived.Test.YtkpgjgmlhcipeaaDoorPgB2
import Derived.Test.YtkpgjgmlhcipeaaDoorPgR
namespace Go.Proofs.YtkpgjgmlhcipeaaDoor
open Go.RowKit
theorem results_cell_tmp2 {fn : Func} {p u v : Tmp} {ty : TypeId} (h : fn.results = #[.cell p ty, .tmp u, .tmp v]) (tmps : Array Value) (P : Program) (w : World) :
    (results fn tmps).run P w =
      ((asAddr (tmps.getD p undef)).run P w).andThen fun a w₁ => ((loadVar ty a).run P w₁).andThen fun x w₂ => .ok (.tuple #[x, tmps.getD u undef, tmps.getD v undef]) w₂ := by
  simp only [results, h]
  simp [Sem.run_bind, Result.andThen]
theorem add_any {w : World} {base b : Nat} {B R N : Value} {M : List Mt} {D : Dr} {wd : ByteArray} {ns : List Int} (hD : DrO w base b B R M D) (hm : manyD D = false) (hN : Ints w N ns) (hr : rightW wd ns.length = true) (hl : ns.length ≤ 400000000) (hbase : base ≤ w.heap.size) :
    Calls Tryd.prog 55 #[.pointer (some ⟨b, 0, none⟩), .agg #[.string wd, N]] w fun e w' => e = .returned (.int .i64 (addP D wd ns).1) ∧ ((addP D wd ns).1 = 0 → ∃ B' R' M', DrO w' base b B' R' M' (addP D wd ns).2) ∧ Below base w w' := by
  unfold rightW at hr
  simp only [Bool.or_eq_true, Bool.and_eq_true, decide_eq_true_eq] at hr
  rcases hr with (⟨rfl, h⟩ | ⟨rfl, h⟩) | ⟨⟨rfl, h1⟩, h2⟩
  · exact addBox_any hD hm hN (by decide) 0 (by omega) (by omega) hbase
  · exact addBox_any hD hm hN (by decide) 1 (by omega) (by omega) hbase
  · exact addRoute_any hD hm hN ((ns.length - 2) / 2) (by omega) (by omega) hbase
theorem DrO.low {w : World} {base b q o : Nat} {B R v : Value} {M : List Mt} {D : Dr} (h : DrO w base b B R M D) (hq : q < base) : DrO (w.setCell ⟨q, o, none⟩ v) base b B R M D := by
  have kp : ∀ {E sz k : Nat} {V : Value} {xs : List Value}, w.ownsRow base E sz V k xs → (w.setCell ⟨q, o, none⟩ v).ownsRow base E sz V k xs := fun {E sz k V xs} hr =>
    hr.kept (grown_set w q o v) (.inr (fun e => by have := own_ge hr e; omega))
  have hb := h.bas
  exact ⟨((grown_set w q o v).block b (Array.getElem?_eq_some_iff.1 h.cell).1 (fun e => by cases e; omega)).trans h.cell, h.bas, kp h.bx, kp h.rt, h.pc.map (fun sz k V xs hr => kp hr)⟩
theorem rdP_len (s : ByteArray) : (rdP s).2.2.length ≤ s.size := by
  unfold rdP
  split
  · split
    · simp
    · split
      · split
        · rename_i a r hw hx x ns hn
          have h1 := numsO_len _ _ hn
          have h2 := (wdL_le (l := s.data.toList)).1
          rw [hw] at h2
          rw [Lib.size_eq]
          simp at h2 ⊢
          omega
        · simp
      · simp
  · simp
theorem oneP_of {D : Dr} {s : ByteArray} (h : (rdP s).1 = 0) : oneP D s = addP D (rdP s).2.1 (rdP s).2.2 := by unfold oneP; rw [if_pos h]
theorem oneP_bad {D : Dr} {s : ByteArray} (h : (rdP s).1 ≠ 0) : oneP D s = ((rdP s).1, D) := by unfold oneP; rw [if_neg h]
theorem rdP_right' {s : ByteArray} (h : (rdP s).1 = 0) : rightW (rdP s).2.1 (rdP s).2.2.length = true := rdP_right (s := s) (by rw [← h])
theorem manyD_nil : manyD ([], []) = false := by decide
theorem goP_end (D : Dr) (i : Nat) (r : List ByteArray) : goP D i (bEnd :: r) = if r = [] then (D, 0, 0) else (([], []), (i : Int) + 3, 4) := by
  simp only [goP, if_true]
theorem goP_one {D : Dr} {i : Nat} {s : ByteArray} {r : List ByteArray} (h : s ≠ bEnd) : goP D i (s :: r) = if (oneP D s).1 = 0 then goP (oneP D s).2 (i + 1) r else (([], []), (i : Int) + 2, (oneP D s).1) := by
  simp only [goP, if_neg h]
theorem bytes_end {s : ByteArray} : (s.toList == [101, 110, 100]) = decide (s = bEnd) := by
  have := bytes_eq (x := s) (y := bEnd)
  rw [← this, ByteArray.toList_eq bEnd]
  rfl
theorem bytes_drawing {s : ByteArray} : (s.toList == [100, 114, 97, 119, 105, 110, 103]) = decide (s = bDrawing) := by
  have := bytes_eq (x := s) (y := bDrawing)
  rw [← this, ByteArray.toList_eq bDrawing]
  rfl
theorem parseP_bad {l : List UInt8} (h : lnE l ≠ 0) : parseP l = (([], []), 0, lnE l) := by unfold parseP; rw [if_neg h]
theorem parseP_nil {l : List UInt8} (h : lnE l = 0) (hl : lnL l = []) : parseP l = (([], []), 1, 4) := by unfold parseP; rw [if_pos h, hl]
theorem parseP_cons {l : List UInt8} {x : ByteArray} {r : List ByteArray} (h : lnE l = 0) (hl : lnL l = x :: r) : parseP l = if x = bDrawing then goP ([], []) 0 r else (([], []), 1, 4) := by unfold parseP; rw [if_pos h, hl]
set_option maxRecDepth 100000 in
set_option maxHeartbeats 4000000 in
theorem parse_any {w : World} {m : Int} (s : ByteArray) (hs : s.size ≤ 400000000) (hm : w.cell? ⟨0, 0, none⟩ = some (.int .i64 m)) :
    Calls Tryd.prog 26 #[.string s] w fun e w' => ∃ B R, e = .returned (.tuple #[.agg #[B, R], .int .i64 (parseP s.data.toList).2.1, .int .i64 (parseP s.data.toList).2.2]) ∧ Drw w' B R (parseP s.data.toList).1 ∧ Below w.heap.size w w' := by
  have hb0 := World.block_lt_of_cell? _ _ hm
  obtain ⟨pr, hpr⟩ : ∃ pr, parseP s.data.toList = pr := ⟨_, rfl⟩
  obtain ⟨DD, ln, er⟩ := pr
  rw [hpr]
  have HPR := Lib.hid hpr
  obtain ⟨E, hE⟩ : ∃ E, lnE s.data.toList = E := ⟨_, rfl⟩
  obtain ⟨LL, hLL⟩ : ∃ LL, lnL s.data.toList = LL := ⟨_, rfl⟩
  have hsz := Lib.size_eq s
  have hll : LL.length ≤ 400000001 := by rw [← hLL]; exact Nat.le_trans lnL_le.1 (by omega)
  have HLB : Hid (∀ x ∈ LL, x.size ≤ 400000000) := Lib.hid (by
    rw [← hLL]
    intro x hx
    rw [Lib.size_eq]
    have := lnL_le.2 x hx
    omega)
  have HE := Lib.hid hE
  have HLL := Lib.hid hLL
  clear hpr hE hLL hsz
  go_enter Tryd.func26, Tryd.ntmps26
  go_wp2_with fail
  obtain ⟨w0, hw0⟩ : ∃ w0, w.alloc (.cells #[.slice none 0 0, .slice none 0 0] 45) = w0 := ⟨_, rfl⟩
  have B0 : Below w.heap.size w w0 := by rw [← hw0]; exact (Below.refl _ _).alloc (Nat.le_refl _) _
  have HG0 : Hid (w0.heap[w.heap.size]? = some (.cells #[.slice none 0 0, .slice none 0 0] 45)) := Lib.hid (by rw [← hw0]; exact heap_at rfl)
  have HM0 := Lib.hid (cell_later B0 hm)
  have HB0 := Lib.hid B0
  rw [hw0]
  clear hw0 B0 hm
  refine (lexLines_any (s := s) (by omega) HM0.out).mono ?_
  rw [HE.out, HLL.out]
  rintro e w1 ⟨V1, rfl, S1, B1⟩
  obtain ⟨A1, c1, hV1, hc1, hAn, hA1⟩ := Strs.at_ S1
  subst hV1
  have HA1 := Lib.hid hA1
  have hG1 := block_later B1 HG0.out
  have HG1 := Lib.hid hG1
  have hsz1 := B1.size
  have hsz0 := HB0.out.size
  have HM1 := Lib.hid (cell_later B1 HM0.out)
  have HB1 := Lib.hid (below_then HB0.out HB0.out.size B1)
  have hlt1 : w.heap.size < w1.heap.size := (Array.getElem?_eq_some_iff.1 hG1).1
  clear S1 B1 hA1 HG0 HM0
  have p0 := (Cl.of_block hG1 (j := 0) rfl).cell
  have p1 := (Cl.of_block hG1 (j := 1) rfl).cell
  have r0 := (Cl.of_block hG1 (j := 0) rfl).free
  have r1 := (Cl.of_block hG1 (j := 1) rfl).free
  clear hG1
  by_cases hE0 : E = 0
  · subst hE0
    cases hLc : LL with
    | nil =>
      subst hLc
      have hPR := HPR.out.symm.trans (parseP_nil HE.out HLL.out)
      cases hPR
      go_wp2_with fail
      refine bodyPost_ret (v := .tuple #[.agg #[.slice none 0 0, .slice none 0 0], .int .i64 1, .int .i64 4]) ?_ rfl ⟨_, _, rfl, Drw.nil _, ?_⟩
      · rw [results_cell_tmp2 rfl]
        go_simp
      · exact (HB1.out.setCell (p := ⟨w.heap.size, 0, none⟩) (Nat.le_refl _) _).setCell (p := ⟨w.heap.size, 1, none⟩) (Nat.le_refl _) _
    | cons x r =>
      subst hLc
      have HPC := Lib.hid (HPR.out.symm.trans (parseP_cons HE.out HLL.out))
      obtain ⟨bA, oA, rfl, hcA⟩ := HA1.out (by simp)
      have c0 := hcA 0 x rfl
      rw [Nat.add_zero] at c0
      have HCA : Hid (∀ (i : Nat) (y : ByteArray), r[i]? = some y → w1.cell? ⟨bA, oA + 1 + i, none⟩ = some (.string y)) := Lib.hid (fun i y h => by
        have := hcA (i + 1) y h
        rw [show oA + 1 + i = oA + (i + 1) by omega]
        exact this)
      obtain ⟨n, hn⟩ : ∃ n, r.length = n := ⟨_, rfl⟩
      have hn1 : (x :: r).length = n + 1 := by simp [hn]
      have hnl : n ≤ 400000000 := by rw [hn1] at hll; omega
      have HLR : Hid (∀ y ∈ r, y.size ≤ 400000000) := Lib.hid (fun y hy => HLB.out y (by simp [hy]))
      rw [hn1] at hc1 ⊢
      have HN := Lib.hid hn
      clear hcA HA1 hn hn1 hll HLB hAn
      have hn0 : ((n : Int) + 1 == 0) = false := by simp; omega
      have HBD := Lib.hid (bytes_drawing (s := x))
      obtain ⟨qd, hqd⟩ : ∃ qd, (x.toList == [100, 114, 97, 119, 105, 110, 103]) = qd := ⟨_, rfl⟩
      have hqd2 : (x.toList != [100, 114, 97, 119, 105, 110, 103]) = !qd := by rw [bne, hqd]
      have HQD : Hid (decide (x = bDrawing) = qd) := Lib.hid (by rw [← HBD.out]; exact hqd)
      cases qd with
      | false =>
        have hPR := HPC.out
        rw [if_neg (by have := HQD.out; simpa using this)] at hPR
        cases hPR
        go_wp2_with fail
        refine bodyPost_ret (v := .tuple #[.agg #[.slice none 0 0, .slice none 0 0], .int .i64 1, .int .i64 4]) ?_ rfl ⟨_, _, rfl, Drw.nil _, ?_⟩
        · rw [results_cell_tmp2 rfl]
          go_simp
        · exact (HB1.out.setCell (p := ⟨w.heap.size, 0, none⟩) (Nat.le_refl _) _).setCell (p := ⟨w.heap.size, 1, none⟩) (Nat.le_refl _) _
      | true =>
        have HGO := Lib.hid HPC.out
        rw [if_pos (by have := HQD.out; simpa using this)] at HGO
        clear HPC p0 p1 r0 r1
        obtain ⟨AP, hAP⟩ : ∃ AP, (if c1 = 1 then some (⟨bA, oA, none⟩ : Addr) else some ⟨bA, oA + 1, none⟩) = AP := ⟨_, rfl⟩
        have HAP : Hid (0 < n → AP = some ⟨bA, oA + 1, none⟩) := Lib.hid (fun h => by rw [← hAP, if_neg (by omega)])
        go_wp2_with fail
        clear hqd hqd2 c0 hAP
        go_loopw [8, 9, 10, 11, 36] (fun _ _ _ _ qi wr => ∃ (i : Nat) (B R : Value) (M : List Mt) (D : Dr), i ≤ n ∧ qi = .int .i64 i ∧ DrO wr w1.heap.size w1.heap.size B R M D ∧ manyD D = false ∧ Hid ((DD, ln, er) = goP D i (r.drop i)) ∧ Below w1.heap.size w1 wr) (fun _ _ _ _ q _ => n - (intOf q).toNat)
        case atStart =>
          exact ⟨0, .slice none 0 0, .slice none 0 0, [], ([], []), by omega, rfl, ⟨heap_at rfl, Nat.le_refl _, World.ownsRow_nil _ _ _ _, World.ownsRow_nil _ _ _ _, ⟨rfl, fun i m r h => by simp at h⟩⟩, manyD_nil, HGO, (Below.refl _ _).alloc (Nat.le_refl _) _⟩
        case round =>
          obtain ⟨i, B, R, M, D, hi, rfl, hD, hmD, HG, Bw⟩ := hrel
          have HD := Lib.hid hD
          have HBw := Lib.hid Bw
          have HBW := Lib.hid (below_then HB1.out (by omega) Bw)
          have hGr := block_later Bw HG1.out
          have HGr := Lib.hid hGr
          have HMr := Lib.hid (cell_later Bw HM1.out)
          by_cases hil : i < n
          · have hap := HAP.out (by omega)
            subst hap
            have hilr : i < r.length := by rw [HN.out]; exact hil
            have cy := cell_later Bw (HCA.out i _ (List.getElem?_eq_getElem hilr))
            have hdrop := List.drop_eq_getElem_cons hilr
            rw [hdrop] at HG
            have hrn : r.drop (i + 1) = [] ↔ i + 1 = n := by rw [List.drop_eq_nil_iff, HN.out]; omega
            have HRN := Lib.hid hrn
            have hys := HLR.out r[i] (List.getElem_mem hilr)
            have hdi : decide ((i : Int) < (n : Int)) = true := by simp only [decide_eq_true_eq]; omega
            have j1 : (0 : Int) ≤ (i : Int) := by omega
            have j2 : (i : Int) < (n : Int) := by omega
            generalize r[i] = y at *
            clear hdrop hrn hD Bw
            have HBE := Lib.hid (bytes_end (s := y))
            obtain ⟨qe, hqe⟩ : ∃ qe, (y.toList == [101, 110, 100]) = qe := ⟨_, rfl⟩
            have HQE : Hid (decide (y = bEnd) = qe) := Lib.hid (by rw [← HBE.out]; exact hqe)
            cases qe with
            | true =>
              have hye : y = bEnd := by have := HQE.out; simpa using this
              have hg := HG.out
              rw [hye, goP_end] at hg
              clear hye
              have p0 := (Cl.of_block hGr (j := 0) rfl).cell
              have p1 := (Cl.of_block hGr (j := 1) rfl).cell
              have r0 := (Cl.of_block hGr (j := 0) rfl).free
              have r1 := (Cl.of_block hGr (j := 1) rfl).free
              by_cases hin : i + 1 = n
              · rw [if_pos (HRN.out.2 hin)] at hg
                cases hg
                have h21 : decide ((i : Int) + 2 < (n : Int) + 1) = false := by simp only [decide_eq_false_iff_not]; omega
                have d0 := (Cl.of_block HD.out.cell (j := 0) rfl).cell
                have d1 := (Cl.of_block HD.out.cell (j := 1) rfl).cell
                obtain ⟨AB, cB, rfl, -⟩ := own_shape HD.out.bx
                obtain ⟨AR, cR, rfl, -⟩ := own_shape HD.out.rt
                clear hGr
                go_wp2_with fail
                refine bodyPost_ret (v := .tuple #[.agg #[.slice AB DD.1.length cB, .slice AR DD.2.length cR], .int .i64 0, .int .i64 0]) ?_ rfl ⟨_, _, rfl, ((HD.out.low hlt1).low hlt1).drw, ?_⟩
                · rw [results_cell_tmp2 rfl]
                  go_simp
                · exact (HBW.out.setCell (p := ⟨w.heap.size, 0, none⟩) (Nat.le_refl _) _).setCell (p := ⟨w.heap.size, 1, none⟩) (Nat.le_refl _) _
              · rw [if_neg (fun h => hin (HRN.out.1 h))] at hg
                cases hg
                have h21 : decide ((i : Int) + 2 < (n : Int) + 1) = true := by simp only [decide_eq_true_eq]; omega
                clear hGr
                go_wp2_with fail
                refine bodyPost_ret (v := .tuple #[.agg #[.slice none 0 0, .slice none 0 0], .int .i64 ((i : Int) + 3), .int .i64 4]) ?_ rfl ⟨_, _, rfl, Drw.nil _, ?_⟩
                · rw [results_cell_tmp2 rfl]
                  go_simp
                · exact (HBW.out.setCell (p := ⟨w.heap.size, 0, none⟩) (Nat.le_refl _) _).setCell (p := ⟨w.heap.size, 1, none⟩) (Nat.le_refl _) _
            | false =>
              have hye : y ≠ bEnd := by have := HQE.out; simpa using this
              rw [goP_one hye] at HG
              clear hGr hye
              go_wp2_with fail
              have hbs := HBw.out.size
              have HRL := Lib.hid (rdP_len y)
              have HRR := Lib.hid (rdP_right' (s := y))
              have HO1 := Lib.hid (oneP_of (D := D) (s := y))
              have HO2 := Lib.hid (oneP_bad (D := D) (s := y))
              obtain ⟨rd, hrd⟩ : ∃ rd, rdP y = rd := ⟨_, rfl⟩
              obtain ⟨E1, wd, ns⟩ := rd
              rw [hrd] at HRL HRR HO1 HO2
              refine (read_any y (by omega) HMr.out).mono ?_
              rw [hrd]
              rintro e wa ⟨N, rfl, hN, Ba⟩
              obtain ⟨AN, cN, rfl, -, -, -⟩ := hN.at_
              have HDa := Lib.hid (HD.out.later Ba)
              have HNa := Lib.hid hN
              have HBa := Lib.hid (below_then HBw.out HBw.out.size Ba)
              have HBWa := Lib.hid (below_then HBW.out HBW.out.size Ba)
              have hGa := block_later Ba HGr.out
              have HGa := Lib.hid hGa
              have hsa := Ba.size
              clear hN Ba hrd HD HGr HMr
              by_cases hE1 : E1 = 0
              · subst hE1
                have hb : Below wa.heap.size wa (wa.alloc (.cells #[.string wd, .slice AN ns.length cN] 103)) := (Below.refl _ _).alloc (Nat.le_refl _) _
                have HADD := Lib.hid (add_any (wd := wd) (ns := ns) (HDa.out.later hb) hmD (HNa.out.later hb) (HRR.out rfl) (by have h : ns.length ≤ y.size := HRL.out; omega) (by have := hb.size; omega))
                rw [HO1.out rfl] at HG
                clear hb HO1 HO2 HRL HRR
                obtain ⟨ad, had⟩ : ∃ ad, addP D wd ns = ad := ⟨_, rfl⟩
                obtain ⟨Ea, Da⟩ := ad
                simp only [had] at HG HADD
                have HAOK := Lib.hid (fun (h : Ea = 0) => addP_ok (D := D) (D' := Da) (w := wd) (ns := ns) (by rw [had, h]))
                have HBX : Hid (Below wa.heap.size wa (wa.alloc (.cells #[.string wd, .slice AN ns.length cN] 103))) := Lib.hid ((Below.refl _ _).alloc (Nat.le_refl _) _)
                clear had
                go_wp2_with fail
                refine HADD.out.mono ?_
                rintro e wc ⟨rfl, hok, Bc⟩
                have HBC := Lib.hid (HBa.out.trans ((HBX.out.mono (by omega)).trans Bc))
                have HOK := Lib.hid hok
                have HBWc := Lib.hid (HBWa.out.trans ((HBX.out.mono (by omega)).trans (Bc.mono (by omega))))
                have hGc := (Bc.block w.heap.size hlt1).trans (block_later HBX.out HGa.out)
                have p0 := (Cl.of_block hGc (j := 0) rfl).cell
                have p1 := (Cl.of_block hGc (j := 1) rfl).cell
                have r0 := (Cl.of_block hGc (j := 0) rfl).free
                have r1 := (Cl.of_block hGc (j := 1) rfl).free
                clear hok Bc hGc hGa HADD
                by_cases hEa : Ea = 0
                · subst hEa
                  obtain ⟨B', R', M', hD'⟩ := HOK.out rfl
                  have HD' := Lib.hid hD'
                  clear hD' p0 p1 r0 r1
                  go_wp2_with fail
                  go_roundw
                  case rel =>
                    exact ⟨i + 1, B', R', M', Da, by omega, by go_num, HD'.out, HAOK.out trivial, Lib.hid (by have := HG.out; simpa using this), HBC.out⟩
                  case measure => simp [intOf]; omega
                · have hna : (Ea != 0) = true := by simpa using hEa
                  have hg := HG.out
                  rw [if_neg (by simpa using hEa)] at hg
                  cases hg
                  go_wp2_with fail
                  refine bodyPost_ret (v := .tuple #[.agg #[.slice none 0 0, .slice none 0 0], .int .i64 ((i : Int) + 2), .int .i64 er]) ?_ rfl ⟨_, _, rfl, Drw.nil _, ?_⟩
                  · rw [results_cell_tmp2 rfl]
                    go_simp
                  · exact (HBWc.out.setCell (p := ⟨w.heap.size, 0, none⟩) (Nat.le_refl _) _).setCell (p := ⟨w.heap.size, 1, none⟩) (Nat.le_refl _) _
              · have hn1 : (E1 == 0) = false := by simpa using hE1
                have hn2 : (E1 != 0) = true := by simpa using hE1
                rw [HO2.out hE1] at HG
                have hg := HG.out
                rw [if_neg (by simpa using hE1)] at hg
                cases hg
                have hGb := block_later ((Below.refl _ _).alloc (Nat.le_refl _) (.cells #[.string wd, .slice AN ns.length cN] 103)) hGa
                have p0 := (Cl.of_block hGb (j := 0) rfl).cell
                have p1 := (Cl.of_block hGb (j := 1) rfl).cell
                have r0 := (Cl.of_block hGb (j := 0) rfl).free
                have r1 := (Cl.of_block hGb (j := 1) rfl).free
                clear hGb hGa
                go_wp2_with fail
                refine bodyPost_ret (v := .tuple #[.agg #[.slice none 0 0, .slice none 0 0], .int .i64 ((i : Int) + 2), .int .i64 E1]) ?_ rfl ⟨_, _, rfl, Drw.nil _, ?_⟩
                · rw [results_cell_tmp2 rfl]
                  go_simp
                · exact ((HBWa.out.alloc (by omega) _).setCell (p := ⟨w.heap.size, 0, none⟩) (Nat.le_refl _) _).setCell (p := ⟨w.heap.size, 1, none⟩) (Nat.le_refl _) _
          · have hin : i = n := by omega
            subst hin
            have hdi : decide ((i : Int) < (i : Int)) = false := by simp
            have hg := HG.out
            have hdr : r.drop i = [] := by rw [List.drop_eq_nil_iff, HN.out]; exact Nat.le_refl _
            rw [hdr] at hg
            cases hg
            have p0 := (Cl.of_block hGr (j := 0) rfl).cell
            have p1 := (Cl.of_block hGr (j := 1) rfl).cell
            have r0 := (Cl.of_block hGr (j := 0) rfl).free
            have r1 := (Cl.of_block hGr (j := 1) rfl).free
            clear hGr hD Bw
            go_wp2_with fail
            refine bodyPost_ret (v := .tuple #[.agg #[.slice none 0 0, .slice none 0 0], .int .i64 ((i : Int) + 2), .int .i64 4]) ?_ rfl ⟨_, _, rfl, Drw.nil _, ?_⟩
            · rw [results_cell_tmp2 rfl]
              go_simp
              rw [show (i : Int) + 1 + 1 = (i : Int) + 2 by omega]
            · exact (HBW.out.setCell (p := ⟨w.heap.size, 0, none⟩) (Nat.le_refl _) _).setCell (p := ⟨w.heap.size, 1, none⟩) (Nat.le_refl _) _
  · have hne : (E != 0) = true := by simpa using hE0
    have hPR := HPR.out.symm.trans (parseP_bad (by rw [HE.out]; exact hE0))
    rw [HE.out] at hPR
    cases hPR
    go_wp2_with fail
    refine bodyPost_ret (v := .tuple #[.agg #[.slice none 0 0, .slice none 0 0], .int .i64 0, .int .i64 er]) ?_ rfl ⟨_, _, rfl, Drw.nil _, ?_⟩
    · rw [results_cell_tmp2 rfl]
      go_simp
    · exact (HB1.out.setCell (p := ⟨w.heap.size, 0, none⟩) (Nat.le_refl _) _).setCell (p := ⟨w.heap.size, 1, none⟩) (Nat.le_refl _) _
end Go.Proofs.YtkpgjgmlhcipeaaDoor
