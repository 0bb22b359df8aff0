/- Solve of what is no dag. -/
import Derived.Test.YtimffpnfhkobkaaMgG16
import Derived.Test.YtimffpnfhkobkaaMgG15
import Derived.Test.YtimffpnfhkobkaaMgG4
import Derived.Test.YtimffpnfhkobkaaMgG6
namespace Go.Proofs.Ytimffpnfhkobkaa
open Go.RowKit
theorem SolW.at_ {n : Nat} {L : List Arc} {w w' : World} {e : Ending} (h : SolW n L w e w') : ∃ (AX : Option Addr) (cX : Nat) (AF : Option Addr) (cF : Nat) (xs fs : List Int) (ways : Nat), e = .returned (.tuple #[.agg #[.slice AX n cX, .slice AF L.length cF, .int .i64 (ways : Int)], .int .i64 0]) ∧ Ints w' (.slice AX n cX) xs ∧ Ints w' (.slice AF L.length cF) fs ∧ Sol n L xs fs ways ∧ Below w.heap.size w w' := by
  obtain ⟨VX, VF, xs, fs, ways, rfl, IX, IF, S, B⟩ := h
  obtain ⟨AX, cX, rfl, -⟩ := IX.cells
  obtain ⟨AF, cF, rfl, -⟩ := IF.cells
  have h1 := S.lx
  have h2 := S.lf
  refine ⟨AX, cX, AF, cF, xs, fs, ways, ?_, ?_, ?_, S, B⟩
  · rw [h1, h2]
  · rw [← h1]; exact IX
  · rw [← h2]; exact IF
section
variable {w : World} {V : Value} {L : List Arc}
set_option maxHeartbeats 1000000 in
theorem layers_err (n : Int) (h : Arcs w V L) (he : ordE n L ≠ 0) : Calls Try.prog 45 #[.int .i64 n, V] w fun e w' => e = .returned (.tuple #[.slice none 0 0, .int .i64 (ordE n L)]) ∧ Below w.heap.size w w' := by
  have HH := Lib.hid h
  obtain ⟨A, cap, rfl, -, -, -⟩ := h.at_
  obtain ⟨E, hE⟩ : ∃ E, ordE n L = E := ⟨_, rfl⟩
  rw [hE] at he
  rw [hE]
  have HE := Lib.hid hE
  have hne : (E != 0) = true := by simp [he]
  clear h hE
  go_enter Try.func45, Try.ntmps45
  go_wp2_with fail
  refine (order_any _ HH.out).mono ?_
  rintro e w0 ⟨V0, rfl, B0, R0⟩
  rw [HE.out]
  clear R0
  have HB0 := Lib.hid B0
  clear B0
  go_wp2_with fail
  go_ret2
  exact ⟨rfl, HB0.out⟩
set_option maxHeartbeats 1000000 in
theorem solve_err (n : Int) (h : Arcs w V L) (he : ordE n L ≠ 0) : Calls Try.prog 27 #[.int .i64 n, V] w fun e w' => e = .returned (.tuple #[.agg #[.slice none 0 0, .slice none 0 0, .int .i64 0], .int .i64 (ordE n L)]) ∧ Below w.heap.size w w' := by
  have HH := Lib.hid h
  obtain ⟨A, cap, rfl, -, -, -⟩ := h.at_
  have HN := Lib.hid he
  obtain ⟨E, hE⟩ : ∃ E, ordE n L = E := ⟨_, rfl⟩
  rw [hE] at he
  rw [hE]
  have HE := Lib.hid hE
  have hne : (E != 0) = true := by simp [he]
  obtain ⟨wr0, hwr0⟩ : ∃ wr0, w.alloc (.cells #[.slice none 0 0, .slice none 0 0, .int .i64 0] 58) = wr0 := ⟨_, rfl⟩
  have BR : Below w.heap.size w wr0 := by rw [← hwr0]; exact (Below.refl _ _).alloc (Nat.le_refl _) _
  have HRC : Hid (wr0.heap[w.heap.size]? = some (.cells #[.slice none 0 0, .slice none 0 0, .int .i64 0] 58)) := Lib.hid (by rw [← hwr0]; exact heap_at rfl)
  have hr0 : w.heap.size + 1 ≤ wr0.heap.size := by rw [← hwr0]; simp
  have HH0 := Lib.hid (HH.out.later BR)
  have HBR := Lib.hid BR
  clear h hE BR
  go_enter Try.func27, Try.ntmps27
  go_wp2_with fail
  clear hwr0
  refine (layers_err n HH0.out HN.out).mono ?_
  rw [HE.out]
  rintro e w1 ⟨rfl, B1⟩
  have h1 : w1.heap[w.heap.size]? = some (.cells #[.slice none 0 0, .slice none 0 0, .int .i64 0] 58) := (B1.block _ (by omega)).trans HRC.out
  have HB1 := Lib.hid (HBR.out.trans (B1.mono HBR.out.size))
  have p0 := (Cl.of_block h1 (j := 0) rfl)
  have p1 := (Cl.of_block h1 (j := 1) rfl)
  have p2 := (Cl.of_block h1 (j := 2) rfl)
  have q0 := p0.cell
  have q1 := p1.cell
  have q2 := p2.cell
  have r0 := p0.free
  have r1 := p1.free
  have r2 := p2.free
  clear p0 p1 p2 h1 B1
  go_wp2_with fail
  refine bodyPost_ret (v := .tuple #[.agg #[.slice none 0 0, .slice none 0 0, .int .i64 0], .int .i64 E]) ?_ rfl ⟨rfl, ?_⟩
  · rw [results_cell_tmp rfl]
    go_simp
  · exact ((HB1.out.setCell (p := ⟨w.heap.size, 0, none⟩) (Nat.le_refl _) _).setCell (p := ⟨w.heap.size, 1, none⟩) (Nat.le_refl _) _).setCell (p := ⟨w.heap.size, 2, none⟩) (Nat.le_refl _) _
end
end Go.Proofs.Ytimffpnfhkobkaa
/- The reference's supply. -/
namespace Go.Proofs.Ytimffpnfhkobkaa
open Go.RowKit
theorem upd_two (F : Nat → Int) (f t : Nat) (x : Int) (v : Nat) : upd (upd F f (F f + x)) t (upd F f (F f + x) t - x) v = F v + ind (f = v) x - ind (t = v) x := by
  unfold upd ind
  by_cases h1 : v = t
  · subst h1
    by_cases h2 : v = f
    · subst h2; simp
    · simp [h2, Ne.symm h2]
  · by_cases h2 : v = f
    · subst h2; simp [h1, Ne.symm h1]
    · simp [h1, h2, Ne.symm h1, Ne.symm h2]
theorem upd_two' (F : Nat → Int) (f t : Nat) (x : Int) (v : Nat) : upd (upd F f (F f - x)) t (upd F f (F f - x) t + x) v = F v - ind (f = v) x + ind (t = v) x := by
  unfold upd ind
  by_cases h1 : v = t
  · subst h1
    by_cases h2 : v = f
    · subst h2; simp
    · simp [h2, Ne.symm h2]
  · by_cases h2 : v = f
    · subst h2; simp [h1, Ne.symm h1]
    · simp [h1, h2, Ne.symm h1, Ne.symm h2]
section
variable {w : World} {V Vf : Value} {L : List Arc} {fs : List Int}
set_option maxRecDepth 100000 in
set_option maxHeartbeats 2000000 in
theorem refSupply_any (n : Nat) (h : Arcs w V L) (k : Okg n L) :
    Calls Try.prog 33 #[.int .i64 (n : Int), V] w fun e w' => ∃ b, e = .returned (.slice (some ⟨b, 0, none⟩) n n) ∧ w.heap.size ≤ b ∧ w'.rowIs b 3 n (fun v => .int .i64 (nf (gfL n L) (wtL L) v L.length)) ∧ Below w.heap.size w w' := by
  have hn0 := k.n0
  have hn1 := k.n1
  have hm1 := k.m1
  have HK := Lib.hid k
  have HH := Lib.hid h
  obtain ⟨A, cap, rfl, -, -, hA⟩ := h.at_
  have HA := Lib.hid hA
  have hmk2 := run_make_row' (P := Try.prog) 26 3 (.int .i64 0) 8 Try.underlying26 info_int rfl .i64 .i64 n (by omega) (by omega)
  clear h hA k
  go_enter Try.func33, Try.ntmps33
  go_wp2_with fail
  clear hmk2
  have R0 : (w.alloc (.cells (madeCells #[.int .i64 0] n) 3)).rowIs w.heap.size 3 n (fun v => .int .i64 (nf (gfL n L) (wtL L) v 0)) := (World.rowIs_made w (.int .i64 0) n 3).congr (fun v _ => by simp [nf])
  have HR0 := Lib.hid R0
  clear R0
  go_loopw [6] (fun q wr => ∃ i : Nat, i ≤ L.length ∧ q = .int .i64 i ∧ wr.rowIs w.heap.size 3 n (fun v => .int .i64 (nf (gfL n L) (wtL L) v i)) ∧ Below w.heap.size w wr) (fun q _ => L.length - (intOf q).toNat)
  case atStart => exact ⟨0, by omega, rfl, HR0.out, (Below.refl _ _).alloc (Nat.le_refl _) _⟩
  case round =>
    obtain ⟨i, hi, rfl, R, B⟩ := hrel
    obtain ⟨wo, rfl⟩ : ∃ q : World, q = wr := ⟨_, rfl⟩
    have HR := Lib.hid R
    have HB := Lib.hid B
    have hwo := B.size
    have hrl := R.lt
    clear R B
    by_cases hil : i < L.length
    · have hd : decide ((i : Int) < L.length) = true := by simp; omega
      obtain ⟨ba, off, rfl, hc⟩ := HA.out (by omega)
      obtain ⟨hat, hf, ht, hw0, hw1⟩ := HK.out.at_ hil
      obtain ⟨c0', c1', c2'⟩ := hc i _ hat
      have hba : ba < w.heap.size := World.block_lt_of_cell? _ _ c0'
      have c0 := cell_later HB.out c0'
      have c1 := cell_later HB.out c1'
      have c2 := cell_later HB.out c2'
      have HNF : Hid (∀ v, nf (gfL n L) (wtL L) v (i + 1) = nf (gfL n L) (wtL L) v i + ind (frL L i = v) (wtL L i) - ind (ttL L i = v) (wtL L i)) := Lib.hid (fun v => rfl)
      have HBD : Hid (∀ v, -20000000000 ≤ nf (gfL n L) (wtL L) v i ∧ nf (gfL n L) (wtL L) v i ≤ 20000000000) := Lib.hid (fun v => by
        have := nf_bd (G := gfL n L) (g := wtL L) (B := 1000000) v i (fun q hq => by have := HK.out.at_ (i := q) (by omega); omega)
        omega)
      generalize frL L i = f at *
      generalize ttL L i = t at *
      generalize wtL L i = x at *
      obtain ⟨F, hF⟩ : ∃ F : Nat → Int, (fun v => nf (gfL n L) (wtL L) v i) = F := ⟨_, rfl⟩
      have hFv : ∀ v, nf (gfL n L) (wtL L) v i = F v := fun v => by rw [← hF]
      have RA : wo.rowIs w.heap.size 3 n (fun v => .int .i64 (F v)) := HR.out.congr (fun v _ => by rw [hFv])
      have HNF' : Hid (∀ v, nf (gfL n L) (wtL L) v (i + 1) = F v + ind (f = v) x - ind (t = v) x) := Lib.hid (fun v => by rw [HNF.out, hFv])
      have bF := HBD.out f
      have bT := HBD.out t
      rw [hFv] at bF bT
      clear HNF HBD HR hF hFv hat hc
      simp only at c0 c1 c2
      have q0 := RA.cell hf
      have i1 : (0 : Int) ≤ (i : Int) := by omega
      have i2 : (i : Int) < (L.length : Int) := by omega
      have i3 : (0 : Int) ≤ (f : Int) := by omega
      have i4 : (f : Int) < (n : Int) := by omega
      have i5 : (0 : Int) ≤ (t : Int) := by omega
      have i6 : (t : Int) < (n : Int) := by omega
      have e1 : IntKind.i64.wrap (F f + x) = F f + x := IntWalk.i64_in _ (by omega)
      have HRA := Lib.hid RA
      have HC1 := Lib.hid c1'
      have HC2 := Lib.hid c2'
      clear RA c0' c1' c2'
      go_upto_region 5 with fail
      clear c1
      go_still_tail 20, (by kernel_rfl)
      change wpList _ _ _ _ _ wo.drew
      have BD : Below wo.heap.size wo wo.drew := (Below.refl _ _).drew
      generalize wo.drew = wd at *
      have fA := (HRA.out.of_block (BD.block _ HRA.out.lt))
      have f1 := fA.frozen f
      have f2 := fA.cell hf
      have HRD := Lib.hid fA
      have HBD := Lib.hid (HB.out.trans (BD.mono hwo))
      clear BD fA q0 c0 c2
      obtain ⟨ws, hws⟩ : ∃ ws, wd.setCell ⟨w.heap.size, f, none⟩ (.int .i64 (F f + x)) = ws := ⟨_, rfl⟩
      have RS : ws.rowIs w.heap.size 3 n (fun v => .int .i64 (upd F f (F f + x) v)) := by rw [← hws]; exact row_upd (F := fun z => .int .i64 z) HRD.out f (F f + x)
      have HBS : Hid (Below w.heap.size w ws) := Lib.hid (by rw [← hws]; exact HBD.out.setCell (p := ⟨w.heap.size, f, none⟩) (Nat.le_refl _) _)
      have g1 := cell_later HBS.out HC1.out
      have g2 := cell_later HBS.out HC2.out
      simp only at g1 g2
      have q1 := RS.cell ht
      have bU : -40000000000 ≤ upd F f (F f + x) t ∧ upd F f (F f + x) t ≤ 40000000000 := by unfold upd; split <;> omega
      have HRS := Lib.hid RS
      obtain ⟨y, hy⟩ : ∃ y, upd F f (F f + x) t = y := ⟨_, rfl⟩
      have HY := Lib.hid hy
      rw [hy] at q1 bU
      have e2 : IntKind.i64.wrap (y - x) = y - x := IntWalk.i64_in _ (by omega)
      clear RS hy
      go_upto_region 6 with fail
      clear hws f1 f2
      go_still_tail 20, (by kernel_rfl)
      change wpList _ _ _ _ _ ws.drew
      have BE : Below ws.heap.size ws ws.drew := (Below.refl _ _).drew
      generalize ws.drew = we at *
      have fE := (HRS.out.of_block (BE.block _ HRS.out.lt))
      have f3 := fE.frozen t
      have f4 := fE.cell ht
      have HRE := Lib.hid fE
      have HBE := Lib.hid (HBS.out.trans (BE.mono HBS.out.size))
      clear BE fE g1 g2 q1
      go_wp2_with fail
      refine ⟨⟨i + 1, by omega, by go_num, ?_, HBE.out.setCell (p := ⟨w.heap.size, t, none⟩) (Nat.le_refl _) _⟩, by simp [intOf]; omega⟩
      refine (row_upd (F := fun z => .int .i64 z) HRE.out t (y - x)).congr (fun v _ => ?_)
      rw [HNF'.out v, ← HY.out, upd_two]
    · obtain rfl : i = L.length := by omega
      have hd : decide ((L.length : Int) < L.length) = false := by simp
      go_wp2_with fail
      go_ret
      exact ⟨_, rfl, Nat.le_refl _, HR.out, HB.out⟩
end
end Go.Proofs.Ytimffpnfhkobkaa
/- The reference's right, total and sum. -/
namespace Go.Proofs.Ytimffpnfhkobkaa
open Go.RowKit
/-- Is a flow? -/
def rightF (n : Nat) (L : List Arc) (fs : List Int) : Bool := decide (fs.length = L.length) && (fs.all (fun y => decide (0 ≤ y)) && (List.range n).all (fun v => decide (nf (gfL n L) (wtL L) v L.length - nf (gfL n L) (ff fs) v L.length = 0)))
theorem ff_nn {fs : List Int} (h : fs.all (fun y => decide (0 ≤ y)) = true) (i : Nat) : 0 ≤ ff fs i := by
  unfold ff
  cases e : fs[i]? with
  | none => simp
  | some y =>
    have := List.all_eq_true.1 h y (List.mem_of_getElem? e)
    simpa using this
theorem rightF_iff {n : Nat} {L : List Arc} {fs : List Int} : rightF n L fs = true ↔ fs.length = L.length ∧ (∀ i, i < L.length → 0 ≤ ff fs i) ∧ ∀ u, u < n → nf (gfL n L) (wtL L) u L.length = nf (gfL n L) (ff fs) u L.length := by
  unfold rightF
  simp only [Bool.and_eq_true, decide_eq_true_eq]
  constructor
  · rintro ⟨h1, h2, h3⟩
    refine ⟨h1, fun i _ => ff_nn h2 i, fun u hu => ?_⟩
    have := List.all_eq_true.1 h3 u (List.mem_range.2 hu)
    simp only [decide_eq_true_eq] at this
    omega
  · rintro ⟨h1, h2, h3⟩
    refine ⟨h1, List.all_eq_true.2 (fun y hy => ?_), List.all_eq_true.2 (fun u hu => ?_)⟩
    · obtain ⟨i, hi⟩ := List.getElem?_of_mem hy
      have := h2 i (by rw [← h1]; exact (List.getElem?_eq_some_iff.1 hi).1)
      unfold ff at this
      rw [hi] at this
      simpa using this
    · have := h3 u (List.mem_range.1 hu)
      simp only [decide_eq_true_eq]
      omega
theorem Sol.right {n : Nat} {L : List Arc} {xs fs : List Int} {ways : Nat} (h : Sol n L xs fs ways) : rightF n L fs = true := rightF_iff.2 ⟨h.lf, fun i hi => (h.nn i hi).1, h.bal⟩
section
variable {w : World} {V Vf : Value} {L : List Arc} {fs : List Int}
set_option maxRecDepth 100000 in
set_option maxHeartbeats 2000000 in
theorem flowRight_any (n : Nat) (h : Arcs w V L) (hfs : Ints w Vf fs) (k : Okg n L) (hub : ∀ y ∈ fs, y ≤ 2000000000000) (hfl : fs.length ≤ 1000000000000000) :
    Calls Try.prog 29 #[.int .i64 (n : Int), V, Vf] w fun e w' => e = .returned (.bool (rightF n L fs)) ∧ Below w.heap.size w w' := by
  have hn0 := k.n0
  have hn1 := k.n1
  have hm1 := k.m1
  have HK := Lib.hid k
  have HH := Lib.hid h
  have HUB := Lib.hid hub
  obtain ⟨A, cap, rfl, -, -, hA⟩ := h.at_
  obtain ⟨AF, capF, rfl, -, -, hAF⟩ := hfs.at_
  have HA := Lib.hid hA
  have HAF := Lib.hid hAF
  clear h hA k hfs hAF hub
  by_cases hlen : fs.length = L.length
  · have hne : ((fs.length : Int) != (L.length : Int)) = false := by simp [hlen]
    have HL := Lib.hid hlen
    clear hlen
    go_enter Try.func29, Try.ntmps29
    go_wp2_with fail
    refine (refSupply_any n HH.out HK.out).mono ?_
    rintro e w1 ⟨b, rfl, hb1, R1, B1⟩
    have HR1 := Lib.hid R1
    have HB1 := Lib.hid B1
    clear R1 B1
    go_wp2_with fail
    go_loopw [8] (fun q wr => ∃ i : Nat, i ≤ L.length ∧ q = .int .i64 i ∧ Hid (∀ j, j < i → 0 ≤ ff fs j) ∧ wr.rowIs b 3 n (fun v => .int .i64 (nf (gfL n L) (wtL L) v L.length - nf (gfL n L) (ff fs) v i)) ∧ Below w.heap.size w wr) (fun q _ => L.length - (intOf q).toNat)
    case atStart => exact ⟨0, by omega, rfl, Lib.hid (fun j hj => by omega), HR1.out.congr (fun v _ => by simp [nf]), HB1.out⟩
    case round =>
      obtain ⟨i, hi, rfl, hnn, R, B⟩ := hrel
      obtain ⟨wo, rfl⟩ : ∃ q : World, q = wr := ⟨_, rfl⟩
      have HR := Lib.hid R
      have HB := Lib.hid B
      have hwo := B.size
      have hrl := R.lt
      clear R B HR1 HB1
      by_cases hil : i < L.length
      · have hd : decide ((i : Int) < L.length) = true := by simp; omega
        have hif : i < fs.length := by have := HL.out; omega
        obtain ⟨ba, off, rfl, hc⟩ := HA.out (by omega)
        obtain ⟨bf, offf, rfl, hcf⟩ := HAF.out (by omega)
        obtain ⟨hat, hf, ht, hw0, hw1⟩ := HK.out.at_ hil
        obtain ⟨c0', c1', c2'⟩ := hc i _ hat
        have d0' := hcf i _ (List.getElem?_eq_getElem hif)
        have hub := HUB.out _ (List.getElem_mem hif)
        have hba : ba < w.heap.size := World.block_lt_of_cell? _ _ c0'
        have c0 := cell_later HB.out c0'
        have c1 := cell_later HB.out c1'
        have d0 := cell_later HB.out d0'
        have HNF : Hid (∀ v, nf (gfL n L) (ff fs) v (i + 1) = nf (gfL n L) (ff fs) v i + ind (frL L i = v) (ff fs i) - ind (ttL L i = v) (ff fs i)) := Lib.hid (fun v => rfl)
        have hfi : ff fs i = fs[i] := by unfold ff; simp [hif]
        have HBD : Hid (∀ v, -50000000000000000 ≤ nf (gfL n L) (wtL L) v L.length - nf (gfL n L) (ff fs) v i ∧ nf (gfL n L) (wtL L) v L.length - nf (gfL n L) (ff fs) v i ≤ 50000000000000000) := Lib.hid (fun v => by
          have h1 := nf_bd (G := gfL n L) (g := wtL L) (B := 1000000) v L.length (fun q hq => by have := HK.out.at_ (i := q) (by omega); omega)
          have h2 := nf_bd (G := gfL n L) (g := ff fs) (B := 2000000000000) v i (fun q hq => by
            have hq2 : q < fs.length := by omega
            have e : ff fs q = fs[q] := by unfold ff; simp [hq2]
            have := HUB.out _ (List.getElem_mem hq2)
            have := hnn.out q hq
            omega)
          omega)
        rw [hfi] at HNF
        generalize frL L i = f at *
        generalize ttL L i = t at *
        generalize wtL L i = x at *
        generalize fs[i] = y at *
        obtain ⟨F, hF⟩ : ∃ F : Nat → Int, (fun v => nf (gfL n L) (wtL L) v L.length - nf (gfL n L) (ff fs) v i) = F := ⟨_, rfl⟩
        have hFv : ∀ v, nf (gfL n L) (wtL L) v L.length - nf (gfL n L) (ff fs) v i = F v := fun v => by rw [← hF]
        have RA : wo.rowIs b 3 n (fun v => .int .i64 (F v)) := HR.out.congr (fun v _ => by rw [hFv])
        have HNF' : Hid (∀ v, nf (gfL n L) (wtL L) v L.length - nf (gfL n L) (ff fs) v (i + 1) = F v - ind (f = v) y + ind (t = v) y) := Lib.hid (fun v => by rw [HNF.out, ← hFv]; omega)
        have bF := HBD.out f
        have bT := HBD.out t
        rw [hFv] at bF bT
        have HFI := Lib.hid hfi
        clear HNF HBD HR hF hFv hat hc hcf hfi
        simp only at c0 c1
        have q0 := RA.cell hf
        have i1 : (0 : Int) ≤ (i : Int) := by omega
        have i2 : (i : Int) < (L.length : Int) := by omega
        have i2f : (i : Int) < (fs.length : Int) := by omega
        have i3 : (0 : Int) ≤ (f : Int) := by omega
        have i4 : (f : Int) < (n : Int) := by omega
        have i5 : (0 : Int) ≤ (t : Int) := by omega
        have i6 : (t : Int) < (n : Int) := by omega
        by_cases hy0 : y < 0
        · have hdy : decide (y < 0) = true := by simp; omega
          clear RA c0 c1 q0
          go_wp2_with fail
          go_ret
          refine ⟨ret_bool ?_, HB.out⟩
          cases e : rightF n L fs with
          | false => rfl
          | true =>
            have h1 := (rightF_iff.1 e).2.1 i hil
            have h2 := HFI.out
            omega
        · have hdy : decide (y < 0) = false := by simp; omega
          have e1 : IntKind.i64.wrap (F f - y) = F f - y := IntWalk.i64_in _ (by omega)
          have HRA := Lib.hid RA
          have HC1 := Lib.hid c1'
          have HD0 := Lib.hid d0'
          clear RA c0' c1' c2' d0'
          go_upto_region 9 with fail
          clear c1
          go_still_tail 19, (by kernel_rfl)
          change wpList _ _ _ _ _ wo.drew
          have BD : Below wo.heap.size wo wo.drew := (Below.refl _ _).drew
          generalize wo.drew = wd at *
          have fA := (HRA.out.of_block (BD.block _ HRA.out.lt))
          have f1 := fA.frozen f
          have f2 := fA.cell hf
          have HRD := Lib.hid fA
          have HBD := Lib.hid (HB.out.trans (BD.mono hwo))
          clear BD fA q0 c0 d0
          obtain ⟨ws, hws⟩ : ∃ ws, wd.setCell ⟨b, f, none⟩ (.int .i64 (F f - y)) = ws := ⟨_, rfl⟩
          have RS : ws.rowIs b 3 n (fun v => .int .i64 (upd F f (F f - y) v)) := by rw [← hws]; exact row_upd (F := fun z => .int .i64 z) HRD.out f (F f - y)
          have HBS : Hid (Below w.heap.size w ws) := Lib.hid (by rw [← hws]; exact HBD.out.setCell (p := ⟨b, f, none⟩) hb1 _)
          have g1 := cell_later HBS.out HC1.out
          have g2 := cell_later HBS.out HD0.out
          simp only at g1
          have q1 := RS.cell ht
          have bU : -60000000000000000 ≤ upd F f (F f - y) t ∧ upd F f (F f - y) t ≤ 60000000000000000 := by unfold upd; split <;> omega
          have HRS := Lib.hid RS
          obtain ⟨z, hz⟩ : ∃ z, upd F f (F f - y) t = z := ⟨_, rfl⟩
          have HZ := Lib.hid hz
          rw [hz] at q1 bU
          have e2 : IntKind.i64.wrap (z + y) = z + y := IntWalk.i64_in _ (by omega)
          clear RS hz
          go_upto_region 10 with fail
          clear hws f1 f2
          go_still_tail 19, (by kernel_rfl)
          change wpList _ _ _ _ _ ws.drew
          have BE : Below ws.heap.size ws ws.drew := (Below.refl _ _).drew
          generalize ws.drew = we at *
          have fE := (HRS.out.of_block (BE.block _ HRS.out.lt))
          have f3 := fE.frozen t
          have f4 := fE.cell ht
          have HRE := Lib.hid fE
          have HBE := Lib.hid (HBS.out.trans (BE.mono HBS.out.size))
          clear BE fE g1 g2 q1
          go_wp2_with fail
          refine ⟨⟨i + 1, by omega, by go_num, Lib.hid (fun j hj => ?_), ?_, HBE.out.setCell (p := ⟨b, t, none⟩) hb1 _⟩, by simp [intOf]; omega⟩
          · by_cases e : j = i
            · subst e; rw [HFI.out]; omega
            · exact hnn.out j (by omega)
          · refine (row_upd (F := fun z => .int .i64 z) HRE.out t (z + y)).congr (fun v _ => ?_)
            rw [HNF'.out v, ← HZ.out, upd_two']
      · obtain rfl : i = L.length := by omega
        have hd : decide ((L.length : Int) < L.length) = false := by simp
        go_wp2_with fail
        go_loopw [9] (fun q wr => ∃ v : Nat, v ≤ n ∧ q = .int .i64 v ∧ Hid (∀ u, u < v → nf (gfL n L) (wtL L) u L.length - nf (gfL n L) (ff fs) u L.length = 0) ∧ wr = wo) (fun q _ => n - (intOf q).toNat)
        case atStart => exact ⟨0, by omega, rfl, Lib.hid (fun u hu => by omega), rfl⟩
        case round =>
          obtain ⟨v, hv, rfl, hz, hwr⟩ := hrel
          subst hwr
          by_cases hvn : v < n
          · have hd : decide ((v : Int) < n) = true := by simp; omega
            have c0 := HR.out.cell hvn
            have i1 : (0 : Int) ≤ (v : Int) := by omega
            have i2 : (v : Int) < (n : Int) := by omega
            obtain ⟨y, hy⟩ : ∃ y, nf (gfL n L) (wtL L) v L.length - nf (gfL n L) (ff fs) v L.length = y := ⟨_, rfl⟩
            rw [hy] at c0
            have HY := Lib.hid hy
            clear hy
            by_cases hy0 : y = 0
            · have hdy : (y != 0) = false := by simp [hy0]
              have HY0 := Lib.hid hy0
              clear hy0
              go_wp2_with fail
              refine ⟨⟨v + 1, by omega, by go_num, Lib.hid (fun u hu => ?_), trivial⟩, by simp [intOf]; omega⟩
              by_cases e : u = v
              · subst e; rw [HY.out, HY0.out]
              · exact hz.out u (by omega)
            · have hdy : (y != 0) = true := by simp [hy0]
              have HY0 := Lib.hid hy0
              clear hy0
              go_wp2_with fail
              go_ret
              refine ⟨ret_bool ?_, HB.out⟩
              cases e : rightF n L fs with
              | false => rfl
              | true =>
                have h1 := (rightF_iff.1 e).2.2 v hvn
                have h2 := HY.out
                exact absurd (by omega) HY0.out
          · obtain rfl : v = n := by omega
            have hd : decide ((v : Int) < v) = false := by simp
            go_wp2_with fail
            go_ret
            refine ⟨ret_bool (rightF_iff.2 ⟨HL.out, fun i hi => hnn.out i hi, fun u hu => by have := hz.out u hu; omega⟩).symm, HB.out⟩
  · have hne : ((fs.length : Int) != (L.length : Int)) = true := by simp; omega
    go_enter Try.func29, Try.ntmps29
    go_wp2_with fail
    go_ret
    refine ⟨ret_bool ?_, Below.refl _ _⟩
    cases e : rightF n L fs with
    | false => rfl
    | true => exact absurd (rightF_iff.1 e).1 hlen
set_option maxRecDepth 100000 in
set_option maxHeartbeats 1000000 in
theorem total_any (n : Nat) (h : Arcs w V L) (k : Okg n L) :
    Calls Try.prog 49 #[.int .i64 (n : Int), V] w fun e w' => e = .returned (.int .i64 (spN (fun v => nf (gfL n L) (wtL L) v L.length) n)) ∧ Below w.heap.size w w' := by
  have hn0 := k.n0
  have hn1 := k.n1
  have hm1 := k.m1
  have HK := Lib.hid k
  have HH := Lib.hid h
  obtain ⟨A, cap, rfl, -, -, -⟩ := h.at_
  have HBD : Hid (∀ v, -20000000000 ≤ nf (gfL n L) (wtL L) v L.length ∧ nf (gfL n L) (wtL L) v L.length ≤ 20000000000) := Lib.hid (fun v => by
    have := nf_bd (G := gfL n L) (g := wtL L) (B := 1000000) v L.length (fun q hq => by have := HK.out.at_ (i := q) (by omega); omega)
    omega)
  obtain ⟨F, hF⟩ : ∃ F : Nat → Int, (fun v => nf (gfL n L) (wtL L) v L.length) = F := ⟨_, rfl⟩
  have hFv : ∀ v, nf (gfL n L) (wtL L) v L.length = F v := fun v => by rw [← hF]
  have HBF : Hid (∀ v, -20000000000 ≤ F v ∧ F v ≤ 20000000000) := Lib.hid (fun v => by rw [← hFv]; exact HBD.out v)
  rw [hF]
  have HFV := Lib.hid hFv
  clear h k hF hFv HBD
  go_enter Try.func49, Try.ntmps49
  go_wp2_with fail
  refine (refSupply_any n HH.out HK.out).mono ?_
  rintro e w1 ⟨b, rfl, hb1, R1, B1⟩
  have HR1 : Hid (w1.rowIs b 3 n (fun v => .int .i64 (F v))) := Lib.hid (R1.congr (fun v _ => by rw [HFV.out]))
  have HB1 := Lib.hid B1
  clear R1 B1
  go_wp2_with fail
  go_loopw [6, 7] (fun q1 q2 wr => ∃ v : Nat, v ≤ n ∧ q2 = .int .i64 v ∧ q1 = .int .i64 (spN F v) ∧ spN F v ≤ 20000000000 * v ∧ 0 ≤ spN F v ∧ wr = w1) (fun _ q _ => n - (intOf q).toNat)
  case atStart => exact ⟨0, by omega, rfl, rfl, by simp [spN, sumN], by simp [spN, sumN], rfl⟩
  case round =>
    obtain ⟨v, hv, rfl, rfl, hs1, hs0, hwr⟩ := hrel
    subst hwr
    by_cases hvn : v < n
    · have hd : decide ((v : Int) < n) = true := by simp; omega
      have c0 := HR1.out.cell hvn
      have i1 : (0 : Int) ≤ (v : Int) := by omega
      have i2 : (v : Int) < (n : Int) := by omega
      have HS : Hid (spN F (v + 1) = spN F v + max 0 (F v)) := Lib.hid rfl
      obtain ⟨y0, y1⟩ := HBF.out v
      generalize F v = y at *
      generalize hsg : spN F v = S at *
      have HSG := Lib.hid hsg
      clear hsg
      by_cases hy : 0 < y
      · have hdy : decide (0 < y) = true := by simp; omega
        have e1 : IntKind.i64.wrap (S + y) = S + y := IntWalk.i64_in _ (by omega)
        go_wp2_with fail
        exact ⟨⟨v + 1, by omega, by go_num, by rw [HS.out]; congr 1; omega, by rw [HS.out]; omega, by rw [HS.out]; omega, trivial⟩, by simp [intOf]; omega⟩
      · have hdy : decide (0 < y) = false := by simp; omega
        go_wp2_with fail
        exact ⟨⟨v + 1, by omega, by go_num, by rw [HS.out]; congr 1; omega, by rw [HS.out]; omega, by rw [HS.out]; omega, trivial⟩, by simp [intOf]; omega⟩
    · obtain rfl : v = n := by omega
      have hd : decide ((v : Int) < v) = false := by simp
      go_wp2_with fail
      go_ret
      exact ⟨rfl, HB1.out⟩
set_option maxRecDepth 100000 in
set_option maxHeartbeats 1000000 in
theorem sum_any (h : Ints w Vf fs) (hl : fs.length ≤ 1000000) (hb : ∀ y ∈ fs, -2000000000000 ≤ y ∧ y ≤ 2000000000000) :
    Calls Try.prog 30 #[Vf] w fun e w' => e = .returned (.int .i64 (sumN (ff fs) fs.length)) ∧ Below w.heap.size w w' := by
  obtain ⟨A, cap, rfl, -, -, hA⟩ := h.at_
  have HA := Lib.hid hA
  have HBB := Lib.hid hb
  clear h hA hb
  go_enter Try.func30, Try.ntmps30
  go_wp2_with fail
  go_loopw [3, 4] (fun q1 q2 wr => ∃ v : Nat, v ≤ fs.length ∧ q2 = .int .i64 v ∧ q1 = .int .i64 (sumN (ff fs) v) ∧ sumN (ff fs) v ≤ 2000000000000 * v ∧ -(2000000000000 * (v : Int)) ≤ sumN (ff fs) v ∧ wr = w) (fun _ q _ => fs.length - (intOf q).toNat)
  case atStart => exact ⟨0, by omega, rfl, rfl, by simp [sumN], by simp [sumN], rfl⟩
  case round =>
    obtain ⟨v, hv, rfl, rfl, hs1, hs0, hwr⟩ := hrel
    subst hwr
    by_cases hvn : v < fs.length
    · have hd : decide ((v : Int) < fs.length) = true := by simp; omega
      obtain ⟨ba, off, rfl, hc⟩ := HA.out (by omega)
      have c0 := hc v _ (List.getElem?_eq_getElem hvn)
      have i1 : (0 : Int) ≤ (v : Int) := by omega
      have i2 : (v : Int) < (fs.length : Int) := by omega
      have hfi : ff fs v = fs[v] := by unfold ff; simp [hvn]
      have HS : Hid (sumN (ff fs) (v + 1) = sumN (ff fs) v + fs[v]) := Lib.hid (by rw [← hfi]; rfl)
      obtain ⟨y0, y1⟩ := HBB.out _ (List.getElem_mem hvn)
      clear hfi hc
      generalize fs[v] = y at *
      generalize hsg : sumN (ff fs) v = S at *
      have HSG := Lib.hid hsg
      clear hsg
      have e1 : IntKind.i64.wrap (S + y) = S + y := IntWalk.i64_in _ (by omega)
      go_wp2_with fail
      exact ⟨⟨v + 1, by omega, by go_num, by rw [HS.out], by rw [HS.out]; omega, by rw [HS.out]; omega, trivial⟩, by simp [intOf]; omega⟩
    · obtain rfl : v = fs.length := by omega
      have hd : decide ((fs.length : Int) < fs.length) = false := by simp
      go_wp2_with fail
      go_ret
      exact ⟨rfl, Below.refl _ _⟩
end
end Go.Proofs.Ytimffpnfhkobkaa
/- What the document fixes of flows: the first look of the flow laws returns true. -/
namespace Go.Proofs.Ytimffpnfhkobkaa
open Go.RowKit
abbrev wkL : List Arc := [(0, 1, 3), (1, 2, 1), (0, 2, 2)]
theorem wk_ok : Okg 3 wkL := okg_of (by decide) (by decide)
theorem wk_ord : ordE 3 wkL = 0 := by decide
theorem wk_one : ordE 1 [(0, 0, 0)] = 11 := by decide
theorem wk_sol {xs fs : List Int} {ways : Nat} (h : Sol 3 wkL xs fs ways) : xs = [0, 1, 2] := by
  obtain ⟨a, b, c, rfl⟩ : ∃ a b c, xs = [a, b, c] := by
    have hl := h.lx
    match xs, hl with
    | [a, b, c], _ => exact ⟨a, b, c, rfl⟩
  have hf := h.fit
  simp [fitA, at_] at hf
  obtain ⟨h1, h2, h3⟩ := hf
  have ha := h.ag
  simp only [List.map_cons, List.map_nil, List.cons.injEq, and_true] at ha
  obtain ⟨e1, e2, e3⟩ := ha
  have r1 := rk_unique (zs := [a, b, c]) (D := []) (z := a) (by simp) (fun x => by simp; omega)
  have r2 := rk_unique (zs := [a, b, c]) (D := [a]) (z := b) (by simp) (fun x => by simp; omega)
  have r3 := rk_unique (zs := [a, b, c]) (D := [a, b]) (z := c) (by simp; omega) (fun x => by simp; omega)
  rw [e1] at r1
  rw [e2] at r2
  rw [e3] at r3
  simp at r1 r2 r3
  subst r1 r2 r3
  rfl
theorem wk_sup : (List.range 3).map (fun v => nf (gfL 3 wkL) (wtL wkL) v wkL.length) = [5, -2, -3] := by decide
set_option maxRecDepth 100000 in
set_option maxHeartbeats 1000000 in
theorem fwakes_any (w : World) : Calls Try.prog 28 #[] w fun e w' => e = .returned (.bool true) ∧ Below w.heap.size w w' := by
  go_enter Try.func28, Try.ntmps28
  go_wp2_with fail
  refine (solve_any (L := wkL) 3 ?a1 wk_ok wk_ord).mono ?_
  case a1 => exact Arcs.lit (heap_at rfl) rfl rfl (by decide)
  rintro e w1 h
  obtain ⟨AX, cX, AF, cF, xs, fs, ways, rfl, IX, IF, S, B1⟩ := h.at_
  clear h
  have hx := wk_sol S
  subst hx
  have HB1 := Lib.hid (((Below.refl w.heap.size w).alloc (Nat.le_refl _) _).trans (B1.mono (by simp)))
  have HIX := Lib.hid IX
  have HA1 : Hid (Arcs w1 (.slice (some ⟨w.heap.size, 0, none⟩) 3 3) wkL) := Lib.hid (by refine Sl.later ?_ B1; exact Arcs.lit (heap_at rfl) rfl rfl (by decide))
  clear IX IF S B1
  go_wp2_with fail
  refine (solve_err (L := [(0, 0, 0)]) 1 ?a1 (by rw [wk_one]; decide)).mono ?_
  case a1 => exact Arcs.lit (heap_at (by simp)) rfl rfl (by decide)
  rw [wk_one]
  rintro e w2 ⟨rfl, B2⟩
  have B11 := (Below.refl w1.heap.size w1).alloc (Nat.le_refl _) (.cells #[.slice AX 3 cX, .slice AF 3 cF, .int .i64 (ways : Int)] 58)
  have B12 := B11.alloc (by simp) (.cells #[.int .i64 0, .int .i64 0, .int .i64 0] 52)
  have B13 := B12.trans (B2.mono B12.size)
  have hr : w2.heap[w1.heap.size]? = some (.cells #[.slice AX 3 cX, .slice AF 3 cF, .int .i64 (ways : Int)] 58) := (B2.block _ (by simp; omega)).trans (heap_over rfl)
  have q0 : ∀ o, (w2.alloc o).cell? ⟨w1.heap.size, 0, none⟩ = some (.slice AX 3 cX) := fun o => cell_later ((Below.refl _ _).alloc (Nat.le_refl _) _) (Cl.of_block hr (j := 0) rfl).cell
  have q1 : w2.cell? ⟨w1.heap.size, 1, none⟩ = some (.slice AF 3 cF) := (Cl.of_block hr (j := 1) rfl).cell
  have HR := Lib.hid hr
  have HB2 := Lib.hid (below_then HB1.out HB1.out.size B13)
  have HIX2 := Lib.hid (HIX.out.later B13)
  have HA2 := Lib.hid (HA1.out.later B13)
  clear B11 B12 B13 B2 HB1 HIX HA1 hr
  go_wp2_with fail
  refine (equalI_any (xs := [0, 1, 2]) (ys := [0, 1, 2]) ?a1 ?a2 (by decide)).mono ?_
  case a1 => exact HIX2.out.later (((Below.refl _ _).alloc (Nat.le_refl _) _).alloc (by simp) _)
  case a2 => exact Ints.lit (heap_at (by simp)) rfl rfl (by decide)
  rintro e w3 ⟨rfl, B3⟩
  have B30 := ((Below.refl w2.heap.size w2).alloc (Nat.le_refl _) (.cells #[.slice none 0 0, .slice none 0 0, .int .i64 0] 58)).alloc (by simp) (.cells #[.int .i64 0, .int .i64 1, .int .i64 2] 3)
  have B31 := B30.trans (B3.mono B30.size)
  have q1 : w3.cell? ⟨w1.heap.size, 1, none⟩ = some (.slice AF 3 cF) := cell_later B31 q1
  have HB3 := Lib.hid (below_then HB2.out HB2.out.size B31)
  have HA3 := Lib.hid (HA2.out.later B31)
  clear B30 B31 B3 HB2 HA2 HIX2
  rw [show decide ([0, 1, 2] = ([0, 1, 2] : List Int)) = true by decide]
  go_wp2_with fail
  refine (supply_any (L := wkL) 3 HA3.out wk_ok (by rw [show ordE ((3 : Nat) : Int) wkL = 0 from wk_ord]; decide)).mono ?_
  rintro e w4 ⟨b4, rfl, hb4, R4, B4⟩
  have I4 := Ints.of_row (Nat.le_refl 3) R4
  rw [wk_sup] at I4
  have HI4 := Lib.hid I4
  have HB4 := Lib.hid (below_then HB3.out HB3.out.size B4)
  clear R4 B4 HB3 HA3 I4
  go_wp2_with fail
  refine (equalI_any (xs := [5, -2, -3]) (ys := [5, -2, -3]) ?a1 ?a2 (by decide)).mono ?_
  case a1 => exact HI4.out.later ((Below.refl _ _).alloc (Nat.le_refl _) _)
  case a2 => exact Ints.lit (heap_at rfl) rfl rfl (by decide)
  rintro e w5 ⟨rfl, B5⟩
  have HB5 := Lib.hid (below_then HB4.out HB4.out.size (((Below.refl w4.heap.size w4).alloc (Nat.le_refl _) _).trans (B5.mono (by simp))))
  clear B5 HB4 HI4
  rw [show decide ([5, -2, -3] = ([5, -2, -3] : List Int)) = true by decide]
  go_wp2_with fail
  go_ret
  exact ⟨rfl, HB5.out⟩
end Go.Proofs.Ytimffpnfhkobkaa
/- The document's own ranks. -/
namespace Go.Proofs.Ytimffpnfhkobkaa
open Go.RowKit
def disS (z : Int) (l : List Int) (x : Int) : List Int := if z ≤ x ∨ x ∈ l then l else l ++ [x]
def dis (z : Int) (zs : List Int) : List Int := zs.foldl (disS z) []
theorem dis_take {z : Int} {zs : List Int} {k : Nat} {x : Int} (h : zs[k]? = some x) : dis z (zs.take (k + 1)) = disS z (dis z (zs.take k)) x := by
  obtain ⟨h1, h2⟩ := List.getElem?_eq_some_iff.1 h
  rw [List.take_succ_eq_append_getElem h1, h2]
  simp [dis, List.foldl_append]
theorem dis_fold (z : Int) : ∀ (zs acc : List Int), (acc.Nodup → (zs.foldl (disS z) acc).Nodup) ∧ (∀ x, x ∈ zs.foldl (disS z) acc ↔ x ∈ acc ∨ (x ∈ zs ∧ x < z)) ∧ (zs.foldl (disS z) acc).length ≤ acc.length + zs.length
  | [], acc => by simp
  | y :: zs, acc => by
    obtain ⟨h1, h2, h3⟩ := dis_fold z zs (disS z acc y)
    simp only [List.foldl_cons]
    by_cases h : z ≤ y ∨ y ∈ acc
    · have e : disS z acc y = acc := if_pos h
      rw [e] at h1 h2 h3 ⊢
      refine ⟨h1, fun x => ?_, by simp only [List.length_cons]; omega⟩
      rw [h2]
      constructor
      · rintro (h' | h')
        · exact .inl h'
        · exact .inr ⟨by simp [h'.1], h'.2⟩
      · rintro (h' | ⟨h', h''⟩)
        · exact .inl h'
        · rcases List.mem_cons.1 h' with rfl | h'
          · rcases h with h | h
            · omega
            · exact .inl h
          · exact .inr ⟨h', h''⟩
    · have e : disS z acc y = acc ++ [y] := if_neg h
      rw [e] at h1 h2 h3 ⊢
      have hy : y < z ∧ y ∉ acc := ⟨by have := fun q => h (.inl q); omega, fun q => h (.inr q)⟩
      refine ⟨fun hn => h1 ?_, fun x => ?_, by simp only [List.length_append, List.length_cons, List.length_nil] at *; omega⟩
      · rw [List.nodup_append]
        refine ⟨hn, by simp, fun a ha b hb => ?_⟩
        have : b = y := by simpa using hb
        subst this
        rintro rfl
        exact hy.2 ha
      · rw [h2, List.mem_append]
        constructor
        · rintro ((h' | h') | h')
          · exact .inl h'
          · have : x = y := by simpa using h'
            subst this
            exact .inr ⟨by simp, hy.1⟩
          · exact .inr ⟨by simp [h'.1], h'.2⟩
        · rintro (h' | ⟨h', h''⟩)
          · exact .inl (.inl h')
          · rcases List.mem_cons.1 h' with rfl | h'
            · exact .inl (.inr (by simp))
            · exact .inr ⟨h', h''⟩
theorem dis_rk (z : Int) (zs : List Int) : rkOf zs z = ((dis z zs).length : Nat) := by
  obtain ⟨h1, h2, _⟩ := dis_fold z zs []
  refine rk_unique (h1 List.nodup_nil) (fun x => ?_)
  show x ∈ List.foldl (disS z) [] zs ↔ _
  rw [h2]
  simp
theorem dis_len (z : Int) (zs : List Int) : (dis z zs).length ≤ zs.length := by
  have h : (List.foldl (disS z) [] zs).length ≤ ([] : List Int).length + zs.length := (dis_fold z zs []).2.2
  have e : dis z zs = List.foldl (disS z) [] zs := rfl
  rw [e]
  simp only [List.length_nil] at h
  omega
theorem map_take {f : Int → Int} {zs : List Int} {k : Nat} {x : Int} (h : zs[k]? = some x) : (zs.take (k + 1)).map f = (zs.take k).map f ++ [f x] := by
  obtain ⟨h1, h2⟩ := List.getElem?_eq_some_iff.1 h
  rw [List.take_succ_eq_append_getElem h1, h2, List.map_append]
  rfl
theorem mem_take_succ {D : List Int} {j : Nat} {y x : Int} (h : D[j]? = some y) : x ∈ D.take (j + 1) ↔ x ∈ D.take j ∨ x = y := by
  obtain ⟨h1, h2⟩ := List.getElem?_eq_some_iff.1 h
  rw [List.take_succ_eq_append_getElem h1, h2, List.mem_append]
  simp
set_option maxRecDepth 100000 in
set_option maxHeartbeats 4000000 in
theorem refRanks_any {w : World} {V : Value} {zs : List Int} (h : Ints w V zs) (hl : zs.length ≤ 1000000) :
    Calls Try.prog 26 #[V] w fun e w' => ∃ V', e = .returned V' ∧ Ints w' V' (zs.map (rkOf zs)) ∧ Below w.heap.size w w' := by
  obtain ⟨A, cap, rfl, -, -, hA⟩ := h.at_
  have HA := Lib.hid hA
  clear h hA
  obtain ⟨i0, hi0, hz0, hz1, hz2⟩ := info_parts infoInt
  go_enter Try.func26, Try.ntmps26
  go_wp2_with fail
  go_loopw [3, 4] (fun Vo q wr => ∃ i : Nat, i ≤ zs.length ∧ q = .int .i64 i ∧ wr.ownsRow w.heap.size 3 1 Vo i (flat encI ((zs.take i).map (rkOf zs))) ∧ Below w.heap.size w wr) (fun _ q _ => zs.length - (intOf q).toNat)
  case atStart => exact ⟨0, by omega, rfl, World.ownsRow_nil _ _ _ _, Below.refl _ _⟩
  case round => as_aux_lemma =>
    obtain ⟨i, hi, rfl, R, B⟩ := hrel
    obtain ⟨Vo, rfl⟩ : ∃ x : Value, x = u3 := ⟨_, rfl⟩
    obtain ⟨wo, rfl⟩ : ∃ x : World, x = wr := ⟨_, rfl⟩
    obtain ⟨AO, cO, rfl, -⟩ := own_shape R
    have HR := Lib.hid R
    have HB := Lib.hid B
    have hwo := B.size
    clear R B
    by_cases hil : i < zs.length
    · have hd1 : decide ((i : Int) < zs.length) = true := by simp; omega
      obtain ⟨b, off, rfl, hc⟩ := HA.out (by omega)
      obtain ⟨z, hz⟩ : ∃ z, zs[i]? = some z := ⟨_, List.getElem?_eq_getElem hil⟩
      have HC := Lib.hid hc
      have HZ := Lib.hid (cell_later HB.out (hc i z hz))
      have HStep := Lib.hid (map_take (f := rkOf zs) hz)
      clear hc hz
      go_wp2_with fail
      go_loopw [5, 6] (fun Vl q wk => ∃ k : Nat, k ≤ zs.length ∧ q = .int .i64 k ∧ wk.ownsRow wo.heap.size 3 1 Vl (dis z (zs.take k)).length (flat encI (dis z (zs.take k))) ∧ Below wo.heap.size wo wk) (fun _ q _ => zs.length - (intOf q).toNat)
      case atStart => exact ⟨0, by omega, rfl, World.ownsRow_nil _ _ _ _, Below.refl _ _⟩
      case round => as_aux_lemma =>
        obtain ⟨k, hk, rfl, R, B⟩ := hrel
        obtain ⟨Vl, rfl⟩ : ∃ x : Value, x = u5 := ⟨_, rfl⟩
        obtain ⟨wk, rfl⟩ : ∃ x : World, x = wr := ⟨_, rfl⟩
        obtain ⟨D, hD⟩ : ∃ D, dis z (zs.take k) = D := ⟨_, rfl⟩
        have hDl : D.length ≤ zs.length := by rw [← hD]; have := dis_len z (zs.take k); rw [List.length_take] at this; omega
        have HD := Lib.hid hD
        rw [hD] at R
        clear hD
        obtain ⟨AV, cV, rfl, -⟩ := own_shape R
        have HRl := Lib.hid R
        have HBk := Lib.hid B
        have hwk := B.size
        clear R B
        by_cases hkl : k < zs.length
        · have hd2 : decide ((k : Int) < zs.length) = true := by simp; omega
          obtain ⟨x, hx⟩ : ∃ x, zs[k]? = some x := ⟨_, List.getElem?_eq_getElem hkl⟩
          have c0 := cell_later HBk.out (cell_later HB.out (HC.out k x hx))
          have c1 := cell_later HBk.out HZ.out
          have HDS := Lib.hid (dis_take (z := z) hx)
          have k1 : (0 : Int) ≤ (k : Int) := by omega
          have k2 : (k : Int) < (zs.length : Int) := by omega
          have k3 : (0 : Int) ≤ (i : Int) := by omega
          have k4 : (i : Int) < (zs.length : Int) := by omega
          clear hx
          obtain ⟨ge, hge⟩ : ∃ ge, decide (z ≤ x) = ge := ⟨_, rfl⟩
          go_wp2_with fail
          go_quiet (fail)
          go_wp2_with fail
          have HGE := Lib.hid hge
          clear hge
          obtain ⟨wx, hwx⟩ : ∃ wx, wk.drewN nq = wx := ⟨_, rfl⟩
          have HBx : Hid (Below wk.heap.size wk wx) := Lib.hid (by rw [← hwx]; exact below_drewN (Below.refl _ _) nq)
          have HRx := Lib.hid (own_later HRl.out HBx.out)
          have HBo := Lib.hid (below_then HBk.out hwk HBx.out)
          have c0x := cell_later HBx.out c0
          have hwx2 := HBo.out.size
          rw [hwx]
          clear hwx HRl HBk c0 c1
          have HIx := Lib.hid (Sl.of_own encI_length HRx.out : Ints wx (.slice AV D.length cV) D)
          obtain ⟨_, _, e, -, -, hDc⟩ := Ints.at_ HIx.out
          cases e
          have HDC := Lib.hid hDc
          clear hDc
          go_loopw [7, 8] (fun m q wj => ∃ (j : Nat) (mb : Bool), j ≤ D.length ∧ q = .int .i64 j ∧ m = .bool mb ∧ Hid (mb = decide (z ≤ x ∨ x ∈ D.take j)) ∧ Below wx.heap.size wx wj) (fun _ q _ => D.length - (intOf q).toNat)
          case atStart => exact ⟨0, ge, by omega, rfl, rfl, Lib.hid (by rw [← HGE.out]; simp), Below.refl _ _⟩
          case round => as_aux_lemma =>
            obtain ⟨j, mb, hj, rfl, rfl, hm, B⟩ := hrel
            obtain ⟨wj, rfl⟩ : ∃ x : World, x = wr := ⟨_, rfl⟩
            have HBj := Lib.hid B
            have hwj := B.size
            have cxj := cell_later B c0x
            have HRj := Lib.hid (own_later HRx.out B)
            have HBoj := Lib.hid (below_then HBo.out hwx2 B)
            clear B c0x
            by_cases hjl : j < D.length
            · have hd3 : decide ((j : Int) < D.length) = true := by simp; omega
              cases mb
              · obtain ⟨g, o2, rfl, hDc⟩ := HDC.out (by omega)
                obtain ⟨y, hy⟩ : ∃ y, D[j]? = some y := ⟨_, List.getElem?_eq_getElem hjl⟩
                have cy := cell_later HBj.out (hDc j y hy)
                have HY := Lib.hid (mem_take_succ (x := x) hy)
                have j1 : (0 : Int) ≤ (j : Int) := by omega
                have j2 : (j : Int) < (D.length : Int) := by omega
                clear hDc hy
                obtain ⟨q, hq⟩ : ∃ q, (y == x) = q := ⟨_, rfl⟩
                go_wp2_with fail
                go_quiet (fail)
                go_wp2_with fail
                refine ⟨⟨j + 1, q, by omega, by go_num, rfl, Lib.hid ?_, below_drewN HBj.out _⟩, by simp [intOf]; omega⟩
                have h1 : ¬ (z ≤ x ∨ x ∈ D.take j) := by have := hm.out; simpa using this.symm
                rw [← hq, Bool.eq_iff_iff]
                simp only [beq_iff_eq, decide_eq_true_eq]
                constructor
                · rintro rfl
                  exact .inr (HY.out.2 (.inr rfl))
                · rintro (h2 | h2)
                  · exact absurd (.inl h2) h1
                  · rcases HY.out.1 h2 with h2 | h2
                    · exact absurd (.inr h2) h1
                    · exact h2.symm
              · have hin : z ≤ x ∨ x ∈ D := by
                  have : z ≤ x ∨ x ∈ D.take j := by simpa using hm.out.symm
                  rcases this with h | h
                  · exact .inl h
                  · exact .inr (List.mem_of_mem_take h)
                have HEQ : Hid (dis z (zs.take (k + 1)) = D) := Lib.hid (by rw [HDS.out, HD.out]; exact if_pos hin)
                go_wp2_with fail
                refine ⟨⟨k + 1, by omega, by go_num, ?_, HBoj.out⟩, by simp [intOf]; omega⟩
                rw [HEQ.out]
                exact HRj.out
            · obtain rfl : j = D.length := by omega
              have hd3 : decide ((D.length : Int) < D.length) = false := by simp
              rw [List.take_of_length_le (Nat.le_refl _)] at hm
              cases mb
              · have hnin : ¬ (z ≤ x ∨ x ∈ D) := by simpa using hm.out.symm
                have HEQ : Hid (dis z (zs.take (k + 1)) = D ++ [x]) := Lib.hid (by rw [HDS.out, HD.out]; exact if_neg hnin)
                clear hnin
                go_wp2_with (refine wpList_append_lies _ rfl (.tmp 51) (.tmp 56) 26 rfl wo.heap.size 3 i0 (.int .i64 0) 1 8 Try.underlying26 hi0 hz0 hz1 hz2 rfl (by decide) (.slice AV D.length cV) D.length (flat encI D) rfl (own_later HRj.out ((Below.refl _ _).alloc (Nat.le_refl _) _)) ⟨wj.heap.size, 0, none⟩ 1 1 (encI x) rfl rfl (World.news_of_block (heap_at rfl)) (by intro u hu; simp [encI] at hu; subst hu; rfl) (by omega) (by simp only [maxLen]; omega) (by omega) (by simp; omega) _ rfl ?_; intro g cq w3 hown hgrow hat hlt)
                have HB4 := (HBoj.out.alloc (by omega) (.cells (encI x).toArray 3)).grown hgrow (by simp; omega) (fun q hq => own_ge HRj.out hq)
                refine ⟨⟨k + 1, by omega, by go_num, ?_, HB4⟩, by simp [intOf]; omega⟩
                rw [HEQ.out, flat_append, List.length_append]
                simpa [flat] using hown
              · have hin : z ≤ x ∨ x ∈ D := by simpa using hm.out.symm
                have HEQ : Hid (dis z (zs.take (k + 1)) = D) := Lib.hid (by rw [HDS.out, HD.out]; exact if_pos hin)
                go_wp2_with fail
                refine ⟨⟨k + 1, by omega, by go_num, ?_, HBoj.out⟩, by simp [intOf]; omega⟩
                rw [HEQ.out]
                exact HRj.out
        · obtain rfl : k = zs.length := by omega
          have hd2 : decide ((zs.length : Int) < zs.length) = false := by simp
          have HE := Lib.hid (dis_rk z zs)
          rw [List.take_of_length_le (Nat.le_refl _)] at HD
          have HR2 := Lib.hid (own_later HR.out HBk.out)
          go_wp2_with (refine wpList_append_lies _ rfl (.tmp 58) (.tmp 61) 26 rfl w.heap.size 3 i0 (.int .i64 0) 1 8 Try.underlying26 hi0 hz0 hz1 hz2 rfl (by decide) (.slice AO i cO) i (flat encI ((zs.take i).map (rkOf zs))) rfl (own_later HR2.out ((Below.refl _ _).alloc (Nat.le_refl _) _)) ⟨wk.heap.size, 0, none⟩ 1 1 (encI (D.length : Int)) rfl rfl (World.news_of_block (heap_at rfl)) (by intro u hu; simp [encI] at hu; subst hu; rfl) (by omega) (by simp only [maxLen]; omega) (by omega) (by simp; omega) _ rfl ?_; intro g cq w3 hown hgrow hat hlt)
          have HB4 := ((HB.out.trans (HBk.out.mono hwo)).alloc (by omega) (.cells (encI (D.length : Int)).toArray 3)).grown hgrow (by simp; omega) (fun q hq => own_ge HR2.out hq)
          refine ⟨⟨i + 1, by omega, by go_num, ?_, HB4⟩, by simp [intOf]; omega⟩
          rw [HStep.out, HE.out, HD.out, flat_append]
          simpa [flat] using hown
    · obtain rfl : i = zs.length := by omega
      have hd1 : decide ((zs.length : Int) < zs.length) = false := by simp
      have R := HR.out
      rw [List.take_of_length_le (Nat.le_refl _)] at R
      have HI := Lib.hid (Sl.of_own encI_length (by rw [List.length_map]; exact R) : Ints wo (.slice AO zs.length cO) (zs.map (rkOf zs)))
      clear R
      go_wp2_with fail
      go_ret
      exact ⟨_, rfl, HI.out, HB.out⟩
end Go.Proofs.Ytimffpnfhkobkaa
/- The flow laws' right: true of what Solve tells of a dag. -/
namespace Go.Proofs.Ytimffpnfhkobkaa
open Go.RowKit
section
variable {w : World} {V : Value} {L : List Arc}
set_option maxRecDepth 100000 in
set_option maxHeartbeats 1000000 in
theorem lawRight_any {xs fs : List Int} {ways n : Nat} {AX AF : Option Addr} {cX cF : Nat} (h : Arcs w V L) (k : Okg n L) (S : Sol n L xs fs ways) (IX : Ints w (.slice AX n cX) xs) (IF : Ints w (.slice AF L.length cF) fs) :
    Calls Try.prog 31 #[.int .i64 (n : Int), V, .agg #[.slice AX n cX, .slice AF L.length cF, .int .i64 (ways : Int)]] w fun e w' => e = .returned (.bool true) ∧ Below w.heap.size w w' := by
  have hn0 := k.n0
  have hn1 := k.n1
  have hm1 := k.m1
  have HK := Lib.hid k
  have HH := Lib.hid h
  have HS := Lib.hid S
  have HX := Lib.hid IX
  have HF := Lib.hid IF
  have hAX : 0 < xs.length → ∃ b off, AX = some ⟨b, off, none⟩ ∧ ∀ i x, xs[i]? = some x → w.cell? ⟨b, off + i, none⟩ = some (.int .i64 x) := by
    obtain ⟨A', c', e, -, -, hA⟩ := IX.at_
    injection e with e1 e2 e3
    subst e1
    exact hA
  have hAF : 0 < fs.length → ∃ b off, AF = some ⟨b, off, none⟩ ∧ ∀ i x, fs[i]? = some x → w.cell? ⟨b, off + i, none⟩ = some (.int .i64 x) := by
    obtain ⟨A', c', e, -, -, hA⟩ := IF.at_
    injection e with e1 e2 e3
    subst e1
    exact hA
  have HAX := Lib.hid hAX
  have HAF := Lib.hid hAF
  clear hAX hAF
  obtain ⟨A, cap, rfl, -, -, hA⟩ := h.at_
  have HA := Lib.hid hA
  clear h hA k S IX IF
  obtain ⟨wA, hwA⟩ : ∃ wA, w.alloc (.cells #[.slice AX n cX, .slice AF L.length cF, .int .i64 (ways : Int)] 58) = wA := ⟨_, rfl⟩
  have BA : Below w.heap.size w wA := by rw [← hwA]; exact (Below.refl _ _).alloc (Nat.le_refl _) _
  have hG : wA.heap[w.heap.size]? = some (.cells #[.slice AX n cX, .slice AF L.length cF, .int .i64 (ways : Int)] 58) := by rw [← hwA]; exact heap_at rfl
  have BD : Below wA.heap.size wA wA.drew := (Below.refl _ _).drew
  have q0 : wA.drew.cell? ⟨w.heap.size, 0, none⟩ = some (.slice AX n cX) := cell_later BD (Cl.of_block hG (j := 0) rfl).cell
  have q1 : wA.drew.cell? ⟨w.heap.size, 1, none⟩ = some (.slice AF L.length cF) := cell_later BD (Cl.of_block hG (j := 1) rfl).cell
  have HG := Lib.hid hG
  have HD := Lib.hid (BA.trans (BD.mono BA.size))
  have hne : ((n : Int) != n) = false := by simp
  have HHD := Lib.hid (HH.out.later HD.out)
  have HXD := Lib.hid (HX.out.later HD.out)
  have HFD := Lib.hid (HF.out.later HD.out)
  have hfl : fs.length = L.length := HS.out.lf
  have HUB : Hid (∀ y ∈ fs, y ≤ 2000000000000) := Lib.hid (fun y hy => by
    obtain ⟨i, hi⟩ := List.getElem?_of_mem hy
    have h1 := (HS.out.nn i (by rw [← HS.out.lf]; exact (List.getElem?_eq_some_iff.1 hi).1)).2
    unfold ff at h1
    rw [hi] at h1
    simp at h1
    omega)
  have HSX : Hid (xs.length = n) := Lib.hid HS.out.lx
  clear BA hG
  clear BD
  go_enter Try.func31, Try.ntmps31
  go_upto_region 1 with fail
  clear hwA
  go_cut [37] (fun p wx => p = .bool false ∧ Below wA.drew.heap.size wA.drew wx)
  case first =>
   go_region_law (first
    | (go_simp; go_at_call 23; refine (fit_any HHD.out HXD.out (by rw [HSX.out]; exact HK.out.inX) (by omega) (by rw [HSX.out]; omega)).mono ?_; rw [HS.out.fit]; rintro e w1 ⟨rfl, B1⟩; have q2 := cell_later B1 q0; have q3 := cell_later B1 q1; have HXB := Lib.hid (HXD.out.later B1); have HB1 := Lib.hid B1; clear B1)
    | (go_simp; go_at_call 26; refine (refRanks_any HXB.out (by rw [HSX.out]; omega)).mono ?_; rw [HS.out.ag]; rintro e w2 ⟨V2, rfl, I2, B2⟩; have q4 := cell_later B2 q2; have q5 := cell_later B2 q3; have HXC := Lib.hid (HXB.out.later B2); have HI2 := Lib.hid I2; have HB2 := Lib.hid (below_then HB1.out HB1.out.size B2); clear B2 I2)
    | (go_simp; go_at_call 16; refine (equalI_any HI2.out HXC.out (by rw [HSX.out]; omega)).mono ?_; rw [show decide (xs = xs) = true by simp]; rintro e w3 ⟨rfl, B3⟩; have q6 := cell_later B3 q4; have q7 := cell_later B3 q5; have HB3 := Lib.hid (below_then HB2.out HB2.out.size B3); clear B3)
    | (go_simp; go_at_call 29; refine (flowRight_any n (HHD.out.later HB3.out) (HFD.out.later HB3.out) HK.out HUB.out (by omega)).mono ?_; rw [HS.out.right]; rintro e w4 ⟨rfl, B4⟩; have q8 := cell_later B4 q6; have q9 := cell_later B4 q7; have HB4 := Lib.hid (below_then HB3.out HB3.out.size B4); clear B4))
   all_goals
    go_wp2_with fail
    go_meet
    exact ⟨rfl, HB4.out⟩
  obtain ⟨rfl, B4⟩ := hcut
  obtain ⟨w4, rfl⟩ : ∃ q : World, q = wc := ⟨_, rfl⟩
  have HB4 := Lib.hid B4
  have hw4 := B4.size
  clear B4
  have HW4 := Lib.hid (below_then HD.out HD.out.size HB4.out)
  have hG4 : w4.heap[w.heap.size]? = some (.cells #[.slice AX n cX, .slice AF L.length cF, .int .i64 (ways : Int)] 58) := (HB4.out.block _ (World.block_lt_of_cell? _ _ q0)).trans HG.out
  have HG4 := Lib.hid hG4
  have hlt4 : w.heap.size < w4.heap.size := (Array.getElem?_eq_some_iff.1 hG4).1
  have HH4 := Lib.hid (HHD.out.later HB4.out)
  clear q0 q1 hG4
  go_wp2_with fail
  go_loopw [40] (fun q wr => ∃ i : Nat, i ≤ L.length ∧ q = .int .i64 i ∧ Below w4.heap.size w4 wr) (fun q _ => L.length - (intOf q).toNat)
  case atStart => exact ⟨0, by omega, rfl, Below.refl _ _⟩
  case round =>
    obtain ⟨i, hi, rfl, B⟩ := hrel
    obtain ⟨wo, rfl⟩ : ∃ q : World, q = wr := ⟨_, rfl⟩
    have HB := Lib.hid B
    have hwo := B.size
    clear B
    by_cases hil : i < L.length
    · have hd : decide ((i : Int) < L.length) = true := by simp; omega
      obtain ⟨ba, off, rfl, hc⟩ := HA.out (by omega)
      obtain ⟨bf, offf, rfl, hcf⟩ := HAF.out (by omega)
      obtain ⟨bx, offx, rfl, hcx⟩ := HAX.out (by have := HSX.out; omega)
      obtain ⟨hat, hf, ht, -, -⟩ := HK.out.at_ hil
      obtain ⟨c0, c1, c2⟩ := hc i _ hat
      have c0 := cell_later HB.out (cell_later HW4.out c0)
      have c1 := cell_later HB.out (cell_later HW4.out c1)
      have c2 := cell_later HB.out (cell_later HW4.out c2)
      have hif : i < fs.length := by omega
      have hfx : frL L i < xs.length := by have := HSX.out; omega
      have htx : ttL L i < xs.length := by have := HSX.out; omega
      have hti := HS.out.tight i hil
      have efi : ff fs i = fs[i] := by unfold ff; simp [hif]
      have eft : at_ xs (ttL L i : Int) = xs[ttL L i] := by unfold at_; simp [htx]
      have eff : at_ xs (frL L i : Int) = xs[frL L i] := by unfold at_; simp [hfx]
      rw [efi, eft, eff] at hti
      have z1 := HS.out.lo xs[ttL L i] (List.getElem_mem htx)
      have z2 := HS.out.lo xs[frL L i] (List.getElem_mem hfx)
      have k0 := hcf i _ (List.getElem?_eq_getElem hif)
      have k1 := hcx _ _ (List.getElem?_eq_getElem htx)
      have k2 := hcx _ _ (List.getElem?_eq_getElem hfx)
      have i1 : (0 : Int) ≤ (i : Int) := by omega
      have i2 : (i : Int) < (L.length : Int) := by omega
      clear hc hcf hcx hat efi eft eff
      generalize xs[ttL L i] = xt at *
      generalize xs[frL L i] = xf at *
      generalize fs[i] = y at *
      generalize frL L i = f at *
      generalize ttL L i = t at *
      generalize wtL L i = x at *
      clear hif hfx htx
      simp only at c0 c1 c2
      have i3 : (0 : Int) ≤ (f : Int) := by omega
      have i4 : (f : Int) < (n : Int) := by omega
      have i5 : (0 : Int) ≤ (t : Int) := by omega
      have i6 : (t : Int) < (n : Int) := by omega
      obtain ⟨wA, hwA⟩ : ∃ wA, wo.alloc (.cells #[.int .i64 (f : Nat), .int .i64 (t : Nat), .int .i64 x] 52) = wA := ⟨_, rfl⟩
      have BA : Below wo.heap.size wo wA := by rw [← hwA]; exact (Below.refl _ _).alloc (Nat.le_refl _) _
      have hGA : wA.heap[wo.heap.size]? = some (.cells #[.int .i64 (f : Nat), .int .i64 (t : Nat), .int .i64 x] 52) := by rw [← hwA]; exact heap_at rfl
      have g0 : wA.cell? ⟨wo.heap.size, 0, none⟩ = some (.int .i64 (f : Nat)) := (Cl.of_block hGA (j := 0) rfl).cell
      have g1 : wA.cell? ⟨wo.heap.size, 1, none⟩ = some (.int .i64 (t : Nat)) := (Cl.of_block hGA (j := 1) rfl).cell
      have BW := HB.out.trans (BA.mono hwo)
      have hGB := (BW.block _ hlt4).trans HG4.out
      have p0 : wA.cell? ⟨w.heap.size, 0, none⟩ = some (.slice (some ⟨bx, offx, none⟩) n cX) := (Cl.of_block hGB (j := 0) rfl).cell
      have p1 : wA.cell? ⟨w.heap.size, 1, none⟩ = some (.slice (some ⟨bf, offf, none⟩) L.length cF) := (Cl.of_block hGB (j := 1) rfl).cell
      have BX := below_then HW4.out HW4.out.size BW
      have k0 := cell_later BX k0
      have k1 := cell_later BX k1
      have k2 := cell_later BX k2
      have HBW := Lib.hid BW
      clear BA hGA hGB BW BX
      have e1 : IntKind.i64.wrap (xt - xf) = xt - xf := IntWalk.i64_in _ (by omega)
      by_cases hy : 0 < y
      · have hdy : decide (0 < y) = true := by simp; omega
        have he : xt - xf = 1 := hti hy
        have he2 : (xt - xf != 1) = false := by simp [he]
        clear he hti
        go_upto_region 6 with fail
        clear hwA c0 c1 c2
        go_quiet (fail)
        clear g0 g1 p0 p1 k0 k1 k2
        go_wp2_with fail
        exact ⟨⟨i + 1, by omega, by go_num, below_drewN HBW.out _⟩, by simp [intOf]; omega⟩
      · have hdy : decide (0 < y) = false := by simp; omega
        clear hti
        go_upto_region 6 with fail
        clear hwA c0 c1 c2
        go_quiet (fail)
        clear g0 g1 p0 p1 k0 k1 k2
        go_wp2_with fail
        exact ⟨⟨i + 1, by omega, by go_num, below_drewN HBW.out _⟩, by simp [intOf]; omega⟩
    · obtain rfl : i = L.length := by omega
      have hd : decide ((L.length : Int) < L.length) = false := by simp
      have hGB := (HB.out.block _ hlt4).trans HG4.out
      have BD : Below wo.heap.size wo wo.drew := (Below.refl _ _).drew
      have p2 : wo.drew.cell? ⟨w.heap.size, 2, none⟩ = some (.int .i64 (ways : Int)) := cell_later BD (Cl.of_block hGB (j := 2) rfl).cell
      have hw0 : decide ((0 : Int) ≤ ways) = true := by simp
      have HBD := Lib.hid (below_then HB.out hwo BD)
      have HHO := Lib.hid (HH4.out.later HBD.out)
      obtain ⟨TT, hT⟩ : ∃ TT, spN (fun v => nf (gfL n L) (wtL L) v L.length) n = TT := ⟨_, rfl⟩
      have hle : decide ((ways : Int) ≤ TT) = true := by rw [← hT]; simpa using HS.out.ways
      have HT := Lib.hid hT
      clear hGB BD hT
      go_wp2_with fail
      go_region_law (go_simp; go_at_call 49; refine (total_any n HHO.out HK.out).mono ?_; rw [HT.out]; rintro e w5 ⟨rfl, B5⟩; have p3 := cell_later B5 p2; have HB5 := Lib.hid (below_then HBD.out HBD.out.size B5); clear B5)
      all_goals
        go_wp2_with fail
        go_ret
        exact ⟨rfl, below_then HW4.out HW4.out.size HB5.out⟩
end
end Go.Proofs.Ytimffpnfhkobkaa
