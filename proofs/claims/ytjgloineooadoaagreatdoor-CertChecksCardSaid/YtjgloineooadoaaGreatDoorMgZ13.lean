/- The reference's right, total and sum. -/
import Derived.Test.YtjgloineooadoaaGreatDoorMgZ12
import Derived.Test.YtjgloineooadoaaGreatDoorMgZ8
import Derived.Test.YtjgloineooadoaaGreatDoorMgZ2
import Derived.Test.YtjgloineooadoaaGreatDoorMgZ9
import Derived.Test.YtjgloineooadoaaGreatDoorMgZ10
namespace Go.Proofs.YtjgloineooadoaaGreatDoor
open Go.RowKit
/-- Is a flow? -/
def rightF (n : Nat) (L : List Arc) (fs : List Int) : Bool := decide (fs.length = L.length) && (fs.all (fun y => decide (0 ≤ y)) && (List.range n).all (fun v => decide (nf (gfL n L) (wtL L) v L.length - nf (gfL n L) (ff fs) v L.length = 0)))
theorem ff_nn {fs : List Int} (h : fs.all (fun y => decide (0 ≤ y)) = true) (i : Nat) : 0 ≤ ff fs i := by
  unfold ff
  cases e : fs[i]? with
  | none => simp
  | some y =>
    have := List.all_eq_true.1 h y (List.mem_of_getElem? e)
    simpa using this
theorem rightF_iff {n : Nat} {L : List Arc} {fs : List Int} : rightF n L fs = true ↔ fs.length = L.length ∧ (∀ i, i < L.length → 0 ≤ ff fs i) ∧ ∀ u, u < n → nf (gfL n L) (wtL L) u L.length = nf (gfL n L) (ff fs) u L.length := by
  unfold rightF
  simp only [Bool.and_eq_true, decide_eq_true_eq]
  constructor
  · rintro ⟨h1, h2, h3⟩
    refine ⟨h1, fun i _ => ff_nn h2 i, fun u hu => ?_⟩
    have := List.all_eq_true.1 h3 u (List.mem_range.2 hu)
    simp only [decide_eq_true_eq] at this
    omega
  · rintro ⟨h1, h2, h3⟩
    refine ⟨h1, List.all_eq_true.2 (fun y hy => ?_), List.all_eq_true.2 (fun u hu => ?_)⟩
    · obtain ⟨i, hi⟩ := List.getElem?_of_mem hy
      have := h2 i (by rw [← h1]; exact (List.getElem?_eq_some_iff.1 hi).1)
      unfold ff at this
      rw [hi] at this
      simpa using this
    · have := h3 u (List.mem_range.1 hu)
      simp only [decide_eq_true_eq]
      omega
theorem Sol.right {n : Nat} {L : List Arc} {xs fs : List Int} {ways : Nat} (h : Sol n L xs fs ways) : rightF n L fs = true := rightF_iff.2 ⟨h.lf, fun i hi => (h.nn i hi).1, h.bal⟩
section
variable {w : World} {V Vf : Value} {L : List Arc} {fs : List Int}
set_option maxRecDepth 100000 in
set_option maxHeartbeats 2000000 in
theorem flowRight_any (n : Nat) (h : Arcs w V L) (hfs : Ints w Vf fs) (k : Okg n L) (hub : ∀ y ∈ fs, y ≤ 2000000000000) (hfl : fs.length ≤ 1000000000000000) :
    Calls Tryz.prog 32 #[.int .i64 (n : Int), V, Vf] w fun e w' => e = .returned (.bool (rightF n L fs)) ∧ Below w.heap.size w w' := by
  have hn0 := k.n0
  have hn1 := k.n1
  have hm1 := k.m1
  have HK := Lib.hid k
  have HH := Lib.hid h
  have HUB := Lib.hid hub
  obtain ⟨A, cap, rfl, -, -, hA⟩ := h.at_
  obtain ⟨AF, capF, rfl, -, -, hAF⟩ := hfs.at_
  have HA := Lib.hid hA
  have HAF := Lib.hid hAF
  clear h hA k hfs hAF hub
  by_cases hlen : fs.length = L.length
  · have hne : ((fs.length : Int) != (L.length : Int)) = false := by simp [hlen]
    have HL := Lib.hid hlen
    clear hlen
    go_enter Tryz.func32, Tryz.ntmps32
    go_wp2_with fail
    refine (refSupply_any n HH.out HK.out).mono ?_
    rintro e w1 ⟨b, rfl, hb1, R1, B1⟩
    have HR1 := Lib.hid R1
    have HB1 := Lib.hid B1
    clear R1 B1
    go_wp2_with fail
    go_loopw [8] (fun q wr => ∃ i : Nat, i ≤ L.length ∧ q = .int .i64 i ∧ Hid (∀ j, j < i → 0 ≤ ff fs j) ∧ wr.rowIs b 3 n (fun v => .int .i64 (nf (gfL n L) (wtL L) v L.length - nf (gfL n L) (ff fs) v i)) ∧ Below w.heap.size w wr) (fun q _ => L.length - (intOf q).toNat)
    case atStart => exact ⟨0, by omega, rfl, Lib.hid (fun j hj => by omega), HR1.out.congr (fun v _ => by simp [nf]), HB1.out⟩
    case round =>
      obtain ⟨i, hi, rfl, hnn, R, B⟩ := hrel
      obtain ⟨wo, rfl⟩ : ∃ q : World, q = wr := ⟨_, rfl⟩
      have HR := Lib.hid R
      have HB := Lib.hid B
      have hwo := B.size
      have hrl := R.lt
      clear R B HR1 HB1
      by_cases hil : i < L.length
      · have hd : decide ((i : Int) < L.length) = true := by simp; omega
        have hif : i < fs.length := by have := HL.out; omega
        obtain ⟨ba, off, rfl, hc⟩ := HA.out (by omega)
        obtain ⟨bf, offf, rfl, hcf⟩ := HAF.out (by omega)
        obtain ⟨hat, hf, ht, hw0, hw1⟩ := HK.out.at_ hil
        obtain ⟨c0', c1', c2'⟩ := hc i _ hat
        have d0' := hcf i _ (List.getElem?_eq_getElem hif)
        have hub := HUB.out _ (List.getElem_mem hif)
        have hba : ba < w.heap.size := World.block_lt_of_cell? _ _ c0'
        have c0 := cell_later HB.out c0'
        have c1 := cell_later HB.out c1'
        have d0 := cell_later HB.out d0'
        have HNF : Hid (∀ v, nf (gfL n L) (ff fs) v (i + 1) = nf (gfL n L) (ff fs) v i + ind (frL L i = v) (ff fs i) - ind (ttL L i = v) (ff fs i)) := Lib.hid (fun v => rfl)
        have hfi : ff fs i = fs[i] := by unfold ff; simp [hif]
        have HBD : Hid (∀ v, -50000000000000000 ≤ nf (gfL n L) (wtL L) v L.length - nf (gfL n L) (ff fs) v i ∧ nf (gfL n L) (wtL L) v L.length - nf (gfL n L) (ff fs) v i ≤ 50000000000000000) := Lib.hid (fun v => by
          have h1 := nf_bd (G := gfL n L) (g := wtL L) (B := 1000000) v L.length (fun q hq => by have := HK.out.at_ (i := q) (by omega); omega)
          have h2 := nf_bd (G := gfL n L) (g := ff fs) (B := 2000000000000) v i (fun q hq => by
            have hq2 : q < fs.length := by omega
            have e : ff fs q = fs[q] := by unfold ff; simp [hq2]
            have := HUB.out _ (List.getElem_mem hq2)
            have := hnn.out q hq
            omega)
          omega)
        rw [hfi] at HNF
        generalize frL L i = f at *
        generalize ttL L i = t at *
        generalize wtL L i = x at *
        generalize fs[i] = y at *
        obtain ⟨F, hF⟩ : ∃ F : Nat → Int, (fun v => nf (gfL n L) (wtL L) v L.length - nf (gfL n L) (ff fs) v i) = F := ⟨_, rfl⟩
        have hFv : ∀ v, nf (gfL n L) (wtL L) v L.length - nf (gfL n L) (ff fs) v i = F v := fun v => by rw [← hF]
        have RA : wo.rowIs b 3 n (fun v => .int .i64 (F v)) := HR.out.congr (fun v _ => by rw [hFv])
        have HNF' : Hid (∀ v, nf (gfL n L) (wtL L) v L.length - nf (gfL n L) (ff fs) v (i + 1) = F v - ind (f = v) y + ind (t = v) y) := Lib.hid (fun v => by rw [HNF.out, ← hFv]; omega)
        have bF := HBD.out f
        have bT := HBD.out t
        rw [hFv] at bF bT
        have HFI := Lib.hid hfi
        clear HNF HBD HR hF hFv hat hc hcf hfi
        simp only at c0 c1
        have q0 := RA.cell hf
        have i1 : (0 : Int) ≤ (i : Int) := by omega
        have i2 : (i : Int) < (L.length : Int) := by omega
        have i2f : (i : Int) < (fs.length : Int) := by omega
        have i3 : (0 : Int) ≤ (f : Int) := by omega
        have i4 : (f : Int) < (n : Int) := by omega
        have i5 : (0 : Int) ≤ (t : Int) := by omega
        have i6 : (t : Int) < (n : Int) := by omega
        by_cases hy0 : y < 0
        · have hdy : decide (y < 0) = true := by simp; omega
          clear RA c0 c1 q0
          go_wp2_with fail
          go_ret
          refine ⟨ret_bool ?_, HB.out⟩
          cases e : rightF n L fs with
          | false => rfl
          | true =>
            have h1 := (rightF_iff.1 e).2.1 i hil
            have h2 := HFI.out
            omega
        · have hdy : decide (y < 0) = false := by simp; omega
          have e1 : IntKind.i64.wrap (F f - y) = F f - y := IntWalk.i64_in _ (by omega)
          have HRA := Lib.hid RA
          have HC1 := Lib.hid c1'
          have HD0 := Lib.hid d0'
          clear RA c0' c1' c2' d0'
          go_upto_region 9 with fail
          clear c1
          go_still_tail 19, (by kernel_rfl)
          change wpList _ _ _ _ _ wo.drew
          have BD : Below wo.heap.size wo wo.drew := (Below.refl _ _).drew
          generalize wo.drew = wd at *
          have fA := (HRA.out.of_block (BD.block _ HRA.out.lt))
          have f1 := fA.frozen f
          have f2 := fA.cell hf
          have HRD := Lib.hid fA
          have HBD := Lib.hid (HB.out.trans (BD.mono hwo))
          clear BD fA q0 c0 d0
          obtain ⟨ws, hws⟩ : ∃ ws, wd.setCell ⟨b, f, none⟩ (.int .i64 (F f - y)) = ws := ⟨_, rfl⟩
          have RS : ws.rowIs b 3 n (fun v => .int .i64 (upd F f (F f - y) v)) := by rw [← hws]; exact row_upd (F := fun z => .int .i64 z) HRD.out f (F f - y)
          have HBS : Hid (Below w.heap.size w ws) := Lib.hid (by rw [← hws]; exact HBD.out.setCell (p := ⟨b, f, none⟩) hb1 _)
          have g1 := cell_later HBS.out HC1.out
          have g2 := cell_later HBS.out HD0.out
          simp only at g1
          have q1 := RS.cell ht
          have bU : -60000000000000000 ≤ upd F f (F f - y) t ∧ upd F f (F f - y) t ≤ 60000000000000000 := by unfold upd; split <;> omega
          have HRS := Lib.hid RS
          obtain ⟨z, hz⟩ : ∃ z, upd F f (F f - y) t = z := ⟨_, rfl⟩
          have HZ := Lib.hid hz
          rw [hz] at q1 bU
          have e2 : IntKind.i64.wrap (z + y) = z + y := IntWalk.i64_in _ (by omega)
          clear RS hz
          go_upto_region 10 with fail
          clear hws f1 f2
          go_still_tail 19, (by kernel_rfl)
          change wpList _ _ _ _ _ ws.drew
          have BE : Below ws.heap.size ws ws.drew := (Below.refl _ _).drew
          generalize ws.drew = we at *
          have fE := (HRS.out.of_block (BE.block _ HRS.out.lt))
          have f3 := fE.frozen t
          have f4 := fE.cell ht
          have HRE := Lib.hid fE
          have HBE := Lib.hid (HBS.out.trans (BE.mono HBS.out.size))
          clear BE fE g1 g2 q1
          go_wp2_with fail
          refine ⟨⟨i + 1, by omega, by go_num, Lib.hid (fun j hj => ?_), ?_, HBE.out.setCell (p := ⟨b, t, none⟩) hb1 _⟩, by simp [intOf]; omega⟩
          · by_cases e : j = i
            · subst e; rw [HFI.out]; omega
            · exact hnn.out j (by omega)
          · refine (row_upd (F := fun z => .int .i64 z) HRE.out t (z + y)).congr (fun v _ => ?_)
            rw [HNF'.out v, ← HZ.out, upd_two']
      · obtain rfl : i = L.length := by omega
        have hd : decide ((L.length : Int) < L.length) = false := by simp
        go_wp2_with fail
        go_loopw [9] (fun q wr => ∃ v : Nat, v ≤ n ∧ q = .int .i64 v ∧ Hid (∀ u, u < v → nf (gfL n L) (wtL L) u L.length - nf (gfL n L) (ff fs) u L.length = 0) ∧ wr = wo) (fun q _ => n - (intOf q).toNat)
        case atStart => exact ⟨0, by omega, rfl, Lib.hid (fun u hu => by omega), rfl⟩
        case round =>
          obtain ⟨v, hv, rfl, hz, hwr⟩ := hrel
          subst hwr
          by_cases hvn : v < n
          · have hd : decide ((v : Int) < n) = true := by simp; omega
            have c0 := HR.out.cell hvn
            have i1 : (0 : Int) ≤ (v : Int) := by omega
            have i2 : (v : Int) < (n : Int) := by omega
            obtain ⟨y, hy⟩ : ∃ y, nf (gfL n L) (wtL L) v L.length - nf (gfL n L) (ff fs) v L.length = y := ⟨_, rfl⟩
            rw [hy] at c0
            have HY := Lib.hid hy
            clear hy
            by_cases hy0 : y = 0
            · have hdy : (y != 0) = false := by simp [hy0]
              have HY0 := Lib.hid hy0
              clear hy0
              go_wp2_with fail
              refine ⟨⟨v + 1, by omega, by go_num, Lib.hid (fun u hu => ?_), trivial⟩, by simp [intOf]; omega⟩
              by_cases e : u = v
              · subst e; rw [HY.out, HY0.out]
              · exact hz.out u (by omega)
            · have hdy : (y != 0) = true := by simp [hy0]
              have HY0 := Lib.hid hy0
              clear hy0
              go_wp2_with fail
              go_ret
              refine ⟨ret_bool ?_, HB.out⟩
              cases e : rightF n L fs with
              | false => rfl
              | true =>
                have h1 := (rightF_iff.1 e).2.2 v hvn
                have h2 := HY.out
                exact absurd (by omega) HY0.out
          · obtain rfl : v = n := by omega
            have hd : decide ((v : Int) < v) = false := by simp
            go_wp2_with fail
            go_ret
            refine ⟨ret_bool (rightF_iff.2 ⟨HL.out, fun i hi => hnn.out i hi, fun u hu => by have := hz.out u hu; omega⟩).symm, HB.out⟩
  · have hne : ((fs.length : Int) != (L.length : Int)) = true := by simp; omega
    go_enter Tryz.func32, Tryz.ntmps32
    go_wp2_with fail
    go_ret
    refine ⟨ret_bool ?_, Below.refl _ _⟩
    cases e : rightF n L fs with
    | false => rfl
    | true => exact absurd (rightF_iff.1 e).1 hlen
set_option maxRecDepth 100000 in
set_option maxHeartbeats 1000000 in
theorem sum_any (h : Ints w Vf fs) (hl : fs.length ≤ 1000000) (hb : ∀ y ∈ fs, -2000000000000 ≤ y ∧ y ≤ 2000000000000) :
    Calls Tryz.prog 33 #[Vf] w fun e w' => e = .returned (.int .i64 (sumN (ff fs) fs.length)) ∧ Below w.heap.size w w' := by
  obtain ⟨A, cap, rfl, -, -, hA⟩ := h.at_
  have HA := Lib.hid hA
  have HBB := Lib.hid hb
  clear h hA hb
  go_enter Tryz.func33, Tryz.ntmps33
  go_wp2_with fail
  go_loopw [3, 4] (fun q1 q2 wr => ∃ v : Nat, v ≤ fs.length ∧ q2 = .int .i64 v ∧ q1 = .int .i64 (sumN (ff fs) v) ∧ sumN (ff fs) v ≤ 2000000000000 * v ∧ -(2000000000000 * (v : Int)) ≤ sumN (ff fs) v ∧ wr = w) (fun _ q _ => fs.length - (intOf q).toNat)
  case atStart => exact ⟨0, by omega, rfl, rfl, by simp [sumN], by simp [sumN], rfl⟩
  case round =>
    obtain ⟨v, hv, rfl, rfl, hs1, hs0, hwr⟩ := hrel
    subst hwr
    by_cases hvn : v < fs.length
    · have hd : decide ((v : Int) < fs.length) = true := by simp; omega
      obtain ⟨ba, off, rfl, hc⟩ := HA.out (by omega)
      have c0 := hc v _ (List.getElem?_eq_getElem hvn)
      have i1 : (0 : Int) ≤ (v : Int) := by omega
      have i2 : (v : Int) < (fs.length : Int) := by omega
      have hfi : ff fs v = fs[v] := by unfold ff; simp [hvn]
      have HS : Hid (sumN (ff fs) (v + 1) = sumN (ff fs) v + fs[v]) := Lib.hid (by rw [← hfi]; rfl)
      obtain ⟨y0, y1⟩ := HBB.out _ (List.getElem_mem hvn)
      clear hfi hc
      generalize fs[v] = y at *
      generalize hsg : sumN (ff fs) v = S at *
      have HSG := Lib.hid hsg
      clear hsg
      have e1 : IntKind.i64.wrap (S + y) = S + y := IntWalk.i64_in _ (by omega)
      go_wp2_with fail
      exact ⟨⟨v + 1, by omega, by go_num, by rw [HS.out], by rw [HS.out]; omega, by rw [HS.out]; omega, trivial⟩, by simp [intOf]; omega⟩
    · obtain rfl : v = fs.length := by omega
      have hd : decide ((fs.length : Int) < fs.length) = false := by simp
      go_wp2_with fail
      go_ret
      exact ⟨rfl, Below.refl _ _⟩
end
end Go.Proofs.YtjgloineooadoaaGreatDoor
/- cert.right and cert.Check: what is told of coordinates and a flow. -/
namespace Go.Proofs.YtjgloineooadoaaGreatDoor
open Go.RowKit
theorem enterNZ : ∀ (args : Array Value) (w : World), (callFunc 50 args).run Tryz.prog w = .ok (.enter 50 args) w := by
  intro args w; kernel_rfl
theorem nz_any (v : Int) (w : World) : Calls Tryz.prog 50 #[.int .i64 v] w fun e w' => e = .returned (.bool (v != 0)) ∧ Below w.heap.size w w' := by
  go_enter Tryz.func50, Tryz.ntmps50
  go_wp2
  go_ret
  exact ⟨rfl, Below.refl _ _⟩
theorem predNZ (w : World) : Pred 50 #[] (fun x : Int => Value.int .i64 x) (fun v => v != 0) (fun _ => True) w :=
  ⟨enterNZ, fun a w' _ _ => by
    have e : (#[Value.int .i64 a] ++ #[] : Array Value) = #[Value.int .i64 a] := rfl
    rw [e]
    exact nz_any a w'⟩
def badF (v : Int) : Bool := decide (v < 0) || decide (1099511627776 < v)
theorem enterBF : ∀ (args : Array Value) (w : World), (callFunc 28 args).run Tryz.prog w = .ok (.enter 28 args) w := by
  intro args w; kernel_rfl
theorem bf_any (v : Int) (w : World) : Calls Tryz.prog 28 #[.int .i64 v] w fun e w' => e = .returned (.bool (badF v)) ∧ Below w.heap.size w w' := by
  go_enter Tryz.func28, Tryz.ntmps28
  by_cases h : v < 0
  · go_wp2
    go_ret
    exact ⟨ret_bool (by simp [badF, h]), Below.refl _ _⟩
  · go_wp2
    go_ret
    exact ⟨ret_bool (by simp [badF]; omega), Below.refl _ _⟩
theorem predBF (w : World) : Pred 28 #[] (fun x : Int => Value.int .i64 x) badF (fun _ => True) w :=
  ⟨enterBF, fun a w' _ _ => by
    have e : (#[Value.int .i64 a] ++ #[] : Array Value) = #[Value.int .i64 a] := rfl
    rw [e]
    exact bf_any a w'⟩
theorem right_any0 {n : Nat} {L : List Arc} {fs : List Int} (hl : fs.length = L.length) (hb : ∀ y ∈ fs, 0 ≤ y) : (!((List.range n).map fun v => nf (gfL n L) (wtL L) v L.length - nf (gfL n L) (ff fs) v L.length).any fun v => v != 0) = rightF n L fs := by
  rw [Bool.eq_iff_iff, rightF_iff]
  simp only [Bool.not_eq_true', List.any_eq_false, List.mem_map, List.mem_range]
  constructor
  · intro h
    refine ⟨hl, fun i hi => ?_, fun u hu => ?_⟩
    · unfold ff
      cases e : fs[i]? with
      | none => simp
      | some y => simpa using hb y (List.mem_of_getElem? e)
    · have := h _ ⟨u, hu, rfl⟩
      simp at this
      omega
  · rintro ⟨-, -, h3⟩ x ⟨u, hu, rfl⟩
    have := h3 u hu
    simp
    omega
section
variable {w : World} {V Vf Vx : Value} {L : List Arc} {fs xs : List Int}
set_option maxRecDepth 100000 in
set_option maxHeartbeats 2000000 in
theorem certRight_any (n : Nat) (h : Arcs w V L) (hfs : Ints w Vf fs) (k : Okg n L) (he : ordE n L ≠ 2) (hlen : fs.length = L.length) (hub : ∀ y ∈ fs, 0 ≤ y ∧ y ≤ 2000000000000) :
    Calls Tryz.prog 29 #[.int .i64 (n : Int), V, Vf] w fun e w' => e = .returned (.bool (rightF n L fs)) ∧ Below w.heap.size w w' := by
  have hn0 := k.n0
  have hn1 := k.n1
  have hm1 := k.m1
  have HK := Lib.hid k
  have HH := Lib.hid h
  have HE := Lib.hid he
  have HUB := Lib.hid hub
  have HL := Lib.hid hlen
  obtain ⟨A, cap, rfl, -, -, hA⟩ := h.at_
  obtain ⟨AF, capF, rfl, -, -, hAF⟩ := hfs.at_
  have HA := Lib.hid hA
  have HAF := Lib.hid hAF
  have HRF := Lib.hid (right_any0 (n := n) hlen (fun y hy => (hub y hy).1))
  clear h hA k hfs hAF hub he hlen
  go_enter Tryz.func29, Tryz.ntmps29
  go_wp2_with fail
  refine (supply_any n HH.out HK.out HE.out).mono ?_
  rintro e w1 ⟨b, rfl, hb1, R1, B1⟩
  have HR1 := Lib.hid R1
  have HB1 := Lib.hid B1
  clear R1 B1
  go_wp2_with fail
  go_loopw [15] (fun q wr => ∃ i : Nat, i ≤ L.length ∧ q = .int .i64 i ∧ wr.rowIs b 3 n (fun v => .int .i64 (nf (gfL n L) (wtL L) v L.length - nf (gfL n L) (ff fs) v i)) ∧ Below w.heap.size w wr) (fun q _ => L.length - (intOf q).toNat)
  case atStart => exact ⟨0, by omega, rfl, HR1.out.congr (fun v _ => by simp [nf]), HB1.out⟩
  case round =>
    obtain ⟨i, hi, rfl, R, B⟩ := hrel
    obtain ⟨wo, rfl⟩ : ∃ q : World, q = wr := ⟨_, rfl⟩
    have HR := Lib.hid R
    have HB := Lib.hid B
    have hwo := B.size
    have hrl := R.lt
    clear R B HR1 HB1
    by_cases hil : i < L.length
    · have hd : decide ((i : Int) < L.length) = true := by simp; omega
      have hif : i < fs.length := by have := HL.out; omega
      obtain ⟨ba, off, rfl, hc⟩ := HA.out (by omega)
      obtain ⟨bf, offf, rfl, hcf⟩ := HAF.out (by omega)
      obtain ⟨hat, hf, ht, -, -⟩ := HK.out.at_ hil
      obtain ⟨c0, c1, c2⟩ := hc i _ hat
      have d0' := hcf i _ (List.getElem?_eq_getElem hif)
      have hub := HUB.out _ (List.getElem_mem hif)
      have c0 := cell_later HB.out c0
      have c1 := cell_later HB.out c1
      have c2 := cell_later HB.out c2
      have HNF : Hid (∀ v, nf (gfL n L) (ff fs) v (i + 1) = nf (gfL n L) (ff fs) v i + ind (frL L i = v) (ff fs i) - ind (ttL L i = v) (ff fs i)) := Lib.hid (fun v => rfl)
      have hfi : ff fs i = fs[i] := by unfold ff; simp [hif]
      have HBD : Hid (∀ v, -50000000000000000 ≤ nf (gfL n L) (wtL L) v L.length - nf (gfL n L) (ff fs) v i ∧ nf (gfL n L) (wtL L) v L.length - nf (gfL n L) (ff fs) v i ≤ 50000000000000000) := Lib.hid (fun v => by
        have h1 := nf_bd (G := gfL n L) (g := wtL L) (B := 1000000) v L.length (fun q hq => by have := HK.out.at_ (i := q) (by omega); omega)
        have h2 := nf_bd (G := gfL n L) (g := ff fs) (B := 2000000000000) v i (fun q hq => by
          have hq2 : q < fs.length := by omega
          have e : ff fs q = fs[q] := by unfold ff; simp [hq2]
          have := HUB.out _ (List.getElem_mem hq2)
          omega)
        omega)
      rw [hfi] at HNF
      generalize frL L i = f at *
      generalize ttL L i = t at *
      generalize wtL L i = x at *
      generalize fs[i] = y at *
      obtain ⟨F, hF⟩ : ∃ F : Nat → Int, (fun v => nf (gfL n L) (wtL L) v L.length - nf (gfL n L) (ff fs) v i) = F := ⟨_, rfl⟩
      have hFv : ∀ v, nf (gfL n L) (wtL L) v L.length - nf (gfL n L) (ff fs) v i = F v := fun v => by rw [← hF]
      have RA0 : wo.rowIs b 3 n (fun v => .int .i64 (F v)) := HR.out.congr (fun v _ => by rw [hFv])
      have HNF' : Hid (∀ v, nf (gfL n L) (wtL L) v L.length - nf (gfL n L) (ff fs) v (i + 1) = F v - ind (f = v) y + ind (t = v) y) := Lib.hid (fun v => by rw [HNF.out, ← hFv]; omega)
      have bF := HBD.out f
      have bT := HBD.out t
      rw [hFv] at bF bT
      clear HNF HBD HR hF hFv hat hc hcf hfi
      simp only at c0 c1 c2
      obtain ⟨wA, hwA⟩ : ∃ wA, wo.alloc (.cells #[.int .i64 (f : Nat), .int .i64 (t : Nat), .int .i64 x] 40) = wA := ⟨_, rfl⟩
      have BA : Below wo.heap.size wo wA := by rw [← hwA]; exact (Below.refl _ _).alloc (Nat.le_refl _) _
      have hG : wA.heap[wo.heap.size]? = some (.cells #[.int .i64 (f : Nat), .int .i64 (t : Nat), .int .i64 x] 40) := by rw [← hwA]; exact heap_at rfl
      have g0 : wA.cell? ⟨wo.heap.size, 0, none⟩ = some (.int .i64 (f : Nat)) := (Cl.of_block hG (j := 0) rfl).cell
      have RA := RA0.of_block (BA.block _ hrl)
      have q0 := RA.cell hf
      have BWA := HB.out.trans (BA.mono hwo)
      have d0 := cell_later BWA d0'
      have i1 : (0 : Int) ≤ (i : Int) := by omega
      have i2 : (i : Int) < (L.length : Int) := by omega
      have i2f : (i : Int) < (fs.length : Int) := by omega
      have i3 : (0 : Int) ≤ (f : Int) := by omega
      have i4 : (f : Int) < (n : Int) := by omega
      have i5 : (0 : Int) ≤ (t : Int) := by omega
      have i6 : (t : Int) < (n : Int) := by omega
      have e1 : IntKind.i64.wrap (F f - y) = F f - y := IntWalk.i64_in _ (by omega)
      have HBA := Lib.hid BWA
      have HG := Lib.hid hG
      have HRA := Lib.hid RA
      have HD0 := Lib.hid d0'
      have hwA2 := BWA.size
      clear hG BA RA RA0 BWA d0'
      go_upto_region 5 with fail
      clear hwA c0 c1 c2
      go_still_tail 10, (by kernel_rfl)
      change wpList _ _ _ _ _ wA.drew
      have BD : Below wA.heap.size wA wA.drew := (Below.refl _ _).drew
      generalize wA.drew = wd at *
      have fA := (HRA.out.of_block (BD.block _ HRA.out.lt))
      have f1 := fA.frozen f
      have f2 := fA.cell hf
      have HRD := Lib.hid fA
      have HBD := Lib.hid (HBA.out.trans (BD.mono hwA2))
      have HGD := Lib.hid (block_later BD HG.out)
      clear BD fA g0 q0 d0
      obtain ⟨ws, hws⟩ : ∃ ws, wd.setCell ⟨b, f, none⟩ (.int .i64 (F f - y)) = ws := ⟨_, rfl⟩
      have cs : Chg (fun q => q = b) wd ws := by rw [← hws]; exact chg_set _ ⟨b, f, none⟩ _
      have RS : ws.rowIs b 3 n (fun v => .int .i64 (upd F f (F f - y) v)) := by rw [← hws]; exact row_upd (F := fun z => .int .i64 z) HRD.out f (F f - y)
      have hGs : ws.heap[wo.heap.size]? = some (.cells #[.int .i64 (f : Nat), .int .i64 (t : Nat), .int .i64 x] 40) := (cs.block _ (Array.getElem?_eq_some_iff.1 HGD.out).1 (fun e => by omega)).trans HGD.out
      have g1 : ws.cell? ⟨wo.heap.size, 1, none⟩ = some (.int .i64 (t : Nat)) := (Cl.of_block hGs (j := 1) rfl).cell
      have HBS : Hid (Below w.heap.size w ws) := Lib.hid (by rw [← hws]; exact HBD.out.setCell (p := ⟨b, f, none⟩) hb1 _)
      have d1 := cell_later HBS.out HD0.out
      have q1 := RS.cell ht
      have bU : -60000000000000000 ≤ upd F f (F f - y) t ∧ upd F f (F f - y) t ≤ 60000000000000000 := by unfold upd; split <;> omega
      have HRS := Lib.hid RS
      obtain ⟨z, hz⟩ : ∃ z, upd F f (F f - y) t = z := ⟨_, rfl⟩
      have HZ := Lib.hid hz
      rw [hz] at q1 bU
      have e2 : IntKind.i64.wrap (z + y) = z + y := IntWalk.i64_in _ (by omega)
      clear RS hGs cs hz
      go_upto_region 6 with fail
      clear hws f1 f2
      go_still_tail 10, (by kernel_rfl)
      change wpList _ _ _ _ _ ws.drew
      have BE : Below ws.heap.size ws ws.drew := (Below.refl _ _).drew
      generalize ws.drew = we at *
      have fE := (HRS.out.of_block (BE.block _ HRS.out.lt))
      have f3 := fE.frozen t
      have f4 := fE.cell ht
      have HRE := Lib.hid fE
      have HBE := Lib.hid (HBS.out.trans (BE.mono HBS.out.size))
      clear BE fE g1 d1 q1
      go_wp2_with fail
      refine ⟨⟨i + 1, by omega, by go_num, ?_, HBE.out.setCell (p := ⟨b, t, none⟩) hb1 _⟩, by simp [intOf]; omega⟩
      refine (row_upd (F := fun z => .int .i64 z) HRE.out t (z + y)).congr (fun v _ => ?_)
      rw [HNF'.out v, ← HZ.out, upd_two']
    · have e : i = L.length := by omega
      subst e
      have hd : decide ((L.length : Int) < L.length) = false := by simp
      have HIZ := Lib.hid (Ints.of_row (Nat.le_refl n) HR.out)
      clear HR
      go_wp2_with fail
      refine (anyInts_any HIZ.out (predNZ _) (fun _ _ => trivial) (by simp; omega)).mono ?_
      obtain ⟨q, hq⟩ : ∃ q, ((List.range n).map fun v => nf (gfL n L) (wtL L) v L.length - nf (gfL n L) (ff fs) v L.length).any (fun v => v != 0) = q := ⟨_, rfl⟩
      rw [hq]
      have HQ : Hid ((!q) = rightF n L fs) := Lib.hid (by rw [← hq]; exact HRF.out)
      clear hq
      rintro e w3 ⟨rfl, B3⟩
      have HB3 := Lib.hid (below_then HB.out hwo B3)
      clear B3
      go_wp2_with fail
      go_ret
      exact ⟨ret_bool HQ.out, HB3.out⟩
end
end Go.Proofs.YtjgloineooadoaaGreatDoor
/- Small words for the flow laws. No program in sight. -/
namespace Go.Proofs.YtjgloineooadoaaGreatDoor
open Go.RowKit
/-- A struct of three cells. -/
def R3 (b : Nat) (v0 v1 v2 : Value) (w : World) : Prop := w.cell? ⟨b, 0, none⟩ = some v0 ∧ w.cell? ⟨b, 1, none⟩ = some v1 ∧ w.cell? ⟨b, 2, none⟩ = some v2
theorem R3.later {b : Nat} {v0 v1 v2 : Value} {w w' : World} (h : R3 b v0 v1 v2 w) (B : Below w.heap.size w w') : R3 b v0 v1 v2 w' := ⟨cell_later B h.1, cell_later B h.2.1, cell_later B h.2.2⟩
theorem R3.of_alloc (w : World) (v0 v1 v2 : Value) (t : TypeId) : R3 w.heap.size v0 v1 v2 (w.alloc (.cells #[v0, v1, v2] t)).drew :=
  ⟨(Cl.of_block (heap_at rfl) (j := 0) rfl).cell, (Cl.of_block (heap_at rfl) (j := 1) rfl).cell, (Cl.of_block (heap_at rfl) (j := 2) rfl).cell⟩
def R2 (b : Nat) (v0 v1 : Value) (w : World) : Prop := w.cell? ⟨b, 0, none⟩ = some v0 ∧ w.cell? ⟨b, 1, none⟩ = some v1
theorem R2.later {b : Nat} {v0 v1 : Value} {w w' : World} (h : R2 b v0 v1 w) (B : Below w.heap.size w w') : R2 b v0 v1 w' := ⟨cell_later B h.1, cell_later B h.2⟩
theorem R2.below {b n : Nat} {v0 v1 : Value} {w w' : World} (h : R2 b v0 v1 w) (B : Below n w w') (hb : b < n) : R2 b v0 v1 w' := ⟨(World.cell?_of_block (B.block b hb)).trans h.1, (World.cell?_of_block (B.block b hb)).trans h.2⟩
theorem okg_w {n : Nat} {L : List Arc} (k : Okg n L) : ∀ a ∈ L, 0 ≤ a.2.2 ∧ a.2.2 ≤ 1000000 := fun a ha => by
  obtain ⟨i, hi⟩ := List.getElem?_of_mem ha
  obtain ⟨f, t, x, rfl, h1, h2, h3⟩ := k.arc i a hi
  exact ⟨by show (0 : Int) ≤ x; omega, by show (x : Int) ≤ 1000000; omega⟩
theorem sol_lo {n : Nat} {L : List Arc} {xs fs : List Int} {ways : Nat} (S : Sol n L xs fs ways) (hn : n ≤ 4096) : ∀ v ∈ xs, -1000000 ≤ v ∧ v ≤ 1000000 := fun v hv => by
  have := S.lo v hv
  omega
theorem sol_small {n : Nat} {L : List Arc} {xs fs : List Int} {ways : Nat} (S : Sol n L xs fs ways) : ∀ y ∈ fs, -2000000000000 ≤ y ∧ y ≤ 2000000000000 := fun y hy => by
  obtain ⟨i, hi⟩ := List.getElem?_of_mem hy
  have h1 := S.nn i (by rw [← S.lf]; exact (List.getElem?_eq_some_iff.1 hi).1)
  unfold ff at h1
  rw [hi] at h1
  simp at h1
  omega
end Go.Proofs.YtjgloineooadoaaGreatDoor
/- cert.Check, whole. -/
namespace Go.Proofs.YtjgloineooadoaaGreatDoor
open Go.RowKit
/-- What Check tells. -/
def checkC (n : Nat) (L : List Arc) (xs fs : List Int) : Int :=
  if costE n L xs = 0 then (if fs.length = L.length ∧ fs.any badF = false then (if rightF n L fs = true then (if costL xs L = sumN (ff fs) fs.length then 0 else 15) else 12) else 2) else costE n L xs
theorem costE_zero {n : Int} {L : List Arc} {xs : List Int} (h : costE n L xs = 0) : ordE n L = 0 ∧ (xs.length : Int) = n ∧ xs.any farB = false ∧ L.all (fitA xs) = true := by
  unfold costE at h
  split at h
  · rename_i h0
    split at h
    · rename_i h1
      split at h
      · rename_i h2
        exact ⟨h0, h1.1, h1.2, h2⟩
      · cases h
    · cases h
  · rename_i h0
    exact absurd h h0
theorem far_bd {xs : List Int} (h : xs.any farB = false) : ∀ v ∈ xs, -1000000 ≤ v ∧ v ≤ 1000000 := fun v hv => by
  have := List.any_eq_false.1 h v hv
  simp only [farB, Bool.not_eq_true, Bool.or_eq_false_iff, decide_eq_false_iff_not] at this
  omega
theorem badF_bd {fs : List Int} (h : fs.any badF = false) : ∀ v ∈ fs, 0 ≤ v ∧ v ≤ 1099511627776 := fun v hv => by
  have := List.any_eq_false.1 h v hv
  simp only [badF, Bool.not_eq_true, Bool.or_eq_false_iff, decide_eq_false_iff_not] at this
  omega
theorem cost_bd {xs : List Int} (hb : ∀ v ∈ xs, -1000000 ≤ v ∧ v ≤ 1000000) : ∀ L : List Arc, InX L xs.length → (∀ a ∈ L, 0 ≤ a.2.2 ∧ a.2.2 ≤ 1000000) → -(L.length * 2000000000000 : Int) ≤ costL xs L ∧ costL xs L ≤ L.length * 2000000000000
  | [], _, _ => by simp [costL]
  | a :: L, hin, hw => by
    obtain ⟨i1, i2⟩ := cost_bd hb L (fun b h => hin b (by simp [h])) (fun b h => hw b (by simp [h]))
    obtain ⟨f, t, e1, e2, h1, h2⟩ := hin a (by simp)
    have g1 := hb _ (at_mem h1)
    have g2 := hb _ (at_mem h2)
    obtain ⟨p0, p1⟩ := mul_bound2 (x := a.2.2) (d := at_ xs (t : Int) - at_ xs (f : Int)) (hw a (by simp)).1 (hw a (by simp)).2 (by omega) (by omega)
    simp only [costL, List.length_cons]
    rw [e1, e2]
    omega
theorem sumN_bd {fs : List Int} (h : ∀ v ∈ fs, 0 ≤ v ∧ v ≤ 1099511627776) : ∀ i, i ≤ fs.length → 0 ≤ sumN (ff fs) i ∧ sumN (ff fs) i ≤ i * 1099511627776
  | 0, _ => by simp [sumN]
  | i + 1, hi => by
    obtain ⟨i1, i2⟩ := sumN_bd h i (by omega)
    have e : ff fs i = fs[i] := by unfold ff; simp [show i < fs.length by omega]
    have := h _ (List.getElem_mem (show i < fs.length by omega))
    show 0 ≤ sumN (ff fs) i + ff fs i ∧ sumN (ff fs) i + ff fs i ≤ _
    rw [e]
    omega
section
variable {w : World} {V Vf Vx : Value} {L : List Arc} {fs xs : List Int}
set_option maxRecDepth 100000 in
set_option maxHeartbeats 2000000 in
theorem certCheck_any (n : Nat) (hn : 1 ≤ n) (h : Arcs w V L) (hx : Ints w Vx xs) (hfs : Ints w Vf fs) (hxl : xs.length ≤ 1000000000000000) (hfl : fs.length ≤ 1000000000000000) :
    Calls Tryz.prog 10 #[.int .i64 (n : Int), V, Vx, Vf] w fun e w' => e = .returned (.int .i64 (checkC n L xs fs)) ∧ Below w.heap.size w w' := by
  have HH := Lib.hid h
  have HX := Lib.hid hx
  have HF := Lib.hid hfs
  obtain ⟨A, cap, rfl, -, -, -⟩ := h.at_
  obtain ⟨AF, capF, rfl, -, -, hAF⟩ := hfs.at_
  obtain ⟨AX, capX, rfl, -, -, -⟩ := hx.at_
  have HAF := Lib.hid hAF
  clear h hx hfs hAF
  go_enter Tryz.func10, Tryz.ntmps10
  go_wp2_with fail
  refine (cost_any n HH.out HX.out hxl).mono ?_
  obtain ⟨E, hE⟩ : ∃ E, costE n L xs = E := ⟨_, rfl⟩
  obtain ⟨C, hC⟩ : ∃ C, costV n L xs = C := ⟨_, rfl⟩
  rw [hE, hC]
  have HE := Lib.hid hE
  have HC := Lib.hid hC
  clear hE hC
  rintro e w1 ⟨rfl, B1⟩
  have HH1 := Lib.hid (HH.out.later B1)
  have HF1 := Lib.hid (HF.out.later B1)
  have HB1 := Lib.hid B1
  clear B1
  by_cases h0 : E = 0
  · obtain ⟨z0, z1, z2, z3⟩ := costE_zero (HE.out.trans h0)
    have hr := ordE_right z0
    have HK := Lib.hid (okg_of hr hn)
    have hm1 := HK.out.m1
    have hCL : C = costL xs L := by rw [← HC.out]; unfold costV; rw [if_pos (HE.out.trans h0)]
    have hxl2 : xs.length = n := by omega
    have hcb := cost_bd (far_bd z2) L (by rw [hxl2]; exact HK.out.inX) (okg_w HK.out)
    rw [← hCL] at hcb
    have HCL := Lib.hid hCL
    have HE0 := Lib.hid (HE.out.trans h0)
    have HZ0 := Lib.hid z0
    subst h0
    clear z0 z1 z2 z3 hr hCL hxl2 HE HC
    by_cases hlen : fs.length = L.length
    · have hne : ((fs.length : Int) != (L.length : Int)) = false := by simp [hlen]
      have HL := Lib.hid hlen
      clear hlen
      go_wp2_with fail
      refine (anyInts_any HF1.out (predBF _) (fun _ _ => trivial) hfl).mono ?_
      obtain ⟨q, hq⟩ : ∃ q, fs.any badF = q := ⟨_, rfl⟩
      rw [hq]
      have HQ := Lib.hid hq
      clear hq
      rintro e w2 ⟨rfl, B2⟩
      have HH2 := Lib.hid (HH1.out.later B2)
      have HF2 := Lib.hid (HF1.out.later B2)
      have HB2 := Lib.hid (below_then HB1.out HB1.out.size B2)
      clear B2
      cases q with
      | true =>
        go_wp2_with fail
        go_ret
        refine ⟨ret_int ?_, HB2.out⟩
        unfold checkC
        rw [if_pos HE0.out, if_neg (fun h => by have := HQ.out; rw [h.2] at this; cases this)]
      | false =>
        have HBF := Lib.hid (badF_bd HQ.out)
        go_wp2_with fail
        refine (certRight_any n HH2.out HF2.out HK.out (by rw [HZ0.out]; decide) HL.out (fun y hy => by have := HBF.out y hy; omega)).mono ?_
        obtain ⟨r, hr⟩ : ∃ r, rightF n L fs = r := ⟨_, rfl⟩
        rw [hr]
        have HR := Lib.hid hr
        clear hr
        rintro e w3 ⟨rfl, B3⟩
        have HF3 := Lib.hid (HF2.out.later B3)
        have HB3 := Lib.hid (below_then HB2.out HB2.out.size B3)
        clear B3
        cases r with
        | false =>
          go_wp2_with fail
          go_ret
          refine ⟨ret_int ?_, HB3.out⟩
          unfold checkC
          rw [if_pos HE0.out, if_pos ⟨HL.out, HQ.out⟩, if_neg (by rw [HR.out]; decide)]
        | true =>
          have hfl2 : fs.length ≤ 16384 := by have := HL.out; omega
          go_wp2_with fail
          go_loopw [9, 42] (fun q1 q2 wr => ∃ i : Nat, i ≤ fs.length ∧ q2 = .int .i64 i ∧ q1 = .int .i64 (C - sumN (ff fs) i) ∧ wr = w3) (fun _ q _ => fs.length - (intOf q).toNat)
          case atStart => exact ⟨0, by omega, rfl, by simp [sumN], rfl⟩
          case round =>
            obtain ⟨i, hi, rfl, rfl, hwr⟩ := hrel
            subst hwr
            by_cases hil : i < fs.length
            · have hd : decide ((i : Int) < fs.length) = true := by simp; omega
              obtain ⟨ba, off, rfl, hc⟩ := HAF.out (by omega)
              have c0 := cell_later HB3.out (hc i _ (List.getElem?_eq_getElem hil))
              have i1 : (0 : Int) ≤ (i : Int) := by omega
              have i2 : (i : Int) < (fs.length : Int) := by omega
              have hfi : ff fs i = fs[i] := by unfold ff; simp [hil]
              have HS : Hid (sumN (ff fs) (i + 1) = sumN (ff fs) i + fs[i]) := Lib.hid (by rw [← hfi]; rfl)
              have y0 := HBF.out _ (List.getElem_mem hil)
              have s0 := sumN_bd HBF.out i hi
              clear hfi hc
              generalize fs[i] = y at *
              generalize hsg : sumN (ff fs) i = S at *
              have HSG := Lib.hid hsg
              clear hsg
              have e1 : IntKind.i64.wrap (C - S - y) = C - S - y := IntWalk.i64_in _ (by omega)
              go_wp2_with fail
              exact ⟨⟨i + 1, by omega, by go_num, by rw [HS.out]; congr 1; omega, trivial⟩, by simp [intOf]; omega⟩
            · have e : i = fs.length := by omega
              subst e
              have hd : decide ((fs.length : Int) < fs.length) = false := by simp
              by_cases hz : C = sumN (ff fs) fs.length
              · have e1 : C - sumN (ff fs) fs.length = 0 := by omega
                rw [e1]
                have hz2 := Lib.hid hz
                clear hz e1
                go_wp2_with fail
                go_ret
                refine ⟨ret_int ?_, HB3.out⟩
                unfold checkC
                rw [if_pos HE0.out, if_pos ⟨HL.out, HQ.out⟩, if_pos HR.out, if_pos (by rw [← HCL.out]; exact hz2.out)]
              · obtain ⟨D, hD⟩ : ∃ D, C - sumN (ff fs) fs.length = D := ⟨_, rfl⟩
                rw [hD]
                have hne2 : (D != 0) = true := by simp; omega
                have hz2 := Lib.hid hz
                clear hz hD
                go_wp2_with fail
                go_ret
                refine ⟨ret_int ?_, HB3.out⟩
                unfold checkC
                rw [if_pos HE0.out, if_pos ⟨HL.out, HQ.out⟩, if_pos HR.out, if_neg (by rw [← HCL.out]; exact hz2.out)]
    · have hne : ((fs.length : Int) != (L.length : Int)) = true := by simp; omega
      have HL := Lib.hid hlen
      clear hlen
      go_wp2_with fail
      go_ret
      refine ⟨ret_int ?_, HB1.out⟩
      unfold checkC
      rw [if_pos HE0.out, if_neg (fun h => HL.out h.1)]
  · have hne : (E != 0) = true := by simp [h0]
    have H0 := Lib.hid h0
    clear h0
    go_wp2_with fail
    go_ret
    refine ⟨ret_int ?_, HB1.out⟩
    unfold checkC
    rw [if_neg (by rw [HE.out]; exact H0.out), HE.out]
end
end Go.Proofs.YtjgloineooadoaaGreatDoor
/- muntinlaw06.wakes. -/
namespace Go.Proofs.YtjgloineooadoaaGreatDoor
open Go.RowKit Go.Shelf
theorem wk1 : checkC 2 [(0, 1, 3)] [0, 1] [3] = 0 := by decide
theorem wk2 : checkC 2 [(0, 1, 3)] [0, 2] [3] = 15 := by decide
theorem wk3 : checkC 2 [(0, 1, 3)] [0, 1] [2] = 12 := by decide
theorem two_rows (w : World) (a b : List Int) {cs ds : Array Value} (hc : cs.toList = flat encI a) (hd : ds.toList = flat encI b) {n k g : Nat} (hn : n = a.length) (hk : k = b.length) (hg : g = w.heap.size + 1) : Ints ((w.alloc (.cells cs 3)).alloc (.cells ds 3)) (.slice (some ⟨w.heap.size, 0, none⟩) n n) a ∧ Ints ((w.alloc (.cells cs 3)).alloc (.cells ds 3)) (.slice (some ⟨g, 0, none⟩) k k) b ∧ Below w.heap.size w ((w.alloc (.cells cs 3)).alloc (.cells ds 3)) := by
  have B1 : Below w.heap.size w (w.alloc (.cells cs 3)) := (Below.refl _ _).alloc (Nat.le_refl _) _
  have B2 : Below (w.alloc (.cells cs 3)).heap.size (w.alloc (.cells cs 3)) ((w.alloc (.cells cs 3)).alloc (.cells ds 3)) := (Below.refl _ _).alloc (Nat.le_refl _) _
  have hg : g = (w.alloc (.cells cs 3)).heap.size := by rw [hg]; simp
  subst hg
  exact ⟨(Ints.lit (heap_at rfl) hc hn (Nat.le_refl _)).later B2, Ints.lit (heap_at rfl) hd hk (Nat.le_refl _), B1.trans (B2.mono B1.size)⟩
set_option maxRecDepth 100000 in
set_option maxHeartbeats 2000000 in
theorem wakes_ok {w : World} {m : Int} (hm : w.cell? ⟨0, 0, none⟩ = some (.int .i64 m)) :
    Calls Tryz.prog 9 #[] w fun e w' => e = .returned (.bool true) ∧ Below w.heap.size w w' := by
  have HM := Lib.hid hm
  clear hm
  go_enter Tryz.func9, Tryz.ntmps9
  go_wp2_with fail
  obtain ⟨wA, hwA⟩ : ∃ x, x = w.alloc (.cells #[.int .i64 0, .int .i64 1, .int .i64 3] 40) := ⟨_, rfl⟩
  rw [← hwA]
  have BA : Below w.heap.size w wA := by rw [hwA]; exact (Below.refl _ _).alloc (Nat.le_refl _) _
  have HA : Hid (Arcs wA (.slice (some ⟨w.heap.size, 0, none⟩) 1 1) [(0, 1, 3)]) := Lib.hid (Sl.lit (enc := encA) (sz := 3) (fun _ => rfl) (by rw [hwA]; exact heap_at rfl) rfl rfl (Nat.le_refl _))
  have HB := Lib.hid BA
  have HMA := Lib.hid (cell_later BA HM.out)
  clear hwA BA HM
  refine (parse_wakes HMA.out).mono ?_
  rintro e w1 ⟨VX, VF, rfl, IX, IF, B1⟩
  have HA1 := Lib.hid (HA.out.later B1)
  have HB1 := Lib.hid (HB.out.trans (B1.mono HB.out.size))
  have HX1 := Lib.hid IX
  have HF1 := Lib.hid IF
  clear IX IF B1 HA HB HMA
  go_wp2_with fail
  obtain ⟨q1, q2, q3⟩ := two_rows w1 [0, 1] [3] (cs := #[.int .i64 0, .int .i64 1]) (ds := #[.int .i64 3]) rfl rfl (n := 2) (k := 1) (g := w1.heap.size + 1) rfl rfl rfl
  refine (certCheck_any 2 (by decide) (HA1.out.later q3) q1 q2 (by decide) (by decide)).mono ?_
  rintro e w2 ⟨rfl, B2⟩
  rw [wk1]
  have BT := q3.trans (B2.mono q3.size)
  have HA2 := Lib.hid (HA1.out.later BT)
  have HX2 := Lib.hid (HX1.out.later BT)
  have HF2 := Lib.hid (HF1.out.later BT)
  have HB2 := Lib.hid (HB1.out.trans (BT.mono HB1.out.size))
  clear q1 q2 q3 B2 BT HA1 HX1 HF1 HB1
  go_wp2_with fail
  obtain ⟨q1, q2, q3⟩ := two_rows w2 [0, 2] [3] (cs := #[.int .i64 0, .int .i64 2]) (ds := #[.int .i64 3]) rfl rfl (n := 2) (k := 1) (g := w2.heap.size + 1) rfl rfl rfl
  refine (certCheck_any 2 (by decide) (HA2.out.later q3) q1 q2 (by decide) (by decide)).mono ?_
  rintro e w3 ⟨rfl, B2⟩
  rw [wk2]
  have BT := q3.trans (B2.mono q3.size)
  have HA3 := Lib.hid (HA2.out.later BT)
  have HX3 := Lib.hid (HX2.out.later BT)
  have HF3 := Lib.hid (HF2.out.later BT)
  have HB3 := Lib.hid (HB2.out.trans (BT.mono HB2.out.size))
  clear q1 q2 q3 B2 BT HA2 HX2 HF2 HB2
  go_wp2_with fail
  obtain ⟨q1, q2, q3⟩ := two_rows w3 [0, 1] [2] (cs := #[.int .i64 0, .int .i64 1]) (ds := #[.int .i64 2]) rfl rfl (n := 2) (k := 1) (g := w3.heap.size + 1) rfl rfl rfl
  refine (certCheck_any 2 (by decide) (HA3.out.later q3) q1 q2 (by decide) (by decide)).mono ?_
  rintro e w4 ⟨rfl, B2⟩
  rw [wk3]
  have BT := q3.trans (B2.mono q3.size)
  have HA4 := Lib.hid (HA3.out.later BT)
  have HX4 := Lib.hid (HX3.out.later BT)
  have HF4 := Lib.hid (HF3.out.later BT)
  have HB4 := Lib.hid (HB3.out.trans (BT.mono HB3.out.size))
  clear q1 q2 q3 B2 BT HA3 HX3 HF3 HB3
  go_wp2_with fail
  obtain ⟨q1, q2, q3⟩ := two_rows w4 [0, 1] [3] (cs := #[.int .i64 0, .int .i64 1]) (ds := #[.int .i64 3]) rfl rfl (n := 2) (k := 1) (g := w4.heap.size + 1) rfl rfl rfl
  refine (print_any (S := Sx) q1 q2 (by decide) (by decide) (by intro v hv; simp at hv; rcases hv with rfl | rfl; exact (It013 _).1; exact (It013 _).2.1) (by intro v hv; simp at hv; subst hv; exact (It013 _).2.2) (L := [bX, b0, b1, bF, b3]) (by simp [wordsOf, Sx0, Sx1, Sx3]) (by decide) (out := ⟨#[120, 32, 48, 32, 49, 32, 102, 32, 51]⟩) (by decide)).mono ?_
  rintro e w5 ⟨rfl, B2⟩
  have BT := q3.trans (B2.mono q3.size)
  have HX5 := Lib.hid (HX4.out.later BT)
  have HF5 := Lib.hid (HF4.out.later BT)
  have HB5 := Lib.hid (HB4.out.trans (BT.mono HB4.out.size))
  clear q1 q2 q3 B2 BT HA4 HX4 HF4 HB4
  go_wp2_with fail
  have q1 : Ints (w5.alloc (.cells #[.int .i64 0, .int .i64 1] 3)) (.slice (some ⟨w5.heap.size, 0, none⟩) 2 2) [0, 1] := Ints.lit (heap_at rfl) rfl rfl (Nat.le_refl _)
  have q3 : Below w5.heap.size w5 (w5.alloc (.cells #[.int .i64 0, .int .i64 1] 3)) := (Below.refl _ _).alloc (Nat.le_refl _) _
  refine (equalI_any (HX5.out.later q3) q1 (by decide)).mono ?_
  rw [show decide (([0, 1] : List Int) = [0, 1]) = true by decide]
  rintro e w6 ⟨rfl, B2⟩
  have BT := q3.trans (B2.mono q3.size)
  have HF6 := Lib.hid (HF5.out.later BT)
  have HB6 := Lib.hid (HB5.out.trans (BT.mono HB5.out.size))
  clear q1 q3 B2 BT HX5 HF5 HB5
  go_wp2_with fail
  have q1 : Ints (w6.alloc (.cells #[.int .i64 3] 3)) (.slice (some ⟨w6.heap.size, 0, none⟩) 1 1) [3] := Ints.lit (heap_at rfl) rfl rfl (Nat.le_refl _)
  have q3 : Below w6.heap.size w6 (w6.alloc (.cells #[.int .i64 3] 3)) := (Below.refl _ _).alloc (Nat.le_refl _) _
  refine (equalI_any (HF6.out.later q3) q1 (by decide)).mono ?_
  rw [show decide (([3] : List Int) = [3]) = true by decide]
  rintro e w7 ⟨rfl, B2⟩
  have BT := q3.trans (B2.mono q3.size)
  have HB7 := Lib.hid (HB6.out.trans (BT.mono HB6.out.size))
  clear q1 q3 B2 BT HF6 HB6
  go_wp2_with fail
  go_ret
  exact ⟨rfl, HB7.out⟩
end Go.Proofs.YtjgloineooadoaaGreatDoor
/- What Solve tells is a proof: the plain laws of cert. No program in sight. -/
namespace Go.Proofs.YtjgloineooadoaaGreatDoor
open Go.RowKit
theorem fit_moved {L : List Arc} {l : List Int} (b : Int) (hin : InX L l.length) : L.all (fitA (l.map fun v => v + b)) = L.all (fitA l) := fit_map (fun v => v + b) (fun x y => by omega) hin
theorem cost_moved {L : List Arc} {l : List Int} (b : Int) (hin : InX L l.length) : costL (l.map fun v => v + b) L = costL l L := by
  have := cost_map 1 b hin
  simpa using this
theorem checkC_of {n : Nat} {L : List Arc} {xs fs : List Int} (he : ordE n L = 0) (hl : xs.length = n) (hx : ∀ x ∈ xs, -1000000 ≤ x ∧ x ≤ 1000000) (hf : L.all (fitA xs) = true) :
    checkC n L xs fs = if fs.length = L.length ∧ fs.any badF = false then (if rightF n L fs = true then (if costL xs L = sumN (ff fs) fs.length then 0 else 15) else 12) else 2 := by
  have hc : costE n L xs = 0 := by
    unfold costE
    rw [if_pos he, if_pos, if_pos hf]
    refine ⟨by omega, ?_⟩
    rw [List.any_eq_false]
    intro x hm
    have := hx x hm
    simp [farB]; omega
  unfold checkC
  rw [if_pos hc]
theorem nf_less {G : Gf} {g h : Nat → Int} {i : Nat} (hi : h i = g i - 1) (ho : ∀ j, j ≠ i → h j = g j) (hne : G.tt i ≠ G.fr i) : ∀ m, nf G h (G.fr i) m = nf G g (G.fr i) m - (if i < m then 1 else 0)
  | 0 => by simp [nf]
  | m + 1 => by
    have ih := nf_less hi ho hne m
    simp only [nf]
    rw [ih]
    by_cases hm : m = i
    · subst hm
      rw [hi]
      simp only [ind]
      rw [if_pos trivial, if_pos trivial, if_neg hne, if_neg hne, if_neg (by omega), if_pos (by omega)]
      omega
    · rw [ho m hm]
      by_cases h1 : i < m
      · rw [if_pos h1, if_pos (by omega)]; omega
      · rw [if_neg h1, if_neg (by omega)]; omega
section
variable {n : Nat} {L : List Arc} {xs fs : List Int} {ways : Nat}
theorem Sol.inX (h : Sol n L xs fs ways) (k : Okg n L) : InX L xs.length := by
  intro a ha
  obtain ⟨i, hi⟩ := List.getElem?_of_mem ha
  obtain ⟨f, t, x, rfl, h1, h2, -⟩ := k.arc i a hi
  rw [h.lx]
  exact ⟨f, t, rfl, rfl, h1, h2⟩
theorem Sol.flowOk (h : Sol n L xs fs ways) : fs.length = L.length ∧ fs.any badF = false := by
  refine ⟨h.lf, ?_⟩
  rw [List.any_eq_false]
  intro y hy
  obtain ⟨i, hi⟩ := List.getElem?_of_mem hy
  have := h.nn i (by rw [← h.lf]; exact (List.getElem?_eq_some_iff.1 hi).1)
  unfold ff at this
  rw [hi] at this
  simp only [Option.getD_some] at this
  simp [badF]; omega
theorem Sol.farOk (h : Sol n L xs fs ways) (k : Okg n L) (b : Int) (hb : -100000 ≤ b ∧ b ≤ 100000) : ∀ x ∈ xs.map (fun v => v + b), -1000000 ≤ x ∧ x ≤ 1000000 := by
  intro x hx
  obtain ⟨y, hy, rfl⟩ := List.mem_map.1 hx
  have := h.lo y hy
  have := k.n1
  omega
/-- Moved, it is a proof still. -/
theorem Sol.check (h : Sol n L xs fs ways) (k : Okg n L) (he : ordE n L = 0) (b : Int) (hb : -100000 ≤ b ∧ b ≤ 100000) : checkC n L (xs.map fun v => v + b) fs = 0 := by
  rw [checkC_of he (by simp [h.lx]) (h.farOk k b hb) (by rw [fit_moved b (h.inX k)]; exact h.fit), if_pos h.flowOk, if_pos h.right, if_pos]
  rw [cost_moved b (h.inX k), h.lf, h.sum k]
theorem Sol.check0 (h : Sol n L xs fs ways) (k : Okg n L) (he : ordE n L = 0) : checkC n L xs fs = 0 := by
  have := h.check k he 0 (by omega)
  simpa using this
/-- A unit less along an arc is no proof. -/
theorem Sol.less (h : Sol n L xs fs ways) (k : Okg n L) (he : ordE n L = 0) (b : Int) (hb : -100000 ≤ b ∧ b ≤ 100000) (i : Nat) (hi : i < fs.length) : checkC n L (xs.map fun v => v + b) (fs.set i (fs[i] - 1)) = 12 ∨ checkC n L (xs.map fun v => v + b) (fs.set i (fs[i] - 1)) = 2 := by
  rw [checkC_of he (by simp [h.lx]) (h.farOk k b hb) (by rw [fit_moved b (h.inX k)]; exact h.fit)]
  have hiL : i < L.length := by rw [← h.lf]; exact hi
  have hr : ¬ rightF n L (fs.set i (fs[i] - 1)) = true := by
    intro hr
    obtain ⟨-, -, hbal⟩ := rightF_iff.1 hr
    obtain ⟨ha, hf, ht, -⟩ := k.at_ hiL
    have hfit := List.all_eq_true.1 h.fit _ (List.mem_of_getElem? ha)
    have hne : ttL L i ≠ frL L i := by
      intro e
      unfold fitA at hfit
      simp only [decide_eq_true_eq] at hfit
      rw [e] at hfit
      omega
    have e1 := hbal (frL L i) hf
    have e2 := h.bal (frL L i) hf
    have e3 := nf_less (G := gfL n L) (g := ff fs) (h := ff (fs.set i (fs[i] - 1))) (i := i) (by simp [ff, hi]) (fun j hj => by simp [ff, Ne.symm hj]) hne L.length
    rw [if_pos hiL] at e3
    change nf (gfL n L) (ff (fs.set i (fs[i] - 1))) (frL L i) L.length = nf (gfL n L) (ff fs) (frL L i) L.length - 1 at e3
    omega
  split
  · exact .inl rfl
  · exact .inr rfl
end
end Go.Proofs.YtjgloineooadoaaGreatDoor
/- A row of numbers of one's own, perhaps with room behind it. No program in sight. -/
namespace Go.Proofs.YtjgloineooadoaaGreatDoor
open Go.RowKit
def LRow (w : World) (b n : Nat) (F : Nat → Int) : Prop := ∃ (cap : Nat) (G : Nat → Value), n ≤ cap ∧ w.rowIs b 3 cap G ∧ ∀ j, j < n → G j = .int .i64 (F j)
section
variable {w w' : World} {b n : Nat} {F : Nat → Int}
theorem LRow.lt (h : LRow w b n F) : b < w.heap.size := by obtain ⟨_, _, _, h, _⟩ := h; exact h.lt
theorem LRow.cell (h : LRow w b n F) {j : Nat} (hj : j < n) : w.cell? ⟨b, j, none⟩ = some (.int .i64 (F j)) := by
  obtain ⟨cap, G, hn, h, hG⟩ := h
  rw [h.cell (by omega), hG j hj]
theorem LRow.frozen (h : LRow w b n F) (j : Nat) : w.frozen? ⟨b, j, none⟩ = false := by
  obtain ⟨cap, G, hn, h, hG⟩ := h
  exact h.frozen j
theorem LRow.of_block (h : LRow w b n F) (e : w'.heap[b]? = w.heap[b]?) : LRow w' b n F := by
  obtain ⟨cap, G, hn, h, hG⟩ := h
  exact ⟨cap, G, hn, h.of_block e, hG⟩
theorem LRow.later (h : LRow w b n F) (B : Below w.heap.size w w') : LRow w' b n F := h.of_block (B.block _ h.lt)
theorem LRow.congr {F' : Nat → Int} (h : LRow w b n F) (e : ∀ j, j < n → F j = F' j) : LRow w b n F' := by
  obtain ⟨cap, G, hn, h, hG⟩ := h
  exact ⟨cap, G, hn, h, fun j hj => by rw [hG j hj, e j hj]⟩
theorem LRow.set (h : LRow w b n F) (i : Nat) (y : Int) : LRow (w.setCell ⟨b, i, none⟩ (.int .i64 y)) b n (upd F i y) := by
  obtain ⟨cap, G, hn, h, hG⟩ := h
  exact ⟨cap, _, hn, h.set i (.int .i64 y), fun j hj => by
    unfold upd
    by_cases e : j = i
    · rw [if_pos e, if_pos e]
    · rw [if_neg e, if_neg e]; exact hG j hj⟩
theorem LRow.ints (h : LRow w b n F) {c : Nat} (hc : n ≤ c) : Ints w (.slice (some ⟨b, 0, none⟩) n c) ((List.range n).map F) := by
  refine ⟨some ⟨b, 0, none⟩, c, by simp, by simpa using hc, (fun h => by cases h), fun hl => ⟨b, 0, rfl, fun i a hi r v hv => ?_⟩⟩
  rw [List.getElem?_map] at hi
  by_cases hin : i < n
  · rw [List.getElem?_range hin] at hi
    simp at hi
    subst hi
    have hr : r = 0 := by have := (List.getElem?_eq_some_iff.1 hv).1; simp [encI] at this; exact this
    subst hr
    have : v = .int .i64 (F i) := by simpa [encI] using hv.symm
    subst this
    rw [Nat.zero_add, Nat.mul_one, Nat.add_zero]
    exact h.cell hin
  · rw [List.getElem?_eq_none (by simp; omega)] at hi
    simp at hi
theorem LRow.of_row (h : w.rowIs b 3 n (fun v => .int .i64 (F v))) : LRow w b n F := ⟨n, _, Nat.le_refl _, h, fun _ _ => rfl⟩
/-- What a clone is. -/
theorem LRow.of_own {B : Nat} {V : Value} {zs : List Int} (h : w.ownsRow B 3 1 V zs.length (flat encI zs)) (hz : 0 < zs.length) : ∃ (g c : Nat), V = .slice (some ⟨g, 0, none⟩) zs.length c ∧ zs.length ≤ c ∧ B ≤ g ∧ LRow w g zs.length (ff zs) := by
  rcases h.2 with ⟨hV, h0⟩ | ⟨g, cap, cur, hV, hg, hh, hle, r1, r2, r3⟩
  · have h0' : zs.length = 0 := h0
    omega
  · have hk : ∀ j, j < zs.length → cur[j]? = some (.int .i64 (ff zs j)) := fun j hj => by
      have h2 : w.cell? ⟨g, j, none⟩ = some (.int .i64 (ff zs j)) := by
        rw [hV] at h
        rw [h.cellAt j (by omega), flat_encI]
        unfold ff
        simp [hj]
      unfold World.cell? at h2
      rw [hh] at h2
      simpa using h2
    refine ⟨g, cap, hV, hle, hg, cur.size, fun j => (cur[j]?).getD default, ?_, ⟨cur, hh, rfl, fun i hi => by simp [hi]⟩, fun j hj => ?_⟩
    · have := (Array.getElem?_eq_some_iff.1 (hk (zs.length - 1) (by omega))).1
      omega
    · simp [hk j hj]
theorem range_ff (zs : List Int) : (List.range zs.length).map (ff zs) = zs := by
  apply List.ext_getElem
  · simp
  · intro i h1 h2
    simp [ff, h2]
end
/-- Raised, arc by arc, round by round: what holds. -/
def Rai (L : List Arc) (F : Nat → Int) (k j : Nat) : Prop := (∀ i, i < L.length → ttL L i < k → F (frL L i) + 1 ≤ F (ttL L i)) ∧ ∀ i, i < j → i < L.length → ttL L i = k → F (frL L i) + 1 ≤ F (ttL L i)
theorem Rai.step {L : List Arc} {F : Nat → Int} {k j : Nat} (h : Rai L F k j) (up : ∀ i, i < L.length → frL L i < ttL L i) (hj : j < L.length) : Rai L (upd F (ttL L j) (max (F (ttL L j)) (F (frL L j) + 1))) k (j + 1) := by
  have uj := up j hj
  by_cases h1 : ttL L j < k
  · have h2 := h.1 j hj h1
    have e : upd F (ttL L j) (max (F (ttL L j)) (F (frL L j) + 1)) = F := by
      funext v
      unfold upd
      split
      · rename_i e; rw [e]; omega
      · rfl
    rw [e]
    exact ⟨h.1, fun i hi hl ht => by
      by_cases e2 : i = j
      · subst e2; omega
      · exact h.2 i (by omega) hl ht⟩
  · refine ⟨fun i hl ht => ?_, fun i hi hl ht => ?_⟩
    · have ui := up i hl
      have e1 : ¬ frL L i = ttL L j := by omega
      have e2 : ¬ ttL L i = ttL L j := by omega
      unfold upd
      rw [if_neg e1, if_neg e2]
      exact h.1 i hl ht
    · have ui := up i hl
      have e1 : ¬ frL L i = ttL L j := by omega
      unfold upd
      rw [if_neg e1]
      by_cases e2 : i = j
      · subst e2; rw [if_pos rfl]; omega
      · have h3 := h.2 i (by omega) hl ht
        split
        · rename_i e3; rw [e3] at h3; omega
        · exact h3
theorem Rai.next {L : List Arc} {F : Nat → Int} {k : Nat} (h : Rai L F k L.length) : Rai L F (k + 1) 0 :=
  ⟨fun i hl ht => by
    by_cases e : ttL L i = k
    · exact h.2 i hl hl e
    · exact h.1 i hl (by omega), fun i hi => by omega⟩
theorem Rai.fit {n : Nat} {L : List Arc} {F : Nat → Int} (k : Okg n L) (h : Rai L F n 0) : L.all (fitA ((List.range n).map F)) = true := by
  rw [List.all_eq_true]
  intro a ha
  obtain ⟨i, hi⟩ := List.getElem?_of_mem ha
  have hil := (List.getElem?_eq_some_iff.1 hi).1
  obtain ⟨e, h1, h2, -⟩ := k.at_ hil
  rw [e] at hi
  cases hi
  unfold fitA
  simp only [decide_eq_true_eq]
  rw [at_row F h1, at_row F h2]
  have := h.1 i hil h2
  omega
end Go.Proofs.YtjgloineooadoaaGreatDoor
