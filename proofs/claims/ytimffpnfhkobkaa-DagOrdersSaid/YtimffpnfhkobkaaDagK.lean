/- What coordinates cost, or that they don't fit. -/
import Derived.Test.YtimffpnfhkobkaaDagC
namespace Go.Proofs.Ytimffpnfhkobkaa
open Go.RowKit
set_option maxRecDepth 100000 in
set_option maxHeartbeats 1000000 in
theorem indexInts_any {w : World} {V : Value} {L : List Int} {lf : Nat} {bound : Array Value} {p : Int → Bool} {ok : Int → Prop} (h : Ints w V L) (P : Pred lf bound (fun x => .int .i64 x) p ok w) (hok : ∀ a ∈ L, ok a) (hl : L.length ≤ 1000000000000000) :
    Calls Try.prog 43 #[V, .func (.func lf) #[] bound] w fun e w' => e = .returned (.int .i64 (findI p L)) ∧ Below w.heap.size w w' := by
  obtain ⟨A, cap, rfl, h1, h2, hA⟩ := h.at_
  clear h
  have HE := P.enter
  have HP := Lib.hid P
  have HO := Lib.hid hok
  clear P hok
  go_enter Try.func43, Try.ntmps43
  go_wp2_with fail
  go_loopw [8] (fun s wr => ∃ k : Nat, k ≤ L.length ∧ s = .int .i64 k ∧ Hid (∀ (i : Nat) (a : Int), i < k → L[i]? = some a → p a = false) ∧ Below w.heap.size w wr) (fun s _ => L.length - (intOf s).toNat)
  case atStart => exact ⟨0, by omega, rfl, Lib.hid (fun i a hi _ => absurd hi (by omega)), Below.refl _ _⟩
  case round =>
    obtain ⟨k, hk, rfl, hn, Bl⟩ := hrel
    by_cases hkn : k < L.length
    · obtain ⟨b, off, rfl, hc⟩ := hA (by omega)
      obtain ⟨a, ha⟩ : ∃ a, L[k]? = some a := ⟨_, List.getElem?_eq_getElem hkn⟩
      have c0 := hc k a ha
      have c0 := cell_later Bl c0
      have hC := HP.out.calls a wr (HO.out a (List.mem_of_getElem? ha)) Bl
      obtain ⟨pa, hpa⟩ : ∃ pa, p a = pa := ⟨_, rfl⟩
      rw [hpa] at hC
      have HC := Lib.hid hC
      have HPA := Lib.hid hpa
      have HAA := Lib.hid ha
      have HBl := Lib.hid Bl
      have hs := Bl.size
      have hld : decide ((k : Int) < L.length) = true := by simp; omega
      clear hc hA hC hpa ha Bl
      go_wp2_with fail
      refine HC.out.mono ?_
      rintro e w1 ⟨rfl, B1⟩
      have HB1 := Lib.hid (below_then HBl.out hs B1)
      clear B1
      cases pa
      · go_wp2_with fail
        exact ⟨⟨k + 1, by omega, by go_num, Lib.hid (fun i x hi hx => by
          by_cases e : i = k
          · subst e; rw [HAA.out] at hx; cases hx; exact HPA.out
          · exact hn.out i x (by omega) hx), HB1.out⟩, by simp [intOf]; omega⟩
      · go_wp2_with fail
        go_ret
        refine ⟨ret_int ?_, HB1.out⟩
        have e : L[k] = a := by have := HAA.out; rw [List.getElem?_eq_getElem hkn] at this; exact Option.some.inj this
        exact (find_stop hkn hn.out (by rw [e]; exact HPA.out)).symm
    · obtain rfl : k = L.length := by omega
      go_wp2_with fail
      go_ret
      exact ⟨ret_int (find_none (fun i a ha => hn.out i a (List.getElem?_eq_some_iff.1 ha).1 ha)).symm, Bl⟩
set_option maxHeartbeats 1000000 in
theorem anyInts_any {w : World} {V : Value} {L : List Int} {lf : Nat} {bound : Array Value} {p : Int → Bool} {ok : Int → Prop} (h : Ints w V L) (P : Pred lf bound (fun x => .int .i64 x) p ok w) (hok : ∀ a ∈ L, ok a) (hl : L.length ≤ 1000000000000000) :
    Calls Try.prog 21 #[V, .func (.func lf) #[] bound] w fun e w' => e = .returned (.bool (L.any p)) ∧ Below w.heap.size w w' := by
  have HH := Lib.hid h
  have HP := Lib.hid P
  have HO := Lib.hid hok
  clear h P hok
  go_enter Try.func21, Try.ntmps21
  go_wp2_with fail
  refine (indexInts_any HH.out HP.out HO.out hl).mono ?_
  rintro e w1 ⟨rfl, B1⟩
  have HB1 := Lib.hid B1
  clear B1
  go_wp2_with fail
  go_ret
  exact ⟨ret_bool (findI_ge p L), HB1.out⟩
def farB (v : Int) : Bool := decide (v < -1000000) || decide (1000000 < v)
theorem enterF : ∀ (args : Array Value) (w : World), (callFunc 42 args).run Try.prog w = .ok (.enter 42 args) w := by
  intro args w; kernel_rfl
theorem far_any (v : Int) (w : World) : Calls Try.prog 42 #[.int .i64 v] w fun e w' => e = .returned (.bool (farB v)) ∧ Below w.heap.size w w' := by
  go_enter Try.func42, Try.ntmps42
  by_cases h : v < -1000000
  · go_wp2
    go_ret
    exact ⟨ret_bool (by simp [farB, h]), Below.refl _ _⟩
  · go_wp2
    go_ret
    exact ⟨ret_bool (by simp [farB]; omega), Below.refl _ _⟩
theorem predF (w : World) : Pred 42 #[] (fun x : Int => Value.int .i64 x) farB (fun _ => True) w :=
  ⟨enterF, fun a w' _ _ => by
    have e : (#[Value.int .i64 a] ++ #[] : Array Value) = #[Value.int .i64 a] := rfl
    rw [e]
    exact far_any a w'⟩
def at_ (xs : List Int) (i : Int) : Int := xs[i.toNat]?.getD 0
def fitA (xs : List Int) (a : Arc) : Bool := decide (at_ xs a.1 < at_ xs a.2.1)
def costL (xs : List Int) : List Arc → Int
  | [] => 0
  | a :: L => a.2.2 * (at_ xs a.2.1 - at_ xs a.1) + costL xs L
theorem costL_snoc (xs : List Int) (a : Arc) : ∀ L, costL xs (L ++ [a]) = costL xs L + a.2.2 * (at_ xs a.2.1 - at_ xs a.1)
  | [] => by simp [costL]
  | b :: L => by simp only [List.cons_append, costL]; rw [costL_snoc xs a L]; omega
/-- What Cost tells. -/
def costE (n : Int) (L : List Arc) (xs : List Int) : Int := if ordE n L = 0 then (if (xs.length : Int) = n ∧ xs.any farB = false then (if L.all (fitA xs) = true then 0 else 15) else 2) else ordE n L
def costV (n : Int) (L : List Arc) (xs : List Int) : Int := if costE n L xs = 0 then costL xs L else 0
theorem ordE_right {n : Int} {L : List Arc} (h : ordE n L = 0) : rightB n L = true := by
  unfold ordE at h
  split at h
  · assumption
  · cases h
theorem mul_bound {x d : Int} (h0 : 0 ≤ x) (h1 : x ≤ 1000000) (d0 : 0 ≤ d) (d1 : d ≤ 2000000) : 0 ≤ x * d ∧ x * d ≤ 2000000000000 := by
  refine ⟨Int.mul_nonneg h0 d0, ?_⟩
  have := Int.mul_le_mul h1 d1 d0 (by omega : (0 : Int) ≤ 1000000)
  omega
set_option maxRecDepth 100000 in
set_option maxHeartbeats 2000000 in
theorem cost_any {w : World} {V Vx : Value} {L : List Arc} {xs : List Int} (n : Int) (h : Arcs w V L) (hx : Ints w Vx xs) (hxl : xs.length ≤ 1000000000000000) :
    Calls Try.prog 20 #[.int .i64 n, V, Vx] w fun e w' => e = .returned (.tuple #[.int .i64 (costV n L xs), .int .i64 (costE n L xs)]) ∧ Below w.heap.size w w' := by
  have HH := Lib.hid h
  have HX := Lib.hid hx
  clear h hx
  obtain ⟨A, cap, rfl, -, -, hA⟩ := HH.out.at_
  obtain ⟨AX, capX, rfl, -, -, hAX⟩ := HX.out.at_
  have HA := Lib.hid hA
  have HAX := Lib.hid hAX
  clear hA hAX
  go_enter Try.func20, Try.ntmps20
  go_wp2_with fail
  refine (check_any _ HH.out).mono ?_
  rintro e w1 ⟨rfl, B1⟩
  have HB1 := Lib.hid B1
  have HX1 := Lib.hid (HX.out.later B1)
  clear B1
  by_cases h0 : ordE n L = 0
  · have hr := ordE_right h0
    obtain ⟨m, rfl, hm, hL, hG⟩ := right_gr hr
    have H0 := Lib.hid h0
    have HG := Lib.hid hG
    rw [h0]
    clear h0 hr hG
    by_cases hlen : (xs.length : Int) = m
    · have hlen2 : xs.length = m := by omega
      have hld : ((xs.length : Int) != (m : Int)) = false := by simp [hlen2]
      have HL2 := Lib.hid hlen2
      have HL1 := Lib.hid hlen
      have hxm : xs.length ≤ 4096 := by omega
      clear hlen hlen2
      go_wp2_with fail
      refine (anyInts_any HX1.out (predF _) (fun _ _ => trivial) hxl).mono ?_
      obtain ⟨fa, hfa⟩ : ∃ fa, xs.any farB = fa := ⟨_, rfl⟩
      have HFA := Lib.hid hfa
      rw [hfa]
      clear hfa
      rintro e w2 ⟨rfl, B2⟩
      have HB2 := Lib.hid (below_then HB1.out HB1.out.size B2)
      clear B2
      cases fa
      · have hxb : ∀ (i : Nat), i < m → ∃ v : Int, xs[i]? = some v ∧ -1000000 ≤ v ∧ v ≤ 1000000 := fun i hi => by
          have hi' : i < xs.length := by rw [HL2.out]; exact hi
          refine ⟨xs[i], List.getElem?_eq_getElem hi', ?_⟩
          have := List.any_eq_false.1 HFA.out xs[i] (List.getElem_mem hi')
          simp only [farB, Bool.not_eq_true, Bool.or_eq_false_iff, decide_eq_false_iff_not] at this
          omega
        have HXB := Lib.hid hxb
        clear hxb
        go_wp2_with fail
        go_loopw [9, 29] (fun sv s wr => ∃ k : Nat, k ≤ L.length ∧ s = .int .i64 k ∧ sv = .int .i64 (costL xs (L.take k)) ∧ 0 ≤ costL xs (L.take k) ∧ costL xs (L.take k) ≤ k * 2000000000000 ∧ Hid (∀ a ∈ L.take k, fitA xs a = true) ∧ Below w.heap.size w wr) (fun _ s _ => L.length - (intOf s).toNat)
        case atStart => exact ⟨0, by omega, rfl, rfl, by simp [costL], by simp [costL], Lib.hid (by simp), HB2.out⟩
        case round => as_aux_lemma =>
          obtain ⟨k, hk, rfl, rfl, hc0, hc1, hfit, Bl⟩ := hrel
          by_cases hkn : k < L.length
          · obtain ⟨b, off, rfl, hc⟩ := HA.out (by omega)
            obtain ⟨a, ha⟩ : ∃ a, L[k]? = some a := ⟨_, List.getElem?_eq_getElem hkn⟩
            obtain ⟨f, t, x, rfl, hf, ht, hx, -⟩ := HG.out k a ha
            obtain ⟨c0, c1, c2⟩ := hc k _ ha
            have c0 := cell_later Bl c0
            have c1 := cell_later Bl c1
            have c2 := cell_later Bl c2
            simp only at c0 c1 c2
            obtain ⟨xf, hxf, xf0, xf1⟩ := HXB.out f hf
            obtain ⟨xt, hxt, xt0, xt1⟩ := HXB.out t ht
            obtain ⟨bx, ox, rfl, hcx⟩ := HAX.out (by have := HL2.out; omega)
            have ifl : (f : Int) < (xs.length : Int) := by have := HL2.out; omega
            have itl : (t : Int) < (xs.length : Int) := by have := HL2.out; omega
            have if0 : (0 : Int) ≤ (f : Int) := by omega
            have it0 : (0 : Int) ≤ (t : Int) := by omega
            have BA : Below wr.heap.size wr (wr.alloc (.cells #[.int .i64 (f : Nat), .int .i64 (t : Nat), .int .i64 (x : Nat)] 52)) := (Below.refl _ _).alloc (Nat.le_refl _) _
            have g0 : (wr.alloc (.cells #[.int .i64 (f : Nat), .int .i64 (t : Nat), .int .i64 (x : Nat)] 52)).cell? ⟨wr.heap.size, 0, none⟩ = some (.int .i64 (f : Nat)) := (Cl.new rfl).cell
            have g1 : (wr.alloc (.cells #[.int .i64 (f : Nat), .int .i64 (t : Nat), .int .i64 (x : Nat)] 52)).cell? ⟨wr.heap.size, 1, none⟩ = some (.int .i64 (t : Nat)) := (Cl.new rfl).cell
            have g2 : (wr.alloc (.cells #[.int .i64 (f : Nat), .int .i64 (t : Nat), .int .i64 (x : Nat)] 52)).cell? ⟨wr.heap.size, 2, none⟩ = some (.int .i64 (x : Nat)) := (Cl.new rfl).cell
            have d0 := cell_later BA (cell_later Bl (hcx f xf hxf))
            have d1 := cell_later BA (cell_later Bl (hcx t xt hxt))
            have HBA := Lib.hid (below_then Bl Bl.size BA)
            have e1 : at_ xs (f : Nat) = xf := by unfold at_; simp [hxf]
            have e2 : at_ xs (t : Nat) = xt := by unfold at_; simp [hxt]
            have HT : Hid (L.take (k + 1) = L.take k ++ [((f : Int), (t : Int), (x : Int))]) := Lib.hid (by
              obtain ⟨h1, h2⟩ := List.getElem?_eq_some_iff.1 ha
              rw [List.take_succ_eq_append_getElem h1, h2])
            have HS : Hid (costL xs (L.take (k + 1)) = costL xs (L.take k) + (x : Int) * (xt - xf)) := Lib.hid (by
              rw [HT.out, costL_snoc]; simp only; rw [e1, e2])
            have HFT : Hid (fitA xs ((f : Int), (t : Int), (x : Int)) = decide (xf < xt)) := Lib.hid (by unfold fitA; simp only; rw [e1, e2])
            have HAA := Lib.hid ha
            have hkl : (k : Int) ≤ 16384 := by omega
            generalize hcg : costL xs (L.take k) = cs at *
            have HCG := Lib.hid hcg
            clear hc ha hcx e1 e2 hxf hxt Bl hcg BA
            by_cases hd : xt - xf < 1
            · have hdd : decide (xt - xf < 1) = true := by simp; omega
              go_wp2_with fail
              go_quiet (fail)
              go_wp2_with fail
              refine bodyPost_ret (v := .tuple #[.int .i64 0, .int .i64 15]) (by simp [results, Try.results20, go_sem]) rfl ?_
              have hE : costE m L xs = 15 := by
                unfold costE
                rw [if_pos H0.out, if_pos ⟨HL1.out, HFA.out⟩, if_neg]
                intro hall
                have := List.all_eq_true.1 hall _ (List.mem_of_getElem? HAA.out)
                rw [HFT.out] at this
                simp at this
                omega
              exact ⟨by unfold costV; rw [hE]; rfl, below_drewN HBA.out _⟩
            · have hdd : decide (xt - xf < 1) = false := by simp; omega
              obtain ⟨p0, p1⟩ := mul_bound (x := (x : Int)) (d := xt - xf) (by omega) (by omega) (by omega) (by omega)
              go_wp2_with fail
              go_quiet (fail)
              go_wp2_with fail
              refine ⟨⟨k + 1, by omega, by go_num, by rw [HS.out], by rw [HS.out]; omega, by rw [HS.out]; omega, Lib.hid (fun a ha => ?_), below_drewN HBA.out _⟩, by simp [intOf]; omega⟩
              rw [HT.out] at ha
              rcases List.mem_append.1 ha with ha | ha
              · exact hfit.out a ha
              · simp at ha
                subst ha
                rw [HFT.out]
                simp
                omega
          · obtain rfl : k = L.length := by omega
            rw [List.take_of_length_le (Nat.le_refl _)] at hfit hc0 hc1
            have hT : L.take L.length = L := List.take_of_length_le (Nat.le_refl _)
            have hE : costE m L xs = 0 := by
              unfold costE
              rw [if_pos H0.out, if_pos ⟨HL1.out, HFA.out⟩, if_pos (List.all_eq_true.2 hfit.out)]
            have hV : costV m L xs = costL xs L := by unfold costV; rw [if_pos hE]
            have HE := Lib.hid hE
            have HV := Lib.hid hV
            have HTT := Lib.hid hT
            clear hE hV hT
            go_wp2_with fail
            refine bodyPost_ret (v := .tuple #[.int .i64 (costL xs L), .int .i64 0]) (by simp [results, Try.results20, go_sem]) rfl ?_
            exact ⟨by rw [HV.out, HE.out], Bl⟩
      · have hE : Hid (costE m L xs = 2) := Lib.hid (by
          unfold costE
          rw [if_pos H0.out, if_neg (fun h => by have := h.2; rw [HFA.out] at this; cases this)])
        go_wp2_with fail
        refine bodyPost_ret (v := .tuple #[.int .i64 0, .int .i64 2]) (by simp [results, Try.results20, go_sem]) rfl ?_
        exact ⟨by unfold costV; rw [hE.out]; rfl, HB2.out⟩
    · have hld : ((xs.length : Int) != (m : Int)) = true := by simp; omega
      have hE : Hid (costE m L xs = 2) := Lib.hid (by
        unfold costE
        rw [if_pos H0.out, if_neg (fun h => hlen h.1)])
      clear hlen
      go_wp2_with fail
      refine bodyPost_ret (v := .tuple #[.int .i64 0, .int .i64 2]) (by simp [results, Try.results20, go_sem]) rfl ?_
      exact ⟨by unfold costV; rw [hE.out]; rfl, HB1.out⟩
  · have hE : Hid (costE n L xs = ordE n L) := Lib.hid (by unfold costE; rw [if_neg h0])
    have hV : Hid (costV n L xs = 0) := Lib.hid (by unfold costV; rw [hE.out, if_neg h0])
    have hne : (ordE n L != 0) = true := by simp [h0]
    generalize hoe : ordE n L = oe at *
    clear h0 hoe
    go_wp2_with fail
    refine bodyPost_ret (v := .tuple #[.int .i64 0, .int .i64 oe]) (by simp [results, Try.results20, go_sem]) rfl ?_
    exact ⟨by rw [hV.out, hE.out], HB1.out⟩
end Go.Proofs.Ytimffpnfhkobkaa
