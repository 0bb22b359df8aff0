/- The law HeapLeast returns true at every list of acts. No condition. -/
import Derived.Test.YtmnfefebbadflaaLeast
import Derived.Test.YtmnfefebbadflaaWake
import Derived.Deep.DeepCutAuto
namespace Go.Proofs.Ytmnfefebbadflaa
open Go.RowKit Go.Maps
set_option maxRecDepth 100000 in
set_option maxHeartbeats 2000000 in
theorem least_walk (A : Option Addr) (len cap : Nat) (w : World) (hlc : len ≤ cap) (hcap : cap ≤ 140737488351232)
    (hA : 0 < len → ∃ b off, A = some ⟨b, off, none⟩ ∧ ∀ i, i < len → ∃ d k m : Int, 0 ≤ d ∧ d ≤ 255 ∧ -128 ≤ k ∧ k ≤ 127 ∧ -128 ≤ m ∧ m ≤ 127 ∧ w.cell? ⟨b, off + i * 3, none⟩ = some (.int .u8 d) ∧ w.cell? ⟨b, off + i * 3 + 1, none⟩ = some (.int .i8 k) ∧ w.cell? ⟨b, off + i * 3 + 2, none⟩ = some (.int .i8 m))
    (hN : A = none → len = 0 ∧ cap = 0) :
    Calls Try.prog 4 #[.slice A len cap] w fun e w' => e = .returned (.bool true) ∧ Below w.heap.size w w' := by
  have hmm := @run_makeMap Try.prog
  go_enter Try.func4, Try.ntmps4
  go_wp2_with fail
  refine (HInt.new_any 21 _).mono ?_
  rintro e w' ⟨rfl, hw⟩
  have R0 := HInt.new_rep (.func (.func 21) #[] #[]) w w.heap.size
  rw [← hw] at R0
  have B0 : Below w.heap.size w w' := by rw [hw]; exact (Below.refl _ _).alloc (Nat.le_refl _) _
  have HR0 := Lib.hid R0
  have HB0 := Lib.hid B0
  have sM := B0.size
  clear hw R0 B0
  obtain ⟨N, hNe⟩ : ∃ N : Nat, N = min len 100 := ⟨min len 100, rfl⟩
  have hN1 : N ≤ len := by omega
  have hN2 : N ≤ 100 := by omega
  go_upto_region 3 with fail
  go_cut [22, 23, 24] (fun s n c wx => s = .slice A N cap ∧ n = .int .i64 N ∧ c = .int .i64 0 ∧ wx = w'.alloc (.map #[] 0))
  case first =>
    by_cases h : (len : Int) ≤ 100
    · obtain rfl : N = len := by omega
      clear hNe
      go_wp2_with fail
      go_meet
      exact ⟨rfl, congrArg (Value.int .i64) (by omega), rfl, rfl⟩
    · obtain rfl : N = 100 := by omega
      clear hNe
      go_wp2_with fail
      go_meet
      exact ⟨rfl, by rfl, rfl, rfl⟩
  case rest =>
    obtain ⟨rfl, rfl, rfl, rfl⟩ := hcut
    clear hNe
    have BM : Below w'.heap.size w' (w'.alloc (.map #[] 0)) := (Below.refl _ _).alloc (Nat.le_refl _) _
    go_wp2_with fail
    go_loopw [24] (fun c wr => ∃ (k : Nat) (V : Value) (t : Int) (hl : List (Int × Int)) (D : DataW Unit), k ≤ N ∧ c = .int .i64 k ∧ HInt.Rep wr w.heap.size (.func (.func 21) #[] #[]) V t w.heap.size hl ∧ Heapy ltI hl ∧ wr.ownsMap Try.prog 3 (plainElem Try.prog 3) w'.heap.size k D ∧ Agr D hl ∧ Below w.heap.size w wr ∧ 0 ≤ t ∧ t ≤ k ∧ hl.length ≤ k ∧ (∀ p ∈ hl, -128 ≤ p.1 ∧ p.1 ≤ 127)) (fun c _ => N - (intOf c).toNat)
    case atStart => exact ⟨0, _, 0, [], _, by omega, rfl, HR0.out.later BM, fun j _ h => by simp at h, World.ownsMap_made _ _ _ _, Agr.nil, below_then HB0.out sM BM, by omega, by omega, by simp, by simp⟩
    case round =>
      obtain ⟨k, V, t, hl, D, hk, rfl, R, hH, O, hG, Bl, ht0, htk, hlk, hrng⟩ := hrel
      by_cases hlt : k < N
      · obtain ⟨b, off, rfl, hcells⟩ := hA (by omega)
        obtain ⟨d, ky, mo, hd0, hd1, hky0, hky1, hmo0, hmo1, c0, c1, c2⟩ := hcells k (by omega)
        have c0 := cell_later Bl c0
        have c1 := cell_later Bl c1
        have c2 := cell_later Bl c2
        have HR := Lib.hid R
        have HO := Lib.hid O
        have HB := Lib.hid Bl
        have HG := Lib.hid hG
        have HH := Lib.hid hH
        have HI := Lib.hid hrng
        have hs := Bl.size
        clear R O Bl hcells hA hN hG hH hrng hmm BM
        have BX : Below wr.heap.size wr (wr.alloc (.cells #[.int .u8 d, .int .i8 ky, .int .i8 mo] 31)) := (Below.refl _ _).alloc (Nat.le_refl _) _
        have HR1 := Lib.hid (HR.out.later BX)
        have HO1 := Lib.hid (map_later HO.out BX)
        have HB1 := Lib.hid (below_then HB.out hs BX)
        clear BX
        by_cases h3 : d % 3 = 0
        · have e3 : (d % 3 == 0) = true := by simp [h3]
          clear h3
          rcases hl with _ | ⟨a, r⟩
          · go_wp2_with fail
            refine (HInt.pop_none HR1.out).mono ?_
            rintro e w2 ⟨rfl, hw2⟩
            have HR2 := Lib.hid (HR1.out.later hw2)
            have HO2 := Lib.hid (map_later HO1.out hw2)
            have HB2 := Lib.hid (below_then HB1.out HB1.out.size hw2)
            clear hw2
            go_wp2_with fail
            exact ⟨⟨k + 1, V, t, [], D, by omega, by go_num, HR2.out, HH.out, HO2.out.mono (by omega), HG.out, HB2.out, by omega, by omega, by simp, by simp⟩, by simp [intOf]; omega⟩
          · have hlk' : r.length + 1 ≤ k := by simpa using hlk
            go_wp2_with fail
            refine (HInt.pop_some less21 HR1.out (by omega)).mono ?_
            rintro e w2 ⟨rfl, ⟨V2, _, R2⟩, C2⟩
            have HO2 := Lib.hid (map_chg HR1.out HO1.out C2)
            have HB2 := Lib.hid (HB1.out.trans (rep_below HR1.out C2 (Nat.le_refl _) (Nat.le_refl _)))
            have HR2 := Lib.hid R2
            have ha := HI.out a (by simp)
            obtain ⟨ha0, ha1⟩ := ha
            have hcb := cnt_bounds (a :: r) a.1
            have hcl : (a :: r).length = r.length + 1 := rfl
            have hs2 := HB2.out.size
            clear R2 C2
            go_wp2_with (first
              | (at_lookup; refine wpList_lookup_own_int _ rfl _ _ 43 rfl 3 3 .i64 law3 Try.underlying43 Try.underlying3 (zero3 _) w'.heap.size k _ rfl HO2.out _ _ rfl (keyOf_int_mk Try.underlying3 (WalkArith.wf_i64 (by omega))) ?_; intro c hat hwc; have hc := HG.out.look hat; have HC := Lib.hid hc; have hc0 : 0 ≤ c := (by omega); have hc1 : c ≤ 1000 := (by omega); clear hat hwc hc)
              | (at_mapUpdate; refine wpList_mapUpdate_own _ rfl _ _ _ 43 rfl 3 3 law3 Try.underlying43 _ w'.heap.size k _ rfl HO2.out (by unfold maxLen; omega) _ _ _ rfl rfl (keyOf_int_mk Try.underlying3 (WalkArith.wf_i64 (by omega))) _ [] (plainElem_int Try.underlying3 (WalkArith.wf_i64 (by omega))) ?_; intro w3 hown3 hgrow3)
              | fail)
            have HG3 := HG.out.pop HO2.out.isMap HC.out
            have HB3 := HB2.out.grown hgrow3 hs2 (fun j hj => by cases hj; exact sM)
            exact ⟨⟨k + 1, V2, t, _, _, by omega, by go_num, rep_map HR2.out HO2.out hgrow3, pop_heapy totI HH.out, hown3, HG3, HB3, by omega, by omega, by rw [popL_one]; omega, fun p hp => HI.out p (by have := (pop_perm (lt := ltI) a r).mem_iff.1 hp; simp [this])⟩, by simp [intOf]; omega⟩
        · have e3 : (d % 3 == 0) = false := by simp [h3]
          clear h3
          have hcb := cnt_bounds hl ky
          obtain ⟨a', r', hp', hh', hmin, hle, hfrom⟩ := push_head HH.out ky (t + 1)
          have HP := Lib.hid hp'
          have HH' := Lib.hid hh'
          have HM := Lib.hid hmin
          clear hp' hh' hmin
          rcases hl with _ | ⟨a, r⟩
          · have hnow : a'.1 = ky := by rcases hfrom with h | ⟨p, hp, _⟩; (· exact h); (· simp at hp)
            clear hfrom hle
            simp only [List.length_nil] at *
            go_wp2_with fail
            refine (HInt.top_none HR1.out).mono ?_
            rintro e w2 ⟨rfl, hw2⟩
            have HR2 := Lib.hid (HR1.out.later hw2)
            have HO2 := Lib.hid (map_later HO1.out hw2)
            have HB2 := Lib.hid (below_then HB1.out HB1.out.size hw2)
            have hs2 := HB2.out.size
            have KX := (Cl.new (w := wr) (c := #[.int .u8 d, .int .i8 ky, .int .i8 mo]) (t := 31) (j := 1) (v := .int .i8 ky) rfl).later hw2
            clear hw2
            go_wp2_with fail
            refine (HInt.push_any less21 (x := ky) HR2.out (by first | omega | (simp; done) | (simp at hlk ⊢; omega)) ht0 (by omega) hs2).mono ?_
            rintro e w3 ⟨rfl, ⟨V3, _, R3⟩, C3⟩
            have HO3 := Lib.hid (map_chg HR2.out HO2.out C3)
            have HB3 := Lib.hid (HB2.out.trans (rep_below HR2.out C3 (Nat.le_refl _) (Nat.le_refl _)))
            have HR3 := Lib.hid R3
            have hs3 := HB3.out.size
            clear R3 C3 KX
            go_wp2_with (first
              | (at_lookup; refine wpList_lookup_own_int _ rfl _ _ 43 rfl 3 3 .i64 law3 Try.underlying43 Try.underlying3 (zero3 _) w'.heap.size k _ rfl HO3.out _ _ rfl (keyOf_int_mk Try.underlying3 (WalkArith.wf_i64 (by omega))) ?_; intro c hat hwc; have hc := HG.out.look hat; have HC := Lib.hid hc; have hc0 : 0 ≤ c := (by omega); have hc1 : c ≤ 1000 := (by omega); clear hat hwc hc)
              | (at_mapUpdate; refine wpList_mapUpdate_own _ rfl _ _ _ 43 rfl 3 3 law3 Try.underlying43 _ w'.heap.size k _ rfl HO3.out (by unfold maxLen; omega) _ _ _ rfl rfl (keyOf_int_mk Try.underlying3 (WalkArith.wf_i64 (by omega))) _ [] (plainElem_int Try.underlying3 (WalkArith.wf_i64 (by omega))) ?_; intro w4 hown4 hgrow4)
              | fail)
            have R4 := rep_map HR3.out HO3.out hgrow4
            rw [HP.out] at R4
            have G4 := HG.out.push HO3.out.isMap ky (t + 1) HC.out
            rw [HP.out] at G4
            have HG4 := Lib.hid G4
            have HB4 := Lib.hid (HB3.out.grown hgrow4 hs3 (fun j hj => by cases hj; exact sM))
            have HR4 := Lib.hid R4
            have HO4 := Lib.hid hown4
            clear R4 G4 hown4 hgrow4
            refine (HInt.top_some HR4.out).mono ?_
            rw [hnow]
            rintro e w5 ⟨rfl, hw5⟩
            have HR5 := Lib.hid (HR4.out.later hw5)
            have HO5 := Lib.hid (map_later HO4.out hw5)
            have HB5 := Lib.hid (below_then HB4.out HB4.out.size hw5)
            clear hw5
            go_wp2_with (first
              | (at_range; refine wpList_range_own _ rfl _ 43 rfl 3 3 law3 Try.underlying43 _ w'.heap.size (k + 1) _ rfl HO5.out ?_; intro w6 hrg0 hg0 hs0)
              | fail)
            go_frame
            have hgb : Below w5.heap.size w5 w6 := (Below.refl _ _).grown hg0 (Nat.le_refl _) (fun j hj => by cases hj)
            go_loopw [14] (fun _ wx => ∃ (left : Lit → Bool) (cn : Nat), wx.ranges Try.prog 3 (plainElem Try.prog 3) w'.heap.size w5.heap.size (k + 1) _ left cn ∧ Below w5.heap.size w5 wx) (fun _ wx => wx.rangeLeft w'.heap.size w5.heap.size)
            case atStart => exact ⟨_, _, hrg0, hgb⟩
            case round =>
              obtain ⟨left, cn, hrg, hgw⟩ := hrel
              go_wp2_with (first
                | (at_next; refine wpList_next_ranges_ii _ rfl _ rfl 3 3 .i64 .i64 law3 Try.underlying3 Try.underlying3 w'.heap.size w5.heap.size (k + 1) _ _ _ rfl hrg ?_ ?_)
                | fail)
              · intro _ hl0
                go_wp2_with fail
                have hll : (a' :: r').length ≤ k + 1 := by rw [← HP.out, (push_perm (lt := ltI) _ ky (t + 1)).length_eq, List.length_append]; first | (simp at hlk ⊢; omega) | (simp; done) | (simp; omega)
                exact ⟨⟨k + 1, V3, t + 1, _, _, by omega, by go_num, HR5.out.later hgw, HH'.out, hrg.owns, HG4.out, below_then HB5.out HB5.out.size hgw, by omega, by omega, hll, fun p hp => by
                  rw [← HP.out] at hp
                  have := (push_perm (lt := ltI) _ ky (t + 1)).mem_iff.1 hp
                  rcases List.mem_append.1 this with h | h
                  · exact HI.out p h
                  · simp at h; subst h; exact ⟨hky0, hky1⟩⟩, by simp [intOf]; omega⟩
              · intro x c' w7 cn1 hwx hwc hlx hat hrg1 hltc hg1 hs1 hen
                have hc' := HG4.out.look (hat _)
                have hb' := cnt_bounds (a' :: r') x
                have hx0 : 0 < c' → ky ≤ x := fun h => by
                  obtain ⟨p, hp, rfl⟩ := cnt_pos (l := a' :: r') (x := x) (by omega)
                  rw [← hnow]
                  exact head_min HH'.out p hp
                have hneg : decide (c' < 0) = false := by simp; omega
                have hgw1 := hgw.grown hg1 hgw.size (fun j hj => by cases hj; exact Nat.le_refl _)
                by_cases hpos : 0 < c'
                · have hd : decide (x < ky) = false := by have := hx0 hpos; simp; omega
                  have hx1 := hx0 hpos
                  clear hc' hb' hx0
                  go_wp2_with fail
                  go_roundw
                  case rel => exact ⟨_, cn1, hrg1, hgw1⟩
                  case measure => rw [hrg1.left_eq, hrg.left_eq]; exact hltc
                · have hd : decide (0 < c') = false := by simp; omega
                  clear hc' hb' hx0
                  go_wp2_with fail
                  go_roundw
                  case rel => exact ⟨_, cn1, hrg1, hgw1⟩
                  case measure => rw [hrg1.left_eq, hrg.left_eq]; exact hltc
          · have hmA := HM.out a (by simp)
            have hm0 := head_min HH.out
            have haR := HI.out a (by simp)
            obtain ⟨haR0, haR1⟩ := haR
            by_cases hmn : a.1 ≤ ky
            · have hnow : a'.1 = a.1 := by
                rcases hfrom with h | ⟨p, hp, h⟩
                · omega
                · have := hm0 p hp; omega
              clear hfrom hle hmA hm0
              go_wp2_with fail
              refine (HInt.top_some HR1.out).mono ?_
              rintro e w2 ⟨rfl, hw2⟩
              have HR2 := Lib.hid (HR1.out.later hw2)
              have HO2 := Lib.hid (map_later HO1.out hw2)
              have HB2 := Lib.hid (below_then HB1.out HB1.out.size hw2)
              have hs2 := HB2.out.size
              have KX := (Cl.new (w := wr) (c := #[.int .u8 d, .int .i8 ky, .int .i8 mo]) (t := 31) (j := 1) (v := .int .i8 ky) rfl).later hw2
              clear hw2
              go_wp2_with fail
              refine (HInt.push_any less21 (x := ky) HR2.out (by first | omega | (simp; done) | (simp at hlk ⊢; omega)) ht0 (by omega) hs2).mono ?_
              rintro e w3 ⟨rfl, ⟨V3, _, R3⟩, C3⟩
              have HO3 := Lib.hid (map_chg HR2.out HO2.out C3)
              have HB3 := Lib.hid (HB2.out.trans (rep_below HR2.out C3 (Nat.le_refl _) (Nat.le_refl _)))
              have HR3 := Lib.hid R3
              have hs3 := HB3.out.size
              clear R3 C3 KX
              go_wp2_with (first
                | (at_lookup; refine wpList_lookup_own_int _ rfl _ _ 43 rfl 3 3 .i64 law3 Try.underlying43 Try.underlying3 (zero3 _) w'.heap.size k _ rfl HO3.out _ _ rfl (keyOf_int_mk Try.underlying3 (WalkArith.wf_i64 (by omega))) ?_; intro c hat hwc; have hc := HG.out.look hat; have HC := Lib.hid hc; have hc0 : 0 ≤ c := (by omega); have hc1 : c ≤ 1000 := (by omega); clear hat hwc hc)
                | (at_mapUpdate; refine wpList_mapUpdate_own _ rfl _ _ _ 43 rfl 3 3 law3 Try.underlying43 _ w'.heap.size k _ rfl HO3.out (by unfold maxLen; omega) _ _ _ rfl rfl (keyOf_int_mk Try.underlying3 (WalkArith.wf_i64 (by omega))) _ [] (plainElem_int Try.underlying3 (WalkArith.wf_i64 (by omega))) ?_; intro w4 hown4 hgrow4)
                | fail)
              have R4 := rep_map HR3.out HO3.out hgrow4
              rw [HP.out] at R4
              have G4 := HG.out.push HO3.out.isMap ky (t + 1) HC.out
              rw [HP.out] at G4
              have HG4 := Lib.hid G4
              have HB4 := Lib.hid (HB3.out.grown hgrow4 hs3 (fun j hj => by cases hj; exact sM))
              have HR4 := Lib.hid R4
              have HO4 := Lib.hid hown4
              clear R4 G4 hown4 hgrow4
              refine (HInt.top_some HR4.out).mono ?_
              rw [hnow]
              rintro e w5 ⟨rfl, hw5⟩
              have HR5 := Lib.hid (HR4.out.later hw5)
              have HO5 := Lib.hid (map_later HO4.out hw5)
              have HB5 := Lib.hid (below_then HB4.out HB4.out.size hw5)
              clear hw5
              go_wp2_with (first
                | (at_range; refine wpList_range_own _ rfl _ 43 rfl 3 3 law3 Try.underlying43 _ w'.heap.size (k + 1) _ rfl HO5.out ?_; intro w6 hrg0 hg0 hs0)
                | fail)
              go_frame
              have hgb : Below w5.heap.size w5 w6 := (Below.refl _ _).grown hg0 (Nat.le_refl _) (fun j hj => by cases hj)
              go_loopw [14] (fun _ wx => ∃ (left : Lit → Bool) (cn : Nat), wx.ranges Try.prog 3 (plainElem Try.prog 3) w'.heap.size w5.heap.size (k + 1) _ left cn ∧ Below w5.heap.size w5 wx) (fun _ wx => wx.rangeLeft w'.heap.size w5.heap.size)
              case atStart => exact ⟨_, _, hrg0, hgb⟩
              case round =>
                obtain ⟨left, cn, hrg, hgw⟩ := hrel
                go_wp2_with (first
                  | (at_next; refine wpList_next_ranges_ii _ rfl _ rfl 3 3 .i64 .i64 law3 Try.underlying3 Try.underlying3 w'.heap.size w5.heap.size (k + 1) _ _ _ rfl hrg ?_ ?_)
                  | fail)
                · intro _ hl0
                  go_wp2_with fail
                  have hll : (a' :: r').length ≤ k + 1 := by rw [← HP.out, (push_perm (lt := ltI) _ ky (t + 1)).length_eq, List.length_append]; first | (simp at hlk ⊢; omega) | (simp; done) | (simp; omega)
                  exact ⟨⟨k + 1, V3, t + 1, _, _, by omega, by go_num, HR5.out.later hgw, HH'.out, hrg.owns, HG4.out, below_then HB5.out HB5.out.size hgw, by omega, by omega, hll, fun p hp => by
                    rw [← HP.out] at hp
                    have := (push_perm (lt := ltI) _ ky (t + 1)).mem_iff.1 hp
                    rcases List.mem_append.1 this with h | h
                    · exact HI.out p h
                    · simp at h; subst h; exact ⟨hky0, hky1⟩⟩, by simp [intOf]; omega⟩
                · intro x c' w7 cn1 hwx hwc hlx hat hrg1 hltc hg1 hs1 hen
                  have hc' := HG4.out.look (hat _)
                  have hb' := cnt_bounds (a' :: r') x
                  have hx0 : 0 < c' → a.1 ≤ x := fun h => by
                    obtain ⟨p, hp, rfl⟩ := cnt_pos (l := a' :: r') (x := x) (by omega)
                    rw [← hnow]
                    exact head_min HH'.out p hp
                  have hneg : decide (c' < 0) = false := by simp; omega
                  have hgw1 := hgw.grown hg1 hgw.size (fun j hj => by cases hj; exact Nat.le_refl _)
                  by_cases hpos : 0 < c'
                  · have hd : decide (x < a.1) = false := by have := hx0 hpos; simp; omega
                    have hx1 := hx0 hpos
                    clear hc' hb' hx0
                    go_wp2_with fail
                    go_roundw
                    case rel => exact ⟨_, cn1, hrg1, hgw1⟩
                    case measure => rw [hrg1.left_eq, hrg.left_eq]; exact hltc
                  · have hd : decide (0 < c') = false := by simp; omega
                    clear hc' hb' hx0
                    go_wp2_with fail
                    go_roundw
                    case rel => exact ⟨_, cn1, hrg1, hgw1⟩
                    case measure => rw [hrg1.left_eq, hrg.left_eq]; exact hltc
            · have hnow : a'.1 = ky := by
                rcases hfrom with h | ⟨p, hp, h⟩
                · exact h
                · have := hm0 p hp; omega
              clear hfrom hle hmA hm0
              go_wp2_with fail
              refine (HInt.top_some HR1.out).mono ?_
              rintro e w2 ⟨rfl, hw2⟩
              have HR2 := Lib.hid (HR1.out.later hw2)
              have HO2 := Lib.hid (map_later HO1.out hw2)
              have HB2 := Lib.hid (below_then HB1.out HB1.out.size hw2)
              have hs2 := HB2.out.size
              have KX := (Cl.new (w := wr) (c := #[.int .u8 d, .int .i8 ky, .int .i8 mo]) (t := 31) (j := 1) (v := .int .i8 ky) rfl).later hw2
              clear hw2
              go_wp2_with fail
              refine (HInt.push_any less21 (x := ky) HR2.out (by first | omega | (simp; done) | (simp at hlk ⊢; omega)) ht0 (by omega) hs2).mono ?_
              rintro e w3 ⟨rfl, ⟨V3, _, R3⟩, C3⟩
              have HO3 := Lib.hid (map_chg HR2.out HO2.out C3)
              have HB3 := Lib.hid (HB2.out.trans (rep_below HR2.out C3 (Nat.le_refl _) (Nat.le_refl _)))
              have HR3 := Lib.hid R3
              have hs3 := HB3.out.size
              clear R3 C3 KX
              go_wp2_with (first
                | (at_lookup; refine wpList_lookup_own_int _ rfl _ _ 43 rfl 3 3 .i64 law3 Try.underlying43 Try.underlying3 (zero3 _) w'.heap.size k _ rfl HO3.out _ _ rfl (keyOf_int_mk Try.underlying3 (WalkArith.wf_i64 (by omega))) ?_; intro c hat hwc; have hc := HG.out.look hat; have HC := Lib.hid hc; have hc0 : 0 ≤ c := (by omega); have hc1 : c ≤ 1000 := (by omega); clear hat hwc hc)
                | (at_mapUpdate; refine wpList_mapUpdate_own _ rfl _ _ _ 43 rfl 3 3 law3 Try.underlying43 _ w'.heap.size k _ rfl HO3.out (by unfold maxLen; omega) _ _ _ rfl rfl (keyOf_int_mk Try.underlying3 (WalkArith.wf_i64 (by omega))) _ [] (plainElem_int Try.underlying3 (WalkArith.wf_i64 (by omega))) ?_; intro w4 hown4 hgrow4)
                | fail)
              have R4 := rep_map HR3.out HO3.out hgrow4
              rw [HP.out] at R4
              have G4 := HG.out.push HO3.out.isMap ky (t + 1) HC.out
              rw [HP.out] at G4
              have HG4 := Lib.hid G4
              have HB4 := Lib.hid (HB3.out.grown hgrow4 hs3 (fun j hj => by cases hj; exact sM))
              have HR4 := Lib.hid R4
              have HO4 := Lib.hid hown4
              clear R4 G4 hown4 hgrow4
              refine (HInt.top_some HR4.out).mono ?_
              rw [hnow]
              rintro e w5 ⟨rfl, hw5⟩
              have HR5 := Lib.hid (HR4.out.later hw5)
              have HO5 := Lib.hid (map_later HO4.out hw5)
              have HB5 := Lib.hid (below_then HB4.out HB4.out.size hw5)
              clear hw5
              go_wp2_with (first
                | (at_range; refine wpList_range_own _ rfl _ 43 rfl 3 3 law3 Try.underlying43 _ w'.heap.size (k + 1) _ rfl HO5.out ?_; intro w6 hrg0 hg0 hs0)
                | fail)
              go_frame
              have hgb : Below w5.heap.size w5 w6 := (Below.refl _ _).grown hg0 (Nat.le_refl _) (fun j hj => by cases hj)
              go_loopw [14] (fun _ wx => ∃ (left : Lit → Bool) (cn : Nat), wx.ranges Try.prog 3 (plainElem Try.prog 3) w'.heap.size w5.heap.size (k + 1) _ left cn ∧ Below w5.heap.size w5 wx) (fun _ wx => wx.rangeLeft w'.heap.size w5.heap.size)
              case atStart => exact ⟨_, _, hrg0, hgb⟩
              case round =>
                obtain ⟨left, cn, hrg, hgw⟩ := hrel
                go_wp2_with (first
                  | (at_next; refine wpList_next_ranges_ii _ rfl _ rfl 3 3 .i64 .i64 law3 Try.underlying3 Try.underlying3 w'.heap.size w5.heap.size (k + 1) _ _ _ rfl hrg ?_ ?_)
                  | fail)
                · intro _ hl0
                  go_wp2_with fail
                  have hll : (a' :: r').length ≤ k + 1 := by rw [← HP.out, (push_perm (lt := ltI) _ ky (t + 1)).length_eq, List.length_append]; first | (simp at hlk ⊢; omega) | (simp; done) | (simp; omega)
                  exact ⟨⟨k + 1, V3, t + 1, _, _, by omega, by go_num, HR5.out.later hgw, HH'.out, hrg.owns, HG4.out, below_then HB5.out HB5.out.size hgw, by omega, by omega, hll, fun p hp => by
                    rw [← HP.out] at hp
                    have := (push_perm (lt := ltI) _ ky (t + 1)).mem_iff.1 hp
                    rcases List.mem_append.1 this with h | h
                    · exact HI.out p h
                    · simp at h; subst h; exact ⟨hky0, hky1⟩⟩, by simp [intOf]; omega⟩
                · intro x c' w7 cn1 hwx hwc hlx hat hrg1 hltc hg1 hs1 hen
                  have hc' := HG4.out.look (hat _)
                  have hb' := cnt_bounds (a' :: r') x
                  have hx0 : 0 < c' → ky ≤ x := fun h => by
                    obtain ⟨p, hp, rfl⟩ := cnt_pos (l := a' :: r') (x := x) (by omega)
                    rw [← hnow]
                    exact head_min HH'.out p hp
                  have hneg : decide (c' < 0) = false := by simp; omega
                  have hgw1 := hgw.grown hg1 hgw.size (fun j hj => by cases hj; exact Nat.le_refl _)
                  by_cases hpos : 0 < c'
                  · have hd : decide (x < ky) = false := by have := hx0 hpos; simp; omega
                    have hx1 := hx0 hpos
                    clear hc' hb' hx0
                    go_wp2_with fail
                    go_roundw
                    case rel => exact ⟨_, cn1, hrg1, hgw1⟩
                    case measure => rw [hrg1.left_eq, hrg.left_eq]; exact hltc
                  · have hd : decide (0 < c') = false := by simp; omega
                    clear hc' hb' hx0
                    go_wp2_with fail
                    go_roundw
                    case rel => exact ⟨_, cn1, hrg1, hgw1⟩
                    case measure => rw [hrg1.left_eq, hrg.left_eq]; exact hltc
      · obtain rfl : k = N := by omega
        go_wp2_with fail
        refine (wakes_any _).mono ?_
        rintro e w1 ⟨rfl, hb1⟩
        go_wp2_with fail
        go_ret
        exact ⟨rfl, below_then Bl Bl.size hb1⟩
end Go.Proofs.Ytmnfefebbadflaa

