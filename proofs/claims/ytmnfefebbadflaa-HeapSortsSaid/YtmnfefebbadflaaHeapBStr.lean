/- The heap's functions at one element type, what each call does: an exchange of two items, an item that sinks. -/
import Derived.Test.YtmnfefebbadflaaHeapAStr
import Derived.Deep.LoopGhost
namespace Go.Proofs.Ytmnfefebbadflaa.HStr
open Go.RowKit
set_option maxRecDepth 100000 in
set_option maxHeartbeats 1000000 in
theorem swap_any {w : World} {hb : Nat} {F V : Value} {t : Int} {base : Nat} {l : List (El × Int)}
    (H : Rep w hb F V t base l) (i k : Int) (i0 : 0 ≤ i) (i1 : i < l.length) (k0 : 0 ≤ k) (k1 : k < l.length) :
    Calls Try.prog 60 #[.pointer (some ⟨hb, 0, none⟩), .int .i64 i, .int .i64 k] w fun e w' => e = .returned (.tuple #[]) ∧ Rep w' hb F V t base (swp l i.toNat k.toNat) ∧ Chg (fun b => V.ownBlock = some b) w w' := by
  obtain ⟨g, cap, rfl, hg, hgl, hne⟩ := H.slice (by omega)
  obtain ⟨a, ha⟩ : ∃ a, l[i.toNat]? = some a := ⟨_, List.getElem?_eq_getElem (by omega)⟩
  obtain ⟨b, hb'⟩ : ∃ b, l[k.toNat]? = some b := ⟨_, List.getElem?_eq_getElem (by omega)⟩
  have cV := (Cl.of_block H.blk (j := 1) (v := .slice (some ⟨g, 0, none⟩) l.length cap) rfl).cell
  have ca0 := H.item enc_length rfl ha (r := 0) (by omega) (v := .string a.1) rfl
  rw [Nat.add_zero] at ca0
  obtain ⟨ca0c, ca0f⟩ := ca0
  have ca1 := H.item enc_length rfl ha (r := 1) (by omega) (v := .int .i64 a.2) rfl
  obtain ⟨ca1c, ca1f⟩ := ca1
  have cb0 := H.item enc_length rfl hb' (r := 0) (by omega) (v := .string b.1) rfl
  rw [Nat.add_zero] at cb0
  obtain ⟨cb0c, cb0f⟩ := cb0
  have cb1 := H.item enc_length rfl hb' (r := 1) (by omega) (v := .int .i64 b.2) rfl
  obtain ⟨cb1c, cb1f⟩ := cb1
  have HH := Lib.hid H
  have HA := Lib.hid ha
  have HB := Lib.hid hb'
  have hne' : hb ≠ g := Ne.symm hne
  clear H ha hb'
  obtain ⟨u00, hu00⟩ := cell?_setCell_some (w := w) (p := ⟨g, i.toNat * 2, none⟩) (x := .string b.1) (q := ⟨g, k.toNat * 2, none⟩) cb0c
  obtain ⟨u10, hu10⟩ := cell?_setCell_some (w := w) (p := ⟨g, i.toNat * 2, none⟩) (x := .string b.1) (q := ⟨g, k.toNat * 2 + 1, none⟩) cb1c
  obtain ⟨u11, hu11⟩ := cell?_setCell_some (w := (w.setCell ⟨g, i.toNat * 2, none⟩ (.string b.1))) (p := ⟨g, i.toNat * 2 + 1, none⟩) (x := .int .i64 b.2) (q := ⟨g, k.toNat * 2 + 1, none⟩) hu10
  clear hu10
  go_enter Try.func60, Try.ntmps60
  go_region
  go_end0
  have hi : i.toNat < l.length := by omega
  have hk : k.toNat < l.length := by omega
  have S1 := HH.out.store enc_length rfl i.toNat b hi
  have S2 := S1.1.store enc_length (by rw [List.length_set]) k.toNat a (by rw [List.length_set]; exact hk)
  have es : swp l i.toNat k.toNat = (l.set i.toNat b).set k.toNat a := by simp [swp, getElem!_def, HA.out, HB.out]
  rw [es]
  refine ⟨rfl, HRep.later S2.1 (Below.refl _ _).drew, (S1.2.trans S2.2 (fun _ _ h => h)).drew⟩

theorem ahead_nat {lf : Nat} {lt : El → El → Bool} (hless : Less lf lt) {w : World} {hb : Nat} {V : Value} {t : Int} {base : Nat} {l : List (El × Int)}
    (H : Rep w hb (.func (.func lf) #[] #[]) V t base l) (i k : Nat) (i' k' : Int) (hi : i' = i) (hk : k' = k) (i1 : i < l.length) (k1 : k < l.length) :
    Calls Try.prog 59 #[.pointer (some ⟨hb, 0, none⟩), .int .i64 i', .int .i64 k'] w fun e w' => e = .returned (.bool (ahd lt l[i]! l[k]!)) ∧ Below w.heap.size w w' := by
  subst hi hk
  exact ahead_any hless H i k (by omega) (by omega) (by omega) (by omega)
theorem swap_nat {w : World} {hb : Nat} {F V : Value} {t : Int} {base : Nat} {l : List (El × Int)}
    (H : Rep w hb F V t base l) (i k : Nat) (i' k' : Int) (hi : i' = i) (hk : k' = k) (i1 : i < l.length) (k1 : k < l.length) :
    Calls Try.prog 60 #[.pointer (some ⟨hb, 0, none⟩), .int .i64 i', .int .i64 k'] w fun e w' => e = .returned (.tuple #[]) ∧ Rep w' hb F V t base (swp l i k) ∧ Chg (fun b => V.ownBlock = some b) w w' := by
  subst hi hk
  exact swap_any H i k (by omega) (by omega) (by omega) (by omega)
set_option maxRecDepth 100000 in
set_option maxHeartbeats 1000000 in
theorem sink_any {lf : Nat} {lt : El → El → Bool} (hless : Less lf lt) {w : World} {hb : Nat} {V : Value} {t : Int} {base : Nat} {l : List (El × Int)}
    (H : Rep w hb (.func (.func lf) #[] #[]) V t base l) (hn : l.length ≤ 9000000000000) :
    Calls Try.prog 63 #[.pointer (some ⟨hb, 0, none⟩)] w fun e w' => e = .returned (.tuple #[]) ∧ Rep w' hb (.func (.func lf) #[] #[]) V t base (down lt l.length l 0) ∧ Chg (fun b => V.ownBlock = some b) w w' := by
  obtain ⟨A, cap, rfl⟩ : ∃ A cap, V = .slice A l.length cap := by
    rcases H.row.2 with ⟨h, h0⟩ | ⟨g, cap, cur, h, _⟩
    · exact ⟨none, 0, by rw [h, h0]⟩
    · exact ⟨_, cap, h⟩
  generalize hN : l.length = n at hn
  have HN := Lib.hid hN
  have HL := Lib.hid hless
  clear hN hless
  go_enter Try.func63, Try.ntmps63
  go_wp2_with fail
  go_loopg [2] n (fun f s wr => ∃ (i : Nat) (m : List (El × Int)), s = .int .i64 i ∧ Hid (m.length = n) ∧ i ≤ n ∧ n ≤ i + f ∧ Rep wr hb (.func (.func lf) #[] #[]) (.slice A n cap) t base m ∧ Chg (fun b => (Value.slice A n cap).ownBlock = some b) w wr ∧ Hid (down lt n l 0 = down lt f m i))
  case atStart => exact ⟨0, l, rfl, HN, by omega, by omega, by have h := H; rw [HN.out] at h; exact h, Chg.refl _ _, rfl⟩
  case round =>
    obtain ⟨i, m, rfl, hm, him, hgk, HM, hch, HD⟩ := hrel
    have cV := (Cl.of_block HM.blk (j := 1) (v := .slice A n cap) rfl).cell
    have HC := Lib.hid hch
    have HM' := Lib.hid HM
    clear hch HM
    by_cases c1 : 2 * i + 1 < n
    · have hb1 : ∃ x, ahd lt m[2 * i + 2]! m[2 * i + 1]! = x := ⟨_, rfl⟩
      by_cases c2 : 2 * i + 2 < n
      · obtain ⟨b1, hb1⟩ := hb1
        have HB1 := Lib.hid hb1
        clear hb1
        cases b1
        · have hc : Hid (child lt m i = 2 * i + 1) := by show _ = _; unfold child; rw [if_neg (by rw [HB1.out]; simp)]
          go_wp2_with fail
          refine (ahead_nat HL.out HM'.out (2 * i + 2) (2 * i + 1) _ _ (by omega) (by omega) (by rw [hm.out]; omega) (by rw [hm.out]; omega)).mono ?_
          rw [HB1.out]
          rintro e w1 ⟨rfl, hw1⟩
          have HM1 := Lib.hid (HM'.out.later hw1)
          have HC1 := Lib.hid (HC.out.trans (chg_below hw1 (fun b => (Value.slice A n cap).ownBlock = some b)) (fun _ _ h => h))
          clear hw1
          go_wp2_with fail
          obtain ⟨b2, hb2⟩ : ∃ x, ahd lt m[2 * i + 1]! m[i]! = x := ⟨_, rfl⟩
          have HB2 := Lib.hid hb2
          clear hb2
          refine (ahead_nat HL.out HM1.out (2 * i + 1) i _ _ (by omega) (by omega) (by rw [hm.out]; omega) (by rw [hm.out]; omega)).mono ?_
          rw [HB2.out]
          rintro e w2 ⟨rfl, hw2⟩
          have HM2 := Lib.hid (HM1.out.later hw2)
          have HC2 := Lib.hid (HC1.out.trans (chg_below hw2 (fun b => (Value.slice A n cap).ownBlock = some b)) (fun _ _ h => h))
          clear hw2
          cases b2
          · have hs : Hid (down lt gk m i = m) := down_stop (by rw [hc.out, HB2.out]; simp)
            go_wp2_with fail
            (try simp only [Exit.inBlock, Exit.then])
            refine bodyPost_ret (results_none rfl _ _ _) rfl ?_
            exact ⟨rfl, by rw [HD.out, hs.out]; exact HM2.out, HC2.out⟩
          · have hs : Hid (down lt gk m i = down lt (gk - 1) (swp m i (2 * i + 1)) (2 * i + 1)) := down_go (by rw [hm.out]; exact hgk) hc.out (by rw [hm.out]; exact c1) HB2.out
            go_wp2_with fail
            refine (swap_nat HM2.out i (2 * i + 1) _ _ (by omega) (by omega) (by rw [hm.out]; omega) (by rw [hm.out]; omega)).mono ?_
            rintro e w3 ⟨rfl, hw3, hc3⟩
            have HM3 := Lib.hid hw3
            have HC3 := Lib.hid (HC2.out.trans hc3 (fun _ _ h => h))
            clear hw3 hc3
            go_wp2_with fail
            go_roundg (gk - 1)
            case measure => omega
            case rel => exact ⟨2 * i + 1, swp m i (2 * i + 1), by go_num, by rw [swp_length]; exact hm, by omega, by omega, HM3.out, HC3.out, HD.out.trans hs.out⟩
        · have hc : Hid (child lt m i = 2 * i + 2) := by show _ = _; unfold child; rw [if_pos ⟨by rw [hm.out]; exact c2, HB1.out⟩]
          go_wp2_with fail
          refine (ahead_nat HL.out HM'.out (2 * i + 2) (2 * i + 1) _ _ (by omega) (by omega) (by rw [hm.out]; omega) (by rw [hm.out]; omega)).mono ?_
          rw [HB1.out]
          rintro e w1 ⟨rfl, hw1⟩
          have HM1 := Lib.hid (HM'.out.later hw1)
          have HC1 := Lib.hid (HC.out.trans (chg_below hw1 (fun b => (Value.slice A n cap).ownBlock = some b)) (fun _ _ h => h))
          clear hw1
          go_wp2_with fail
          obtain ⟨b2, hb2⟩ : ∃ x, ahd lt m[2 * i + 2]! m[i]! = x := ⟨_, rfl⟩
          have HB2 := Lib.hid hb2
          clear hb2
          refine (ahead_nat HL.out HM1.out (2 * i + 2) i _ _ (by omega) (by omega) (by rw [hm.out]; omega) (by rw [hm.out]; omega)).mono ?_
          rw [HB2.out]
          rintro e w2 ⟨rfl, hw2⟩
          have HM2 := Lib.hid (HM1.out.later hw2)
          have HC2 := Lib.hid (HC1.out.trans (chg_below hw2 (fun b => (Value.slice A n cap).ownBlock = some b)) (fun _ _ h => h))
          clear hw2
          cases b2
          · have hs : Hid (down lt gk m i = m) := down_stop (by rw [hc.out, HB2.out]; simp)
            go_wp2_with fail
            (try simp only [Exit.inBlock, Exit.then])
            refine bodyPost_ret (results_none rfl _ _ _) rfl ?_
            exact ⟨rfl, by rw [HD.out, hs.out]; exact HM2.out, HC2.out⟩
          · have hs : Hid (down lt gk m i = down lt (gk - 1) (swp m i (2 * i + 2)) (2 * i + 2)) := down_go (by rw [hm.out]; exact hgk) hc.out (by rw [hm.out]; exact c1) HB2.out
            go_wp2_with fail
            refine (swap_nat HM2.out i (2 * i + 2) _ _ (by omega) (by omega) (by rw [hm.out]; omega) (by rw [hm.out]; omega)).mono ?_
            rintro e w3 ⟨rfl, hw3, hc3⟩
            have HM3 := Lib.hid hw3
            have HC3 := Lib.hid (HC2.out.trans hc3 (fun _ _ h => h))
            clear hw3 hc3
            go_wp2_with fail
            go_roundg (gk - 1)
            case measure => omega
            case rel => exact ⟨2 * i + 2, swp m i (2 * i + 2), by go_num, by rw [swp_length]; exact hm, by omega, by omega, HM3.out, HC3.out, HD.out.trans hs.out⟩
      · have hc : Hid (child lt m i = 2 * i + 1) := by show _ = _; unfold child; rw [if_neg (by rw [hm.out]; omega)]
        have c2' : ¬ (2 * (i : Int) + 2 < (n : Int)) := by omega
        clear hb1
        go_wp2_with fail
        obtain ⟨b2, hb2⟩ : ∃ x, ahd lt m[2 * i + 1]! m[i]! = x := ⟨_, rfl⟩
        have HB2 := Lib.hid hb2
        clear hb2
        refine (ahead_nat HL.out HM'.out (2 * i + 1) i _ _ (by omega) (by omega) (by rw [hm.out]; omega) (by rw [hm.out]; omega)).mono ?_
        rw [HB2.out]
        rintro e w2 ⟨rfl, hw2⟩
        have HM2 := Lib.hid (HM'.out.later hw2)
        have HC2 := Lib.hid (HC.out.trans (chg_below hw2 (fun b => (Value.slice A n cap).ownBlock = some b)) (fun _ _ h => h))
        clear hw2
        cases b2
        · have hs : Hid (down lt gk m i = m) := down_stop (by rw [hc.out, HB2.out]; simp)
          go_wp2_with fail
          (try simp only [Exit.inBlock, Exit.then])
          refine bodyPost_ret (results_none rfl _ _ _) rfl ?_
          exact ⟨rfl, by rw [HD.out, hs.out]; exact HM2.out, HC2.out⟩
        · have hs : Hid (down lt gk m i = down lt (gk - 1) (swp m i (2 * i + 1)) (2 * i + 1)) := down_go (by rw [hm.out]; exact hgk) hc.out (by rw [hm.out]; exact c1) HB2.out
          go_wp2_with fail
          refine (swap_nat HM2.out i (2 * i + 1) _ _ (by omega) (by omega) (by rw [hm.out]; omega) (by rw [hm.out]; omega)).mono ?_
          rintro e w3 ⟨rfl, hw3, hc3⟩
          have HM3 := Lib.hid hw3
          have HC3 := Lib.hid (HC2.out.trans hc3 (fun _ _ h => h))
          clear hw3 hc3
          go_wp2_with fail
          go_roundg (gk - 1)
          case measure => omega
          case rel => exact ⟨2 * i + 1, swp m i (2 * i + 1), by go_num, by rw [swp_length]; exact hm, by omega, by omega, HM3.out, HC3.out, HD.out.trans hs.out⟩
    · have hs : Hid (down lt gk m i = m) := down_stop (by rw [hm.out]; omega)
      have c1' : ¬ (2 * (i : Int) + 1 < (n : Int)) := by omega
      go_wp2_with fail
      (try simp only [Exit.inBlock, Exit.then])
      refine bodyPost_ret (results_none rfl _ _ _) rfl ?_
      exact ⟨rfl, by rw [HD.out, hs.out]; exact HM'.out, HC.out⟩
end Go.Proofs.Ytmnfefebbadflaa.HStr
