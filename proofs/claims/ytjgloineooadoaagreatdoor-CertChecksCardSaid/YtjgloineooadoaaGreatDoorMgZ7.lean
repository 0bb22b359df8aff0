/- The heap's functions at one element type, what each call does: an exchange of two items, an item that sinks. -/
import Derived.Test.YtjgloineooadoaaGreatDoorMgZ6
import Derived.Deep.LoopGhost
import Derived.Laws.EntriesVeiled
import Derived.Deep.RegionLaw
namespace Go.Proofs.YtjgloineooadoaaGreatDoor.HRch
open Go.RowKit
set_option maxRecDepth 100000 in
set_option maxHeartbeats 1000000 in
theorem swap_any {w : World} {hb : Nat} {F V : Value} {t : Int} {base : Nat} {l : List (El × Int)}
    (H : Rep w hb F V t base l) (i k : Int) (i0 : 0 ≤ i) (i1 : i < l.length) (k0 : 0 ≤ k) (k1 : k < l.length) :
    Calls Tryz.prog 61 #[.pointer (some ⟨hb, 0, none⟩), .int .i64 i, .int .i64 k] w fun e w' => e = .returned (.tuple #[]) ∧ Rep w' hb F V t base (swp l i.toNat k.toNat) ∧ Chg (fun b => V.ownBlock = some b) w w' := by
  obtain ⟨g, cap, rfl, hg, hgl, hne⟩ := H.slice (by omega)
  obtain ⟨a, ha⟩ : ∃ a, l[i.toNat]? = some a := ⟨_, List.getElem?_eq_getElem (by omega)⟩
  obtain ⟨b, hb'⟩ : ∃ b, l[k.toNat]? = some b := ⟨_, List.getElem?_eq_getElem (by omega)⟩
  have cV := (Cl.of_block H.blk (j := 1) (v := .slice (some ⟨g, 0, none⟩) l.length cap) rfl).cell
  have ca0 := H.item enc_length rfl ha (r := 0) (by omega) (v := .int .i64 a.1.1) rfl
  rw [Nat.add_zero] at ca0
  obtain ⟨ca0c, ca0f⟩ := ca0
  have ca1 := H.item enc_length rfl ha (r := 1) (by omega) (v := .int .i64 a.1.2) rfl
  obtain ⟨ca1c, ca1f⟩ := ca1
  have ca2 := H.item enc_length rfl ha (r := 2) (by omega) (v := .int .i64 a.2) rfl
  obtain ⟨ca2c, ca2f⟩ := ca2
  have cb0 := H.item enc_length rfl hb' (r := 0) (by omega) (v := .int .i64 b.1.1) rfl
  rw [Nat.add_zero] at cb0
  obtain ⟨cb0c, cb0f⟩ := cb0
  have cb1 := H.item enc_length rfl hb' (r := 1) (by omega) (v := .int .i64 b.1.2) rfl
  obtain ⟨cb1c, cb1f⟩ := cb1
  have cb2 := H.item enc_length rfl hb' (r := 2) (by omega) (v := .int .i64 b.2) rfl
  obtain ⟨cb2c, cb2f⟩ := cb2
  have HH := Lib.hid H
  have HA := Lib.hid ha
  have HB := Lib.hid hb'
  have hne' : hb ≠ g := Ne.symm hne
  clear H ha hb'
  obtain ⟨u00, hu00⟩ := cell?_setCell_some (w := w) (p := ⟨g, i.toNat * 3, none⟩) (x := .int .i64 b.1.1) (q := ⟨g, k.toNat * 3, none⟩) cb0c
  obtain ⟨u10, hu10⟩ := cell?_setCell_some (w := w) (p := ⟨g, i.toNat * 3, none⟩) (x := .int .i64 b.1.1) (q := ⟨g, k.toNat * 3 + 1, none⟩) cb1c
  obtain ⟨u11, hu11⟩ := cell?_setCell_some (w := (w.setCell ⟨g, i.toNat * 3, none⟩ (.int .i64 b.1.1))) (p := ⟨g, i.toNat * 3 + 1, none⟩) (x := .int .i64 b.1.2) (q := ⟨g, k.toNat * 3 + 1, none⟩) hu10
  clear hu10
  obtain ⟨u20, hu20⟩ := cell?_setCell_some (w := w) (p := ⟨g, i.toNat * 3, none⟩) (x := .int .i64 b.1.1) (q := ⟨g, k.toNat * 3 + 2, none⟩) cb2c
  obtain ⟨u21, hu21⟩ := cell?_setCell_some (w := (w.setCell ⟨g, i.toNat * 3, none⟩ (.int .i64 b.1.1))) (p := ⟨g, i.toNat * 3 + 1, none⟩) (x := .int .i64 b.1.2) (q := ⟨g, k.toNat * 3 + 2, none⟩) hu20
  obtain ⟨u22, hu22⟩ := cell?_setCell_some (w := ((w.setCell ⟨g, i.toNat * 3, none⟩ (.int .i64 b.1.1)).setCell ⟨g, i.toNat * 3 + 1, none⟩ (.int .i64 b.1.2))) (p := ⟨g, i.toNat * 3 + 2, none⟩) (x := .int .i64 b.2) (q := ⟨g, k.toNat * 3 + 2, none⟩) hu21
  clear hu20
  clear hu21
  go_enter Tryz.func61, Tryz.ntmps61
  go_region
  go_end0
  have hi : i.toNat < l.length := by omega
  have hk : k.toNat < l.length := by omega
  have S1 := HH.out.store enc_length rfl i.toNat b hi
  have S2 := S1.1.store enc_length (by rw [List.length_set]) k.toNat a (by rw [List.length_set]; exact hk)
  have es : swp l i.toNat k.toNat = (l.set i.toNat b).set k.toNat a := by simp [swp, getElem!_def, HA.out, HB.out]
  rw [es]
  refine ⟨rfl, HRep.later S2.1 (Below.refl _ _).drew, (S1.2.trans S2.2 (fun _ _ h => h)).drew⟩

theorem ahead_nat {lf : Nat} {lt : El → El → Bool} (hless : Less lf lt) {w : World} {hb : Nat} {V : Value} {t : Int} {base : Nat} {l : List (El × Int)}
    (H : Rep w hb (.func (.func lf) #[] #[]) V t base l) (i k : Nat) (i' k' : Int) (hi : i' = i) (hk : k' = k) (i1 : i < l.length) (k1 : k < l.length) :
    Calls Tryz.prog 82 #[.pointer (some ⟨hb, 0, none⟩), .int .i64 i', .int .i64 k'] w fun e w' => e = .returned (.bool (ahd lt l[i]! l[k]!)) ∧ Below w.heap.size w w' := by
  subst hi hk
  exact ahead_any hless H i k (by omega) (by omega) (by omega) (by omega)
theorem swap_nat {w : World} {hb : Nat} {F V : Value} {t : Int} {base : Nat} {l : List (El × Int)}
    (H : Rep w hb F V t base l) (i k : Nat) (i' k' : Int) (hi : i' = i) (hk : k' = k) (i1 : i < l.length) (k1 : k < l.length) :
    Calls Tryz.prog 61 #[.pointer (some ⟨hb, 0, none⟩), .int .i64 i', .int .i64 k'] w fun e w' => e = .returned (.tuple #[]) ∧ Rep w' hb F V t base (swp l i k) ∧ Chg (fun b => V.ownBlock = some b) w w' := by
  subst hi hk
  exact swap_any H i k (by omega) (by omega) (by omega) (by omega)
set_option maxRecDepth 100000 in
set_option maxHeartbeats 1000000 in
theorem sink_any {lf : Nat} {lt : El → El → Bool} (hless : Less lf lt) {w : World} {hb : Nat} {V : Value} {t : Int} {base : Nat} {l : List (El × Int)}
    (H : Rep w hb (.func (.func lf) #[] #[]) V t base l) (hn : l.length ≤ 9000000000000) :
    Calls Tryz.prog 62 #[.pointer (some ⟨hb, 0, none⟩)] w fun e w' => e = .returned (.tuple #[]) ∧ Rep w' hb (.func (.func lf) #[] #[]) V t base (down lt l.length l 0) ∧ Chg (fun b => V.ownBlock = some b) w w' := by
  obtain ⟨A, cap, rfl⟩ : ∃ A cap, V = .slice A l.length cap := by
    rcases H.row.2 with ⟨h, h0⟩ | ⟨g, cap, cur, h, _⟩
    · exact ⟨none, 0, by rw [h, h0]⟩
    · exact ⟨_, cap, h⟩
  generalize hN : l.length = n at hn
  have HN := Lib.hid hN
  have HL := Lib.hid hless
  clear hN hless
  go_enter Tryz.func62, Tryz.ntmps62
  go_wp2_with fail
  go_loopg [2] n (fun f s wr => ∃ (i : Nat) (m : List (El × Int)), s = .int .i64 i ∧ Hid (m.length = n) ∧ i ≤ n ∧ n ≤ i + f ∧ Rep wr hb (.func (.func lf) #[] #[]) (.slice A n cap) t base m ∧ Chg (fun b => (Value.slice A n cap).ownBlock = some b) w wr ∧ Hid (down lt n l 0 = down lt f m i))
  case atStart => exact ⟨0, l, rfl, HN, by omega, by omega, by have h := H; rw [HN.out] at h; exact h, Chg.refl _ _, rfl⟩
  case round =>
    obtain ⟨i, m, rfl, hm, him, hgk, HM, hch, HD⟩ := hrel
    have cV := (Cl.of_block HM.blk (j := 1) (v := .slice A n cap) rfl).cell
    have HC := Lib.hid hch
    have HM' := Lib.hid HM
    clear hch HM
    by_cases c1 : 2 * i + 1 < n
    · have hb1 : ∃ x, ahd lt m[2 * i + 2]! m[2 * i + 1]! = x := ⟨_, rfl⟩
      by_cases c2 : 2 * i + 2 < n
      · obtain ⟨b1, hb1⟩ := hb1
        have HB1 := Lib.hid hb1
        clear hb1
        cases b1
        · have hc : Hid (child lt m i = 2 * i + 1) := by show _ = _; unfold child; rw [if_neg (by rw [HB1.out]; simp)]
          go_wp2_with fail
          refine (ahead_nat HL.out HM'.out (2 * i + 2) (2 * i + 1) _ _ (by omega) (by omega) (by rw [hm.out]; omega) (by rw [hm.out]; omega)).mono ?_
          rw [HB1.out]
          rintro e w1 ⟨rfl, hw1⟩
          have HM1 := Lib.hid (HM'.out.later hw1)
          have HC1 := Lib.hid (HC.out.trans (chg_below hw1 (fun b => (Value.slice A n cap).ownBlock = some b)) (fun _ _ h => h))
          clear hw1
          go_wp2_with fail
          obtain ⟨b2, hb2⟩ : ∃ x, ahd lt m[2 * i + 1]! m[i]! = x := ⟨_, rfl⟩
          have HB2 := Lib.hid hb2
          clear hb2
          refine (ahead_nat HL.out HM1.out (2 * i + 1) i _ _ (by omega) (by omega) (by rw [hm.out]; omega) (by rw [hm.out]; omega)).mono ?_
          rw [HB2.out]
          rintro e w2 ⟨rfl, hw2⟩
          have HM2 := Lib.hid (HM1.out.later hw2)
          have HC2 := Lib.hid (HC1.out.trans (chg_below hw2 (fun b => (Value.slice A n cap).ownBlock = some b)) (fun _ _ h => h))
          clear hw2
          cases b2
          · have hs : Hid (down lt gk m i = m) := down_stop (by rw [hc.out, HB2.out]; simp)
            go_wp2_with fail
            (try simp only [Exit.inBlock, Exit.then])
            refine bodyPost_ret (results_none rfl _ _ _) rfl ?_
            exact ⟨rfl, by rw [HD.out, hs.out]; exact HM2.out, HC2.out⟩
          · have hs : Hid (down lt gk m i = down lt (gk - 1) (swp m i (2 * i + 1)) (2 * i + 1)) := down_go (by rw [hm.out]; exact hgk) hc.out (by rw [hm.out]; exact c1) HB2.out
            go_wp2_with fail
            refine (swap_nat HM2.out i (2 * i + 1) _ _ (by omega) (by omega) (by rw [hm.out]; omega) (by rw [hm.out]; omega)).mono ?_
            rintro e w3 ⟨rfl, hw3, hc3⟩
            have HM3 := Lib.hid hw3
            have HC3 := Lib.hid (HC2.out.trans hc3 (fun _ _ h => h))
            clear hw3 hc3
            go_wp2_with fail
            go_roundg (gk - 1)
            case measure => omega
            case rel => exact ⟨2 * i + 1, swp m i (2 * i + 1), by go_num, by rw [swp_length]; exact hm, by omega, by omega, HM3.out, HC3.out, HD.out.trans hs.out⟩
        · have hc : Hid (child lt m i = 2 * i + 2) := by show _ = _; unfold child; rw [if_pos ⟨by rw [hm.out]; exact c2, HB1.out⟩]
          go_wp2_with fail
          refine (ahead_nat HL.out HM'.out (2 * i + 2) (2 * i + 1) _ _ (by omega) (by omega) (by rw [hm.out]; omega) (by rw [hm.out]; omega)).mono ?_
          rw [HB1.out]
          rintro e w1 ⟨rfl, hw1⟩
          have HM1 := Lib.hid (HM'.out.later hw1)
          have HC1 := Lib.hid (HC.out.trans (chg_below hw1 (fun b => (Value.slice A n cap).ownBlock = some b)) (fun _ _ h => h))
          clear hw1
          go_wp2_with fail
          obtain ⟨b2, hb2⟩ : ∃ x, ahd lt m[2 * i + 2]! m[i]! = x := ⟨_, rfl⟩
          have HB2 := Lib.hid hb2
          clear hb2
          refine (ahead_nat HL.out HM1.out (2 * i + 2) i _ _ (by omega) (by omega) (by rw [hm.out]; omega) (by rw [hm.out]; omega)).mono ?_
          rw [HB2.out]
          rintro e w2 ⟨rfl, hw2⟩
          have HM2 := Lib.hid (HM1.out.later hw2)
          have HC2 := Lib.hid (HC1.out.trans (chg_below hw2 (fun b => (Value.slice A n cap).ownBlock = some b)) (fun _ _ h => h))
          clear hw2
          cases b2
          · have hs : Hid (down lt gk m i = m) := down_stop (by rw [hc.out, HB2.out]; simp)
            go_wp2_with fail
            (try simp only [Exit.inBlock, Exit.then])
            refine bodyPost_ret (results_none rfl _ _ _) rfl ?_
            exact ⟨rfl, by rw [HD.out, hs.out]; exact HM2.out, HC2.out⟩
          · have hs : Hid (down lt gk m i = down lt (gk - 1) (swp m i (2 * i + 2)) (2 * i + 2)) := down_go (by rw [hm.out]; exact hgk) hc.out (by rw [hm.out]; exact c1) HB2.out
            go_wp2_with fail
            refine (swap_nat HM2.out i (2 * i + 2) _ _ (by omega) (by omega) (by rw [hm.out]; omega) (by rw [hm.out]; omega)).mono ?_
            rintro e w3 ⟨rfl, hw3, hc3⟩
            have HM3 := Lib.hid hw3
            have HC3 := Lib.hid (HC2.out.trans hc3 (fun _ _ h => h))
            clear hw3 hc3
            go_wp2_with fail
            go_roundg (gk - 1)
            case measure => omega
            case rel => exact ⟨2 * i + 2, swp m i (2 * i + 2), by go_num, by rw [swp_length]; exact hm, by omega, by omega, HM3.out, HC3.out, HD.out.trans hs.out⟩
      · have hc : Hid (child lt m i = 2 * i + 1) := by show _ = _; unfold child; rw [if_neg (by rw [hm.out]; omega)]
        have c2' : ¬ (2 * (i : Int) + 2 < (n : Int)) := by omega
        clear hb1
        go_wp2_with fail
        obtain ⟨b2, hb2⟩ : ∃ x, ahd lt m[2 * i + 1]! m[i]! = x := ⟨_, rfl⟩
        have HB2 := Lib.hid hb2
        clear hb2
        refine (ahead_nat HL.out HM'.out (2 * i + 1) i _ _ (by omega) (by omega) (by rw [hm.out]; omega) (by rw [hm.out]; omega)).mono ?_
        rw [HB2.out]
        rintro e w2 ⟨rfl, hw2⟩
        have HM2 := Lib.hid (HM'.out.later hw2)
        have HC2 := Lib.hid (HC.out.trans (chg_below hw2 (fun b => (Value.slice A n cap).ownBlock = some b)) (fun _ _ h => h))
        clear hw2
        cases b2
        · have hs : Hid (down lt gk m i = m) := down_stop (by rw [hc.out, HB2.out]; simp)
          go_wp2_with fail
          (try simp only [Exit.inBlock, Exit.then])
          refine bodyPost_ret (results_none rfl _ _ _) rfl ?_
          exact ⟨rfl, by rw [HD.out, hs.out]; exact HM2.out, HC2.out⟩
        · have hs : Hid (down lt gk m i = down lt (gk - 1) (swp m i (2 * i + 1)) (2 * i + 1)) := down_go (by rw [hm.out]; exact hgk) hc.out (by rw [hm.out]; exact c1) HB2.out
          go_wp2_with fail
          refine (swap_nat HM2.out i (2 * i + 1) _ _ (by omega) (by omega) (by rw [hm.out]; omega) (by rw [hm.out]; omega)).mono ?_
          rintro e w3 ⟨rfl, hw3, hc3⟩
          have HM3 := Lib.hid hw3
          have HC3 := Lib.hid (HC2.out.trans hc3 (fun _ _ h => h))
          clear hw3 hc3
          go_wp2_with fail
          go_roundg (gk - 1)
          case measure => omega
          case rel => exact ⟨2 * i + 1, swp m i (2 * i + 1), by go_num, by rw [swp_length]; exact hm, by omega, by omega, HM3.out, HC3.out, HD.out.trans hs.out⟩
    · have hs : Hid (down lt gk m i = m) := down_stop (by rw [hm.out]; omega)
      have c1' : ¬ (2 * (i : Int) + 1 < (n : Int)) := by omega
      go_wp2_with fail
      (try simp only [Exit.inBlock, Exit.then])
      refine bodyPost_ret (results_none rfl _ _ _) rfl ?_
      exact ⟨rfl, by rw [HD.out, hs.out]; exact HM'.out, HC.out⟩
end Go.Proofs.YtjgloineooadoaaGreatDoor.HRch
/- The heap's functions at one element type, what each call does: a new one, the top, a pop. -/
namespace Go.Proofs.YtjgloineooadoaaGreatDoor.HRch
open Go.RowKit
set_option maxRecDepth 100000 in
set_option maxHeartbeats 1000000 in
theorem new_any (lf : Nat) (w : World) : Calls Tryz.prog 58 #[.func (.func lf) #[] #[]] w fun e w' => e = .returned (.pointer (some ⟨w.heap.size, 0, none⟩)) ∧ w' = w.alloc (.cells #[.func (.func lf) #[] #[], .slice none 0 0, .int .i64 0] 112) := by
  go_enter Tryz.func58, Tryz.ntmps58
  go_wp2
  go_ret
  exact ⟨rfl, rfl⟩
theorem new_rep (F : Value) (w : World) (base : Nat) : Rep (w.alloc (.cells #[F, .slice none 0 0, .int .i64 0] 112)) w.heap.size F (.slice none 0 0) 0 base [] :=
  ⟨heap_at rfl, World.ownsRow_nil _ _ _ _, by simp [Value.ownBlock]⟩
set_option maxRecDepth 100000 in
set_option maxHeartbeats 1000000 in
theorem top_some {w : World} {hb : Nat} {F V : Value} {t : Int} {base : Nat} {a : El × Int} {l : List (El × Int)} (H : Rep w hb F V t base (a :: l)) :
    Calls Tryz.prog 60 #[.pointer (some ⟨hb, 0, none⟩)] w fun e w' => e = .returned (.tuple #[.agg #[.int .i64 a.1.1, .int .i64 a.1.2], .bool true]) ∧ Below w.heap.size w w' := by
  obtain ⟨g, cap, rfl, hg, hgl, hne⟩ := H.slice (by simp)
  have cV := (Cl.of_block H.blk (j := 1) (v := .slice (some ⟨g, 0, none⟩) (l.length + 1) cap) rfl).cell
  have ca0 : w.cell? ⟨g, 0, none⟩ = some (.int .i64 a.1.1) := by simpa using (H.item enc_length rfl (j := 0) (a := a) rfl (r := 0) (by omega) (v := .int .i64 a.1.1) rfl).cell
  have ca1 : w.cell? ⟨g, 1, none⟩ = some (.int .i64 a.1.2) := by simpa using (H.item enc_length rfl (j := 0) (a := a) rfl (r := 1) (by omega) (v := .int .i64 a.1.2) rfl).cell
  have ca2 : w.cell? ⟨g, 2, none⟩ = some (.int .i64 a.2) := by simpa using (H.item enc_length rfl (j := 0) (a := a) rfl (r := 2) (by omega) (v := .int .i64 a.2) rfl).cell
  have z1 := H.lt
  have hn : ((l.length : Int) + 1 == 0) = false := by simp; omega
  have HH := Lib.hid H
  clear H
  go_enter Tryz.func60, Tryz.ntmps60
  go_wp2_with fail
  refine (len_any (HH.out.later ((Below.refl _ _).alloc (Nat.le_refl _) _))).mono ?_
  rintro e w' ⟨rfl, rfl⟩
  go_wp2_with fail
  exact bodyPost_ret (v := .tuple #[.agg #[.int .i64 a.1.1, .int .i64 a.1.2], .bool true]) (by simp [results, Tryz.results60, go_sem]) rfl ⟨rfl, (Below.refl _ _).alloc (Nat.le_refl _) _⟩
set_option maxRecDepth 100000 in
set_option maxHeartbeats 1000000 in
theorem top_none {w : World} {hb : Nat} {F V : Value} {t : Int} {base : Nat} (H : Rep w hb F V t base []) :
    Calls Tryz.prog 60 #[.pointer (some ⟨hb, 0, none⟩)] w fun e w' => e = .returned (.tuple #[.agg #[.int .i64 0, .int .i64 0], .bool false]) ∧ Below w.heap.size w w' := by
  have HH := Lib.hid H
  clear H
  go_enter Tryz.func60, Tryz.ntmps60
  go_wp2_with fail
  refine (len_any (HH.out.later ((Below.refl _ _).alloc (Nat.le_refl _) _))).mono ?_
  rintro e w' ⟨rfl, rfl⟩
  go_wp2_with fail
  exact bodyPost_ret (v := .tuple #[.agg #[.int .i64 0, .int .i64 0], .bool false]) (by simp [results, Tryz.results60, go_sem]) rfl ⟨rfl, ((Below.refl _ _).alloc (Nat.le_refl _) _).alloc (by simp) _⟩
set_option maxRecDepth 100000 in
set_option maxHeartbeats 1000000 in
theorem top_nil (w : World) : Calls Tryz.prog 60 #[.pointer none] w fun e w' => e = .returned (.tuple #[.agg #[.int .i64 0, .int .i64 0], .bool false]) ∧ Below w.heap.size w w' := by
  go_enter Tryz.func60, Tryz.ntmps60
  go_wp2_with fail
  refine (len_nil _).mono ?_
  rintro e w' ⟨rfl, rfl⟩
  go_wp2_with fail
  exact bodyPost_ret (v := .tuple #[.agg #[.int .i64 0, .int .i64 0], .bool false]) (by simp [results, Tryz.results60, go_sem]) rfl ⟨rfl, ((Below.refl _ _).alloc (Nat.le_refl _) _).alloc (by simp) _⟩
end Go.Proofs.YtjgloineooadoaaGreatDoor.HRch
/- The heap's functions at one element type, what each call does: a pop of the least one. -/
namespace Go.Proofs.YtjgloineooadoaaGreatDoor.HRch
open Go.RowKit
theorem Cl_chg {w w' : World} {a : Addr} {v : Value} {S : Nat → Prop} (h : Cl w a v) (hc : Chg S w w') (hs : ¬ S a.block) : Cl w' a v := by
  have hl := World.block_lt_of_cell? w a h.cell
  have hb := hc.block a.block hl hs
  exact ⟨(World.cell?_of_block hb).trans h.cell, (World.frozen?_of_block hb).trans h.free⟩
set_option maxRecDepth 100000 in
set_option maxHeartbeats 1000000 in
theorem pop_some {lf : Nat} {lt : El → El → Bool} (hless : Less lf lt) {w : World} {hb : Nat} {V : Value} {t : Int} {base : Nat} {a : El × Int} {r : List (El × Int)}
    (H : Rep w hb (.func (.func lf) #[] #[]) V t base (a :: r)) (hn : r.length + 1 ≤ 9000000000000) :
    Calls Tryz.prog 37 #[.pointer (some ⟨hb, 0, none⟩)] w fun e w' => e = .returned (.tuple #[.agg #[.int .i64 a.1.1, .int .i64 a.1.2], .bool true]) ∧ (∃ V', V'.ownBlock = V.ownBlock ∧ Rep w' hb (.func (.func lf) #[] #[]) V' t base (popL lt (a :: r))) ∧ Chg (fun b => b = hb ∨ V.ownBlock = some b) w w' := by
  obtain ⟨g, cap, rfl, hg, hgl, hne⟩ := H.slice (by simp)
  have hcap : r.length + 1 ≤ cap := by
    rcases H.row.2 with ⟨h0, _⟩ | ⟨g', cap', cur, hv, _, _, h, _⟩
    · cases h0
    · cases hv; exact h
  have HP : Hid (popL lt (a :: r) = down lt ((swp (a :: r) 0 r.length).take r.length).length ((swp (a :: r) 0 r.length).take r.length) 0) := by
    show _ = _
    simp [popL, swp_length]
  have z0 := H.lt
  have HH := Lib.hid H
  have HL := Lib.hid hless
  clear H hless
  go_enter Tryz.func37, Tryz.ntmps37
  go_wp2_with fail
  refine (top_some (HH.out.later ((Below.refl _ _).alloc (Nat.le_refl _) _))).mono ?_
  rintro e w1 ⟨rfl, hb1⟩
  have hB : Below w.heap.size w w1 := ((Below.refl _ _).alloc (Nat.le_refl _) _).trans (hb1.mono (by simp))
  have y0 : w.heap.size < w1.heap.size := by have := hb1.size; simp at this; omega
  have y1 : w.heap.size < w1.heap.size + 1 := by omega
  have R0 : ∃ u v : Value, Cl w1 ⟨w.heap.size, 0, none⟩ u ∧ Cl w1 ⟨w.heap.size, 1, none⟩ v := ⟨_, _, (Cl.new (w := w) (c := #[.int .i64 0, .int .i64 0]) (t := 85) (j := 0) (v := .int .i64 0) rfl).later hb1, (Cl.new (w := w) (c := #[.int .i64 0, .int .i64 0]) (t := 85) (j := 1) (v := .int .i64 0) rfl).later hb1⟩
  obtain ⟨u0, u1, R0, R1⟩ := R0
  have HH1 := Lib.hid (HH.out.later hB)
  have HB := Lib.hid hB
  have hs := hB.size
  have cV1 := (Cl.of_block HH1.out.blk (j := 1) (v := .slice (some ⟨g, 0, none⟩) (r.length + 1) cap) rfl).cell
  have z1 : hb < w1.heap.size := by omega
  have z2 : g < w1.heap.size := by omega
  clear hb1 hB
  go_wp2_with fail
  have HH2 := Lib.hid (HH1.out.later ((Below.refl _ _).alloc (Nat.le_refl _) (.cells #[.int .i64 a.1.1, .int .i64 a.1.2] 85)))
  have C2 : Chg (fun b => b = hb ∨ g = b) w (w1.alloc (.cells #[.int .i64 a.1.1, .int .i64 a.1.2] 85)) := chg_below (HB.out.alloc HB.out.size _) _
  have R0 := R0.alloc (.cells #[.int .i64 a.1.1, .int .i64 a.1.2] 85)
  have R1 := R1.alloc (.cells #[.int .i64 a.1.1, .int .i64 a.1.2] 85)
  have Q0 := Cl.new (w := w1) (c := #[.int .i64 a.1.1, .int .i64 a.1.2]) (t := 85) (j := 0) (v := .int .i64 a.1.1) rfl
  have Q1 := Cl.new (w := w1) (c := #[.int .i64 a.1.1, .int .i64 a.1.2]) (t := 85) (j := 1) (v := .int .i64 a.1.2) rfl
  refine (swap_nat HH2.out 0 r.length _ _ rfl (by omega) (by simp) (by simp)).mono ?_
  rintro e w2 ⟨rfl, hr2, hc2⟩
  have C3 := Lib.hid (C2.trans hc2 (fun b _ h => .inr (by simpa [Value.ownBlock] using h)))
  have HH3 := Lib.hid hr2
  have R0 := Cl_chg R0 hc2 (by simp [Value.ownBlock]; omega)
  have R1 := Cl_chg R1 hc2 (by simp [Value.ownBlock]; omega)
  have Q0 := Cl_chg Q0 hc2 (by simp [Value.ownBlock]; omega)
  have Q1 := Cl_chg Q1 hc2 (by simp [Value.ownBlock]; omega)
  obtain ⟨cV2, fV2⟩ := Cl.of_block HH3.out.blk (j := 1) (v := .slice (some ⟨g, 0, none⟩) (r.length + 1) cap) rfl
  clear hr2 hc2 cV1 C2
  go_wp2_with fail
  have S := HH3.out.shrink enc_length (by rw [swp_length]) r.length (by rw [swp_length]; simp)
  have C4 := Lib.hid (C3.out.setCell (p := ⟨hb, 1, none⟩) (fun _ => .inl rfl) (.slice (some ⟨g, 0, none⟩) r.length cap))
  have st : ∀ {ad : Addr} {v : Value}, Cl w2 ad v → ad.block ≠ hb → Cl (w2.setCell ⟨hb, 1, none⟩ (.slice (some ⟨g, 0, none⟩) r.length cap)) ad v := fun h e => Cl_chg h ((Chg.refl (fun b => b = hb) w2).setCell (fun _ => rfl) _) e
  have R0 := st R0 (by simp; omega)
  have R1 := st R1 (by simp; omega)
  have Q0 := st Q0 (by simp; omega)
  have Q1 := st Q1 (by simp; omega)
  have SL := sink_any HL.out (l := (swp (a :: r) 0 r.length).take r.length) (w := w2.setCell ⟨hb, 1, none⟩ (.slice (some ⟨g, 0, none⟩) r.length cap)) S (by rw [List.length_take, swp_length]; omega)
  refine SL.mono ?_
  rintro e w3 ⟨rfl, hr3, hc3⟩
  obtain ⟨R0c, R0f⟩ := Cl_chg R0 hc3 (by simp [Value.ownBlock]; omega)
  obtain ⟨R1c, R1f⟩ := Cl_chg R1 hc3 (by simp [Value.ownBlock]; omega)
  obtain ⟨Q0c, Q0f⟩ := Cl_chg Q0 hc3 (by simp [Value.ownBlock]; omega)
  obtain ⟨Q1c, Q1f⟩ := Cl_chg Q1 hc3 (by simp [Value.ownBlock]; omega)
  have C5 := Lib.hid (C4.out.trans hc3 (fun b _ h => .inr (by simpa [Value.ownBlock] using h)))
  rw [← HP.out] at hr3
  have HH4 := Lib.hid hr3
  clear hr3 hc3 cV2 fV2 S SL
  go_wp2_with fail
  have e1 : ∀ (X : World), Rep X hb (.func (.func lf) #[] #[]) (.slice (some ⟨g, 0, none⟩) r.length cap) t base (popL lt (a :: r)) → ∀ (j : Nat) (u : Value), Rep (X.setCell ⟨w.heap.size, j, none⟩ u) hb (.func (.func lf) #[] #[]) (.slice (some ⟨g, 0, none⟩) r.length cap) t base (popL lt (a :: r)) := fun X h j u => h.chg ((Chg.refl (fun b => b = w.heap.size) X).setCell (fun _ => rfl) _) (by omega) (by simp [Value.ownBlock]; omega)
  refine bodyPost_ret (v := .tuple #[.agg #[.int .i64 a.1.1, .int .i64 a.1.2], .bool true]) (by simp [results, Tryz.results37, go_sem, R0c, R1c]) rfl ⟨rfl, ⟨.slice (some ⟨g, 0, none⟩) r.length cap, rfl, e1 _ (e1 _ HH4.out _ _) _ _⟩, ?_⟩
  exact ((C5.out.setCell (p := ⟨w.heap.size, 0, none⟩) (fun h => absurd h (Nat.lt_irrefl _)) _).setCell (p := ⟨w.heap.size, 1, none⟩) (fun h => absurd h (Nat.lt_irrefl _)) _).mono (fun k _ h => h.imp id (fun e => congrArg some e))

set_option maxRecDepth 100000 in
set_option maxHeartbeats 1000000 in
theorem pop_none {w : World} {hb : Nat} {F V : Value} {t : Int} {base : Nat} (H : Rep w hb F V t base []) :
    Calls Tryz.prog 37 #[.pointer (some ⟨hb, 0, none⟩)] w fun e w' => e = .returned (.tuple #[.agg #[.int .i64 0, .int .i64 0], .bool false]) ∧ Below w.heap.size w w' := by
  have HH := Lib.hid H
  clear H
  go_enter Tryz.func37, Tryz.ntmps37
  go_wp2_with fail
  refine (top_none (HH.out.later ((Below.refl _ _).alloc (Nat.le_refl _) _))).mono ?_
  rintro e w1 ⟨rfl, hb1⟩
  have hB : Below w.heap.size w w1 := ((Below.refl _ _).alloc (Nat.le_refl _) _).trans (hb1.mono (by simp))
  have y0 : w.heap.size < w1.heap.size := by have := hb1.size; simp at this; omega
  have R0 := (Cl.new (w := w) (c := #[.int .i64 0, .int .i64 0]) (t := 85) (j := 0) (v := .int .i64 0) rfl).later hb1
  have R1 := (Cl.new (w := w) (c := #[.int .i64 0, .int .i64 0]) (t := 85) (j := 1) (v := .int .i64 0) rfl).later hb1
  obtain ⟨R0c, R0f⟩ := R0
  obtain ⟨R1c, R1f⟩ := R1
  have HB := Lib.hid hB
  clear hb1 hB
  go_wp2_with fail
  refine bodyPost_ret (v := .tuple #[.agg #[.int .i64 0, .int .i64 0], .bool false]) (by simp [results, Tryz.results37, go_sem, y0, R0c, R1c]) rfl ⟨rfl, ?_⟩
  exact ((HB.out.setCell (p := ⟨w.heap.size, 0, none⟩) (Nat.le_refl _) _).setCell (p := ⟨w.heap.size, 1, none⟩) (Nat.le_refl _) _).alloc (by have := HB.out.size; simpa [World.setCell] using this) _

set_option maxRecDepth 100000 in
set_option maxHeartbeats 1000000 in
theorem pop_nil (w : World) :
    Calls Tryz.prog 37 #[.pointer none] w fun e w' => e = .returned (.tuple #[.agg #[.int .i64 0, .int .i64 0], .bool false]) ∧ Below w.heap.size w w' := by
  go_enter Tryz.func37, Tryz.ntmps37
  go_wp2_with fail
  refine (top_nil _).mono ?_
  rintro e w1 ⟨rfl, hb1⟩
  have hB : Below w.heap.size w w1 := ((Below.refl _ _).alloc (Nat.le_refl _) _).trans (hb1.mono (by simp))
  have y0 : w.heap.size < w1.heap.size := by have := hb1.size; simp at this; omega
  have R0 := (Cl.new (w := w) (c := #[.int .i64 0, .int .i64 0]) (t := 85) (j := 0) (v := .int .i64 0) rfl).later hb1
  have R1 := (Cl.new (w := w) (c := #[.int .i64 0, .int .i64 0]) (t := 85) (j := 1) (v := .int .i64 0) rfl).later hb1
  obtain ⟨R0c, R0f⟩ := R0
  obtain ⟨R1c, R1f⟩ := R1
  have HB := Lib.hid hB
  clear hb1 hB
  go_wp2_with fail
  refine bodyPost_ret (v := .tuple #[.agg #[.int .i64 0, .int .i64 0], .bool false]) (by simp [results, Tryz.results37, go_sem, y0, R0c, R1c]) rfl ⟨rfl, ?_⟩
  exact ((HB.out.setCell (p := ⟨w.heap.size, 0, none⟩) (Nat.le_refl _) _).setCell (p := ⟨w.heap.size, 1, none⟩) (Nat.le_refl _) _).alloc (by have := HB.out.size; simpa [World.setCell] using this) _
end Go.Proofs.YtjgloineooadoaaGreatDoor.HRch
/- The heap's functions at one element type, what each call does: a push. -/
namespace Go.Proofs.YtjgloineooadoaaGreatDoor.HRch
open Go.RowKit
theorem info_item : (Tryz.prog.info? 141).map (fun i => (i.zero, i.size, i.bytes)) = some (some (.agg #[.int .i64 0, .int .i64 0, .int .i64 0]), 3, 24) := by kernel_rfl
/-- Behind an append the struct still holds its old row. -/
theorem after_append {wA wx w' : World} {hb : Nat} {F V : Value} {t : Int} {base : Nat} {l : List (El × Int)} (H : Rep wA hb F V t base l) (hx : Below wA.heap.size wA wx) (hg : wx.grownBy w' V.ownBlock) :
    w'.heap[hb]? = some (.cells #[F, V, .int .i64 t] 112) := by
  have h1 := (hx.block hb H.lt).trans H.blk
  rw [hg.block hb (Array.getElem?_eq_some_iff.1 h1).1 (fun e => H.ne e.symm)]
  exact h1
/-- The row stored back. -/
theorem push_row {wA wx w' : World} {hb g cap : Nat} {F V : Value} {t : Int} {base : Nat} {l : List (El × Int)} {x : El × Int} (H : Rep wA hb F V t base l) (hx : Below wA.heap.size wA wx) (hg : wx.grownBy w' V.ownBlock)
    (hown : w'.ownsRow base 141 3 (.slice (some ⟨g, 0, none⟩) (l.length + 1) cap) (l.length + 1) (flat enc l ++ enc x)) (hat : V.ownBlock = some g ∨ wA.heap.size ≤ g) :
    Rep (w'.setCell ⟨hb, 1, none⟩ (.slice (some ⟨g, 0, none⟩) (l.length + 1) cap)) hb F (.slice (some ⟨g, 0, none⟩) (l.length + 1) cap) t base (l ++ [x]) ∧
      Chg (fun b => b = hb ∨ V.ownBlock = some b) wA (w'.setCell ⟨hb, 1, none⟩ (.slice (some ⟨g, 0, none⟩) (l.length + 1) cap)) := by
  have hb2 := after_append H hx hg
  have hlt := H.lt
  have hne : g ≠ hb := by
    rcases hat with h | h
    · exact fun e => H.ne (by rw [h, e])
    · omega
  refine ⟨⟨heap_setCell_same w' hb 1 _ _ _ hb2, ?_, fun e => hne (by cases e; rfl)⟩, ?_⟩
  · rw [List.length_append, flat_append]
    have : flat enc [x] = enc x := by simp [flat]
    rw [this]
    refine ⟨hown.1, ?_⟩
    rcases hown.2 with ⟨h0, _⟩ | ⟨g', cap', cur, hv, hg', hh, r⟩
    · cases h0
    · cases hv
      exact .inr ⟨g, cap, cur, rfl, hg', by rw [Below.heap_setCell _ _ _ _ hne]; exact hh, r⟩
  · refine Chg.setCell ?_ (fun _ => .inl rfl) _
    exact (chg_below hx _).trans (Chg.of_grown hg (S := fun b => V.ownBlock = some b) (fun k e => e)) (fun b _ h => .inr h)
set_option maxRecDepth 100000 in
set_option maxHeartbeats 1000000 in
theorem push_any {lf : Nat} {lt : El → El → Bool} (hless : Less lf lt) {w : World} {hb : Nat} {V : Value} {t : Int} {base : Nat} {x : El} {l : List (El × Int)}
    (H : Rep w hb (.func (.func lf) #[] #[]) V t base l) (hn : l.length ≤ 1000000000) (ht0 : 0 ≤ t) (ht : t ≤ 1000000000) (hbase : base ≤ w.heap.size) :
    Calls Tryz.prog 63 #[.pointer (some ⟨hb, 0, none⟩), .agg #[.int .i64 x.1, .int .i64 x.2]] w fun e w' => e = .returned (.tuple #[]) ∧ (∃ V', (V'.ownBlock = V.ownBlock ∨ ∃ k, V'.ownBlock = some k ∧ w.heap.size ≤ k) ∧ Rep w' hb (.func (.func lf) #[] #[]) V' (t + 1) base (pushL lt l x (t + 1))) ∧ Chg (fun b => b = hb ∨ V.ownBlock = some b) w w' := by
  obtain ⟨A, cap, rfl⟩ : ∃ A cap, V = .slice A l.length cap := by
    rcases H.row.2 with ⟨h, h0⟩ | ⟨g, cap, cur, h, _⟩
    · exact ⟨none, 0, by rw [h, h0]⟩
    · exact ⟨_, cap, h⟩
  have z0 := H.lt
  obtain ⟨cT, fT⟩ := Cl.of_block H.blk (j := 2) (v := .int .i64 t) rfl
  have HH := Lib.hid H
  have HL := Lib.hid hless
  clear H hless
  go_enter Tryz.func63, Tryz.ntmps63
  go_upto_region 3 with fail
  have hW : ∃ wA : World, wA = (w.setCell ⟨hb, 2, none⟩ (.int .i64 (t + 1))).alloc (.cells #[.int .i64 x.1, .int .i64 x.2] 85) := ⟨_, rfl⟩
  obtain ⟨wA, hwA⟩ := hW
  rw [← hwA]
  have RS : Rep (w.setCell ⟨hb, 2, none⟩ (.int .i64 (t + 1))) hb (.func (.func lf) #[] #[]) (.slice A l.length cap) (t + 1) base l := by
    have h2 : HRep 112 141 3 enc w hb (.func (.func lf) #[] #[]) (.slice A l.length cap) t base l := HH.out
    refine ⟨heap_setCell_same _ hb 2 _ _ _ h2.blk, ?_, h2.ne⟩
    refine ⟨h2.row.1, ?_⟩
    rcases h2.row.2 with h0 | ⟨g', cap', cur, hv, hg', hh, r⟩
    · exact .inl h0
    · cases hv
      exact .inr ⟨g', cap, cur, rfl, hg', by rw [Below.heap_setCell _ _ _ _ (fun e => h2.ne (by rw [e]; rfl))]; exact hh, r⟩
  have CS : Chg (fun b => b = hb ∨ (Value.slice A l.length cap).ownBlock = some b) w (w.setCell ⟨hb, 2, none⟩ (.int .i64 (t + 1))) := (Chg.refl _ w).setCell (fun _ => .inl rfl) _
  have RA : Rep wA hb (.func (.func lf) #[] #[]) (.slice A l.length cap) (t + 1) base l := by rw [hwA]; exact RS.later ((Below.refl _ _).alloc (Nat.le_refl _) _)
  have CA : Chg (fun b => b = hb ∨ (Value.slice A l.length cap).ownBlock = some b) w wA := by rw [hwA]; exact CS.trans (chg_below ((Below.refl _ _).alloc (Nat.le_refl _) _) (fun b => b = hb ∨ (Value.slice A l.length cap).ownBlock = some b)) (fun _ _ h => h)
  have es : (w.setCell ⟨hb, 2, none⟩ (.int .i64 (t + 1))).heap.size = w.heap.size := by simp [World.setCell]
  have X0 : wA.cell? ⟨w.heap.size, 0, none⟩ = some (.int .i64 x.1) := by rw [hwA, ← es]; exact (Cl.new (j := 0) (v := .int .i64 x.1) rfl).cell
  have X1 : wA.cell? ⟨w.heap.size, 1, none⟩ = some (.int .i64 x.2) := by rw [hwA, ← es]; exact (Cl.new (j := 1) (v := .int .i64 x.2) rfl).cell
  have sA := CA.size
  obtain ⟨cV, fV⟩ := Cl.of_block RA.blk (j := 1) (v := .slice A l.length cap) rfl
  have cT' := (Cl.of_block RA.blk (j := 2) (v := .int .i64 (t + 1)) rfl).cell
  have zA : hb < wA.heap.size := by omega
  have zX : w.heap.size < wA.heap.size := World.block_lt_of_cell? _ _ X0
  have HA := Lib.hid RA
  have HC := Lib.hid CA
  clear hwA RA CA RS CS cT fT
  go_cut [] (fun wx => ∃ (g cap' : Nat), ((Value.slice A l.length cap).ownBlock = some g ∨ w.heap.size ≤ g) ∧ Rep wx hb (.func (.func lf) #[] #[]) (.slice (some ⟨g, 0, none⟩) (l.length + 1) cap') (t + 1) base (l ++ [(x, t + 1)]) ∧ Chg (fun b => b = hb ∨ (Value.slice A l.length cap).ownBlock = some b) w wx)
  case first =>
    obtain ⟨i0, hi, hz0, hz1, hz2⟩ := info_parts info_item
    have hbA : base ≤ wA.heap.size := by omega
    go_region_law (first | (refine step_append_lies _ rfl (.tmp 18) (.tmp 25) 110 rfl base 141 i0 (.agg #[.int .i64 0, .int .i64 0, .int .i64 0]) 3 24 Tryz.underlying110 hi hz0 hz1 hz2 rfl (by decide) (.slice A l.length cap) l.length (flat enc l) (by rfl) (HRep.row (HRep.later HA.out ((Below.refl _ _).alloc (Nat.le_refl _) _).drew)) ⟨wA.heap.size, 0, none⟩ 1 1 (enc (x, t + 1)) (by rfl) rfl (World.news_of_block (heap_at rfl)) (by intro u hu; simp [enc] at hu; rcases hu with rfl | rfl | rfl <;> rfl) (by omega) (by simp only [maxLen]; omega) (by omega) (by simp; omega) _ rfl ?_; intro g cap' w' hown hgrow hat hlt; have hblk := after_append HA.out ((Below.refl _ _).alloc (Nat.le_refl _) _).drew hgrow; obtain ⟨k1, k2⟩ := Cl.of_block hblk (j := 1) (v := .slice A l.length cap) rfl))
    all_goals
      go_wp2_with fail
      go_meet
      have hat' : (Value.slice A l.length cap).ownBlock = some g ∨ wA.heap.size ≤ g := hat.imp id (fun e => by rw [e]; show wA.heap.size ≤ (wA.alloc _).heap.size; rw [World.size_alloc]; omega)
      have PR := push_row HA.out ((Below.refl _ _).alloc (Nat.le_refl _) _).drew hgrow hown hat'
      exact ⟨g, cap', hat'.imp id (fun e => by omega), PR.1, HC.out.trans PR.2 (fun _ _ h => h)⟩
  case rest =>
    rename World => wB
    obtain ⟨g, cap', hg, RB, CB⟩ := hcut
    obtain ⟨cV2, fV2⟩ := Cl.of_block RB.blk (j := 1) (v := .slice (some ⟨g, 0, none⟩) (l.length + 1) cap') rfl
    have HB := Lib.hid RB
    have HCB := Lib.hid CB
    have HG := Lib.hid hg
    have HN : Hid ((l ++ [(x, t + 1)]).length = l.length + 1) := by show _ = _; simp
    have HPu : Hid (pushL lt l x (t + 1) = up lt l.length (l ++ [(x, t + 1)]) l.length) := rfl
    generalize hm0 : l ++ [(x, t + 1)] = m0 at HB HN HPu
    clear RB CB hg cV fV cT' hm0
    go_wp2_with fail
    go_loopg [4] l.length (fun f s wr => ∃ (i : Nat) (m : List (El × Int)), s = .int .i64 i ∧ Hid (m.length = l.length + 1) ∧ i ≤ l.length ∧ i ≤ f ∧ Rep wr hb (.func (.func lf) #[] #[]) (.slice (some ⟨g, 0, none⟩) (l.length + 1) cap') (t + 1) base m ∧ Chg (fun b => b = hb ∨ (Value.slice A l.length cap).ownBlock = some b) w wr ∧ Hid (pushL lt l x (t + 1) = up lt f m i))
    case atStart => exact ⟨l.length, m0, rfl, HN, Nat.le_refl _, Nat.le_refl _, HB.out, HCB.out, HPu⟩
    case round =>
      obtain ⟨i, m, rfl, hm, hil, hif, hrep, hch, HU⟩ := hrel
      have HR := Lib.hid hrep
      have HCR := Lib.hid hch
      clear hrep hch
      by_cases hi : 0 < i
      · have hi' : (0 : Int) < i := by omega
        obtain ⟨b1, hb1⟩ : ∃ b, ahd lt m[i]! m[(i - 1) / 2]! = b := ⟨_, rfl⟩
        have HB1 := Lib.hid hb1
        clear hb1
        go_wp2_with fail
        refine (ahead_nat HL.out HR.out i ((i - 1) / 2) _ _ (by omega) (by omega) (by rw [hm.out]; omega) (by rw [hm.out]; omega)).mono ?_
        rw [HB1.out]
        rintro e w1 ⟨rfl, hw1⟩
        have HR1 := Lib.hid (HR.out.later hw1)
        have HC1 := Lib.hid (HCR.out.trans (chg_below hw1 (fun b => b = hb ∨ (Value.slice A l.length cap).ownBlock = some b)) (fun _ _ h => h))
        clear hw1
        cases b1
        · have hs : Hid (up lt gk m i = m) := up_stop (by rw [HB1.out]; simp)
          go_wp2_with fail
          (try simp only [Exit.inBlock, Exit.then])
          refine bodyPost_end (results_none rfl _ _ _) rfl ?_
          exact ⟨rfl, ⟨.slice (some ⟨g, 0, none⟩) (l.length + 1) cap', HG.out.imp (fun h => h.symm) (fun h => ⟨g, rfl, h⟩), by rw [HU.out, hs.out]; exact HR1.out⟩, HC1.out⟩
        · have hs : Hid (up lt gk m i = up lt (gk - 1) (swp m i ((i - 1) / 2)) ((i - 1) / 2)) := up_go hif hi HB1.out
          go_wp2_with fail
          refine (swap_nat HR1.out i ((i - 1) / 2) _ _ (by omega) (by omega) (by rw [hm.out]; omega) (by rw [hm.out]; omega)).mono ?_
          rintro e w2 ⟨rfl, hw2, hc2⟩
          have HR2 := Lib.hid hw2
          have HC2 := Lib.hid (HC1.out.trans hc2 (fun b hb' h => by
            rcases HG.out with h' | h'
            · exact .inr (h'.trans h)
            · have e : g = b := by simpa [Value.ownBlock] using h
              omega))
          clear hw2 hc2
          go_wp2_with fail
          go_roundg (gk - 1)
          case measure => omega
          case rel => exact ⟨(i - 1) / 2, swp m i ((i - 1) / 2), congrArg (Value.int .i64) (by omega), by rw [swp_length]; exact hm, by omega, by omega, HR2.out, HC2.out, HU.out.trans hs.out⟩
      · obtain rfl : i = 0 := by omega
        have hs : Hid (up lt gk m 0 = m) := up_stop (by simp)
        go_wp2_with fail
        (try simp only [Exit.inBlock, Exit.then])
        refine bodyPost_end (results_none rfl _ _ _) rfl ?_
        exact ⟨rfl, ⟨.slice (some ⟨g, 0, none⟩) (l.length + 1) cap', HG.out.imp (fun h => h.symm) (fun h => ⟨g, rfl, h⟩), by rw [HU.out, hs.out]; exact HR.out⟩, HCR.out⟩

set_option maxHeartbeats 1000000 in
theorem push_nil (x : El) (w : World) : Calls Tryz.prog 63 #[.pointer none, .agg #[.int .i64 x.1, .int .i64 x.2]] w fun e w' => e = .returned (.tuple #[]) ∧ Below w.heap.size w w' := by
  go_enter Tryz.func63, Tryz.ntmps63
  go_wp2
  exact bodyPost_ret (results_none rfl _ _ _) rfl ⟨rfl, (Below.refl w.heap.size w).alloc (Nat.le_refl _) (.cells #[.int .i64 x.1, .int .i64 x.2] 85)⟩
end Go.Proofs.YtjgloineooadoaaGreatDoor.HRch
/- A node is met; a search begins. -/
namespace Go.Proofs.YtjgloineooadoaaGreatDoor
open Go.RowKit
def ltR (a b : Int × Int) : Bool := decide (a.2 < b.2)
theorem enterRch (args : Array Value) (w : World) : (callFunc 59 args).run Tryz.prog w = .ok (.enter 59 args) w := by kernel_rfl
set_option maxHeartbeats 1000000 in
theorem lessR : HRch.Less 59 ltR := ⟨enterRch, fun a b w => by
  obtain ⟨wA, hwA⟩ : ∃ wA, (w.alloc (.cells #[.int .i64 a.1, .int .i64 a.2] 85)).alloc (.cells #[.int .i64 b.1, .int .i64 b.2] 85) = wA := ⟨_, rfl⟩
  have BA : Below w.heap.size w wA := by rw [← hwA]; exact ((Below.refl _ _).alloc (Nat.le_refl _) _).alloc (by simp) _
  have h1 : wA.heap[w.heap.size]? = some (.cells #[.int .i64 a.1, .int .i64 a.2] 85) := by rw [← hwA]; exact (Below.heap_alloc _ _ _ (by simp)).trans (heap_at rfl)
  have h2 : wA.heap[w.heap.size + 1]? = some (.cells #[.int .i64 b.1, .int .i64 b.2] 85) := by rw [← hwA]; exact heap_at (by simp)
  have g1 : wA.cell? ⟨w.heap.size, 1, none⟩ = some (.int .i64 a.2) := (Cl.of_block h1 (j := 1) rfl).cell
  have g2 : wA.cell? ⟨w.heap.size + 1, 1, none⟩ = some (.int .i64 b.2) := (Cl.of_block h2 (j := 1) rfl).cell
  have HB := Lib.hid BA
  clear h1 h2 BA
  go_enter Tryz.func59, Tryz.ntmps59
  go_wp2_with fail
  go_ret
  exact ⟨rfl, HB.out⟩⟩
section
variable {s : Sv} {w : World} {left fl x far : Nat → Int} {came : Nat → Stp} {cl : Nat → Bool}
/-- A heap apart from a solver. -/
def Apart (s : Sv) (hb : Nat) (V : Value) : Prop := ∀ b, (s.R b ∨ b ∈ [s.bl, s.bf, s.bx, s.br, s.bm, s.bc]) → b ≠ hb ∧ V.ownBlock ≠ some b
set_option maxRecDepth 100000 in
set_option maxHeartbeats 1000000 in
theorem meet_old {hb : Nat} (h : s.st w left fl x far came cl) (k : s.ok) (v : Nat) (hv : v < s.n) (d : Int) (y : Stp) (hf : far v ≠ -1 ∧ far v ≤ d) :
    Calls Tryz.prog 38 #[.pointer (some ⟨s.sb, 0, none⟩), .pointer (some ⟨hb, 0, none⟩), .int .i64 (v : Int), .int .i64 d, .agg #[.int .i64 y.1, .bool y.2]] w fun e w' => e = .returned (.tuple #[]) ∧ Below w.heap.size w w' := by
  have hn1 := k.g.n1
  obtain ⟨wA, hwA⟩ : ∃ wA, w.alloc (.cells #[.int .i64 y.1, .bool y.2] 91) = wA := ⟨_, rfl⟩
  have BA : Below w.heap.size w wA := by rw [← hwA]; exact (Below.refl _ _).alloc (Nat.le_refl _) _
  have S := h.later BA
  obtain ⟨-, -, -, -, -, -, d6, -, -⟩ := S.ro.cells
  have q1 := S.far.cell hv
  have HB := Lib.hid BA
  have i1 : (0 : Int) ≤ (v : Int) := by omega
  have i2 : (v : Int) < (s.n : Int) := by omega
  have hne : (far v == -1) = false := by simp; exact hf.1
  have hlt : decide (d < far v) = false := by simp; omega
  clear S BA h k
  go_enter Tryz.func38, Tryz.ntmps38
  go_wp2_with fail
  go_end0
  exact ⟨rfl, HB.out⟩
set_option maxRecDepth 100000 in
set_option maxHeartbeats 2000000 in
theorem meet_new {hb : Nat} {V : Value} {t : Int} {base : Nat} {l : List ((Int × Int) × Int)} (h : s.st w left fl x far came cl) (k : s.ok) (H : HRch.Rep w hb (.func (.func 59) #[] #[]) V t base l) (ha : Apart s hb V) (hl : l.length ≤ 1000000000) (ht0 : 0 ≤ t) (ht : t ≤ 1000000000) (hbase : base ≤ w.heap.size)
    (v : Nat) (hv : v < s.n) (d : Int) (y : Stp) (hf : far v = -1 ∨ d < far v) :
    Calls Tryz.prog 38 #[.pointer (some ⟨s.sb, 0, none⟩), .pointer (some ⟨hb, 0, none⟩), .int .i64 (v : Int), .int .i64 d, .agg #[.int .i64 y.1, .bool y.2]] w fun e w' => e = .returned (.tuple #[]) ∧ s.st w' left fl x (upd far v d) (upd came v y) cl ∧
      (∃ V', (V'.ownBlock = V.ownBlock ∨ ∃ k, V'.ownBlock = some k ∧ w.heap.size ≤ k) ∧ HRch.Rep w' hb (.func (.func 59) #[] #[]) V' (t + 1) base (pushL ltR l ((v : Int), d) (t + 1))) ∧ Chg (fun b => b = s.br ∨ b = s.bm ∨ b = hb ∨ V.ownBlock = some b) w w' := by
  have hn1 := k.g.n1
  obtain ⟨wA, hwA⟩ : ∃ wA, w.alloc (.cells #[.int .i64 y.1, .bool y.2] 91) = wA := ⟨_, rfl⟩
  have BA : Below w.heap.size w wA := by rw [← hwA]; exact (Below.refl _ _).alloc (Nat.le_refl _) _
  have g0 : wA.cell? ⟨w.heap.size, 0, none⟩ = some (.int .i64 y.1) := by rw [← hwA]; exact (Cl.new rfl).cell
  have g1 : wA.cell? ⟨w.heap.size, 1, none⟩ = some (.bool y.2) := by rw [← hwA]; exact (Cl.new rfl).cell
  have S := h.later BA
  obtain ⟨-, -, -, -, -, -, d6, d7, -⟩ := S.ro.cells
  have q1 := S.far.cell hv
  have HB := Lib.hid BA
  have HS := Lib.hid S
  have HK := Lib.hid k
  have HA := Lib.hid ha
  have HH := Lib.hid (H.later BA)
  have hwA2 := BA.size
  have i1 : (0 : Int) ≤ (v : Int) := by omega
  have i2 : (v : Int) < (s.n : Int) := by omega
  have hap := HK.out.ap
  simp only [List.nodup_cons, List.mem_cons, List.not_mem_nil, or_false, not_or] at hap
  have HAP := Lib.hid hap
  have HLT := Lib.hid h.lt
  clear S BA h k ha H hap
  go_enter Tryz.func38, Tryz.ntmps38
  by_cases hne0 : far v = -1
  rotate_left
  have hne : (far v == -1) = false := by simp; exact hne0
  have hlt : decide (d < far v) = true := by rcases hf with h | h; exact absurd h hne0; simp; exact h
  clear hne0 hf
  go_upto_region 2 with fail
  rotate_left
  have hne : (far v == -1) = true := by simp; exact hne0
  clear hne0 hf
  go_upto_region 2 with fail
  all_goals
    have hsb : s.sb ≠ s.br ∧ w.heap.size ≠ s.br ∧ s.sb ≠ s.bm ∧ w.heap.size ≠ s.bm := by
      have := HLT.out s.br (.inr (by simp))
      have := HLT.out s.bm (.inr (by simp))
      exact ⟨fun e => HK.out.rd _ HS.out.ro.rs (by rw [e]; simp), by omega, fun e => HK.out.rd _ HS.out.ro.rs (by rw [e]; simp), by omega⟩
    refine wp_region_heads [0, 1, 2, 3, 4, 5, 6, 7, 8, 9, 10, 11, 12] (fun w' => w'.cell? ⟨s.sb, 6, none⟩ = some (.slice (some ⟨s.br, 0, none⟩) s.n s.n) ∧ w'.cell? ⟨s.sb, 7, none⟩ = some (.slice (some ⟨s.bm, 0, none⟩) s.n s.n) ∧ w'.cell? ⟨w.heap.size, 0, none⟩ = some (.int .i64 y.1) ∧ w'.cell? ⟨w.heap.size, 1, none⟩ = some (.bool y.2)) (by kernel_rfl) (by kernel_rfl) ⟨d6, d7, g0, g1⟩ ?_
    iterate 13 (refine wpHi_cons (v := ?_) rfl (by rfl) (fun wS hwS => ?_) ?_; rotate_left 1; focus ((try dsimp only at hwS); go_simp; try with_reducible rfl); (try simp only [Act.put, List.setIfInBounds_toArray, List.set_cons_zero, List.set_cons_succ]))
    refine wpHi_nil ?_
    change wpAnyH _ _ _ _ _ 3 _ _ _
    refine wpAnyH_ready (rs := [13]) (by kernel_rfl) (by simp) (AllReadyH.cons rfl (fun K hK => ?_) AllReadyH.nil)
    have f1 := HS.out.far.frozen v
    go_simp
    have c1 := chg_set wA.drew ⟨s.br, v, none⟩ (.int .i64 d)
    have c1' : Chg (fun b => b = s.br) wA (wA.drew.setCell ⟨s.br, v, none⟩ (.int .i64 d)) := (chg_below (Below.refl _ _).drew (fun b => b = s.br)).trans c1 (fun b _ h => h)
    obtain ⟨n1, n2, n3, n4⟩ := hsb
    refine hK.out _ _ ⟨cell_chg c1' d6 n1, cell_chg c1' d7 n1, cell_chg c1' g0 n2, cell_chg c1' g1 n2⟩ (fun hHeld => ?_)
    clear hK K hHeld
    refine wpAnyH_ready (rs := [14]) (by kernel_rfl) (by simp) (AllReadyH.cons rfl (fun K hK => ?_) AllReadyH.nil)
    go_simp
    refine hK.out _ _ ⟨cell_chg c1' d6 n1, cell_chg c1' d7 n1, cell_chg c1' g0 n2, cell_chg c1' g1 n2⟩ (fun hHeld => ?_)
    clear hK K hHeld
    have RM := row_set_ne (p := ⟨s.br, v, none⟩) (v := .int .i64 d) HS.out.came (fun e => HAP.out.2.2.2.1.1 e.symm)
    obtain ⟨e1, e2⟩ := came_cells RM hv
    have e3 := RM.frozen (v * 2)
    have e4 := RM.frozen (v * 2 + 1)
    refine wpAnyH_ready (rs := [15]) (by kernel_rfl) (by simp) (AllReadyH.cons rfl (fun K hK => ?_) AllReadyH.nil)
    go_simp
    obtain ⟨w2, hw2⟩ : ∃ w2, (((wA.setCell ⟨s.br, v, none⟩ (.int .i64 d)).setCell ⟨s.bm, v * 2, none⟩ (.int .i64 y.1)).setCell ⟨s.bm, v * 2 + 1, none⟩ (.bool y.2)).drew = w2 := ⟨_, rfl⟩
    have c2 : Chg (fun b => b = s.br ∨ b = s.bm) wA w2 := by
      rw [← hw2]
      exact (((((Chg.refl (fun b => b = s.br ∨ b = s.bm) wA).setCell (p := ⟨s.br, v, none⟩) (fun _ => .inl rfl) (.int .i64 d)).setCell (p := ⟨s.bm, v * 2, none⟩) (fun _ => .inr rfl) (.int .i64 y.1)).setCell (p := ⟨s.bm, v * 2 + 1, none⟩) (fun _ => .inr rfl) (.bool y.2))).drew
    have hro : ∀ b, s.R b → ¬ (b = s.br ∨ b = s.bm) := fun b hb e => HK.out.rd b hb (by rcases e with e | e <;> rw [e] <;> simp)
    have S2 : s.st w2 left fl x (upd far v d) (upd came v y) cl := by
      obtain ⟨p1, p2, p3, p4, p5, -⟩ := HAP.out
      refine ⟨HS.out.ro.chg c2 hro, row_chg HS.out.left c2 (by rintro (e | e); exact p1.2.2.1 e; exact p1.2.2.2.1 e), row_chg HS.out.fl c2 (by rintro (e | e); exact p2.2.1 e; exact p2.2.2.1 e), row_chg HS.out.x c2 (by rintro (e | e); exact p3.1 e; exact p3.2.1 e), ?_, ?_, row_chg HS.out.cl c2 (by rintro (e | e); exact p4.2 e.symm; exact p5 e.symm)⟩
      · rw [← hw2]
        exact (row_set_ne (row_set_ne (row_upd (F := fun z => .int .i64 z) HS.out.far v d) p4.1) p4.1).of_block rfl
      · rw [← hw2]
        exact (row_updS RM v y).of_block rfl
    have hbn : hb ≠ s.br ∧ hb ≠ s.bm ∧ V.ownBlock ≠ some s.br ∧ V.ownBlock ≠ some s.bm := ⟨fun e => (HA.out s.br (.inr (by simp))).1 e.symm, fun e => (HA.out s.bm (.inr (by simp))).1 e.symm, (HA.out s.br (.inr (by simp))).2, (HA.out s.bm (.inr (by simp))).2⟩
    have H2 := HH.out.chg c2 (by rintro (e | e); exact hbn.1 e; exact hbn.2.1 e) (fun q hq e => by rcases e with e | e; exact hbn.2.2.1 (by rw [hq, e]); exact hbn.2.2.2 (by rw [hq, e]))
    have HS2 := Lib.hid S2
    have HH2 := Lib.hid H2
    have HC2 := Lib.hid ((chg_below HB.out (fun b => b = s.br ∨ b = s.bm)).trans c2 (fun b _ h => h))
    rw [hw2]
    refine hK.out _ _ ⟨cell_chg c2 d6 (hro _ HS.out.ro.rs), cell_chg c2 d7 (hro _ HS.out.ro.rs), cell_chg c2 g0 (by rintro (e | e); exact n2 e; exact n4 e), cell_chg c2 g1 (by rintro (e | e); exact n2 e; exact n4 e)⟩ (fun hHeld => ?_)
    clear hK K hHeld
    refine wpAnyH_done (by kernel_rfl) (NoPanic.normal ?_) _
    clear RM e1 e2 e3 e4 c1 c1' c2 S2 H2 f1 d6 d7 g0 g1 q1
    clear hw2
    go_wp2_with fail
    refine (HRch.push_any (x := ((v : Int), d)) lessR HH2.out hl ht0 ht (by have := HC2.out.size; omega)).mono ?_
    rintro e w3 ⟨rfl, ⟨V', hV', H3⟩, C3⟩
    have hch : Chg (fun b => b = s.br ∨ b = s.bm ∨ b = hb ∨ V.ownBlock = some b) w w3 := (HC2.out.mono (fun b _ h => by rcases h with h | h; exact .inl h; exact .inr (.inl h))).trans C3 (fun b _ h => .inr (.inr h))
    have S3 := HS2.out.chg C3 (fun b hb' e => by rcases e with e | e; exact (HA.out b hb').1 e; exact (HA.out b hb').2 e)
    have HF := Lib.hid (And.intro S3 (And.intro H3 hch))
    have HV := Lib.hid hV'
    clear S3 H3 hch C3 hV'
    go_wp2_with fail
    go_end0
    refine ⟨rfl, HF.out.1, ⟨V', HV.out.imp id (fun ⟨q, q1, q2⟩ => ⟨q, q1, by have := HC2.out.size; omega⟩), HF.out.2.1⟩, HF.out.2.2⟩
end
end Go.Proofs.YtjgloineooadoaaGreatDoor
