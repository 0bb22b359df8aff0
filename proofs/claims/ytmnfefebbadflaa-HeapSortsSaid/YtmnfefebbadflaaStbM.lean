/- slices.symMergeCmpFunc where one of the two parts has but one element. -/
import Derived.Test.YtmnfefebbadflaaStbI
namespace Go.Proofs.Ytmnfefebbadflaa
open Go.RowKit
theorem half_walk {i j : Nat} (hi : i ≤ 1000000000) (hj : j ≤ 1000000000) (hij : i < j) : ∃ h : Nat, h = (i + j) / 2 ∧ i ≤ h ∧ h < j ∧ h ≤ 1000000000 := ⟨(i + j) / 2, rfl, by omega, by omega, by omega⟩
theorem srt_le {L : List One} (h : Stb.Srt kO L) {i j : Nat} {a b : One} (ha : L[i]? = some a) (hb : L[j]? = some b) (hij : i ≤ j) : a.1 ≤ b.1 := by
  by_cases e : i = j
  · subst e
    rw [ha] at hb
    injection hb with hb
    subst hb
    exact Int.le_refl _
  · obtain ⟨h3, rfl⟩ := List.getElem?_eq_some_iff.1 ha
    obtain ⟨h4, rfl⟩ := List.getElem?_eq_some_iff.1 hb
    exact List.pairwise_iff_getElem.1 h i j h3 h4 (by omega)
theorem get_mid {P A B S : List One} {i m : Nat} {y : One} (hm : m = P.length + A.length) (h : B[i - m]? = some y) (hi : m ≤ i) : (P ++ A ++ B ++ S)[i]? = some y := by
  have hl := (List.getElem?_eq_some_iff.1 h).1
  rw [List.getElem?_append_left (by simp; omega), List.getElem?_append_right (by simp; omega), List.length_append, ← hm]
  exact h
theorem get_fst {P A B S : List One} {i p : Nat} {y : One} (hp : P.length = p) (h : A[i - p]? = some y) (hi : p ≤ i) : (P ++ A ++ B ++ S)[i]? = some y := by
  have hl := (List.getElem?_eq_some_iff.1 h).1
  rw [List.append_assoc, List.getElem?_append_left (by simp; omega), List.getElem?_append_right (by omega), hp]
  exact h
theorem adj_set2 (W R : List One) (x z : One) : ((W ++ x :: z :: R).set W.length z).set (W.length + 1) x = W ++ z :: x :: R := by
  rw [List.set_append_right _ _ (Nat.le_refl _), Nat.sub_self, List.set_cons_zero, List.set_append_right _ _ (by omega), Nat.add_sub_cancel_left, List.set_cons_succ, List.set_cons_zero]
set_option maxRecDepth 100000 in
set_option maxHeartbeats 2000000 in
theorem sym_one {w : World} {base g n cap cf : Nat} {P B S : List One} {x : One} (h : RowP w base g n cap (P ++ [x] ++ B ++ S)) (hc : Cmp cf) (hsx : Sm x) (hsb : ∀ y ∈ B, Sm y) (hB : Stb.Srt kO B) {p m q : Nat} (hp : P.length = p) (hm : m = p + 1) (hq : q = m + B.length) (hn : n ≤ 1000000000) :
    Calls Try.prog 66 #[.slice (some ⟨g, 0, none⟩) n cap, .int .i64 p, .int .i64 m, .int .i64 q, .func (.func cf) #[] #[]] w fun e w' => e = .returned (.tuple #[]) ∧ (∃ M, Stb.Sts kO ([x] ++ B) M ∧ RowP w' base g n cap (P ++ M ++ S)) ∧ w.grownBy w' (some g) := by
  have hlen := RowP.len h
  simp only [List.length_append, List.length_cons, List.length_nil] at hlen
  have HH := Lib.hid h
  have HP := Lib.hid hp
  have HM := Lib.hid hm
  have HQ := Lib.hid hq
  have HC := Lib.hid hc
  have HSX := Lib.hid hsx
  have HSB := Lib.hid hsb
  have HBS := Lib.hid hB
  have hqn : q ≤ n := by omega
  have hmq : m ≤ q := by omega
  have hpm : p < m := by omega
  have h1 : ((m : Int) - (p : Int) == 1) = true := by simp; omega
  clear h hp hm hq hc hsx hsb hB hlen
  go_enter Try.func66, Try.ntmps66
  go_wp2_with fail
  go_loopw [10, 11] (fun qi qj wr => ∃ i j : Nat, qi = .int .i64 i ∧ qj = .int .i64 j ∧ m ≤ i ∧ i ≤ j ∧ j ≤ q ∧ (∀ (t : Nat) (y : One), B[t]? = some y → t < i - m → y.1 < x.1) ∧ (∀ (t : Nat) (y : One), B[t]? = some y → j - m ≤ t → x.1 ≤ y.1) ∧ RowP wr base g n cap (P ++ [x] ++ B ++ S) ∧ w.grownBy wr (some g)) (fun qi qj _ => (intOf qj).toNat - (intOf qi).toNat)
  case atStart => exact ⟨m, q, rfl, rfl, by omega, hmq, by omega, fun t y _ h => by omega, fun t y h1 h2 => by have h3 := (List.getElem?_eq_some_iff.1 h1).1; have := HQ.out; omega, HH.out, grown_refl _ _⟩
  case round =>
    obtain ⟨i, j, rfl, rfl, hmi, hij, hjq, hlo, hhi, hrow, hg⟩ := hrel
    obtain ⟨wo, rfl⟩ : ∃ q : World, q = wr := ⟨_, rfl⟩
    have HLO := Lib.hid hlo
    have HHI := Lib.hid hhi
    have HR := Lib.hid hrow
    have HG := Lib.hid hg
    clear hlo hhi hrow hg
    by_cases hlt : i < j
    · have hd1 : decide ((i : Int) < (j : Int)) = true := by simp only [decide_eq_true_eq]; omega
      obtain ⟨h, hh, hh1, hh2, hh3⟩ := half_walk (i := i) (j := j) (by omega) (by omega) hlt
      have hhI : ((i : Int) + (j : Int)) / 2 = (h : Int) := by omega
      have hbl : h - m < B.length := by have := HQ.out; omega
      obtain ⟨y, hy⟩ : ∃ y, B[h - m]? = some y := ⟨_, List.getElem?_eq_getElem hbl⟩
      have HY := Lib.hid hy
      have hgy : (P ++ [x] ++ B ++ S)[h]? = some y := get_mid (by rw [HP.out]; exact HM.out) hy (by omega)
      have hgx : (P ++ [x] ++ B ++ S)[p]? = some x := get_fst HP.out (by simp) (Nat.le_refl _)
      have ky0 := RowP.cl HR.out hgy 0 (v := .int .i64 y.1) (by omega) rfl
      have ky1 := RowP.cl HR.out hgy 1 (v := .int .i64 y.2) (by omega) rfl
      have kx0 := RowP.cl HR.out hgx 0 (v := .int .i64 x.1) (by omega) rfl
      have kx1 := RowP.cl HR.out hgx 1 (v := .int .i64 x.2) (by omega) rfl
      rw [Nat.add_zero] at kx0 ky0
      have HA0 : Hid (P2 g (h * 2) (p * 2) y x wo.drew) := Lib.hid ⟨ky0.cell, ky1.cell, kx0.cell, kx1.cell⟩
      obtain ⟨dd, hdd⟩ : ∃ dd, y.1 - x.1 = dd := ⟨_, rfl⟩
      have HDD := Lib.hid hdd
      have HCC : Hid (∀ W : World, Calls Try.prog cf #[.agg #[.int .i64 y.1, .int .i64 y.2], .agg #[.int .i64 x.1, .int .i64 x.2]] W fun e w' => e = .returned (.int .i64 dd) ∧ Below W.heap.size W w') := Lib.hid (fun W => by rw [← hdd]; exact HC.out.calls y x (HSB.out y (List.mem_of_getElem? hy)) HSX.out W)
      have HE := HC.out.enter
      have HHH := Lib.hid hh
      clear hy hgy hgx ky0 ky1 kx0 kx1 hdd hh
      go_upto_region 5 with fail
      have q1 : (0 : Int) ≤ (h : Int) := by omega
      have q2 : (h : Int) < (n : Int) := by omega
      have q3 : (0 : Int) ≤ (p : Int) := by omega
      have q4 : (p : Int) < (n : Int) := by omega
      refine wp_region_headsV [(0, true), (1, true), (2, true), (3, true), (4, true), (5, true), (6, true), (7, true), (8, true)] [] (P2 g (h * 2) (p * 2) y x) (fun _ => True) (by kernel_rfl) (by kernel_rfl) HA0.out trivial ?_
      iterate 9 (first | (refine wpHv_skip rfl (by rfl) ?_) | (refine wpHv_cons (v := ?_) rfl (by rfl) (fun wS hwS => ?_) ?_; rotate_left 1; (focus (have hwA := And.left hwS; clear hwS; (try dsimp only [P2] at hwA); go_simp; (try with_reducible rfl); (try (trace_state; fail))))); (try simp only [List.getElem_toArray, List.getElem_cons_zero, List.getElem_cons_succ]); (try simp only [Act.put, List.setIfInBounds_toArray, List.set_cons_zero, List.set_cons_succ]))
      refine wpHv_nil ?_
      change wpV _ _ _ _ _ _ _ (1 + 1) _ _ _
      refine wpV_one (k := 9) (by kernel_rfl) rfl (fun K hK => ?_)
      have HKK := Lib.hid hK
      clear hK
      go_simp
      refine (HCC.out _).mono ?_
      rintro e w1 ⟨rfl, B1⟩
      have HB1 : Hid (Below wo.heap.size wo w1) := Lib.hid ((Below.refl _ _).drew.trans B1)
      have HA1 := Lib.hid (P2.later HA0.out B1)
      clear B1
      refine HKK.out _ _ ⟨HA1.out, fun _ h => h⟩ ?_
      clear HKK K
      change wpV _ _ _ _ _ _ _ (1 + 0) _ _ _
      refine wpV_heads HA1.out trivial (by kernel_rfl) (fun _ _ _ _ _ h => h) [(10, true)] _ _ _ (by kernel_rfl) ?_
      iterate 1 (first | (refine wpHv_skip rfl (by rfl) ?_) | (refine wpHv_cons (v := ?_) rfl (by rfl) (fun wS hwS => ?_) ?_; rotate_left 1; (focus (have hwA := And.left hwS; clear hwS; (try dsimp only [P2] at hwA); go_simp; (try with_reducible rfl); (try (trace_state; fail))))); (try simp only [List.getElem_toArray, List.getElem_cons_zero, List.getElem_cons_succ]); (try simp only [Act.put, List.setIfInBounds_toArray, List.set_cons_zero, List.set_cons_succ]))
      refine wpHv_nil ?_
      refine wpV_done (by kernel_rfl) (NoPanic.normal ?_)
      clear HE HA0 HA1 q1 q2 q3 q4 hhI
      have HR1 := Lib.hid (RowP.later HR.out HB1.out)
      have HG1 := Lib.hid (grown_later HG.out HB1.out)
      clear HB1 HR HG
      by_cases hdz : dd < 0
      · have hd3 : decide (dd < 0) = true := by simp only [decide_eq_true_eq]; exact hdz
        have HN : Hid (∀ (t : Nat) (z : One), B[t]? = some z → t < h + 1 - m → z.1 < x.1) := Lib.hid (fun t z hz ht => by
          have := srt_le HBS.out hz HY.out (by omega)
          have := HDD.out
          omega)
        go_wp2_with fail
        go_roundw
        case rel => exact ⟨h + 1, j, by go_num, rfl, by omega, by omega, hjq, HN.out, HHI.out, HR1.out, HG1.out⟩
        case measure => simp [intOf]; omega
      · have hd3 : decide (dd < 0) = false := by simp only [decide_eq_false_iff_not]; exact hdz
        have HN : Hid (∀ (t : Nat) (z : One), B[t]? = some z → h - m ≤ t → x.1 ≤ z.1) := Lib.hid (fun t z hz ht => by
          have := srt_le HBS.out HY.out hz (by omega)
          have := HDD.out
          omega)
        go_wp2_with fail
        go_roundw
        case rel => exact ⟨i, h, rfl, by first | rfl | go_num, hmi, by omega, by omega, HLO.out, HN.out, HR1.out, HG1.out⟩
        case measure => simp [intOf]; omega
    · obtain rfl : i = j := by omega
      have hd1 : decide ((i : Int) < (i : Int)) = false := by simp
      clear hlt
      have HRU : Hid (RowP wo base g n cap (P ++ B.take 0 ++ [x] ++ B.drop 0 ++ S)) := Lib.hid (by simpa using HR.out)
      have HSTS : Hid (Stb.Sts kO ([x] ++ B) (B.take (i - m) ++ [x] ++ B.drop (i - m))) := Lib.hid (by
        have hb := HBS.out
        rw [← List.take_append_drop (i - m) B] at hb
        have k := Stb.put0 (key := kO) (x := x) hb (fun a ha => by
          obtain ⟨t, ht⟩ := List.getElem?_of_mem ha
          rw [List.getElem?_take] at ht
          split at ht
          · exact HLO.out t a ht (by assumption)
          · cases ht) (fun a ha => by
          obtain ⟨t, ht⟩ := List.getElem?_of_mem ha
          rw [List.getElem?_drop] at ht
          exact HHI.out _ a ht (by omega))
        rwa [List.take_append_drop] at k)
      clear HLO HHI
      go_wp2_with fail
      go_loopw [13] (fun qk wr => ∃ k : Nat, qk = .int .i64 k ∧ p ≤ k ∧ k + 1 ≤ i ∧ RowP wr base g n cap (P ++ B.take (k - p) ++ [x] ++ B.drop (k - p) ++ S) ∧ w.grownBy wr (some g)) (fun qk _ => i - (intOf qk).toNat)
      case atStart => exact ⟨p, rfl, Nat.le_refl _, by omega, by rw [Nat.sub_self]; exact HRU.out, HG.out⟩
      case round =>
        clear HRU HG HR
        obtain ⟨k, rfl, hpk, hki, hrow, hg⟩ := hrel
        obtain ⟨wv, rfl⟩ : ∃ q : World, q = wr := ⟨_, rfl⟩
        have HR := Lib.hid hrow
        have HG := Lib.hid hg
        clear hrow hg
        by_cases hk1 : k + 1 < i
        · have hd2 : decide ((k : Int) < (i : Int) - 1) = true := by simp only [decide_eq_true_eq]; omega
          have hd3 : (k : Int) < (i : Int) - 1 := by omega
          obtain ⟨t, ht⟩ : ∃ t, k - p = t := ⟨_, rfl⟩
          have htl : t < B.length := by have := HQ.out; have := HM.out; omega
          obtain ⟨z, hz⟩ : ∃ z, B[t]? = some z := ⟨_, List.getElem?_eq_getElem htl⟩
          have hwl : (P ++ B.take t).length = k := by rw [List.length_append, HP.out, List.length_take]; omega
          have hdr : B.drop t = z :: B.drop (t + 1) := by rw [List.drop_eq_getElem_cons htl]; simp [(List.getElem?_eq_some_iff.1 hz).2]
          have htk : B.take (t + 1) = B.take t ++ [z] := by rw [List.take_succ_eq_append_getElem htl]; simp [(List.getElem?_eq_some_iff.1 hz).2]
          have hLe : P ++ B.take t ++ [x] ++ B.drop t ++ S = (P ++ B.take t) ++ x :: z :: (B.drop (t + 1) ++ S) := by rw [hdr]; simp
          have hR2 := HR.out
          rw [ht, hLe] at hR2
          obtain ⟨gx, gz⟩ := adj_get (P ++ B.take t) (B.drop (t + 1) ++ S) z x
          have hset := adj_set2 (P ++ B.take t) (B.drop (t + 1) ++ S) x z
          rw [hwl] at gx gz hset
          have hnew : (P ++ B.take t) ++ z :: x :: (B.drop (t + 1) ++ S) = P ++ B.take (t + 1) ++ [x] ++ B.drop (t + 1) ++ S := by rw [htk]; simp
          rw [hnew] at hset
          have kx0 := RowP.cl hR2 gx 0 (v := .int .i64 x.1) (by omega) rfl
          have kx1 := RowP.cl hR2 gx 1 (v := .int .i64 x.2) (by omega) rfl
          have kz0 := RowP.cl hR2 gz 0 (v := .int .i64 z.1) (by omega) rfl
          have kz1 := RowP.cl hR2 gz 1 (v := .int .i64 z.2) (by omega) rfl
          rw [Nat.add_zero] at kx0 kz0
          have HS0 : Hid (P2 g ((k + 1) * 2) (k * 2) z x wv.drew) := Lib.hid ⟨kz0.cell, kz1.cell, kx0.cell, kx1.cell⟩
          have HKX := Lib.hid (And.intro kx0 kx1)
          have HKZ := Lib.hid (And.intro kz0 kz1)
          have h1' := RowP.put hR2 gx z
          obtain ⟨z', hz'⟩ : ∃ z', (((P ++ B.take t) ++ x :: z :: (B.drop (t + 1) ++ S)).set k z)[k + 1]? = some z' := ⟨_, List.getElem?_eq_getElem (by rw [List.length_set]; exact (List.getElem?_eq_some_iff.1 gz).1)⟩
          have h2 := RowP.put h1' hz' x
          rw [hset] at h2
          rw [show t + 1 = k + 1 - p by omega] at h2
          have H2 := Lib.hid h2
          have HG2 : Hid (w.grownBy (putP (putP wv g (k * 2) z) g ((k + 1) * 2) x) (some g)) := Lib.hid (grownBy_trans HG.out (grownBy_trans (put_grown _ _ _ _) (put_grown _ _ _ _)))
          have p1 : IntKind.i64.wrap ((k : Int) + 1) = (k : Int) + 1 := by rw [IntKind.wrap_i64]; omega
          have p3 : ((k : Int) + 1).toNat = k + 1 := by omega
          have p5 : (0 : Int) ≤ (k : Int) + 1 := by omega
          have p6 : (0 : Int) ≤ (k : Int) := by omega
          have p7 : (k : Int) + 1 < (n : Int) := by omega
          have p8 : (k : Int) < (n : Int) := by omega
          clear hz hwl hdr htk hLe hR2 gx gz hset hnew kx0 kx1 kz0 kz1 h1' hz' h2 htl ht
          go_upto_region 11 with fail
          refine wp_region_headsV [(0, false), (1, false), (2, false), (3, false), (4, false), (5, false), (6, false), (7, false), (8, false), (9, true), (10, false), (11, false), (12, false), (13, true), (14, false)] [15, 17] (fun _ => True) (P2 g ((k + 1) * 2) (k * 2) z x) (by kernel_rfl) (by kernel_rfl) trivial HS0.out ?_
          iterate 15 (first | (refine wpHv_skip rfl (by rfl) ?_) | (refine wpHv_cons (v := ?_) rfl (by rfl) (fun wS hwS => ?_) ?_; rotate_left 1; (focus ((first | (have hwA := And.right hwS rfl) | (have hwA := And.left hwS)); clear hwS; (try dsimp only [P2] at hwA); go_simp; (try with_reducible rfl); (try (trace_state; fail))))); (try simp only [List.getElem_toArray, List.getElem_cons_zero, List.getElem_cons_succ]); (try simp only [Act.put, List.setIfInBounds_toArray, List.set_cons_zero, List.set_cons_succ]))
          refine wpHv_nil ?_
          change wpV _ _ _ _ _ _ _ (2 + 1) _ _ _
          refine wpV_one (k := 15) (by kernel_rfl) rfl (fun K hK => ?_)
          have HKK := Lib.hid hK
          clear hK
          go_simp
          obtain ⟨⟨a1, a2⟩, a3, a4⟩ := HKX.out
          go_simp
          clear a1 a2 a3 a4
          refine HKK.out _ _ ⟨trivial, fun hn => absurd (by decide) hn⟩ ?_
          clear HKK K
          change wpV _ _ _ _ _ _ _ (1 + 1) _ _ _
          refine wpV_one (k := 16) (by kernel_rfl) rfl (fun K hK => ?_)
          have HKK := Lib.hid hK
          clear hK
          go_simp
          refine HKK.out _ _ ⟨trivial, fun _ h => h⟩ ?_
          clear HKK K
          change wpV _ _ _ _ _ _ _ (0 + 1) _ _ _
          refine wpV_one (k := 17) (by kernel_rfl) rfl (fun K hK => ?_)
          have HKK := Lib.hid hK
          clear hK
          go_simp
          obtain ⟨⟨a1, a2⟩, a3, a4⟩ := HKZ.out
          go_simp
          refine HKK.out _ _ ⟨trivial, fun hn => absurd (by decide) hn⟩ ?_
          clear HKK K
          refine wpV_done (by kernel_rfl) (NoPanic.normal ?_)
          have hdw : Below (putP (putP wv g (k * 2) z) g ((k + 1) * 2) x).heap.size (putP (putP wv g (k * 2) z) g ((k + 1) * 2) x) (putP (putP wv g (k * 2) z) g ((k + 1) * 2) x).drew := (Below.refl _ _).drew
          have H3 : Hid (RowP ((((wv.setCell ⟨g, k * 2, none⟩ (.int .i64 z.1)).setCell ⟨g, k * 2 + 1, none⟩ (.int .i64 z.2)).setCell ⟨g, (k + 1) * 2, none⟩ (.int .i64 x.1)).setCell ⟨g, (k + 1) * 2 + 1, none⟩ (.int .i64 x.2)).drew base g n cap (P ++ B.take (k + 1 - p) ++ [x] ++ B.drop (k + 1 - p) ++ S)) := Lib.hid (own_later H2.out hdw)
          have HG3 : Hid (w.grownBy ((((wv.setCell ⟨g, k * 2, none⟩ (.int .i64 z.1)).setCell ⟨g, k * 2 + 1, none⟩ (.int .i64 z.2)).setCell ⟨g, (k + 1) * 2, none⟩ (.int .i64 x.1)).setCell ⟨g, (k + 1) * 2 + 1, none⟩ (.int .i64 x.2)).drew (some g)) := Lib.hid (grown_drew HG2.out)
          clear hdw p1 p3 p5 p6 p7 p8
          go_wp2_with fail
          go_roundw
          case rel => exact ⟨k + 1, by go_num, by omega, by omega, H3.out, HG3.out⟩
          case measure => simp [intOf]; omega
        · have hd2 : decide ((k : Int) < (i : Int) - 1) = false := by simp only [decide_eq_false_iff_not]; omega
          have hd3 : (i : Int) - 1 ≤ (k : Int) := by omega
          have HRF : Hid (RowP wv base g n cap (P ++ (B.take (i - m) ++ [x] ++ B.drop (i - m)) ++ S)) := Lib.hid (by
            have h := HR.out
            rw [show k - p = i - m by have := HM.out; omega] at h
            simpa using h)
          go_wp2_with fail
          refine bodyPost_ret (results_none rfl _ _ _) rfl ?_
          exact ⟨rfl, ⟨_, HSTS.out, HRF.out⟩, HG.out⟩
end Go.Proofs.Ytmnfefebbadflaa
