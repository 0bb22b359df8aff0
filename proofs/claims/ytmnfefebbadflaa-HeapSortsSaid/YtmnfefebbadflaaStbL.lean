/- slices.symMergeCmpFunc where the second part has but one element. -/
import Derived.Test.YtmnfefebbadflaaStbM
namespace Go.Proofs.Ytmnfefebbadflaa
open Go.RowKit
set_option maxRecDepth 100000 in
set_option maxHeartbeats 2000000 in
theorem sym_last {w : World} {base g n cap cf : Nat} {P A S : List One} {x : One} (h : RowP w base g n cap (P ++ A ++ [x] ++ S)) (hc : Cmp cf) (hsx : Sm x) (hsa : ∀ y ∈ A, Sm y) (hA : Stb.Srt kO A) {p m q : Nat} (hp : P.length = p) (hm : m = p + A.length) (hq : q = m + 1) (h1A : A.length ≠ 1) (hn : n ≤ 1000000000) :
    Calls Try.prog 66 #[.slice (some ⟨g, 0, none⟩) n cap, .int .i64 p, .int .i64 m, .int .i64 q, .func (.func cf) #[] #[]] w fun e w' => e = .returned (.tuple #[]) ∧ (∃ M, Stb.Sts kO (A ++ [x]) M ∧ RowP w' base g n cap (P ++ M ++ S)) ∧ w.grownBy w' (some g) := by
  have hlen := RowP.len h
  simp only [List.length_append, List.length_cons, List.length_nil] at hlen
  have HH := Lib.hid h
  have HP := Lib.hid hp
  have HM := Lib.hid hm
  have HC := Lib.hid hc
  have HSX := Lib.hid hsx
  have HSA := Lib.hid hsa
  have HAS := Lib.hid hA
  have hqn : q ≤ n := by omega
  have hmq : m < q := by omega
  have hpm : p ≤ m := by omega
  have h0 : ((m : Int) - (p : Int) == 1) = false := by simp; omega
  have h1 : ((q : Int) - (m : Int) == 1) = true := by simp; omega
  clear h hp hm hq hc hsx hsa hA hlen h1A
  go_enter Try.func66, Try.ntmps66
  go_wp2_with fail
  go_loopw [14, 15] (fun qi qj wr => ∃ i j : Nat, qi = .int .i64 i ∧ qj = .int .i64 j ∧ p ≤ i ∧ i ≤ j ∧ j ≤ m ∧ (∀ (t : Nat) (y : One), A[t]? = some y → t < i - p → y.1 ≤ x.1) ∧ (∀ (t : Nat) (y : One), A[t]? = some y → j - p ≤ t → x.1 < y.1) ∧ RowP wr base g n cap (P ++ A ++ [x] ++ S) ∧ w.grownBy wr (some g)) (fun qi qj _ => (intOf qj).toNat - (intOf qi).toNat)
  case atStart => exact ⟨p, m, rfl, rfl, by omega, hpm, by omega, fun t y _ h => by omega, fun t y h1 h2 => by have h3 := (List.getElem?_eq_some_iff.1 h1).1; have := HM.out; omega, HH.out, grown_refl _ _⟩
  case round =>
    obtain ⟨i, j, rfl, rfl, hpi, hij, hjm, hlo, hhi, hrow, hg⟩ := hrel
    obtain ⟨wo, rfl⟩ : ∃ q : World, q = wr := ⟨_, rfl⟩
    have HLO := Lib.hid hlo
    have HHI := Lib.hid hhi
    have HR := Lib.hid hrow
    have HG := Lib.hid hg
    clear hlo hhi hrow hg
    by_cases hlt : i < j
    · have hd1 : decide ((i : Int) < (j : Int)) = true := by simp only [decide_eq_true_eq]; omega
      obtain ⟨h, hh, hh1, hh2, hh3⟩ := half_walk (i := i) (j := j) (by omega) (by omega) hlt
      have hhI : ((i : Int) + (j : Int)) / 2 = (h : Int) := by omega
      have hal : h - p < A.length := by have := HM.out; omega
      obtain ⟨y, hy⟩ : ∃ y, A[h - p]? = some y := ⟨_, List.getElem?_eq_getElem hal⟩
      have HY := Lib.hid hy
      have hgy : (P ++ A ++ [x] ++ S)[h]? = some y := get_fst HP.out hy (by omega)
      have hgx : (P ++ A ++ [x] ++ S)[m]? = some x := get_mid (by rw [HP.out]; exact HM.out) (by simp) (Nat.le_refl _)
      have ky0 := RowP.cl HR.out hgy 0 (v := .int .i64 y.1) (by omega) rfl
      have ky1 := RowP.cl HR.out hgy 1 (v := .int .i64 y.2) (by omega) rfl
      have kx0 := RowP.cl HR.out hgx 0 (v := .int .i64 x.1) (by omega) rfl
      have kx1 := RowP.cl HR.out hgx 1 (v := .int .i64 x.2) (by omega) rfl
      rw [Nat.add_zero] at kx0 ky0
      have HA0 : Hid (P2 g (m * 2) (h * 2) x y wo.drew) := Lib.hid ⟨kx0.cell, kx1.cell, ky0.cell, ky1.cell⟩
      obtain ⟨dd, hdd⟩ : ∃ dd, x.1 - y.1 = dd := ⟨_, rfl⟩
      have HDD := Lib.hid hdd
      have HCC : Hid (∀ W : World, Calls Try.prog cf #[.agg #[.int .i64 x.1, .int .i64 x.2], .agg #[.int .i64 y.1, .int .i64 y.2]] W fun e w' => e = .returned (.int .i64 dd) ∧ Below W.heap.size W w') := Lib.hid (fun W => by rw [← hdd]; exact HC.out.calls x y HSX.out (HSA.out y (List.mem_of_getElem? hy)) W)
      have HE := HC.out.enter
      have HHH := Lib.hid hh
      clear hy hgy hgx ky0 ky1 kx0 kx1 hdd hh hal
      go_upto_region 17 with fail
      have q1 : (0 : Int) ≤ (h : Int) := by omega
      have q2 : (h : Int) < (n : Int) := by omega
      have q3 : (0 : Int) ≤ (m : Int) := by omega
      have q4 : (m : Int) < (n : Int) := by omega
      refine wp_region_headsV [(0, true), (1, true), (2, true), (3, true), (4, true), (5, true), (6, true), (7, true), (8, true)] [] (P2 g (m * 2) (h * 2) x y) (fun _ => True) (by kernel_rfl) (by kernel_rfl) HA0.out trivial ?_
      iterate 9 (first | (refine wpHv_skip rfl (by rfl) ?_) | (refine wpHv_cons (v := ?_) rfl (by rfl) (fun wS hwS => ?_) ?_; rotate_left 1; (focus (have hwA := And.left hwS; clear hwS; (try dsimp only [P2] at hwA); go_simp; (try with_reducible rfl); (try (trace_state; fail))))); (try simp only [List.getElem_toArray, List.getElem_cons_zero, List.getElem_cons_succ]); (try simp only [Act.put, List.setIfInBounds_toArray, List.set_cons_zero, List.set_cons_succ]))
      refine wpHv_nil ?_
      change wpV _ _ _ _ _ _ _ (2 + 1) _ _ _
      refine wpV_one (k := 9) (by kernel_rfl) rfl (fun K hK => ?_)
      have HKK := Lib.hid hK
      clear hK
      go_simp
      refine (HCC.out _).mono ?_
      rintro e w1 ⟨rfl, B1⟩
      have HB1 : Hid (Below wo.heap.size wo w1) := Lib.hid ((Below.refl _ _).drew.trans B1)
      have HA1 := Lib.hid (P2.later HA0.out B1)
      clear B1
      refine HKK.out _ _ ⟨HA1.out, fun _ h => h⟩ ?_
      clear HKK K
      change wpV _ _ _ _ _ _ _ (2 + 0) _ _ _
      refine wpV_heads HA1.out trivial (by kernel_rfl) (fun _ _ _ _ _ h => h) [(10, true), (11, true)] _ _ _ (by kernel_rfl) ?_
      iterate 2 (first | (refine wpHv_skip rfl (by rfl) ?_) | (refine wpHv_cons (v := ?_) rfl (by rfl) (fun wS hwS => ?_) ?_; rotate_left 1; (focus (have hwA := And.left hwS; clear hwS; (try dsimp only [P2] at hwA); go_simp; (try with_reducible rfl); (try (trace_state; fail))))); (try simp only [List.getElem_toArray, List.getElem_cons_zero, List.getElem_cons_succ]); (try simp only [Act.put, List.setIfInBounds_toArray, List.set_cons_zero, List.set_cons_succ]))
      refine wpHv_nil ?_
      refine wpV_done (by kernel_rfl) (NoPanic.normal ?_)
      clear HE HA0 HA1 q1 q2 q3 q4 hhI
      have HR1 := Lib.hid (RowP.later HR.out HB1.out)
      have HG1 := Lib.hid (grown_later HG.out HB1.out)
      clear HB1 HR HG
      by_cases hdz : dd < 0
      · have hd3 : decide (dd < 0) = true := by simp only [decide_eq_true_eq]; exact hdz
        rw [hd3, Bool.not_true]
        clear hd3
        have HN : Hid (∀ (t : Nat) (z : One), A[t]? = some z → h - p ≤ t → x.1 < z.1) := Lib.hid (fun t z hz ht => by
          have := srt_le HAS.out HY.out hz (by omega)
          have := HDD.out
          omega)
        go_wp2_with fail
        go_roundw
        case rel => exact ⟨i, h, rfl, by first | rfl | go_num, hpi, by omega, by omega, HLO.out, HN.out, HR1.out, HG1.out⟩
        case measure => simp [intOf]; omega
      · have hd3 : decide (dd < 0) = false := by simp only [decide_eq_false_iff_not]; exact hdz
        rw [hd3, Bool.not_false]
        clear hd3
        have HN : Hid (∀ (t : Nat) (z : One), A[t]? = some z → t < h + 1 - p → z.1 ≤ x.1) := Lib.hid (fun t z hz ht => by
          have := srt_le HAS.out hz HY.out (by omega)
          have := HDD.out
          omega)
        go_wp2_with fail
        go_roundw
        case rel => exact ⟨h + 1, j, by go_num, rfl, by omega, by omega, hjm, HN.out, HHI.out, HR1.out, HG1.out⟩
        case measure => simp [intOf]; omega
    · obtain rfl : i = j := by omega
      have hd1 : decide ((i : Int) < (i : Int)) = false := by simp
      clear hlt
      have HRU : Hid (RowP wo base g n cap (P ++ A.take (m - p) ++ [x] ++ A.drop (m - p) ++ S)) := Lib.hid (by
        have e : m - p = A.length := by have := HM.out; omega
        rw [e, List.take_length, List.drop_length, List.append_nil]
        exact HR.out)
      have HSTS : Hid (Stb.Sts kO (A ++ [x]) (A.take (i - p) ++ [x] ++ A.drop (i - p))) := Lib.hid (by
        have hb := HAS.out
        rw [← List.take_append_drop (i - p) A] at hb
        have k := Stb.put (key := kO) (x := x) hb (fun a ha => by
          obtain ⟨t, ht⟩ := List.getElem?_of_mem ha
          rw [List.getElem?_take] at ht
          split at ht
          · exact HLO.out t a ht (by assumption)
          · cases ht) (fun a ha => by
          obtain ⟨t, ht⟩ := List.getElem?_of_mem ha
          rw [List.getElem?_drop] at ht
          exact HHI.out _ a ht (by omega))
        rwa [List.take_append_drop] at k)
      clear HLO HHI
      go_wp2_with fail
      go_loopw [17] (fun qk wr => ∃ k : Nat, qk = .int .i64 k ∧ i ≤ k ∧ k ≤ m ∧ RowP wr base g n cap (P ++ A.take (k - p) ++ [x] ++ A.drop (k - p) ++ S) ∧ w.grownBy wr (some g)) (fun qk _ => (intOf qk).toNat)
      case atStart => exact ⟨m, rfl, by omega, Nat.le_refl _, HRU.out, HG.out⟩
      case round =>
        clear HRU HG HR
        obtain ⟨k, rfl, hik, hkm, hrow, hg⟩ := hrel
        obtain ⟨wv, rfl⟩ : ∃ q : World, q = wr := ⟨_, rfl⟩
        have HR := Lib.hid hrow
        have HG := Lib.hid hg
        clear hrow hg
        by_cases hk1 : i < k
        · have hd2 : decide ((i : Int) < (k : Int)) = true := by simp only [decide_eq_true_eq]; omega
          have hd2' : decide (i < k) = true := by simp only [decide_eq_true_eq]; exact hk1
          obtain ⟨t, ht⟩ : ∃ t, k - 1 - p = t := ⟨_, rfl⟩
          have htl : t < A.length := by have := HM.out; omega
          obtain ⟨z, hz⟩ : ∃ z, A[t]? = some z := ⟨_, List.getElem?_eq_getElem htl⟩
          have hwl : (P ++ A.take t).length = k - 1 := by rw [List.length_append, HP.out, List.length_take]; omega
          have hdr : A.drop t = z :: A.drop (t + 1) := by rw [List.drop_eq_getElem_cons htl]; simp [(List.getElem?_eq_some_iff.1 hz).2]
          have htk : A.take (t + 1) = A.take t ++ [z] := by rw [List.take_succ_eq_append_getElem htl]; simp [(List.getElem?_eq_some_iff.1 hz).2]
          have hLe : P ++ A.take (t + 1) ++ [x] ++ A.drop (t + 1) ++ S = (P ++ A.take t) ++ z :: x :: (A.drop (t + 1) ++ S) := by rw [htk]; simp
          have hR2 := HR.out
          rw [show k - p = t + 1 by omega, hLe] at hR2
          obtain ⟨gz, gx⟩ := adj_get (P ++ A.take t) (A.drop (t + 1) ++ S) x z
          have hset := adj_set (P ++ A.take t) (A.drop (t + 1) ++ S) x z
          rw [hwl] at gx gz hset
          rw [show k - 1 + 1 = k by omega] at gx hset
          have hnew : (P ++ A.take t) ++ x :: z :: (A.drop (t + 1) ++ S) = P ++ A.take t ++ [x] ++ A.drop t ++ S := by rw [hdr]; simp
          rw [hnew] at hset
          have kx0 := RowP.cl hR2 gx 0 (v := .int .i64 x.1) (by omega) rfl
          have kx1 := RowP.cl hR2 gx 1 (v := .int .i64 x.2) (by omega) rfl
          have kz0 := RowP.cl hR2 gz 0 (v := .int .i64 z.1) (by omega) rfl
          have kz1 := RowP.cl hR2 gz 1 (v := .int .i64 z.2) (by omega) rfl
          rw [Nat.add_zero] at kx0 kz0
          have HS0 : Hid (P2 g ((k - 1) * 2) (k * 2) z x wv.drew) := Lib.hid ⟨kz0.cell, kz1.cell, kx0.cell, kx1.cell⟩
          have HKX := Lib.hid (And.intro kx0 kx1)
          have HKZ := Lib.hid (And.intro kz0 kz1)
          have h1' := RowP.put hR2 gx z
          obtain ⟨z', hz'⟩ : ∃ z', (((P ++ A.take t) ++ z :: x :: (A.drop (t + 1) ++ S)).set k z)[k - 1]? = some z' := ⟨_, List.getElem?_eq_getElem (by rw [List.length_set]; exact (List.getElem?_eq_some_iff.1 gz).1)⟩
          have h2 := RowP.put h1' hz' x
          rw [hset] at h2
          rw [← ht] at h2
          have H2 := Lib.hid h2
          have HG2 : Hid (w.grownBy (putP (putP wv g (k * 2) z) g ((k - 1) * 2) x) (some g)) := Lib.hid (grownBy_trans HG.out (grownBy_trans (put_grown _ _ _ _) (put_grown _ _ _ _)))
          have p1 : IntKind.i64.wrap ((k : Int) - 1) = (k : Int) - 1 := by rw [IntKind.wrap_i64]; omega
          have p3 : ((k : Int) - 1).toNat = k - 1 := by omega
          have p5 : (0 : Int) ≤ (k : Int) - 1 := by omega
          have p6 : (0 : Int) ≤ (k : Int) := by omega
          have p7 : (k : Int) - 1 < (n : Int) := by omega
          have p8 : (k : Int) < (n : Int) := by omega
          have p9 : (1 : Int) ≤ (k : Int) := by omega
          have p10 : (k : Int) < (n : Int) + 1 := by omega
          clear hz hwl hdr htk hLe hR2 gx gz hset hnew kx0 kx1 kz0 kz1 h1' hz' h2 htl ht
          go_upto_region 23 with fail
          refine wp_region_headsV [(0, false), (1, false), (2, false), (3, false), (4, false), (5, false), (6, false), (7, false), (8, false), (9, true), (10, false), (11, false), (12, false), (13, true), (14, false)] [15, 17] (fun _ => True) (P2 g ((k - 1) * 2) (k * 2) z x) (by kernel_rfl) (by kernel_rfl) trivial HS0.out ?_
          iterate 15 (first | (refine wpHv_skip rfl (by rfl) ?_) | (refine wpHv_cons (v := ?_) rfl (by rfl) (fun wS hwS => ?_) ?_; rotate_left 1; (focus ((first | (have hwA := And.right hwS rfl) | (have hwA := And.left hwS)); clear hwS; (try dsimp only [P2] at hwA); go_simp; (try with_reducible rfl); (try (trace_state; fail))))); (try simp only [List.getElem_toArray, List.getElem_cons_zero, List.getElem_cons_succ]); (try simp only [Act.put, List.setIfInBounds_toArray, List.set_cons_zero, List.set_cons_succ]))
          refine wpHv_nil ?_
          change wpV _ _ _ _ _ _ _ (2 + 1) _ _ _
          refine wpV_one (k := 15) (by kernel_rfl) rfl (fun K hK => ?_)
          have HKK := Lib.hid hK
          clear hK
          go_simp
          obtain ⟨⟨a1, a2⟩, a3, a4⟩ := HKX.out
          go_simp
          clear a1 a2 a3 a4
          refine HKK.out _ _ ⟨trivial, fun hn => absurd (by decide) hn⟩ ?_
          clear HKK K
          change wpV _ _ _ _ _ _ _ (1 + 1) _ _ _
          refine wpV_one (k := 16) (by kernel_rfl) rfl (fun K hK => ?_)
          have HKK := Lib.hid hK
          clear hK
          go_simp
          refine HKK.out _ _ ⟨trivial, fun _ h => h⟩ ?_
          clear HKK K
          change wpV _ _ _ _ _ _ _ (0 + 1) _ _ _
          refine wpV_one (k := 17) (by kernel_rfl) rfl (fun K hK => ?_)
          have HKK := Lib.hid hK
          clear hK
          go_simp
          obtain ⟨⟨a1, a2⟩, a3, a4⟩ := HKZ.out
          go_simp
          refine HKK.out _ _ ⟨trivial, fun hn => absurd (by decide) hn⟩ ?_
          clear HKK K
          refine wpV_done (by kernel_rfl) (NoPanic.normal ?_)
          have hdw : Below (putP (putP wv g (k * 2) z) g ((k - 1) * 2) x).heap.size (putP (putP wv g (k * 2) z) g ((k - 1) * 2) x) (putP (putP wv g (k * 2) z) g ((k - 1) * 2) x).drew := (Below.refl _ _).drew
          have H3 : Hid (RowP ((((wv.setCell ⟨g, k * 2, none⟩ (.int .i64 z.1)).setCell ⟨g, k * 2 + 1, none⟩ (.int .i64 z.2)).setCell ⟨g, (k - 1) * 2, none⟩ (.int .i64 x.1)).setCell ⟨g, (k - 1) * 2 + 1, none⟩ (.int .i64 x.2)).drew base g n cap (P ++ A.take (k - 1 - p) ++ [x] ++ A.drop (k - 1 - p) ++ S)) := Lib.hid (own_later H2.out hdw)
          have HG3 : Hid (w.grownBy ((((wv.setCell ⟨g, k * 2, none⟩ (.int .i64 z.1)).setCell ⟨g, k * 2 + 1, none⟩ (.int .i64 z.2)).setCell ⟨g, (k - 1) * 2, none⟩ (.int .i64 x.1)).setCell ⟨g, (k - 1) * 2 + 1, none⟩ (.int .i64 x.2)).drew (some g)) := Lib.hid (grown_drew HG2.out)
          have HKI : Hid ((k : Int) - 1 = ((k - 1 : Nat) : Int)) := Lib.hid (by omega)
          clear hdw p1 p3 p5 p6 p7 p8 p9 p10
          go_wp2_with fail
          go_roundw
          case rel => exact ⟨k - 1, by first | rw [HKI.out] | go_num, by omega, by omega, H3.out, HG3.out⟩
          case measure => simp [intOf]; omega
        · obtain rfl : k = i := by omega
          have hd2 : decide ((k : Int) < (k : Int)) = false := by simp
          have HRF : Hid (RowP wv base g n cap (P ++ (A.take (k - p) ++ [x] ++ A.drop (k - p)) ++ S)) := Lib.hid (by
            have h := HR.out
            simpa using h)
          clear hk1
          go_wp2_with fail
          refine bodyPost_ret (results_none rfl _ _ _) rfl ?_
          exact ⟨rfl, ⟨_, HSTS.out, HRF.out⟩, HG.out⟩
end Go.Proofs.Ytmnfefebbadflaa
