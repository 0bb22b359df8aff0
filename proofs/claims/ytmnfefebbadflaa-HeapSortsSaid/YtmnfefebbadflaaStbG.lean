/- slices.symMergeCmpFunc: two parts in order merged in place. -/
import Derived.Test.YtmnfefebbadflaaStbL
namespace Go.Proofs.Ytmnfefebbadflaa
open Go.RowKit
/-- What a merge does, where the two parts have no more than N elements. -/
def SymOk (cf base g n cap N : Nat) : Prop := ∀ (w : World) (P A B S : List One) (p m q : Nat), RowP w base g n cap (P ++ A ++ B ++ S) → (∀ y ∈ A, Sm y) → (∀ y ∈ B, Sm y) → Stb.Srt kO A → Stb.Srt kO B → P.length = p → m = p + A.length → q = m + B.length → 0 < A.length → 0 < B.length → A.length + B.length ≤ N → 
    Calls Try.prog 66 #[.slice (some ⟨g, 0, none⟩) n cap, .int .i64 p, .int .i64 m, .int .i64 q, .func (.func cf) #[] #[]] w fun e w' => e = .returned (.tuple #[]) ∧ (∃ M, Stb.Sts kO (A ++ B) M ∧ RowP w' base g n cap (P ++ M ++ S)) ∧ w.grownBy w' (some g)
theorem sts_trivial {U V : List One} (hU : Stb.Srt kO U) (hV : Stb.Srt kO V) (h : U = [] ∨ V = []) : Stb.Sts kO (U ++ V) (U ++ V) := by
  refine ⟨?_, Stb.Same.refl _⟩
  rcases h with rfl | rfl
  · simpa using hV
  · simpa using hU
set_option maxRecDepth 100000 in
set_option maxHeartbeats 4000000 in
theorem sym_step {base g n cap cf N : Nat} (hc : Cmp cf) (hn : n ≤ 1000000000) (IH : SymOk cf base g n cap N) {w : World} {P A B S : List One} (h : RowP w base g n cap (P ++ A ++ B ++ S)) (hsa : ∀ y ∈ A, Sm y) (hsb : ∀ y ∈ B, Sm y) (hA : Stb.Srt kO A) (hB : Stb.Srt kO B) {p m q : Nat} (hp : P.length = p) (hm : m = p + A.length) (hq : q = m + B.length)
    (hA2 : 2 ≤ A.length) (hB2 : 2 ≤ B.length) (hN : A.length + B.length ≤ N + 1) :
    Calls Try.prog 66 #[.slice (some ⟨g, 0, none⟩) n cap, .int .i64 p, .int .i64 m, .int .i64 q, .func (.func cf) #[] #[]] w fun e w' => e = .returned (.tuple #[]) ∧ (∃ M, Stb.Sts kO (A ++ B) M ∧ RowP w' base g n cap (P ++ M ++ S)) ∧ w.grownBy w' (some g) := by
  have hlen := RowP.len h
  simp only [List.length_append] at hlen
  have HH := Lib.hid h
  have HP := Lib.hid hp
  have HM := Lib.hid hm
  have HQ := Lib.hid hq
  have HC := Lib.hid hc
  have HSA := Lib.hid hsa
  have HSB := Lib.hid hsb
  have HAS := Lib.hid hA
  have HBS := Lib.hid hB
  have HIH := Lib.hid IH
  have hqn : q ≤ n := by omega
  have hmq : m + 2 ≤ q := by omega
  have hpm : p + 2 ≤ m := by omega
  have hqN : q ≤ p + N + 1 := by omega
  have h0 : ((m : Int) - (p : Int) == 1) = false := by simp; omega
  have h1 : ((q : Int) - (m : Int) == 1) = false := by simp; omega
  clear h hp hm hq hc hsa hsb hA hB IH hlen hA2 hB2 hN
  obtain ⟨mid, hmid⟩ : ∃ mid, mid = (p + q) / 2 := ⟨_, rfl⟩
  have hmI : ((p : Int) + (q : Int)) / 2 = (mid : Int) := by omega
  obtain ⟨nn, hnn⟩ : ∃ nn, nn = mid + m := ⟨_, rfl⟩
  have hnI : (mid : Int) + (m : Int) = (nn : Int) := by omega
  obtain ⟨pp, hpp⟩ : ∃ pp, pp = nn - 1 := ⟨_, rfl⟩
  have hpI : (nn : Int) - 1 = (pp : Int) := by omega
  have hpM : p < mid := by omega
  have hMq : mid < q := by omega
  obtain ⟨lo, hi, hlo, hlh, hpl, hhm, hhM, hlo2, hhi2⟩ : ∃ lo hi : Nat, ((mid < m ∧ lo = nn - q ∧ q ≤ nn ∧ hi = mid) ∨ (m ≤ mid ∧ lo = p ∧ hi = m)) ∧ lo ≤ hi ∧ p ≤ lo ∧ hi ≤ m ∧ hi ≤ mid ∧ (lo = p ∨ mid - lo = q - m) ∧ (hi = m ∨ hi = mid) := by
    by_cases hg : mid < m
    · exact ⟨nn - q, mid, .inl ⟨hg, rfl, by omega, rfl⟩, by omega, by omega, by omega, by omega, .inr (by omega), .inr rfl⟩
    · exact ⟨p, m, .inr ⟨by omega, rfl, rfl⟩, by omega, by omega, by omega, by omega, .inl rfl, .inl rfl⟩
  have hlq : nn ≤ lo + q := by omega
  have HMID := Lib.hid hmid
  have HNN := Lib.hid hnn
  have HPP := Lib.hid hpp
  have HLO := Lib.hid hlo
  have HLO2 := Lib.hid hlo2
  have HHI2 := Lib.hid hhi2
  have hnb : nn ≤ 2000000000 := by omega
  clear hmid hnn hpp hlo hlo2 hhi2
  go_enter Try.func66, Try.ntmps66
  go_upto_if 140 with fail
  go_cut [20, 21] (fun a b wx => a = .int .i64 (lo : Int) ∧ b = .int .i64 (hi : Int) ∧ wx = w)
  case first => as_aux_lemma =>
    rcases HLO.out with ⟨g1, g2, g3, g4⟩ | ⟨g1, g2, g3⟩
    · have e1 : decide ((mid : Int) < (m : Int)) = true := by simp only [decide_eq_true_eq]; omega
      have e2 : decide (mid < m) = true := by simp only [decide_eq_true_eq]; exact g1
      have e3 : (nn : Int) - (q : Int) = (lo : Int) := by omega
      subst g4
      clear g2 hlh hhm hhM
      go_wp2_with fail
      go_meet
      exact ⟨rfl, rfl, rfl⟩
    · have e1 : decide ((mid : Int) < (m : Int)) = false := by simp only [decide_eq_false_iff_not]; omega
      have e2 : decide (mid < m) = false := by simp only [decide_eq_false_iff_not]; omega
      subst g2 g3
      go_wp2_with fail
      go_meet
      exact ⟨rfl, rfl, rfl⟩
  case rest =>
    obtain ⟨rfl, rfl, hwc⟩ := hcut
    subst hwc
    obtain ⟨w, rfl⟩ : ∃ q : World, q = wc := ⟨_, rfl⟩
    go_upto_region 33 with fail
    clear hmI hnI hpI
    go_loopw [20, 21] (fun qs qr wr => ∃ s r : Nat, qs = .int .i64 s ∧ qr = .int .i64 r ∧ lo ≤ s ∧ s ≤ r ∧ r ≤ hi ∧ (s = lo ∨ ∃ x y, A[s - 1 - p]? = some x ∧ B[mid - s]? = some y ∧ p < s ∧ x.1 ≤ y.1) ∧ (r = hi ∨ ∃ x y, A[r - p]? = some x ∧ B[mid - 1 - r]? = some y ∧ r < mid ∧ y.1 < x.1) ∧ RowP wr base g n cap (P ++ A ++ B ++ S) ∧ w.grownBy wr (some g)) (fun qs qr _ => (intOf qr).toNat - (intOf qs).toNat)
    case atStart => exact ⟨lo, hi, rfl, rfl, Nat.le_refl _, hlh, Nat.le_refl _, .inl rfl, .inl rfl, HH.out, grown_refl _ _⟩
    case round => as_aux_lemma =>
      obtain ⟨s, r, rfl, rfl, hls, hsr, hrh, hc1, hc2, hrow, hg⟩ := hrel
      obtain ⟨wo, rfl⟩ : ∃ q : World, q = wr := ⟨_, rfl⟩
      have HC1 := Lib.hid hc1
      have HC2 := Lib.hid hc2
      have HR := Lib.hid hrow
      have HG := Lib.hid hg
      clear hc1 hc2 hrow hg
      by_cases hlt : s < r
      · have hd1 : decide ((s : Int) < (r : Int)) = true := by simp only [decide_eq_true_eq]; omega
        have hd1' : decide (s < r) = true := by simp only [decide_eq_true_eq]; exact hlt
        obtain ⟨c, hh, hh1, hh2, hh3⟩ := half_walk (i := s) (j := r) (by omega) (by omega) hlt
        have hhI : ((s : Int) + (r : Int)) / 2 = (c : Int) := by omega
        have hpn : pp = nn - 1 := HPP.out
        have hnm : nn = mid + m := HNN.out
        obtain ⟨d, hd⟩ : ∃ d, d = pp - c := ⟨_, rfl⟩
        have hdI : (pp : Int) - (c : Int) = (d : Int) := by omega
        have hdm : d - m = mid - 1 - c := by omega
        have hmd : m ≤ d := by omega
        have hdq : d < q := by omega
        have hcm : c < m := by omega
        obtain ⟨x, hx⟩ : ∃ x, A[c - p]? = some x := ⟨_, List.getElem?_eq_getElem (by have := HM.out; omega)⟩
        obtain ⟨y, hy⟩ : ∃ y, B[mid - 1 - c]? = some y := ⟨_, List.getElem?_eq_getElem (by have := HQ.out; omega)⟩
        have hgx : (P ++ A ++ B ++ S)[c]? = some x := get_fst HP.out hx (by omega)
        have hgy : (P ++ A ++ B ++ S)[d]? = some y := get_mid (by rw [HP.out]; exact HM.out) (by rw [hdm]; exact hy) hmd
        have HX := Lib.hid hx
        have HY := Lib.hid hy
        have ky0 := RowP.cl HR.out hgy 0 (v := .int .i64 y.1) (by omega) rfl
        have ky1 := RowP.cl HR.out hgy 1 (v := .int .i64 y.2) (by omega) rfl
        have kx0 := RowP.cl HR.out hgx 0 (v := .int .i64 x.1) (by omega) rfl
        have kx1 := RowP.cl HR.out hgx 1 (v := .int .i64 x.2) (by omega) rfl
        rw [Nat.add_zero] at kx0 ky0
        have HA0 : Hid (P2 g (d * 2) (c * 2) y x wo.drew) := Lib.hid ⟨ky0.cell, ky1.cell, kx0.cell, kx1.cell⟩
        obtain ⟨dd, hdd⟩ : ∃ dd, y.1 - x.1 = dd := ⟨_, rfl⟩
        have HDD := Lib.hid hdd
        have HCC : Hid (∀ W : World, Calls Try.prog cf #[.agg #[.int .i64 y.1, .int .i64 y.2], .agg #[.int .i64 x.1, .int .i64 x.2]] W fun e w' => e = .returned (.int .i64 dd) ∧ Below W.heap.size W w') := Lib.hid (fun W => by rw [← hdd]; exact HC.out.calls y x (HSB.out y (List.mem_of_getElem? hy)) (HSA.out x (List.mem_of_getElem? hx)) W)
        have HE := HC.out.enter
        clear hh hpn hnm hd hdm hx hy hgx hgy ky0 ky1 kx0 kx1 hdd
        go_upto_region 35 with fail
        have q0 : IntKind.i64.wrap (d : Int) = (d : Int) := by rw [IntKind.wrap_i64]; omega
        have q1 : (0 : Int) ≤ (d : Int) := by omega
        have q2 : (d : Int) < (n : Int) := by omega
        have q3 : (0 : Int) ≤ (c : Int) := by omega
        have q4 : (c : Int) < (n : Int) := by omega
        refine wp_region_headsV [(0, true), (1, true), (2, true), (3, true), (4, true), (5, true), (6, true), (7, true), (8, true), (9, true), (10, true)] [] (P2 g (d * 2) (c * 2) y x) (fun _ => True) (by kernel_rfl) (by kernel_rfl) HA0.out trivial ?_
        iterate 11 (first | (refine wpHv_skip rfl (by rfl) ?_) | (refine wpHv_cons (v := ?_) rfl (by rfl) (fun wS hwS => ?_) ?_; rotate_left 1; (focus (have hwA := And.left hwS; clear hwS; (try dsimp only [P2] at hwA); go_simp; (try with_reducible rfl); (try (trace_state; fail))))); (try simp only [List.getElem_toArray, List.getElem_cons_zero, List.getElem_cons_succ]); (try simp only [Act.put, List.setIfInBounds_toArray, List.set_cons_zero, List.set_cons_succ]))
        refine wpHv_nil ?_
        change wpV _ _ _ _ _ _ _ (2 + 1) _ _ _
        refine wpV_one (k := 11) (by kernel_rfl) rfl (fun K hK => ?_)
        have HKK := Lib.hid hK
        clear hK
        go_simp
        refine (HCC.out _).mono ?_
        rintro e w1 ⟨rfl, B1⟩
        have HB1 : Hid (Below wo.heap.size wo w1) := Lib.hid ((Below.refl _ _).drew.trans B1)
        have HA1 := Lib.hid (P2.later HA0.out B1)
        clear B1
        refine HKK.out _ _ ⟨HA1.out, fun _ h => h⟩ ?_
        clear HKK K
        change wpV _ _ _ _ _ _ _ (2 + 0) _ _ _
        refine wpV_heads HA1.out trivial (by kernel_rfl) (fun _ _ _ _ _ h => h) [(12, true), (13, true)] _ _ _ (by kernel_rfl) ?_
        iterate 2 (first | (refine wpHv_skip rfl (by rfl) ?_) | (refine wpHv_cons (v := ?_) rfl (by rfl) (fun wS hwS => ?_) ?_; rotate_left 1; (focus (have hwA := And.left hwS; clear hwS; (try dsimp only [P2] at hwA); go_simp; (try with_reducible rfl); (try (trace_state; fail))))); (try simp only [List.getElem_toArray, List.getElem_cons_zero, List.getElem_cons_succ]); (try simp only [Act.put, List.setIfInBounds_toArray, List.set_cons_zero, List.set_cons_succ]))
        refine wpHv_nil ?_
        refine wpV_done (by kernel_rfl) (NoPanic.normal ?_)
        clear HE HA0 HA1 q0 q1 q2 q3 q4 hhI hdI
        have HR1 := Lib.hid (RowP.later HR.out HB1.out)
        have HG1 := Lib.hid (grown_later HG.out HB1.out)
        clear HB1 HR HG
        by_cases hdz : dd < 0
        · have hd3 : decide (dd < 0) = true := by simp only [decide_eq_true_eq]; exact hdz
          rw [hd3, Bool.not_true]
          clear hd3
          have HN : Hid (c = hi ∨ ∃ x y, A[c - p]? = some x ∧ B[mid - 1 - c]? = some y ∧ c < mid ∧ y.1 < x.1) := Lib.hid (.inr ⟨x, y, HX.out, HY.out, by omega, by have := HDD.out; omega⟩)
          go_wp2_with fail
          go_roundw
          case rel => exact ⟨s, c, rfl, by first | rfl | go_num, hls, by omega, by omega, HC1.out, HN.out, HR1.out, HG1.out⟩
          case measure => simp [intOf]; omega
        · have hd3 : decide (dd < 0) = false := by simp only [decide_eq_false_iff_not]; exact hdz
          rw [hd3, Bool.not_false]
          clear hd3
          have HN : Hid (c + 1 = lo ∨ ∃ x y, A[c + 1 - 1 - p]? = some x ∧ B[mid - (c + 1)]? = some y ∧ p < c + 1 ∧ x.1 ≤ y.1) := Lib.hid (.inr ⟨x, y, by rw [Nat.add_sub_cancel]; exact HX.out, by rw [show mid - (c + 1) = mid - 1 - c by omega]; exact HY.out, by omega, by have := HDD.out; omega⟩)
          go_wp2_with fail
          go_roundw
          case rel => exact ⟨c + 1, r, by go_num, rfl, by omega, by omega, hrh, HN.out, HC2.out, HR1.out, HG1.out⟩
          case measure => simp [intOf]; omega
      · obtain rfl : s = r := by omega
        have hd1 : decide ((s : Int) < (s : Int)) = false := by simp
        have hnm : nn = mid + m := HNN.out
        obtain ⟨u, hu⟩ : ∃ u, u = s - p := ⟨_, rfl⟩
        obtain ⟨v, hv⟩ : ∃ v, v = mid - s := ⟨_, rfl⟩
        have hAl : A.length = m - p := by have := HM.out; omega
        have hBl : B.length = q - m := by have := HQ.out; omega
        have hcut := Stb.cut (key := kO) HAS.out HBS.out u v (by
          rcases HC1.out with e | ⟨x, y, h1, h2, h3, h4⟩
          · rcases HLO2.out with e2 | e2
            · exact .inl (by omega)
            · exact .inr (.inl (by omega))
          · exact .inr (.inr ⟨x, y, by rw [show u - 1 = s - 1 - p by omega]; exact h1, by rw [hv]; exact h2, h4⟩)) (by
          rcases HC2.out with e | ⟨x, y, h1, h2, h3, h4⟩
          · rcases HHI2.out with e2 | e2
            · exact .inr (.inl (by omega))
            · exact .inl (by omega)
          · exact .inr (.inr ⟨x, y, by rw [hu]; exact h1, by rw [show v - 1 = mid - 1 - s by omega]; exact h2, h4⟩))
        obtain ⟨A1, hA1⟩ : ∃ L, A.take u = L := ⟨_, rfl⟩
        obtain ⟨A2, hA2⟩ : ∃ L, A.drop u = L := ⟨_, rfl⟩
        obtain ⟨B1, hB1⟩ : ∃ L, B.take v = L := ⟨_, rfl⟩
        obtain ⟨B2, hB2⟩ : ∃ L, B.drop v = L := ⟨_, rfl⟩
        have hlA1 : A1.length = s - p := by rw [← hA1, List.length_take]; omega
        have hlA2 : A2.length = m - s := by rw [← hA2, List.length_drop]; omega
        have hlB1 : B1.length = mid - s := by rw [← hB1, List.length_take]; omega
        have hlB2 : B2.length = q - m - (mid - s) := by rw [← hB2, List.length_drop]; omega
        have hAA : A1 ++ A2 = A := by rw [← hA1, ← hA2, List.take_append_drop]
        have hBB : B1 ++ B2 = B := by rw [← hB1, ← hB2, List.take_append_drop]
        rw [hA1, hB2, hB1, hA2] at hcut
        have HCUT := Lib.hid hcut
        have HAA := Lib.hid hAA
        have HBB := Lib.hid hBB
        have HlA1 := Lib.hid hlA1
        have HlA2 := Lib.hid hlA2
        have HlB1 := Lib.hid hlB1
        have HlB2 := Lib.hid hlB2
        obtain ⟨e, he⟩ : ∃ e, e = nn - s := ⟨_, rfl⟩
        have heI : (nn : Int) - (s : Int) = (e : Int) := by omega
        have hem : e = m + (mid - s) := by omega
        have HEM := Lib.hid hem
        have hme : m ≤ e := by omega
        have heq : e ≤ q := by omega
        have hMe : mid ≤ e := by omega
        have hR2 := HR.out
        rw [← hAA, ← hBB] at hR2
        have HR2 := Lib.hid hR2
        clear hcut hA1 hA2 hB1 hB2 hlA1 hlA2 hlB1 hlB2 hAA hBB he hnm hem hR2 hu hv hAl hBl hlt HC1 HC2 HR
        go_upto_region 39 with fail
        clear heI
        go_cut [185] (fun b wx => b = .bool (decide (s < m) && decide (m < e)) ∧ wx = wo)
        case first => as_aux_lemma =>
          by_cases z1 : s < m
          · have z1a : decide (s < m) = true := by simp only [decide_eq_true_eq]; exact z1
            have z1b : decide ((s : Int) < (m : Int)) = true := by simp only [decide_eq_true_eq]; omega
            go_wp2_with fail
            go_meet
            exact ⟨by simp [z1], rfl⟩
          · have z1a : decide (s < m) = false := by simp only [decide_eq_false_iff_not]; exact z1
            have z1b : decide ((s : Int) < (m : Int)) = false := by simp only [decide_eq_false_iff_not]; omega
            go_wp2_with fail
            go_meet
            exact ⟨by simp [z1a], rfl⟩
        case rest =>
          obtain ⟨rfl, hwc⟩ := hcut
          subst hwc
          obtain ⟨wo, rfl⟩ : ∃ q : World, q = wc := ⟨_, rfl⟩
          obtain ⟨bz, hbz⟩ : ∃ b, (decide (s < m) && decide (m < e)) = b := ⟨_, rfl⟩
          rw [hbz]
          have HBZ := Lib.hid hbz
          clear hbz
          go_upto_if 185 with fail
          go_cut [20] (fun a wx => a = .int .i64 (s : Int) ∧ RowP wx base g n cap (P ++ A1 ++ B1 ++ (A2 ++ B2 ++ S)) ∧ w.grownBy wx (some g))
          case first => as_aux_lemma =>
            cases bz with
            | true =>
              obtain ⟨z1, z2⟩ : s < m ∧ m < e := by simpa using HBZ.out
              go_wp2_with fail
              refine (rotate_any (P := P ++ A1) (A := A2) (B := B1) (S := B2 ++ S) (by
                have e1 : P ++ A1 ++ A2 ++ B1 ++ (B2 ++ S) = P ++ (A1 ++ A2) ++ (B1 ++ B2) ++ S := by simp
                rw [e1]; exact HR2.out) (by rw [HlA2.out]; omega) (by rw [HlB1.out]; have := HEM.out; omega) (by rw [List.length_append, HP.out, HlA1.out]; omega) (by rw [List.length_append, HP.out, HlA1.out, HlA2.out]; omega) (by rw [List.length_append, HP.out, HlA1.out, HlA2.out, HlB1.out]; have := HEM.out; omega) hn _).mono ?_
              rintro e' w1 ⟨rfl, hr, hg2⟩
              have HR3 : Hid (RowP w1 base g n cap (P ++ A1 ++ B1 ++ (A2 ++ B2 ++ S))) := Lib.hid (by
                have e1 : P ++ A1 ++ B1 ++ (A2 ++ B2 ++ S) = P ++ A1 ++ B1 ++ A2 ++ (B2 ++ S) := by simp
                rw [e1]; exact hr)
              have HG3 := Lib.hid (grownBy_trans HG.out hg2)
              clear hr hg2
              go_wp2_with fail
              go_meet
              exact ⟨rfl, HR3.out, HG3.out⟩
            | false =>
              have HR3 : Hid (RowP wo base g n cap (P ++ A1 ++ B1 ++ (A2 ++ B2 ++ S))) := Lib.hid (by
                have h2 := HR2.out
                by_cases z1 : s < m
                · have z2 : ¬m < e := by
                    have h := HBZ.out
                    intro h3
                    simp [z1, h3] at h
                  have e1 : B1 = [] := List.eq_nil_of_length_eq_zero (by rw [HlB1.out]; have := HEM.out; omega)
                  rw [e1] at h2 ⊢
                  simpa using h2
                · have e1 : A2 = [] := List.eq_nil_of_length_eq_zero (by rw [HlA2.out]; omega)
                  rw [e1] at h2 ⊢
                  simpa using h2)
              go_wp2_with fail
              go_meet
              exact ⟨rfl, HR3.out, HG.out⟩
          case rest =>
            obtain ⟨rfl, hr3, hg3⟩ := hcut
            obtain ⟨wx, rfl⟩ : ∃ q : World, q = wc := ⟨_, rfl⟩
            have HR3 := Lib.hid hr3
            have HG3 := Lib.hid hg3
            clear hr3 hg3 HR2 HG HBZ
            have hs1 : Stb.Srt kO A1 ∧ Stb.Srt kO A2 := by have h := HAS.out; rw [← HAA.out] at h; exact ⟨h.left, h.right⟩
            have hs2 : Stb.Srt kO B1 ∧ Stb.Srt kO B2 := by have h := HBS.out; rw [← HBB.out] at h; exact ⟨h.left, h.right⟩
            have HS1 := Lib.hid hs1
            have HS2 := Lib.hid hs2
            clear hs1 hs2
            go_upto_region 41 with fail
            go_cut [199] (fun b wy => b = .bool (decide (p < s) && decide (s < mid)) ∧ wy = wx)
            case first => as_aux_lemma =>
              by_cases z1 : p < s
              · have z1a : decide (p < s) = true := by simp only [decide_eq_true_eq]; exact z1
                have z1b : decide ((p : Int) < (s : Int)) = true := by simp only [decide_eq_true_eq]; omega
                go_wp2_with fail
                go_meet
                exact ⟨by simp [z1], rfl⟩
              · have z1a : decide (p < s) = false := by simp only [decide_eq_false_iff_not]; exact z1
                have z1b : decide ((p : Int) < (s : Int)) = false := by simp only [decide_eq_false_iff_not]; omega
                go_wp2_with fail
                go_meet
                exact ⟨by simp [z1a], rfl⟩
            case rest =>
              obtain ⟨rfl, hwc⟩ := hcut
              subst hwc
              obtain ⟨wx, rfl⟩ : ∃ q : World, q = wc := ⟨_, rfl⟩
              obtain ⟨bz, hbz⟩ : ∃ b, (decide (p < s) && decide (s < mid)) = b := ⟨_, rfl⟩
              rw [hbz]
              have HBZ := Lib.hid hbz
              clear hbz
              go_upto_if 199 with fail
              go_cut [20] (fun a wy => ∃ M1, a = .int .i64 (s : Int) ∧ Stb.Sts kO (A1 ++ B1) M1 ∧ RowP wy base g n cap (P ++ M1 ++ A2 ++ B2 ++ S) ∧ w.grownBy wy (some g))
              case first => as_aux_lemma =>
                cases bz with
                | true =>
                  obtain ⟨z1, z2⟩ : p < s ∧ s < mid := by simpa using HBZ.out
                  go_wp2_with fail
                  refine (HIH.out wx P A1 B1 (A2 ++ B2 ++ S) p s mid HR3.out (fun y hy => HSA.out y (by rw [← HAA.out]; exact List.mem_append_left _ hy)) (fun y hy => HSB.out y (by rw [← HBB.out]; exact List.mem_append_left _ hy)) HS1.out.1 HS2.out.1 HP.out (by rw [HlA1.out]; omega) (by rw [HlB1.out]; omega) (by rw [HlA1.out]; omega) (by rw [HlB1.out]; omega) (by rw [HlA1.out, HlB1.out]; omega)).mono ?_
                  rintro e' w1 ⟨rfl, ⟨M1, hst, hr⟩, hg2⟩
                  have HST := Lib.hid hst
                  have HR4 : Hid (RowP w1 base g n cap (P ++ M1 ++ A2 ++ B2 ++ S)) := Lib.hid (by simpa using hr)
                  have HG4 := Lib.hid (grownBy_trans HG3.out hg2)
                  clear hst hr hg2
                  go_wp2_with fail
                  go_meet
                  exact ⟨M1, rfl, HST.out, HR4.out, HG4.out⟩
                | false =>
                  have HST : Hid (Stb.Sts kO (A1 ++ B1) (A1 ++ B1)) := Lib.hid (sts_trivial HS1.out.1 HS2.out.1 (by
                    by_cases z1 : p < s
                    · have z2 : ¬s < mid := by
                        have h := HBZ.out
                        intro h3
                        simp [z1, h3] at h
                      exact .inr (List.eq_nil_of_length_eq_zero (by rw [HlB1.out]; omega))
                    · exact .inl (List.eq_nil_of_length_eq_zero (by rw [HlA1.out]; omega))))
                  have HR4 : Hid (RowP wx base g n cap (P ++ (A1 ++ B1) ++ A2 ++ B2 ++ S)) := Lib.hid (by simpa using HR3.out)
                  go_wp2_with fail
                  go_meet
                  exact ⟨_, rfl, HST.out, HR4.out, HG3.out⟩
              case rest =>
                obtain ⟨M1, rfl, hst, hr4, hg4⟩ := hcut
                obtain ⟨wy, rfl⟩ : ∃ q : World, q = wc := ⟨_, rfl⟩
                have HST := Lib.hid hst
                have HR4 := Lib.hid hr4
                have HG4 := Lib.hid hg4
                have HlM : Hid (M1.length = mid - p) := Lib.hid (by rw [hst.len, List.length_append, HlA1.out, HlB1.out]; omega)
                clear hst hr4 hg4 HR3 HG3 HBZ
                go_upto_region 43 with fail
                go_cut [213] (fun b wz => b = .bool (decide (mid < e) && decide (e < q)) ∧ wz = wy)
                case first => as_aux_lemma =>
                  by_cases z1 : mid < e
                  · have z1a : decide (mid < e) = true := by simp only [decide_eq_true_eq]; exact z1
                    have z1b : decide ((mid : Int) < (e : Int)) = true := by simp only [decide_eq_true_eq]; omega
                    go_wp2_with fail
                    go_meet
                    exact ⟨by simp [z1], rfl⟩
                  · have z1a : decide (mid < e) = false := by simp only [decide_eq_false_iff_not]; exact z1
                    have z1b : decide ((mid : Int) < (e : Int)) = false := by simp only [decide_eq_false_iff_not]; omega
                    go_wp2_with fail
                    go_meet
                    exact ⟨by simp [z1a], rfl⟩
                case rest =>
                  obtain ⟨rfl, hwc⟩ := hcut
                  subst hwc
                  obtain ⟨wy, rfl⟩ : ∃ q : World, q = wc := ⟨_, rfl⟩
                  obtain ⟨bz, hbz⟩ : ∃ b, (decide (mid < e) && decide (e < q)) = b := ⟨_, rfl⟩
                  rw [hbz]
                  have HBZ := Lib.hid hbz
                  clear hbz
                  have HFIN : Hid (∀ M2, Stb.Sts kO (A2 ++ B2) M2 → Stb.Sts kO (A ++ B) (M1 ++ M2)) := Lib.hid (fun M2 h2 => by
                    have k := Stb.halves (key := kO) (A1 := A1) (A2 := A2) (B1 := B1) (B2 := B2) (by rw [HAA.out]; exact HAS.out) (by rw [HBB.out]; exact HBS.out) HCUT.out.1 HCUT.out.2 HST.out h2
                    rwa [HAA.out, HBB.out] at k)
                  cases bz with
                  | true =>
                    obtain ⟨z1, z2⟩ : mid < e ∧ e < q := by simpa using HBZ.out
                    have hem := HEM.out
                    have HPM : Hid ((P ++ M1).length = mid) := Lib.hid (by rw [List.length_append, HP.out, HlM.out]; omega)
                    have HE1 : Hid (e = mid + A2.length) := Lib.hid (by rw [HlA2.out]; omega)
                    have HE2 : Hid (q = e + B2.length) := Lib.hid (by rw [HlB2.out]; omega)
                    clear hem
                    go_wp2_with fail
                    refine (HIH.out wy (P ++ M1) A2 B2 S mid e q HR4.out (fun y hy => HSA.out y (by rw [← HAA.out]; exact List.mem_append_right _ hy)) (fun y hy => HSB.out y (by rw [← HBB.out]; exact List.mem_append_right _ hy)) HS1.out.2 HS2.out.2 HPM.out HE1.out HE2.out (by have := HE1.out; omega) (by have := HE2.out; omega) (by have := HE1.out; have := HE2.out; omega)).mono ?_
                    rintro e' w1 ⟨rfl, ⟨M2, hst, hr⟩, hg2⟩
                    have HST2 := Lib.hid hst
                    have HR5 : Hid (RowP w1 base g n cap (P ++ (M1 ++ M2) ++ S)) := Lib.hid (by simpa using hr)
                    have HG5 := Lib.hid (grownBy_trans HG4.out hg2)
                    clear hst hr hg2
                    go_wp2_with fail
                    go_end0
                    exact ⟨rfl, ⟨_, HFIN.out _ HST2.out, HR5.out⟩, HG5.out⟩
                  | false =>
                    have HST2 : Hid (Stb.Sts kO (A2 ++ B2) (A2 ++ B2)) := Lib.hid (sts_trivial HS1.out.2 HS2.out.2 (by
                      have hem := HEM.out
                      by_cases z1 : mid < e
                      · have z2 : ¬e < q := by
                          have h := HBZ.out
                          intro h3
                          simp [z1, h3] at h
                        exact .inr (List.eq_nil_of_length_eq_zero (by rw [HlB2.out]; omega))
                      · exact .inl (List.eq_nil_of_length_eq_zero (by rw [HlA2.out]; omega))))
                    have HR5 : Hid (RowP wy base g n cap (P ++ (M1 ++ (A2 ++ B2)) ++ S)) := Lib.hid (by simpa using HR4.out)
                    go_wp2_with fail
                    go_end0
                    exact ⟨rfl, ⟨_, HFIN.out _ HST2.out, HR5.out⟩, HG4.out⟩
theorem sym_all {base g n cap cf : Nat} (hc : Cmp cf) (hn : n ≤ 1000000000) : ∀ N, SymOk cf base g n cap N
  | 0 => fun w P A B S p m q _ _ _ _ _ _ _ _ hA _ hN => by omega
  | N + 1 => fun w P A B S p m q h hsa hsb hA hB hp hm hq hA0 hB0 hN => by
    by_cases h1 : A.length = 1
    · match A, h1 with
      | [x], _ => exact sym_one h hc (hsa x (by simp)) hsb hB hp (by simpa using hm) hq hn
    · by_cases h2 : B.length = 1
      · match B, h2 with
        | [x], _ => exact sym_last h hc (hsb x (by simp)) hsa hA hp hm (by simpa using hq) h1 hn
      · exact sym_step hc hn (sym_all hc hn N) h hsa hsb hA hB hp hm hq (by omega) (by omega) hN
end Go.Proofs.Ytmnfefebbadflaa
