/- slices.insertionSortCmpFunc: a part of a row put in stable order. -/
import Derived.Test.YtmnfefebbadflaaStbR
namespace Go.Proofs.Ytmnfefebbadflaa
open Go.RowKit
def Sm (x : One) : Prop := -100000 ≤ x.1 ∧ x.1 ≤ 100000
theorem P2.later {g o1 o2 : Nat} {a b : One} {w w' : World} (h : P2 g o1 o2 a b w) (k : Below w.heap.size w w') : P2 g o1 o2 a b w' := ⟨cell_later k h.1, cell_later k h.2.1, cell_later k h.2.2.1, cell_later k h.2.2.2⟩
/-- What a call of the comparison does. -/
structure Cmp (cf : Nat) : Prop where
  enter : ∀ (args : Array Value) (w : World), (callFunc cf args).run Try.prog w = .ok (.enter cf args) w
  calls : ∀ (a b : One), Sm a → Sm b → ∀ w : World, Calls Try.prog cf #[.agg #[.int .i64 a.1, .int .i64 a.2], .agg #[.int .i64 b.1, .int .i64 b.2]] w fun e w' => e = .returned (.int .i64 (a.1 - b.1)) ∧ Below w.heap.size w w'
abbrev kO (x : One) : Int := x.1
theorem RowP.later {w w' : World} {base g n cap : Nat} {L : List One} (h : RowP w base g n cap L) (B : Below w.heap.size w w') : RowP w' base g n cap L := own_later h B
theorem grown_later {w w1 w2 : World} {g : Nat} (h : w.grownBy w1 (some g)) (B : Below w1.heap.size w1 w2) : w.grownBy w2 (some g) :=
  grownBy_trans h ⟨B.os, B.tape, B.output, B.size, fun k hk _ => B.block k hk⟩
theorem snoc_of {α : Type} {U : List α} (h : 0 < U.length) : ∃ U' y, U = U' ++ [y] := by
  have hne : U ≠ [] := fun e => by rw [e] at h; simp at h
  exact ⟨U.dropLast, U.getLast hne, (List.dropLast_concat_getLast hne).symm⟩
theorem grown_refl (w : World) (g : Nat) : w.grownBy w (some g) := ⟨rfl, rfl, rfl, Nat.le_refl _, fun _ _ _ => rfl⟩
theorem adj_set (W R : List One) (x y : One) : ((W ++ y :: x :: R).set (W.length + 1) y).set W.length x = W ++ x :: y :: R := by
  rw [List.set_append_right _ _ (by omega), Nat.add_sub_cancel_left, List.set_cons_succ, List.set_cons_zero, List.set_append_right _ _ (Nat.le_refl _), Nat.sub_self, List.set_cons_zero]
theorem adj_get (W R : List One) (x y : One) : (W ++ y :: x :: R)[W.length]? = some y ∧ (W ++ y :: x :: R)[W.length + 1]? = some x := by
  constructor
  · rw [List.getElem?_append_right (Nat.le_refl _), Nat.sub_self]; rfl
  · rw [List.getElem?_append_right (by omega), Nat.add_sub_cancel_left]; rfl
theorem ins_next {L U V : List One} {x : One} (h : Stb.Sts kO L (U ++ V)) (ha : ∀ a ∈ U, a.1 ≤ x.1) (hb : ∀ b ∈ V, x.1 < b.1) : Stb.Sts kO (L ++ [x]) (U ++ [x] ++ V) := by
  have k := Stb.put (key := kO) (x := x) h.srt ha hb
  exact ⟨k.srt, (h.same.app (Stb.Same.refl [x])).trans k.same⟩
set_option maxRecDepth 100000 in
set_option maxHeartbeats 2000000 in
theorem insertion_any {w : World} {base g n cap cf : Nat} {P A S : List One} (h : RowP w base g n cap (P ++ A ++ S)) (hc : Cmp cf) (hs : ∀ x ∈ A, Sm x) {a' b' : Int} (ha : a' = P.length) (hb : b' = (P.length + A.length : Nat)) (hn : n ≤ 1000000000) :
    Calls Try.prog 65 #[.slice (some ⟨g, 0, none⟩) n cap, .int .i64 a', .int .i64 b', .func (.func cf) #[] #[]] w fun e w' => e = .returned (.tuple #[]) ∧ (∃ M, Stb.Sts kO A M ∧ RowP w' base g n cap (P ++ M ++ S)) ∧ w.grownBy w' (some g) := by
  have hlen := RowP.len h
  simp only [List.length_append] at hlen
  obtain ⟨p, hp⟩ : ∃ p, P.length = p := ⟨_, rfl⟩
  obtain ⟨u, hu⟩ : ∃ p, A.length = p := ⟨_, rfl⟩
  obtain ⟨q, hqe⟩ : ∃ q, p + u = q := ⟨_, rfl⟩
  rw [hp, hu] at hb hlen
  rw [hp] at ha
  rw [hqe] at hb
  subst ha hb
  have HH := Lib.hid h
  have HP := Lib.hid hp
  have HU := Lib.hid hu
  have HQ := Lib.hid hqe
  have HC := Lib.hid hc
  have HS := Lib.hid hs
  have hqn : q ≤ n := by omega
  have hpq : p ≤ q := by omega
  clear h hp hu hqe hc hs hlen
  go_enter Try.func65, Try.ntmps65
  go_wp2_with fail
  go_loopw [8] (fun qi wr => ∃ (k : Nat) (M : List One), qi = .int .i64 ((p + k : Nat) : Int) ∧ 1 ≤ k ∧ (k ≤ u ∨ (u = 0 ∧ k = 1)) ∧ Stb.Sts kO (A.take k) M ∧ RowP wr base g n cap (P ++ M ++ A.drop k ++ S) ∧ w.grownBy wr (some g)) (fun qi _ => q + 1 - (intOf qi).toNat)
  case atStart =>
    refine ⟨1, A.take 1, by rfl, by omega, by omega, ⟨?_, Stb.Same.refl _⟩, ?_, grown_refl _ _⟩
    · match A with
      | [] => exact List.Pairwise.nil
      | x :: t => exact List.pairwise_cons.2 ⟨by simp, List.Pairwise.nil⟩
    · have e : P ++ A.take 1 ++ A.drop 1 ++ S = P ++ A ++ S := by rw [List.append_assoc P, List.take_append_drop]
      rw [e]
      exact HH.out
  case round =>
    obtain ⟨k, M, rfl, hk1, hk2, hst, hrow, hg⟩ := hrel
    obtain ⟨wo, rfl⟩ : ∃ q : World, q = wr := ⟨_, rfl⟩
    have HST := Lib.hid hst
    have HR := Lib.hid hrow
    have HG := Lib.hid hg
    clear hst hrow hg
    obtain ⟨i, hi⟩ : ∃ i, p + k = i := ⟨_, rfl⟩
    rw [hi]
    have HI := Lib.hid hi
    have huq : u = 0 → q = p := by have := HQ.out; omega
    have HKQ : Hid (i < q ↔ k < u) := Lib.hid (by have := HQ.out; omega)
    have hiq : i ≤ q + 1 := by have := HQ.out; omega
    clear hi huq
    by_cases hik : i < q
    · have hd1 : decide ((i : Int) < (q : Int)) = true := by simp only [decide_eq_true_eq]; omega
      have hd1' : decide (i < q) = true := by simp only [decide_eq_true_eq]; exact hik
      have hku : k < A.length := by rw [HU.out]; exact HKQ.out.1 hik
      obtain ⟨x, hx⟩ : ∃ x, A[k]? = some x := ⟨_, List.getElem?_eq_getElem hku⟩
      have hsx := HS.out x (List.mem_of_getElem? hx)
      have htk : A.take (k + 1) = A.take k ++ [x] := by rw [List.take_succ_eq_append_getElem hku]; simp [(List.getElem?_eq_some_iff.1 hx).2]
      have hdk : A.drop k = x :: A.drop (k + 1) := by rw [List.drop_eq_getElem_cons hku]; simp [(List.getElem?_eq_some_iff.1 hx).2]
      have hml : M.length = k := by rw [HST.out.len, List.length_take]; omega
      have HTK := Lib.hid htk
      have HSX := Lib.hid hsx
      have HML := Lib.hid hml
      have hr0 : RowP wo base g n cap (P ++ M ++ [x] ++ [] ++ A.drop (k + 1) ++ S) := by
        have h := HR.out
        rw [hdk] at h
        simpa using h
      have HR0 := Lib.hid hr0
      have HM0 : Hid (∀ y ∈ M, Sm y) := Lib.hid (fun y hy => HS.out y (List.mem_of_mem_take (HST.out.same.symm.mem hy)))
      clear hx hsx htk hdk hml hr0 HR hku
      go_wp2_with fail
      go_loopw [9] (fun qj wr => ∃ (j : Nat) (U V : List One), qj = .int .i64 (j : Int) ∧ j = p + U.length ∧ j ≤ i ∧ U ++ V = M ∧ (∀ v ∈ V, x.1 < v.1) ∧ RowP wr base g n cap (P ++ U ++ [x] ++ V ++ A.drop (k + 1) ++ S) ∧ w.grownBy wr (some g)) (fun qj _ => (intOf qj).toNat)
      case atStart => exact ⟨i, M, [], rfl, by rw [HML.out]; exact HI.out.symm, by omega, by simp, by simp, HR0.out, HG.out⟩
      case round =>
        clear HR0 HG
        obtain ⟨j, U, V, rfl, hj, hji, huv, hv, hrow, hg⟩ := hrel
        obtain ⟨wv, rfl⟩ : ∃ q : World, q = wr := ⟨_, rfl⟩
        have HJ := Lib.hid hj
        have HUV := Lib.hid huv
        have HV := Lib.hid hv
        have HR := Lib.hid hrow
        have HG := Lib.hid hg
        have hpj : p ≤ j := by omega
        clear hj huv hv hrow hg
        by_cases hjp : p < j
        · have hd2 : decide ((p : Int) < (j : Int)) = true := by simp only [decide_eq_true_eq]; omega
          obtain ⟨U', y, hU⟩ := snoc_of (U := U) (by have := HJ.out; omega)
          subst hU
          have hwl : (P ++ U').length = j - 1 := by
            have h := HJ.out
            rw [List.length_append] at h
            rw [List.length_append, HP.out]
            simp at h
            omega
          have hLe : P ++ (U' ++ [y]) ++ [x] ++ V ++ A.drop (k + 1) ++ S = (P ++ U') ++ y :: x :: (V ++ A.drop (k + 1) ++ S) := by simp
          obtain ⟨gy, gx⟩ := adj_get (P ++ U') (V ++ A.drop (k + 1) ++ S) x y
          have hset := adj_set (P ++ U') (V ++ A.drop (k + 1) ++ S) x y
          rw [← hLe, hwl] at gy gx
          rw [hwl] at hset
          rw [show j - 1 + 1 = j by omega] at gx hset
          have hsy : Sm y := HM0.out y (by rw [← HUV.out]; simp)
          have HSY := Lib.hid hsy
          have hjn : j < n := by have h := (List.getElem?_eq_some_iff.1 gx).1; rw [RowP.len HR.out] at h; exact h
          have kx0 := RowP.cl HR.out gx 0 (v := .int .i64 x.1) (by omega) rfl
          have kx1 := RowP.cl HR.out gx 1 (v := .int .i64 x.2) (by omega) rfl
          have ky0 := RowP.cl HR.out gy 0 (v := .int .i64 y.1) (by omega) rfl
          have ky1 := RowP.cl HR.out gy 1 (v := .int .i64 y.2) (by omega) rfl
          rw [Nat.add_zero] at kx0 ky0
          have HA0 : Hid (P2 g (j * 2) ((j - 1) * 2) x y wv.drew) := Lib.hid ⟨kx0.cell, kx1.cell, ky0.cell, ky1.cell⟩
          have HE := HC.out.enter
          obtain ⟨dd, hdd⟩ : ∃ dd, x.1 - y.1 = dd := ⟨_, rfl⟩
          have HDD := Lib.hid hdd
          have HCC : Hid (∀ W : World, Calls Try.prog cf #[.agg #[.int .i64 x.1, .int .i64 x.2], .agg #[.int .i64 y.1, .int .i64 y.2]] W fun e w' => e = .returned (.int .i64 dd) ∧ Below W.heap.size W w') := Lib.hid (fun W => by rw [← hdd]; exact HC.out.calls x y HSX.out HSY.out W)
          clear hdd
          have HGX := Lib.hid gx
          have HGY := Lib.hid gy
          have HSET := Lib.hid hset
          have HLE := Lib.hid hLe
          have p1 : IntKind.i64.wrap ((j : Int) - 1) = (j : Int) - 1 := by rw [IntKind.wrap_i64]; omega
          have p3 : ((j : Int) - 1).toNat = j - 1 := by omega
          have p5 : (0 : Int) ≤ (j : Int) - 1 := by omega
          have p6 : (0 : Int) ≤ (j : Int) := by omega
          have p7 : (j : Int) - 1 < (n : Int) := by omega
          have p8 : (j : Int) < (n : Int) := by omega
          have p9 : (1 : Int) ≤ (j : Int) := by omega
          have p10 : (j : Int) < (n : Int) + 1 := by omega
          clear kx0 kx1 ky0 ky1 gx gy hset hLe hwl hsy
          go_upto_region 4 with fail
          refine wp_region_headsV [(0, true), (1, true), (2, true), (3, true), (4, true), (5, true), (6, true), (7, true), (8, true), (9, true), (10, true), (11, true), (12, true), (13, true)] [] (P2 g (j * 2) ((j - 1) * 2) x y) (fun _ => True) (by kernel_rfl) (by kernel_rfl) HA0.out trivial ?_
          iterate 14 (first | (refine wpHv_skip rfl (by rfl) ?_) | (refine wpHv_cons (v := ?_) rfl (by rfl) (fun wS hwS => ?_) ?_; rotate_left 1; (focus (have hwA := And.left hwS; clear hwS; (try dsimp only [P2] at hwA); go_simp; (try with_reducible rfl); (try (trace_state; fail))))); (try simp only [List.getElem_toArray, List.getElem_cons_zero, List.getElem_cons_succ]); (try simp only [Act.put, List.setIfInBounds_toArray, List.set_cons_zero, List.set_cons_succ]))
          refine wpHv_nil ?_
          change wpV _ _ _ _ _ _ _ (2 + 1) _ _ _
          refine wpV_one (k := 14) (by kernel_rfl) rfl (fun K hK => ?_)
          have HKK := Lib.hid hK
          clear hK
          go_simp
          refine (HCC.out _).mono ?_
          rintro e w1 ⟨rfl, B1⟩
          have HB1 : Hid (Below wv.heap.size wv w1) := Lib.hid ((Below.refl _ _).drew.trans B1)
          have HA1 := Lib.hid (P2.later HA0.out B1)
          clear B1
          refine HKK.out _ _ ⟨HA1.out, fun _ h => h⟩ ?_
          clear HKK K
          change wpV _ _ _ _ _ _ _ (2 + 0) _ _ _
          refine wpV_heads HA1.out trivial (by kernel_rfl) (fun _ _ _ _ _ h => h) [(15, true), (16, true)] _ _ _ (by kernel_rfl) ?_
          iterate 2 (first | (refine wpHv_skip rfl (by rfl) ?_) | (refine wpHv_cons (v := ?_) rfl (by rfl) (fun wS hwS => ?_) ?_; rotate_left 1; (focus (have hwA := And.left hwS; clear hwS; (try dsimp only [P2] at hwA); go_simp; (try with_reducible rfl); (try (trace_state; fail))))); (try simp only [List.getElem_toArray, List.getElem_cons_zero, List.getElem_cons_succ]); (try simp only [Act.put, List.setIfInBounds_toArray, List.set_cons_zero, List.set_cons_succ]))
          refine wpHv_nil ?_
          refine wpV_done (by kernel_rfl) (NoPanic.normal ?_)
          clear HE HA0 HA1
          have HR1 := Lib.hid (RowP.later HR.out HB1.out)
          have HG1 := Lib.hid (grown_later HG.out HB1.out)
          clear HB1 HR HG
          by_cases hdz : dd < 0
          · have hd3 : decide (dd < 0) = true := by simp only [decide_eq_true_eq]; exact hdz
            have hxy : x.1 < y.1 := by have := HDD.out; omega
            have kx0 := RowP.cl HR1.out HGX.out 0 (v := .int .i64 x.1) (by omega) rfl
            have kx1 := RowP.cl HR1.out HGX.out 1 (v := .int .i64 x.2) (by omega) rfl
            have ky0 := RowP.cl HR1.out HGY.out 0 (v := .int .i64 y.1) (by omega) rfl
            have ky1 := RowP.cl HR1.out HGY.out 1 (v := .int .i64 y.2) (by omega) rfl
            rw [Nat.add_zero] at kx0 ky0
            have HS0 : Hid (P2 g ((j - 1) * 2) (j * 2) y x w1.drew) := Lib.hid ⟨ky0.cell, ky1.cell, kx0.cell, kx1.cell⟩
            have HKX := Lib.hid (And.intro kx0 kx1)
            have HKY := Lib.hid (And.intro ky0 ky1)
            have h1 := RowP.put HR1.out HGX.out y
            obtain ⟨z, hz⟩ : ∃ z, ((P ++ (U' ++ [y]) ++ [x] ++ V ++ A.drop (k + 1) ++ S).set j y)[j - 1]? = some z := ⟨_, List.getElem?_eq_getElem (by rw [List.length_set]; exact (List.getElem?_eq_some_iff.1 HGY.out).1)⟩
            have h2 := RowP.put h1 hz x
            have hnew : ((P ++ (U' ++ [y]) ++ [x] ++ V ++ A.drop (k + 1) ++ S).set j y).set (j - 1) x = P ++ U' ++ [x] ++ (y :: V) ++ A.drop (k + 1) ++ S := by
              rw [HLE.out, HSET.out]
              simp
            rw [hnew] at h2
            have H2 := Lib.hid h2
            have HG2 : Hid (w.grownBy (putP (putP w1 g (j * 2) y) g ((j - 1) * 2) x) (some g)) := Lib.hid (grownBy_trans HG1.out (grownBy_trans (put_grown _ _ _ _) (put_grown _ _ _ _)))
            have HXY := Lib.hid hxy
            clear kx0 kx1 ky0 ky1 h1 hz h2 hnew hxy
            go_upto_region 6 with fail
            refine wp_region_headsV [(0, false), (1, false), (2, false), (3, false), (4, false), (5, false), (6, false), (7, false), (8, false), (9, true), (10, false), (11, false), (12, false), (13, true), (14, false)] [15, 17] (fun _ => True) (P2 g ((j - 1) * 2) (j * 2) y x) (by kernel_rfl) (by kernel_rfl) trivial HS0.out ?_
            iterate 15 (first | (refine wpHv_skip rfl (by rfl) ?_) | (refine wpHv_cons (v := ?_) rfl (by rfl) (fun wS hwS => ?_) ?_; rotate_left 1; (focus ((first | (have hwA := And.right hwS rfl) | (have hwA := And.left hwS)); clear hwS; (try dsimp only [P2] at hwA); go_simp; (try with_reducible rfl); (try (trace_state; fail))))); (try simp only [List.getElem_toArray, List.getElem_cons_zero, List.getElem_cons_succ]); (try simp only [Act.put, List.setIfInBounds_toArray, List.set_cons_zero, List.set_cons_succ]))
            refine wpHv_nil ?_
            change wpV _ _ _ _ _ _ _ (2 + 1) _ _ _
            refine wpV_one (k := 15) (by kernel_rfl) rfl (fun K hK => ?_)
            have HKK := Lib.hid hK
            clear hK
            go_simp
            obtain ⟨⟨a1, a2⟩, a3, a4⟩ := HKX.out
            go_simp
            clear a1 a2 a3 a4
            refine HKK.out _ _ ⟨trivial, fun hn => absurd (by decide) hn⟩ ?_
            clear HKK K
            change wpV _ _ _ _ _ _ _ (1 + 1) _ _ _
            refine wpV_one (k := 16) (by kernel_rfl) rfl (fun K hK => ?_)
            have HKK := Lib.hid hK
            clear hK
            go_simp
            refine HKK.out _ _ ⟨trivial, fun _ h => h⟩ ?_
            clear HKK K
            change wpV _ _ _ _ _ _ _ (0 + 1) _ _ _
            refine wpV_one (k := 17) (by kernel_rfl) rfl (fun K hK => ?_)
            have HKK := Lib.hid hK
            clear hK
            go_simp
            obtain ⟨⟨a1, a2⟩, a3, a4⟩ := HKY.out
            go_simp
            refine HKK.out _ _ ⟨trivial, fun hn => absurd (by decide) hn⟩ ?_
            clear HKK K
            refine wpV_done (by kernel_rfl) (NoPanic.normal ?_)
            have hdw : Below (putP (putP w1 g (j * 2) y) g ((j - 1) * 2) x).heap.size (putP (putP w1 g (j * 2) y) g ((j - 1) * 2) x) (putP (putP w1 g (j * 2) y) g ((j - 1) * 2) x).drew := (Below.refl _ _).drew
            have H3 : Hid (RowP ((((w1.setCell ⟨g, j * 2, none⟩ (.int .i64 y.1)).setCell ⟨g, j * 2 + 1, none⟩ (.int .i64 y.2)).setCell ⟨g, (j - 1) * 2, none⟩ (.int .i64 x.1)).setCell ⟨g, (j - 1) * 2 + 1, none⟩ (.int .i64 x.2)).drew base g n cap (P ++ U' ++ [x] ++ (y :: V) ++ A.drop (k + 1) ++ S)) := Lib.hid (own_later H2.out hdw)
            have HG3 : Hid (w.grownBy ((((w1.setCell ⟨g, j * 2, none⟩ (.int .i64 y.1)).setCell ⟨g, j * 2 + 1, none⟩ (.int .i64 y.2)).setCell ⟨g, (j - 1) * 2, none⟩ (.int .i64 x.1)).setCell ⟨g, (j - 1) * 2 + 1, none⟩ (.int .i64 x.2)).drew (some g)) := Lib.hid (grown_drew HG2.out)
            have HJ2 : Hid (j - 1 = p + U'.length) := Lib.hid (by have h := HJ.out; rw [List.length_append] at h; simp at h; omega)
            have HUV2 : Hid (U' ++ y :: V = M) := Lib.hid (by rw [← HUV.out]; simp)
            have HV2 : Hid (∀ v ∈ y :: V, x.1 < v.1) := Lib.hid (fun v hv => by
              rcases List.mem_cons.1 hv with rfl | hv
              · exact HXY.out
              · exact HV.out v hv)
            have HJI : Hid ((j : Int) - 1 = ((j - 1 : Nat) : Int)) := Lib.hid (by omega)
            clear hdw p1 p3 p5 p6 p7 p8 p9 p10
            go_wp2_with fail
            go_roundw
            case rel => exact ⟨j - 1, U', y :: V, by first | rw [HJI.out] | go_num, HJ2.out, by omega, HUV2.out, HV2.out, H3.out, HG3.out⟩
            case measure => simp [intOf]; omega
          · have hd3 : decide (dd < 0) = false := by simp only [decide_eq_false_iff_not]; exact hdz
            have hxy : ¬x.1 < y.1 := by have := HDD.out; omega
            have HSU : Hid (∀ u ∈ U' ++ [y], u.1 ≤ x.1) := Lib.hid (by
              have h := HST.out.srt
              rw [← HUV.out] at h
              intro a ha
              rcases List.mem_append.1 ha with ha | ha
              · have h1 := (h.left).mid a ha y (by simp)
                have h1' : a.1 ≤ y.1 := h1
                omega
              · rcases List.mem_singleton.1 ha with rfl
                omega)
            have HNX : Hid (Stb.Sts kO (A.take (k + 1)) ((U' ++ [y]) ++ [x] ++ V)) := Lib.hid (by
              rw [HTK.out]
              exact ins_next (by rw [HUV.out]; exact HST.out) HSU.out HV.out)
            have HRX : Hid (RowP w1 base g n cap (P ++ ((U' ++ [y]) ++ [x] ++ V) ++ A.drop (k + 1) ++ S)) := Lib.hid (by
              have h := HR1.out
              simpa using h)
            have HI2 : Hid ((i : Int) + 1 = ((p + (k + 1) : Nat) : Int)) := Lib.hid (by have := HI.out; omega)
            clear hxy p1 p3 p5 p6 p7 p8 p9 p10
            go_wp2_with fail
            go_roundw
            case rel => exact ⟨k + 1, _, by rw [HI2.out], by omega, .inl (HKQ.out.1 hik), HNX.out, HRX.out, HG1.out⟩
            case measure => simp [intOf]; omega
        · have hd2 : decide ((p : Int) < (j : Int)) = false := by simp only [decide_eq_false_iff_not]; omega
          have hU0 : U = [] := List.eq_nil_of_length_eq_zero (by have := HJ.out; omega)
          have HNX : Hid (Stb.Sts kO (A.take (k + 1)) (U ++ [x] ++ V)) := Lib.hid (by
            rw [HTK.out]
            exact ins_next (by rw [HUV.out]; exact HST.out) (by rw [hU0]; simp) HV.out)
          have HRX : Hid (RowP wv base g n cap (P ++ (U ++ [x] ++ V) ++ A.drop (k + 1) ++ S)) := Lib.hid (by
            have h := HR.out
            simpa using h)
          clear hU0
          go_upto_region 4 with fail
          go_quiet (fail)
          go_wp2_with fail
          have HI2 : Hid ((i : Int) + 1 = ((p + (k + 1) : Nat) : Int)) := Lib.hid (by have := HI.out; omega)
          have HRY := Lib.hid (RowP.later HRX.out (below_drewN (Below.refl _ _) nq))
          have HGY := Lib.hid (grown_later HG.out (below_drewN (Below.refl _ _) nq))
          go_roundw
          case rel => exact ⟨k + 1, _, by rw [HI2.out], by omega, .inl (HKQ.out.1 hik), HNX.out, HRY.out, HGY.out⟩
          case measure => simp [intOf]; omega
    · have hd1 : decide ((i : Int) < (q : Int)) = false := by simp only [decide_eq_false_iff_not]; omega
      have hd1' : decide (i < q) = false := by simp only [decide_eq_false_iff_not]; exact hik
      have HFT : Hid (A.take k = A ∧ A.drop k = []) := Lib.hid (by
        have : A.length ≤ k := by rw [HU.out]; have := HKQ.out; omega
        exact ⟨List.take_of_length_le this, List.drop_of_length_le this⟩)
      have HSF : Hid (Stb.Sts kO A M) := Lib.hid (by have h := HST.out; rwa [HFT.out.1] at h)
      have HRF : Hid (RowP wo base g n cap (P ++ M ++ S)) := Lib.hid (by
        have h := HR.out
        rw [HFT.out.2, List.append_nil] at h
        exact h)
      clear hik
      go_wp2_with fail
      go_end0
      exact ⟨rfl, ⟨M, HSF.out, HRF.out⟩, HG.out⟩
end Go.Proofs.Ytmnfefebbadflaa
