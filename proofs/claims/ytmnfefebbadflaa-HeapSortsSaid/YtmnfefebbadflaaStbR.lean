/- slices.rotateCmpFunc: two parts of a row in each other's place. -/
import Derived.Test.YtmnfefebbadflaaStbW
namespace Go.Proofs.Ytmnfefebbadflaa
open Go.RowKit
theorem swapRange_at {w : World} {base g n cap : Nat} {P X Md Y S L : List One} (h : RowP w base g n cap L) (hL : L = P ++ X ++ Md ++ Y ++ S) (k : Nat) (hx : X.length = k) (hy : Y.length = k) {a' b' k' : Int} (ha : a' = P.length) (hb : b' = (P.length + k + Md.length : Nat)) (hk : k' = k) (hn : n ≤ 1000000000) (F : Value) {M : List One} (hM : M = P ++ Y ++ Md ++ X ++ S) :
    Calls Try.prog 85 #[.slice (some ⟨g, 0, none⟩) n cap, .int .i64 a', .int .i64 b', .int .i64 k', F] w fun e w' => e = .returned (.tuple #[]) ∧ RowP w' base g n cap M ∧ w.grownBy w' (some g) := by
  subst ha hb hk hL hM
  exact swapRange_any h k P.length _ hx hy rfl rfl hn F
set_option maxRecDepth 100000 in
set_option maxHeartbeats 1000000 in
theorem rotate_any {w : World} {base g n cap : Nat} {P A B S : List One} (h : RowP w base g n cap (P ++ A ++ B ++ S)) (hA : 0 < A.length) (hB : 0 < B.length) {a' m' b' : Int} (ha : a' = P.length) (hm : m' = (P.length + A.length : Nat)) (hb : b' = (P.length + A.length + B.length : Nat)) (hn : n ≤ 1000000000) (F : Value) :
    Calls Try.prog 78 #[.slice (some ⟨g, 0, none⟩) n cap, .int .i64 a', .int .i64 m', .int .i64 b', F] w fun e w' => e = .returned (.tuple #[]) ∧ RowP w' base g n cap (P ++ B ++ A ++ S) ∧ w.grownBy w' (some g) := by
  have hlen := RowP.len h
  simp only [List.length_append] at hlen
  obtain ⟨p, hp⟩ : ∃ p, P.length = p := ⟨_, rfl⟩
  obtain ⟨u, hu⟩ : ∃ p, A.length = p := ⟨_, rfl⟩
  obtain ⟨v, hv⟩ : ∃ p, B.length = p := ⟨_, rfl⟩
  rw [hp, hu] at hm
  rw [hp, hu, hv] at hb hlen
  rw [hp] at ha
  rw [hu] at hA
  rw [hv] at hB
  obtain ⟨m, hme⟩ : ∃ m, p + u = m := ⟨_, rfl⟩
  obtain ⟨q, hqe⟩ : ∃ q, m + v = q := ⟨_, rfl⟩
  rw [hme] at hm hb
  rw [hqe] at hb
  subst ha hm hb
  have HME := Lib.hid hme
  have HQE := Lib.hid hqe
  have HH := Lib.hid h
  have HP := Lib.hid hp
  have HU := Lib.hid hu
  have HV := Lib.hid hv
  have hl : m + v ≤ n := by omega
  have hpm : p ≤ m := by omega
  have hmq : m ≤ q := by omega
  have hqn : q ≤ n := by omega
  clear h hp hu hv hlen hme hqe
  go_enter Try.func78, Try.ntmps78
  go_wp2_with fail
  go_loopw [10, 11] (fun qi qj wr => ∃ (E X Y G : List One) (i j : Nat), qi = .int .i64 i ∧ qj = .int .i64 j ∧ 0 < i ∧ 0 < j ∧ X.length = i ∧ Y.length = j ∧ p + E.length + i = m ∧ m + j ≤ n ∧ E ++ Y ++ X ++ G = B ++ A ∧ RowP wr base g n cap (P ++ E ++ X ++ Y ++ G ++ S) ∧ w.grownBy wr (some g)) (fun qi qj _ => (intOf qi).toNat + (intOf qj).toNat)
  case atStart => exact ⟨[], A, B, [], u, v, by have := HME.out; congr 1; omega, by have := HQE.out; congr 1; omega, hA, hB, HU.out, HV.out, by simpa using HME.out, by omega, by simp, by simpa using HH.out, ⟨rfl, rfl, rfl, Nat.le_refl _, fun _ _ _ => rfl⟩⟩
  case round =>
    obtain ⟨E, X, Y, G, i, j, rfl, rfl, hi, hj, hx, hy, he, hjn, hs, hrow, hg⟩ := hrel
    obtain ⟨wo, rfl⟩ : ∃ q : World, q = wr := ⟨_, rfl⟩
    have HX := Lib.hid hx
    have HY := Lib.hid hy
    have HE := Lib.hid he
    have HS := Lib.hid hs
    have HR := Lib.hid hrow
    have HG := Lib.hid hg
    have hiu : i ≤ m := by omega
    clear hx hy he hs hrow hg
    by_cases hij : i = j
    · have hd : ((i : Int) == (j : Int)) = true := by simp [hij]
      have hd2 : ((i : Int) != (j : Int)) = false := by simp [hij]
      have HIJ := Lib.hid hij
      clear hij
      go_wp2_with fail
      refine (swapRange_at (P := P ++ E) (X := X) (Md := []) (Y := Y) (S := G ++ S) HR.out (by simp) i HX.out (by rw [HY.out]; exact HIJ.out.symm) (by rw [List.length_append, HP.out]; have := HE.out; omega) (by rw [List.length_append, HP.out, List.length_nil]; have := HE.out; omega) rfl hn F (M := P ++ B ++ A ++ S) (by
        have e : P ++ B ++ A ++ S = P ++ (B ++ A) ++ S := by simp
        rw [e, ← HS.out]
        simp)).mono ?_
      rintro e w1 ⟨rfl, hr, hg2⟩
      have HR1 := Lib.hid hr
      have HG1 := Lib.hid (grownBy_trans HG.out hg2)
      clear hr hg2
      go_wp2_with fail
      go_end0
      exact ⟨rfl, HR1.out, HG1.out⟩
    · have hd : ((i : Int) == (j : Int)) = false := by simp; omega
      have hd2 : ((i : Int) != (j : Int)) = true := by simp; omega
      by_cases hgt : j < i
      · have hd3 : decide ((j : Int) < (i : Int)) = true := by simp only [decide_eq_true_eq]; omega
        have l1 : (X.take j).length = j := by rw [List.length_take, HX.out]; omega
        have l2 : (X.drop j).length = i - j := by rw [List.length_drop, HX.out]
        have L1 := Lib.hid l1
        have L2' := Lib.hid l2
        clear hij l1 l2
        go_wp2_with fail
        refine (swapRange_at (P := P ++ E) (X := X.take j) (Md := X.drop j) (Y := Y) (S := G ++ S) HR.out (by rw [show P ++ E ++ X.take j ++ X.drop j = P ++ E ++ X by rw [List.append_assoc, List.take_append_drop]]; simp) j L1.out HY.out (by rw [List.length_append, HP.out]; have := HE.out; omega) (by rw [List.length_append, HP.out, L2'.out]; have := HE.out; omega) rfl hn F rfl).mono ?_
        rintro e w1 ⟨rfl, hr, hg2⟩
        have HR1 : Hid (RowP w1 base g n cap (P ++ (E ++ Y) ++ X.drop j ++ X.take j ++ G ++ S)) := Lib.hid (by
          have e : P ++ (E ++ Y) ++ X.drop j ++ X.take j ++ G ++ S = P ++ E ++ Y ++ X.drop j ++ X.take j ++ (G ++ S) := by simp
          rw [e]; exact hr)
        have HS1 : Hid (E ++ Y ++ X.take j ++ X.drop j ++ G = B ++ A) := Lib.hid (by
          rw [← HS.out]
          have e : X.take j ++ X.drop j = X := List.take_append_drop _ _
          rw [List.append_assoc (E ++ Y), e])
        have HG1 := Lib.hid (grownBy_trans HG.out hg2)
        have HE1 : Hid (p + (E ++ Y).length + (i - j) = m) := Lib.hid (by rw [List.length_append, HY.out]; have := HE.out; omega)
        clear hr hg2
        go_wp2_with fail
        go_roundw
        case rel =>
          exact ⟨E ++ Y, X.drop j, X.take j, G, i - j, j, by first | go_num | (congr 1; omega), rfl, by omega, hj, L2'.out, L1.out, HE1.out, hjn, HS1.out, HR1.out, HG1.out⟩
        case measure => simp [intOf]; omega
      · have hd3 : decide ((j : Int) < (i : Int)) = false := by simp only [decide_eq_false_iff_not]; omega
        have l1 : (Y.take (j - i)).length = j - i := by rw [List.length_take, HY.out]; omega
        have l2 : (Y.drop (j - i)).length = i := by rw [List.length_drop, HY.out]; omega
        have L1 := Lib.hid l1
        have L2' := Lib.hid l2
        have hlt : i < j := by omega
        clear hij l1 l2 hgt
        go_wp2_with fail
        refine (swapRange_at (P := P ++ E) (X := X) (Md := Y.take (j - i)) (Y := Y.drop (j - i)) (S := G ++ S) HR.out (by rw [show P ++ E ++ X ++ Y.take (j - i) ++ Y.drop (j - i) = P ++ E ++ X ++ Y by rw [List.append_assoc (P ++ E ++ X), List.take_append_drop]]; simp) i HX.out L2'.out (by rw [List.length_append, HP.out]; have := HE.out; omega) (by rw [List.length_append, HP.out, L1.out]; have := HE.out; omega) rfl hn F rfl).mono ?_
        rintro e w1 ⟨rfl, hr, hg2⟩
        have HR1 : Hid (RowP w1 base g n cap (P ++ E ++ Y.drop (j - i) ++ Y.take (j - i) ++ (X ++ G) ++ S)) := Lib.hid (by
          have e : P ++ E ++ Y.drop (j - i) ++ Y.take (j - i) ++ (X ++ G) ++ S = P ++ E ++ Y.drop (j - i) ++ Y.take (j - i) ++ X ++ (G ++ S) := by simp
          rw [e]; exact hr)
        have HS1 : Hid (E ++ Y.take (j - i) ++ Y.drop (j - i) ++ (X ++ G) = B ++ A) := Lib.hid (by
          rw [← HS.out]
          have e : Y.take (j - i) ++ Y.drop (j - i) = Y := List.take_append_drop _ _
          rw [List.append_assoc E, e]
          simp)
        have HG1 := Lib.hid (grownBy_trans HG.out hg2)
        have HE1 : Hid (p + E.length + i = m) := HE
        clear hr hg2
        go_wp2_with fail
        go_roundw
        case rel => exact ⟨E, Y.drop (j - i), Y.take (j - i), X ++ G, i, j - i, rfl, by first | go_num | (congr 1; omega), hi, by omega, L2'.out, L1.out, HE1.out, by omega, HS1.out, HR1.out, HG1.out⟩
        case measure => simp [intOf]; omega
end Go.Proofs.Ytmnfefebbadflaa
