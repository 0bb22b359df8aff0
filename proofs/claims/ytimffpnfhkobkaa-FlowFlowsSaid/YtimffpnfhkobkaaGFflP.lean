/- Something sent another way: what stays a flow. Pairs of bytes. No program in sight. -/
import Derived.Test.YtimffpnfhkobkaaMgG18
import Derived.Test.YtimffpnfhkobkaaMgG17
namespace Go.Proofs.Ytimffpnfhkobkaa
open Go.RowKit
abbrev Duo := Nat × Nat
def encD (t : Duo) : List Value := [.int .u8 (t.1 : Nat), .int .u8 (t.2 : Nat)]
def SmallD (T : List Duo) : Prop := ∀ t ∈ T, t.1 ≤ 255 ∧ t.2 ≤ 255
abbrev Duos (w : World) (V : Value) (T : List Duo) : Prop := Sl 2 encD w V T
theorem Rd.duos {H : Type} {enc : TypeId × Value → H} {W : World} {base : Nat} {A : Option Addr} {len cap : Nat} (R : Rd enc Try.prog W base (fun _ => true) true 56 [.slice A len cap]) : ∃ T : List Duo, len = T.length ∧ Duos W (.slice A len cap) T ∧ SmallD T ∧ T.length ≤ 1000000000000000 := by
  obtain ⟨L, h1, h2, h3, h4, _⟩ := Rd.sl encD (fun t => t.1 ≤ 255 ∧ t.2 ≤ 255) (0, 0) R Try.underlying56 (sz := 2) (by_ := 2) (by kernel_rfl) (by kernel_rfl) (k := 3) (ps := [(0, 5), (1, 5)]) (by kernel_rfl) ⟨5, by simp⟩ (fun cell hc => by
    obtain ⟨c, e0, r0⟩ := hc (0, 5) (by simp)
    obtain ⟨n0, k0, w0⟩ := r0.int Try.underlying5
    cases k0
    obtain ⟨c, e1, r1⟩ := hc (1, 5) (by simp)
    obtain ⟨n1, k1, w1⟩ := r1.int Try.underlying5
    cases k1
    obtain ⟨m0, rfl, l0⟩ := byte_of w0
    obtain ⟨m1, rfl, l1⟩ := byte_of w1
    refine ⟨(m0, m1), ⟨by simp only; omega, by simp only; omega⟩, fun r v hv => ?_⟩
    match r, hv with
    | 0, hv => simp [encD] at hv; subst hv; exact e0
    | 1, hv => simp [encD] at hv; subst hv; exact e1)
  exact ⟨L, h1, h3, h2, by omega⟩
/-- A flow, as a row of numbers. -/
structure Ffl (n : Nat) (L : List Arc) (F : Nat → Int) (B : Int) : Prop where
  nn : ∀ v, v < L.length → 0 ≤ F v ∧ F v ≤ B
  bal : ∀ u, u < n → nf (gfL n L) (wtL L) u L.length = nf (gfL n L) F u L.length
theorem Ffl.begin {n : Nat} {L : List Arc} (k : Okg n L) : Ffl n L (wtL L) 1000000 := ⟨fun _ hv => (k.at_ hv).2.2.2, fun _ _ => rfl⟩
theorem Ffl.more {n : Nat} {L : List Arc} {F : Nat → Int} {B B' : Int} (h : Ffl n L F B) (hB : B ≤ B') : Ffl n L F B' := ⟨fun v hv => by have := h.nn v hv; omega, h.bal⟩
/-- A unit of j goes by i and k. -/
def via (F : Nat → Int) (i k j : Nat) : Nat → Int := upd (upd (upd F j (F j - 1)) i (upd F j (F j - 1) i + 1)) k (upd (upd F j (F j - 1)) i (upd F j (F j - 1) i + 1) k + 1)
theorem Ffl.step {n : Nat} {L : List Arc} {F : Nat → Int} {B : Int} (h : Ffl n L F B) {i k j : Nat} (hi : i < L.length) (hk : k < L.length) (hj : j < L.length) (hup : ∀ a, a < L.length → frL L a < ttL L a)
    (hp : 0 < F j) (h1 : frL L i = frL L j) (h2 : ttL L k = ttL L j) (h3 : ttL L i = frL L k) (hjk : j ≠ k) : Ffl n L (via F i k j) (B + 1) := by
  have hik : i ≠ k := fun e => by subst e; have := hup i hi; omega
  refine ⟨fun v hv => ?_, fun u hu => ?_⟩
  · have a1 := h.nn v hv
    have a2 := h.nn i hi
    have a3 := h.nn k hk
    have a4 := h.nn j hj
    unfold via upd
    repeat' split
    all_goals first | omega | (subst_vars; omega)
  · rw [h.bal u hu]
    unfold via
    obtain ⟨F1, e1⟩ : ∃ F1, upd F j (F j - 1) = F1 := ⟨_, rfl⟩
    rw [e1]
    obtain ⟨F2, e2⟩ : ∃ F2, upd F1 i (F1 i + 1) = F2 := ⟨_, rfl⟩
    rw [e2]
    have b3 := nf_upd (G := gfL n L) (g := F2) (v := u) (a := k) (k := 1) (m := L.length) hk
    have b2 := nf_upd (G := gfL n L) (g := F1) (v := u) (a := i) (k := 1) (m := L.length) hi
    have b1 := nf_upd (G := gfL n L) (g := F) (v := u) (a := j) (k := -1) (m := L.length) hj
    rw [e2] at b2
    have e1' : upd F j (F j + -1) = F1 := by rw [← e1]; rfl
    rw [e1'] at b1
    have g1 : (gfL n L).fr i = (gfL n L).fr j := h1
    have g2 : (gfL n L).tt k = (gfL n L).tt j := h2
    have g3 : (gfL n L).tt i = (gfL n L).fr k := h3
    rw [b3, b2, b1, g1, g2, g3]
    unfold ind
    repeat' split
    all_goals omega
theorem Ffl.right {n : Nat} {L : List Arc} {F : Nat → Int} {B : Int} (h : Ffl n L F B) : rightF n L ((List.range L.length).map F) = true := by
  refine rightF_iff.2 ⟨by simp, fun i hi => ?_, fun u hu => ?_⟩
  · rw [ff_row F hi]; exact (h.nn i hi).1
  · rw [h.bal u hu]
    exact nf_congr (fun i hi => (ff_row F hi).symm)
theorem Ffl.sum {n : Nat} {L : List Arc} {F : Nat → Int} {B : Int} (h : Ffl n L F B) (k : Okg n L) {xs fs : List Int} {ways : Nat} (S : Sol n L xs fs ways) : sumN (ff ((List.range L.length).map F)) ((List.range L.length).map F).length ≤ costL xs L := by
  have e : sumN (ff ((List.range L.length).map F)) ((List.range L.length).map F).length = sumN F L.length := by
    rw [List.length_map, List.length_range]
    exact sumN_congr (fun i hi => ff_row F hi)
  rw [e]
  exact flow_le k (fun i hi => (h.nn i hi).1) h.bal S.fit
end Go.Proofs.Ytimffpnfhkobkaa
