/- Add: an arc between two nodes. -/
import Derived.Test.YtmnfefebbadflaaRClone
namespace Go.Proofs.Ytmnfefebbadflaa
open Go.RowKit
def moreX (X : Nat → Nat → Nat) (v : Nat) : Nat → Nat := fun j => if j = v / 64 then X v j ||| 2 ^ (v % 64) else X v j
def hitX (X : Nat → Nat → Nat) (u i : Nat) : Bool := i == u || hasX X i u
/-- The first k rows done; of row k the first j words. -/
def addJ (X : Nat → Nat → Nat) (u v k j : Nat) : Nat → Nat → Nat := fun a b => if (a < k ∨ a = k ∧ b < j) ∧ hitX X u a = true then X a b ||| moreX X v b else X a b
def addX (n : Nat) (X : Nat → Nat → Nat) (u v : Nat) : Nat → Nat → Nat := if hasX X u v = true then X else addJ X u v n 0
def Bnd (n m : Nat) (X : Nat → Nat → Nat) : Prop := ∀ i, i < n → ∀ j, j < m → X i j < 2 ^ 64
theorem more_lt {n m : Nat} {X : Nat → Nat → Nat} (h : Bnd n m X) {v : Nat} (hv : v < n) {j : Nat} (hj : j < m) : moreX X v j < 2 ^ 64 := by
  unfold moreX
  split
  · exact Nat.or_lt_two_pow (h v hv j hj) (Nat.pow_lt_pow_right (by omega) (by omega))
  · exact h v hv j hj
theorem addJ_bnd {n m : Nat} {X : Nat → Nat → Nat} (h : Bnd n m X) {u v : Nat} (hv : v < n) (k j : Nat) : Bnd n m (addJ X u v k j) := by
  intro a ha b hb
  unfold addJ
  split
  · exact Nat.or_lt_two_pow (h a ha b hb) (more_lt h hv hb)
  · exact h a ha b hb
theorem addX_bnd {n m : Nat} {X : Nat → Nat → Nat} (h : Bnd n m X) (u : Nat) {v : Nat} (hv : v < n) : Bnd n m (addX n X u v) := by
  unfold addX
  split
  · exact h
  · exact addJ_bnd h hv n 0
theorem RR.read {w : World} {rb gb : Nat} {cap : Nat} {g c : Nat → Nat} {base n m : Nat} {X : Nat → Nat → Nat} (H : RR w rb (some ⟨gb, 0, none⟩) cap g c base n m X) {u q : Nat} (hu : u < n) (hq : q < m) :
    w.cell? ⟨rb, 0, none⟩ = some (.slice (some ⟨gb, 0, none⟩) n cap) ∧ w.cell? ⟨gb, u, none⟩ = some (.slice (some ⟨g u, 0, none⟩) m (c u)) ∧ Cl w ⟨g u, q, none⟩ (.int .u64 (X u q : Nat)) := by
  obtain ⟨gb', z, f, hA, hb, hz, hr, hf⟩ := H.top (by omega)
  cases hA
  refine ⟨(Cl.of_block H.blk (j := 0) rfl).cell, ?_, (H.rows u hu).1.cl hq⟩
  rw [hr.cell (i := u) (by omega), (hf u hu).1]
theorem orbit64 (x r : Nat) (hx : x < 2 ^ 64) (hr : r < 64) : bits .or .u64 (x : Int) (IntKind.u64.wrap (2 ^ r)) = ((x ||| 2 ^ r : Nat) : Int) := by
  have h1 : (2 : Nat) ^ r < 2 ^ 64 := Nat.pow_lt_pow_right (by omega) hr
  have h2 : ((2 : Int) ^ r) = ((2 ^ r : Nat) : Int) := by norm_cast
  rw [h2, wraps_u64 _ (Int.natCast_nonneg _) (by exact_mod_cast h1)]
  exact or64 x (2 ^ r) hx h1
/-- Row k with its first j words done: what is read there. -/
theorem addJ_at (X : Nat → Nat → Nat) (u v k : Nat) {j : Nat} : addJ X u v k j k j = X k j := by
  unfold addJ; rw [if_neg (by rintro ⟨h, _⟩; omega)]
theorem addJ_start (X : Nat → Nat → Nat) (u v : Nat) : addJ X u v 0 0 = X := by
  funext a b; unfold addJ; rw [if_neg (by rintro ⟨h, _⟩; omega)]
theorem has_addJ (X : Nat → Nat → Nat) (u v k : Nat) : hasX (addJ X u v k 0) k u = hasX X k u := by
  unfold hasX addJ; rw [if_neg (by rintro ⟨h, _⟩; omega)]
theorem addJ_skip (X : Nat → Nat → Nat) (u v k : Nat) (h : hitX X u k = false) : addJ X u v (k + 1) 0 = addJ X u v k 0 := by
  funext a b; unfold addJ
  by_cases e : a = k
  · subst e; rw [if_neg (by rintro ⟨_, h'⟩; rw [h] at h'; cases h'), if_neg (by rintro ⟨_, h'⟩; rw [h] at h'; cases h')]
  · have : (a < k + 1 ∨ a = k + 1 ∧ b < 0) ↔ (a < k ∨ a = k ∧ b < 0) := by omega
    simp only [this]
theorem addJ_step (X : Nat → Nat → Nat) (u v k j : Nat) (h : hitX X u k = true) : (fun a b => if a = k ∧ b = j then X k j ||| moreX X v j else addJ X u v k j a b) = addJ X u v k (j + 1) := by
  funext a b
  by_cases e : a = k ∧ b = j
  · obtain ⟨rfl, rfl⟩ := e
    rw [if_pos ⟨rfl, rfl⟩]; unfold addJ; rw [if_pos ⟨by omega, h⟩]
  · rw [if_neg e]; unfold addJ
    have : (a < k ∨ a = k ∧ b < j + 1) ↔ (a < k ∨ a = k ∧ b < j) := by omega
    simp only [this]
theorem addJ_row {X : Nat → Nat → Nat} {u v k m : Nat} : ∀ i b, b < m → addJ X u v k m i b = addJ X u v (k + 1) 0 i b := by
  intro i b hb; unfold addJ
  have : (i < k ∨ i = k ∧ b < m) ↔ (i < k + 1 ∨ i = k + 1 ∧ b < 0) := by omega
  simp only [this]
set_option maxRecDepth 100000 in
set_option maxHeartbeats 1000000 in
theorem add_in {w : World} {rb : Nat} {A : Option Addr} {cap : Nat} {g c : Nat → Nat} {base n m : Nat} {X : Nat → Nat → Nat} (H : RR w rb A cap g c base n m X) (hX : Bnd n m X) (hm : n ≤ m * 64) (hm64 : m ≤ 64) (hn : n ≤ 4096) (u v : Nat) (hu : u < n) (hv : v < n) :
    Calls Try.prog 27 #[.pointer (some ⟨rb, 0, none⟩), .int .i64 u, .int .i64 v] w fun e w' => e = .returned (.int .i64 0) ∧ RR w' rb A cap g c base n m (addX n X u v) ∧ Chg (fun b => ∃ i, i < n ∧ b = g i) w w' := by
  obtain ⟨gb, _, _, rfl, _⟩ := H.top (by omega)
  obtain ⟨c0, c1, c2⟩ := H.read hv (q := v / 64) (by omega)
  have hg : ∀ i, i < n → g i < w.heap.size := fun i hi => (H.rows i hi).1.lt
  have hrow := (H.rows v hv).1
  have HH := Lib.hid H
  have HX := Lib.hid hX
  have HG := Lib.hid hg
  have HW := Lib.hid hrow
  clear H hX hg hrow c2
  go_enter Try.func27, Try.ntmps27
  go_wp2_with fail
  refine (is_any HH.out _).mono ?_
  rintro e w' ⟨rfl, hw'⟩
  replace hw' := hw'.symm
  subst hw'
  have hu1 : (decide (0 ≤ (u : Int)) && decide ((u : Int) < n)) = true := by simp; omega
  rw [hu1]
  go_wp2_with fail
  refine (is_any HH.out _).mono ?_
  rintro e w' ⟨rfl, hw'⟩
  replace hw' := hw'.symm
  subst hw'
  have hv1 : (decide (0 ≤ (v : Int)) && decide ((v : Int) < n)) = true := by simp; omega
  rw [hv1]
  go_wp2_with fail
  refine (has_in HH.out hm hn u v hu hv (HX.out u hu _ (by omega))).mono ?_
  rintro e w' ⟨rfl, hw'⟩
  replace hw' := hw'.symm
  subst hw'
  obtain ⟨hs, hsE⟩ : ∃ hs, hasX X u v = hs := ⟨_, rfl⟩
  have HS := Lib.hid hsE
  rw [hsE]
  clear hsE hu1 hv1
  cases hs
  · go_wp2_with fail
    refine (clone_any HW.out (by omega) hm64).mono ?_
    rintro e w1 ⟨gm, capm, rfl, U1, hgm, B1⟩
    obtain ⟨q, hq⟩ : ∃ q, q = v / 64 := ⟨_, rfl⟩
    obtain ⟨r, hr'⟩ : ∃ r, r = v % 64 := ⟨_, rfl⟩
    have hqm : q < m := by omega
    have hr1 : r < 64 := by omega
    have hq1 : q < 64 := by omega
    have t1 : (v : Int).tdiv 64 = q := by rw [Int.tdiv_eq_ediv_of_nonneg (by omega)]; omega
    have t2 : (v : Int).tmod 64 = r := by rw [Int.tmod_eq_emod_of_nonneg (by omega)]; omega
    have x0 := (U1.cl hqm).cell
    have x1 := (U1.cl hqm).free
    have HU1 := Lib.hid U1
    have HB1 := Lib.hid B1
    have HQ := Lib.hid hq
    have HRr := Lib.hid hr'
    obtain ⟨x, hx⟩ : ∃ x, x = X v q := ⟨_, rfl⟩
    have hxb : x < 2 ^ 64 := by rw [hx]; exact HX.out v hv q hqm
    rw [← hx] at x0
    have HXQ := Lib.hid hx
    clear hx U1 B1 hq hr'
    go_wp2_with fail
    go_region
    rw [orbit64 x r hxb hr1]
    have U2 : URow (w1.setCell ⟨gm, q, none⟩ (.int .u64 (x ||| 2 ^ r : Nat))).drew gm m (moreX X v) := by
      refine ((HU1.out.set q (x ||| 2 ^ r)).congr (fun j _ => ?_))
      rw [HXQ.out, HRr.out]
      unfold moreX
      rw [← HQ.out]
      by_cases e : j = q
      · subst e; simp
      · simp [e]
    have R2 : RR (w1.setCell ⟨gm, q, none⟩ (.int .u64 (x ||| 2 ^ r : Nat))).drew rb (some ⟨gb, 0, none⟩) cap g c base n m X := (HH.out.later HB1.out).chg (w' := (w1.setCell ⟨gm, q, none⟩ (.int .u64 (x ||| 2 ^ r : Nat))).drew) (S := fun b => b = gm) (((Chg.refl (fun b => b = gm) w1).setCell (p := ⟨gm, q, none⟩) (fun _ => rfl) _).drew) (by have := HH.out.lt; omega) (fun i hi => by have := HG.out i hi; omega) (fun a ha => by cases ha; have := World.block_lt_of_cell? _ _ c1; simp at this; simp; omega)
    have C2 : Chg (fun b => ∃ i, i < n ∧ b = g i) w (w1.setCell ⟨gm, q, none⟩ (.int .u64 (x ||| 2 ^ r : Nat))).drew := by
      refine ((chg_below HB1.out _).setCell (p := ⟨gm, q, none⟩) (fun h => absurd h (by simp; omega)) _).drew
    generalize (w1.setCell ⟨gm, q, none⟩ (.int .u64 (x ||| 2 ^ r : Nat))).drew = w2 at *
    have HU2 := Lib.hid U2
    have HR2 := Lib.hid R2
    have HC2 := Lib.hid C2
    obtain ⟨d0, -, -⟩ := R2.read hv hqm
    clear U2 R2 C2 x0 x1 t1 t2
    go_wp2_with fail
    go_loopw [53] (fun s wr => ∃ k : Nat, k ≤ n ∧ s = .int .i64 k ∧ RR wr rb (some ⟨gb, 0, none⟩) cap g c base n m (addJ X u v k 0) ∧ URow wr gm m (moreX X v) ∧ Chg (fun b => ∃ i, i < n ∧ b = g i) w wr) (fun s _ => n - (intOf s).toNat)
    case atStart => exact ⟨0, by omega, rfl, by rw [addJ_start]; exact HR2.out, HU2.out, HC2.out⟩
    case round =>
      clear d0
      obtain ⟨k, hk, rfl, Rk, Uk, Ck⟩ := hrel
      have HRk := Lib.hid Rk
      have HUk := Lib.hid Uk
      have HCk := Lib.hid Ck
      clear Rk Uk Ck
      by_cases hkn : k < n
      · by_cases hku : k = u
        · have hit : hitX X u k = true := by simp [hitX, hku]
          have HI := Lib.hid hit
          have hku' : ((k : Int) != u) = false := by simp [hku]
          clear hit hku
          go_wp2_with fail
          go_loopw [68] (fun s wi => ∃ j : Nat, j ≤ m ∧ s = .int .i64 j ∧ RR wi rb (some ⟨gb, 0, none⟩) cap g c base n m (addJ X u v k j) ∧ URow wi gm m (moreX X v) ∧ Chg (fun b => ∃ i, i < n ∧ b = g i) w wi) (fun s _ => m - (intOf s).toNat)
          case atStart => exact ⟨0, by omega, rfl, HRk.out, HUk.out, HCk.out⟩
          case round =>
            obtain ⟨j, hj, rfl, Rj, Uj, Cj⟩ := hrel
            by_cases hjm : j < m
            · obtain ⟨a0, a1, a2⟩ := Rj.read hkn hjm
              have a2c := a2.cell
              have a2f := a2.free
              rw [addJ_at] at a2c
              have b0 := (Uj.cl hjm).cell
              have ho := or64 (X k j) (moreX X v j) (HX.out k hkn j hjm) (more_lt HX.out hv hjm)
              have R' := Rj.set k hkn j (X k j ||| moreX X v j)
              rw [addJ_step X u v k j HI.out] at R'
              have U' := Uj.of_block (w' := wr.setCell ⟨g k, j, none⟩ (.int .u64 (X k j ||| moreX X v j : Nat))) (Below.heap_setCell _ _ _ _ (by have := HG.out k hkn; simp; omega))
              have C' := Cj.setCell (p := ⟨g k, j, none⟩) (fun _ => ⟨k, hkn, rfl⟩) (.int .u64 (X k j ||| moreX X v j : Nat))
              have HR' := Lib.hid R'
              have HU' := Lib.hid U'
              have HC' := Lib.hid C'
              clear Rj Uj Cj R' U' C' a2
              go_wp2_with fail
              exact ⟨⟨j + 1, by omega, by go_num, HR'.out, HU'.out, HC'.out⟩, by simp [intOf]; omega⟩
            · obtain rfl : j = m := by omega
              have R' := Rj.congr (Y := addJ X u v (k + 1) 0) (fun i _ b hb => addJ_row i b hb)
              go_wp2_with fail
              exact ⟨⟨k + 1, by omega, by go_num, R', Uj, Cj⟩, by simp [intOf]; omega⟩
        · have hku' : ((k : Int) != u) = true := by simp; omega
          clear hku
          go_wp2_with fail
          refine (has_in HRk.out hm hn k u hkn hu (addJ_bnd HX.out hv k 0 k hkn _ (by omega))).mono ?_
          rintro e w' ⟨rfl, hw'⟩
          replace hw' := hw'.symm
          subst hw'
          rw [has_addJ]
          obtain ⟨hb, hbE⟩ : ∃ hb, hasX X k u = hb := ⟨_, rfl⟩
          have HBE := Lib.hid hbE
          rw [hbE]
          clear hbE
          cases hb
          · have hit : hitX X u k = false := by have := HBE.out; simp at hku'; simp [hitX, this]; omega
            have HI := Lib.hid hit
            clear hit
            go_wp2_with fail
            exact ⟨⟨k + 1, by omega, by go_num, by rw [addJ_skip X u v k HI.out]; exact HRk.out, HUk.out, HCk.out⟩, by simp [intOf]; omega⟩
          · have hit : hitX X u k = true := by have := HBE.out; simp [hitX, this]
            have HI := Lib.hid hit
            clear hit
            go_wp2_with fail
            go_loopw [68] (fun s wi => ∃ j : Nat, j ≤ m ∧ s = .int .i64 j ∧ RR wi rb (some ⟨gb, 0, none⟩) cap g c base n m (addJ X u v k j) ∧ URow wi gm m (moreX X v) ∧ Chg (fun b => ∃ i, i < n ∧ b = g i) w wi) (fun s _ => m - (intOf s).toNat)
            case atStart => exact ⟨0, by omega, rfl, HRk.out, HUk.out, HCk.out⟩
            case round =>
              obtain ⟨j, hj, rfl, Rj, Uj, Cj⟩ := hrel
              by_cases hjm : j < m
              · obtain ⟨a0, a1, a2⟩ := Rj.read hkn hjm
                have a2c := a2.cell
                have a2f := a2.free
                rw [addJ_at] at a2c
                have b0 := (Uj.cl hjm).cell
                have ho := or64 (X k j) (moreX X v j) (HX.out k hkn j hjm) (more_lt HX.out hv hjm)
                have R' := Rj.set k hkn j (X k j ||| moreX X v j)
                rw [addJ_step X u v k j HI.out] at R'
                have U' := Uj.of_block (w' := wr.setCell ⟨g k, j, none⟩ (.int .u64 (X k j ||| moreX X v j : Nat))) (Below.heap_setCell _ _ _ _ (by have := HG.out k hkn; simp; omega))
                have C' := Cj.setCell (p := ⟨g k, j, none⟩) (fun _ => ⟨k, hkn, rfl⟩) (.int .u64 (X k j ||| moreX X v j : Nat))
                have HR' := Lib.hid R'
                have HU' := Lib.hid U'
                have HC' := Lib.hid C'
                clear Rj Uj Cj R' U' C' a2
                go_wp2_with fail
                exact ⟨⟨j + 1, by omega, by go_num, HR'.out, HU'.out, HC'.out⟩, by simp [intOf]; omega⟩
              · obtain rfl : j = m := by omega
                have R' := Rj.congr (Y := addJ X u v (k + 1) 0) (fun i _ b hb => addJ_row i b hb)
                go_wp2_with fail
                exact ⟨⟨k + 1, by omega, by go_num, R', Uj, Cj⟩, by simp [intOf]; omega⟩
      · obtain rfl : k = n := by omega
        go_wp2_with fail
        go_ret
        exact ⟨rfl, by rw [addX, if_neg (by rw [HS.out]; simp)]; exact HRk.out, HCk.out⟩
  · go_wp2_with fail
    go_ret
    exact ⟨rfl, by rw [addX, if_pos HS.out]; exact HH.out, Chg.refl _ _⟩
end Go.Proofs.Ytmnfefebbadflaa
