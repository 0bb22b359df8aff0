/- Is it just what the document says reached? It is, of what was added. -/
import Derived.Test.YtmnfefebbadflaaRAll
namespace Go.Proofs.Ytmnfefebbadflaa
open Go.RowKit
theorem cntM_add (f : Nat → Bool) (a : Nat) : ∀ b, cntM f (a + b) = cntM f a + cntM (fun k => f (a + k)) b
  | 0 => rfl
  | b + 1 => by
    show cntM f (a + b) + (if f (a + b) = true then 1 else 0) = cntM f a + (cntM (fun k => f (a + k)) b + if f (a + b) = true then 1 else 0)
    rw [cntM_add f a b]; omega
theorem cntM_congr {f g : Nat → Bool} : ∀ n, (∀ v, v < n → f v = g v) → cntM f n = cntM g n
  | 0, _ => rfl
  | n + 1, h => by simp only [cntM]; rw [cntM_congr n (fun v hv => h v (by omega)), h n (by omega)]
theorem cntM_none {f : Nat → Bool} : ∀ n, (∀ v, v < n → f v = false) → cntM f n = 0
  | 0, _ => rfl
  | n + 1, h => by simp only [cntM]; rw [cntM_none n (fun v hv => h v (by omega)), if_neg (by rw [h n (by omega)]; simp)]
theorem popN_cntM : ∀ (n y : Nat), popN n y = cntM (fun k => y.testBit k) n
  | 0, _ => rfl
  | n + 1, y => by
    rw [show n + 1 = 1 + n by omega, cntM_add, show 1 + n = n + 1 by omega]
    have e : cntM (fun k => y.testBit (1 + k)) n = popN n (y / 2) := by
      rw [popN_cntM n (y / 2)]
      exact cntM_congr n (fun v _ => by rw [show 1 + v = v + 1 by omega, Nat.testBit_succ])
    rw [e]
    simp only [popN, cntM, Nat.testBit_zero, decide_eq_true_eq]
    split <;> omega
theorem rowC_cntM (X : Nat → Nat → Nat) (i : Nat) : ∀ m, rowC (X i) m = cntM (hasX X i) (m * 64)
  | 0 => rfl
  | m + 1 => by
    rw [Nat.add_mul, Nat.one_mul, cntM_add, ← rowC_cntM X i m]
    simp only [rowC]
    rw [popN_cntM]
    congr 1
    refine cntM_congr 64 (fun v hv => ?_)
    unfold hasX
    rw [show (m * 64 + v) / 64 = m by omega, show (m * 64 + v) % 64 = v by omega]
def sumM (X : Nat → Nat → Nat) (n : Nat) : Nat → Nat
  | 0 => 0
  | k + 1 => sumM X n k + cntM (hasX X k) n
theorem sumM_le (X : Nat → Nat → Nat) (n : Nat) : ∀ k, sumM X n k ≤ k * n
  | 0 => by simp [sumM]
  | k + 1 => by have := sumM_le X n k; have := cntM_le (hasX X k) n; simp only [sumM, Nat.add_mul, Nat.one_mul]; omega
theorem sumM_cntC {n m : Nat} {X : Nat → Nat → Nat} {L : List (Nat × Nat)} (I : Inv n X L) (hm : n ≤ m * 64) : ∀ k, k ≤ n → sumM X n k = cntC X m k
  | 0, _ => rfl
  | k + 1, hk => by
    simp only [sumM, cntC]
    rw [sumM_cntC I hm k (by omega), rowC_cntM, show m * 64 = n + (m * 64 - n) by omega, cntM_add]
    have : cntM (fun v => hasX X k (n + v)) (m * 64 - n) = 0 := cntM_none _ (fun v _ => by
      cases h : hasX X k (n + v) with
      | false => rfl
      | true =>
        have := (((I.iff k (n + v) (by omega)).1 h).ok I.ok).2
        omega)
    omega
theorem has_from {n : Nat} {X : Nat → Nat → Nat} {L : List (Nat × Nat)} (I : Inv n X L) {u : Nat} (hu : u < n) (v : Nat) : fromM L u (n + 1) v = hasX X u v := by
  rw [Bool.eq_iff_iff, I.iff u v hu, fromM_way I.ok]
theorem AR.read {w : World} {B : Nat} {V : Value} {n : Nat} {g : Nat → Nat} {F : Nat → Nat → Bool} (h : AR w B V n n g F) : ∃ A cap, V = .slice A n cap ∧ (0 < n → ∃ gb, A = some ⟨gb, 0, none⟩ ∧ ∀ u, u < n → w.cell? ⟨gb, u, none⟩ = some (.slice (some ⟨g u, 0, none⟩) n n) ∧ ∀ v, v < n → w.cell? ⟨g u, v, none⟩ = some (.bool (F u v))) := by
  rcases h.row.2 with ⟨hV, hn⟩ | ⟨gb, cap, cur, hV, hg, hh, hle, hcap, hsz, ht⟩
  · have hn0 : n = 0 := hn
    exact ⟨none, 0, by rw [hV, hn0], fun h0 => absurd h0 (by omega)⟩
  · refine ⟨some ⟨gb, 0, none⟩, cap, hV, fun _ => ⟨gb, rfl, fun u hu => ⟨?_, fun v hv => (h.rows u hu).1.cell hv⟩⟩⟩
    have hr := h.row
    rw [hV] at hr
    have := hr.cellAt u (by omega)
    rw [this]
    simp [rowsB, hu]
set_option maxRecDepth 100000 in
set_option maxHeartbeats 1000000 in
theorem same_any {w : World} {rb : Nat} {A : Option Addr} {cap : Nat} {g c : Nat → Nat} {base n m : Nat} {X : Nat → Nat → Nat} {V : Value} {L : List (Nat × Nat)} (H : RR w rb A cap g c base n m X) (hX : Bnd n m X) (hm : n ≤ m * 64) (hm64 : m ≤ 64) (hn : n ≤ 1000)
    (I : Inv n X L) (hP : PA w V L) (hl : L.length ≤ 1000000) :
    Calls Try.prog 31 #[.pointer (some ⟨rb, 0, none⟩), .int .i64 n, V] w fun e w' => e = .returned (.bool true) ∧ Below w.heap.size w w' := by
  have HH := Lib.hid H
  have HX := Lib.hid hX
  have HI := Lib.hid I
  have HP := Lib.hid hP
  clear H hX I hP
  go_enter Try.func31, Try.ntmps31
  go_wp2_with fail
  refine (all_any HP.out n (by omega) HI.out.ok hl).mono ?_
  rintro e w1 ⟨V', g', rfl, AR1, B1⟩
  obtain ⟨A', cap', rfl, hA⟩ := AR1.read
  have HR1 := Lib.hid (HH.out.later B1)
  have HB1 := Lib.hid B1
  clear AR1 B1
  go_wp2_with fail
  go_loopw [7, 16] (fun t s wr => ∃ k : Nat, k ≤ n ∧ s = .int .i64 k ∧ t = .int .i64 (sumM X n k : Nat) ∧ wr = w1) (fun _ s _ => n - (intOf s).toNat)
  case atStart => exact ⟨0, by omega, rfl, rfl, rfl⟩
  case round =>
    obtain ⟨u, hu, rfl, rfl, hwr⟩ := hrel
    subst hwr
    by_cases hun : u < n
    · obtain ⟨gb, rfl, hc⟩ := hA (by omega)
      obtain ⟨c0, c1⟩ := hc u hun
      have hsl := sumM_le X n u
      have hsm : u * n ≤ 1000 * 1000 := Nat.mul_le_mul (by omega) hn
      have hsz : sumM X n u ≤ 1000000 := by omega
      have hud : decide ((u : Int) < n) = true := by simp; omega
      have HC := Lib.hid c1
      clear hc hA c1 hsl
      go_wp2_with fail
      go_loopw [7, 23] (fun t s wx => ∃ v : Nat, v ≤ n ∧ s = .int .i64 v ∧ t = .int .i64 (sumM X n u + cntM (hasX X u) v : Nat) ∧ wx = wr) (fun _ s _ => n - (intOf s).toNat)
      case atStart => exact ⟨0, by omega, rfl, by simp [cntM], rfl⟩
      case round =>
        obtain ⟨v, hv, rfl, rfl, hwr⟩ := hrel
        replace hwr := hwr.symm
        subst hwr
        by_cases hvn : v < n
        · have c1 := HC.out v hvn
          rw [has_from HI.out hun v] at c1
          have hvd : decide ((v : Int) < n) = true := by simp; omega
          have hcl := cntM_le (hasX X u) v
          have hcs : Hid (cntM (hasX X u) (v + 1) = cntM (hasX X u) v + if hasX X u v = true then 1 else 0) := rfl
          go_wp2_with fail
          refine (has_in HR1.out hm (by omega) u v hun hvn (HX.out u hun _ (by omega))).mono ?_
          obtain ⟨b0, hb0⟩ : ∃ b0, hasX X u v = b0 := ⟨_, rfl⟩
          rw [hb0] at c1 hcs ⊢
          clear hb0
          rintro e w' ⟨rfl, hw'⟩
          replace hw' := hw'.symm
          subst hw'
          cases b0
          · go_wp2_with fail
            exact ⟨⟨v + 1, by omega, by go_num, by rw [hcs.out]; simp, trivial⟩, by simp [intOf]; omega⟩
          · go_wp2_with fail
            exact ⟨⟨v + 1, by omega, by go_num, by rw [hcs.out]; simp; omega, trivial⟩, by simp [intOf]; omega⟩
        · obtain rfl : v = n := by omega
          have hcs : Hid (sumM X v (u + 1) = sumM X v u + cntM (hasX X u) v) := rfl
          go_wp2_with fail
          exact ⟨⟨u + 1, by omega, by go_num, by rw [hcs.out], trivial⟩, by simp [intOf]; omega⟩
    · obtain rfl : u = n := by omega
      have hfin := sumM_cntC HI.out hm u (by omega)
      have HF := Lib.hid hfin
      clear hfin hA
      go_wp2_with fail
      refine (count_any HR1.out HX.out hm64 (by omega)).mono ?_
      rw [← HF.out]
      rintro e w2 ⟨rfl, B2⟩
      have HB2 := Lib.hid (below_then HB1.out HB1.out.size B2)
      clear B2
      go_wp2_with fail
      go_ret
      exact ⟨ret_bool (by simp), HB2.out⟩
end Go.Proofs.Ytmnfefebbadflaa
