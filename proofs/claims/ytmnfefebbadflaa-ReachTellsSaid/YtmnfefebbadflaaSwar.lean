/- Bits counted in words: plain laws. -/
import Derived.Test.YtmnfefebbadflaaHas
namespace Go.Proofs.Ytmnfefebbadflaa
def popN : Nat → Nat → Nat
  | 0, _ => 0
  | n + 1, x => x % 2 + popN n (x / 2)
def rep (b : Nat) : Nat → Nat
  | 0 => 0
  | n + 1 => b + 256 * rep b n
theorem and_cat (a b c d : Nat) (ha : a < 256) (hc : c < 256) : (a + 256 * b) &&& (c + 256 * d) = (a &&& c) + 256 * (b &&& d) := by
  have h1 : a &&& c < 256 := Nat.lt_of_le_of_lt Nat.and_le_left ha
  have e : ∀ x y, x < 256 → x + 256 * y = 2 ^ 8 * y + x := fun x y _ => by omega
  rw [e a b ha, e c d hc, e _ _ h1]
  apply Nat.eq_of_testBit_eq
  intro i
  rw [Nat.testBit_and, Nat.testBit_two_pow_mul_add _ (by omega : a < 2 ^ 8), Nat.testBit_two_pow_mul_add _ (by omega : c < 2 ^ 8), Nat.testBit_two_pow_mul_add _ (by omega : (a &&& c) < 2 ^ 8)]
  split <;> rw [Nat.testBit_and]
def s1 (n x : Nat) : Nat := (x / 2 &&& rep 85 n) + (x &&& rep 85 n)
def s2 (n x : Nat) : Nat := (x / 4 &&& rep 51 n) + (x &&& rep 51 n)
def s3 (n x : Nat) : Nat := (x / 16 + x) &&& rep 15 n
theorem b1 : ∀ lo : Fin 256, ∀ h : Fin 2, (lo.val / 2 + 128 * h.val) &&& 85 = lo.val / 2 &&& 85 := by decide +kernel
theorem b2 : ∀ lo : Fin 256, ∀ h : Fin 4, (lo.val / 4 + 64 * h.val) &&& 51 = lo.val / 4 &&& 51 := by decide +kernel
def t1 (lo : Nat) : Nat := (lo / 2 &&& 85) + (lo &&& 85)
def t2 (lo : Nat) : Nat := (lo / 4 &&& 51) + (lo &&& 51)
theorem s1_cat (n lo hi : Nat) (h : lo < 256) : s1 (n + 1) (lo + 256 * hi) = t1 lo + 256 * s1 n hi := by
  unfold s1 t1
  have e : (lo + 256 * hi) / 2 = (lo / 2 + 128 * (hi % 2)) + 256 * (hi / 2) := by omega
  rw [e, rep, and_cat _ _ _ _ (by omega) (by omega), and_cat _ _ _ _ h (by omega)]
  have := b1 ⟨lo, h⟩ ⟨hi % 2, by omega⟩
  simp only at this
  rw [this]; omega
theorem s2_cat (n lo hi : Nat) (h : lo < 256) : s2 (n + 1) (lo + 256 * hi) = t2 lo + 256 * s2 n hi := by
  unfold s2 t2
  have e : (lo + 256 * hi) / 4 = (lo / 4 + 64 * (hi % 4)) + 256 * (hi / 4) := by omega
  rw [e, rep, and_cat _ _ _ _ (by omega) (by omega), and_cat _ _ _ _ h (by omega)]
  have := b2 ⟨lo, h⟩ ⟨hi % 4, by omega⟩
  simp only at this
  rw [this]; omega
theorem t12 : ∀ lo : Fin 256, t1 lo.val < 256 ∧ t2 (t1 lo.val) < 256 ∧ t2 (t1 lo.val) % 16 ≤ 4 ∧ (∀ h : Fin 5, ((t2 (t1 lo.val) / 16 + t2 (t1 lo.val) + 16 * h.val) < 256 ∧ (t2 (t1 lo.val) / 16 + t2 (t1 lo.val) + 16 * h.val) &&& 15 = popN 8 lo.val)) := by decide +kernel
theorem s3_cat (n lo hi : Nat) (h : lo < 256) (hh : hi % 16 ≤ 4) : s3 (n + 1) (t2 (t1 lo) + 256 * hi) = popN 8 lo + 256 * s3 n hi := by
  unfold s3
  obtain ⟨h1, h2, h3, h4⟩ := t12 ⟨lo, h⟩
  obtain ⟨h5, h6⟩ := h4 ⟨hi % 16, by omega⟩
  simp only at h1 h2 h3 h4 h5 h6
  generalize t2 (t1 lo) = y at *
  have e : (y + 256 * hi) / 16 + (y + 256 * hi) = (y / 16 + y + 16 * (hi % 16)) + 256 * (hi / 16 + hi) := by omega
  rw [e, rep, and_cat _ _ _ _ h5 (by omega), h6]
def D (n x : Nat) : Nat := s3 n (s2 n (s1 n x))
theorem low4 : ∀ (n x : Nat), x < 256 ^ n → s2 n (s1 n x) % 16 ≤ 4
  | 0, x, _ => by simp [s2, s1, rep]
  | n + 1, x, hx => by
    have e : x = x % 256 + 256 * (x / 256) := by omega
    obtain ⟨h1, _, h2, _⟩ := t12 ⟨x % 256, by omega⟩
    simp only at h1 h2
    rw [e, s1_cat _ _ _ (by omega), s2_cat _ _ _ h1]
    omega
theorem D_step (n x : Nat) (hx : x < 256 ^ (n + 1)) : D (n + 1) x = popN 8 (x % 256) + 256 * D n (x / 256) := by
  have hd : x / 256 < 256 ^ n := by rw [Nat.pow_succ] at hx; omega
  have e : D (n + 1) x = D (n + 1) (x % 256 + 256 * (x / 256)) := by rw [show x % 256 + 256 * (x / 256) = x by omega]
  rw [e]
  unfold D
  rw [s1_cat _ _ _ (by omega), s2_cat _ _ _ (t12 ⟨x % 256, by omega⟩).1, s3_cat _ _ _ (by omega) (low4 n _ hd)]
theorem popN_le : ∀ n x, popN n x ≤ n
  | 0, _ => by simp [popN]
  | n + 1, x => by simp only [popN]; have := popN_le n (x / 2); omega
theorem popN_cat (n x : Nat) : popN (8 + n) x = popN 8 (x % 256) + popN n (x / 256) := by
  have e : 8 + n = n + 1 + 1 + 1 + 1 + 1 + 1 + 1 + 1 := by omega
  rw [e]
  simp only [popN]
  have : x / 2 / 2 / 2 / 2 / 2 / 2 / 2 / 2 = x / 256 := by omega
  rw [this]
  omega
theorem D_zero (x : Nat) : D 0 x = 0 := by simp [D, s3, rep]
theorem sum8 (c0 c1 c2 c3 c4 c5 c6 c7 y y1 y2 y3 : Nat) (h0 : c0 ≤ 8) (h1 : c1 ≤ 8) (h2 : c2 ≤ 8) (h3 : c3 ≤ 8) (h4 : c4 ≤ 8) (h5 : c5 ≤ 8) (h6 : c6 ≤ 8) (h7 : c7 ≤ 8)
    (hy : y = c0 + 256 * (c1 + 256 * (c2 + 256 * (c3 + 256 * (c4 + 256 * (c5 + 256 * (c6 + 256 * c7))))))) (e1 : y1 = y + y / 256) (e2 : y2 = y1 + y1 / 65536) (e3 : y3 = y2 + y2 / 4294967296) :
    y3 < 2 ^ 63 ∧ y3 % 128 = c0 + c1 + c2 + c3 + c4 + c5 + c6 + c7 := by
  have k1 : y / 256 = c1 + 256 * (c2 + 256 * (c3 + 256 * (c4 + 256 * (c5 + 256 * (c6 + 256 * c7))))) := by
    rw [hy]; generalize c1 + 256 * (c2 + 256 * (c3 + 256 * (c4 + 256 * (c5 + 256 * (c6 + 256 * c7))))) = z; omega
  have k2 : y1 = ((c0 + c1) + 256 * (c1 + c2)) + 65536 * ((c2 + c3) + 256 * (c3 + c4) + 65536 * ((c4 + c5) + 256 * (c5 + c6) + 65536 * ((c6 + c7) + 256 * c7))) := by
    rw [e1, k1, hy]; clear hy e1 e2 e3 k1; omega
  have k3 : y1 / 65536 = (c2 + c3) + 256 * (c3 + c4) + 65536 * ((c4 + c5) + 256 * (c5 + c6) + 65536 * ((c6 + c7) + 256 * c7)) := by
    rw [k2]; generalize (c2 + c3) + 256 * (c3 + c4) + 65536 * ((c4 + c5) + 256 * (c5 + c6) + 65536 * ((c6 + c7) + 256 * c7)) = z; clear hy e1 e2 e3 k1 k2; omega
  have k4 : y2 = ((c0 + c1 + c2 + c3) + 256 * (c1 + c2 + c3 + c4) + 65536 * ((c2 + c3 + c4 + c5) + 256 * (c3 + c4 + c5 + c6))) + 4294967296 * ((c4 + c5 + c6 + c7) + 256 * (c5 + c6 + c7) + 65536 * ((c6 + c7) + 256 * c7)) := by
    rw [e2, k3, k2]; clear hy e1 e2 e3 k1 k2 k3; omega
  have k5 : y2 / 4294967296 = (c4 + c5 + c6 + c7) + 256 * (c5 + c6 + c7) + 65536 * ((c6 + c7) + 256 * c7) := by
    rw [k4]; generalize (c4 + c5 + c6 + c7) + 256 * (c5 + c6 + c7) + 65536 * ((c6 + c7) + 256 * c7) = z; clear hy e1 e2 e3 k1 k2 k3 k4; omega
  have k6 : y3 = (c0 + c1 + c2 + c3 + c4 + c5 + c6 + c7) + 256 * ((c1 + c2 + c3 + c4 + (c5 + c6 + c7)) + 256 * ((c2 + c3 + c4 + c5) + (c6 + c7)) + 65536 * ((c3 + c4 + c5 + c6) + c7) + 16777216 * ((c4 + c5 + c6 + c7) + 256 * (c5 + c6 + c7) + 65536 * ((c6 + c7) + 256 * c7))) := by
    rw [e3, k5, k4]; clear hy e1 e2 e3 k1 k2 k3 k4 k5; omega
  clear hy e1 e2 e3 k1 k2 k3 k4 k5
  constructor
  · omega
  · rw [k6]; generalize (c1 + c2 + c3 + c4 + (c5 + c6 + c7)) + 256 * ((c2 + c3 + c4 + c5) + (c6 + c7)) + 65536 * ((c3 + c4 + c5 + c6) + c7) + 16777216 * ((c4 + c5 + c6 + c7) + 256 * (c5 + c6 + c7) + 65536 * ((c6 + c7) + 256 * c7)) = z; clear k6; omega
theorem swar (x : Nat) (hx : x < 2 ^ 64) (y1 y2 y3 : Nat) (e1 : y1 = D 8 x + D 8 x / 256) (e2 : y2 = y1 + y1 / 65536) (e3 : y3 = y2 + y2 / 4294967296) : y3 < 2 ^ 63 ∧ y3 % 128 = popN 64 x := by
  have d8 := D_step 7 x (by omega)
  have d7 := D_step 6 (x / 256) (by omega)
  have d6 := D_step 5 (x / 256 / 256) (by omega)
  have d5 := D_step 4 (x / 256 / 256 / 256) (by omega)
  have d4 := D_step 3 (x / 256 / 256 / 256 / 256) (by omega)
  have d3 := D_step 2 (x / 256 / 256 / 256 / 256 / 256) (by omega)
  have d2 := D_step 1 (x / 256 / 256 / 256 / 256 / 256 / 256) (by omega)
  have d1 := D_step 0 (x / 256 / 256 / 256 / 256 / 256 / 256 / 256) (by omega)
  rw [D_zero] at d1
  rw [d1] at d2; rw [d2] at d3; rw [d3] at d4; rw [d4] at d5; rw [d5] at d6; rw [d6] at d7; rw [d7] at d8
  have p8 := popN_cat 56 x
  have p7 := popN_cat 48 (x / 256)
  have p6 := popN_cat 40 (x / 256 / 256)
  have p5 := popN_cat 32 (x / 256 / 256 / 256)
  have p4 := popN_cat 24 (x / 256 / 256 / 256 / 256)
  have p3 := popN_cat 16 (x / 256 / 256 / 256 / 256 / 256)
  have p2 := popN_cat 8 (x / 256 / 256 / 256 / 256 / 256 / 256)
  have p1 := popN_cat 0 (x / 256 / 256 / 256 / 256 / 256 / 256 / 256)
  have hs := sum8 _ _ _ _ _ _ _ _ _ _ _ _ (popN_le 8 _) (popN_le 8 _) (popN_le 8 _) (popN_le 8 _) (popN_le 8 _) (popN_le 8 _) (popN_le 8 _) (popN_le 8 _) d8 e1 e2 e3
  refine ⟨hs.1, hs.2.trans ?_⟩
  have z : popN 0 (x / 256 / 256 / 256 / 256 / 256 / 256 / 256 / 256) = 0 := rfl
  simp only [Nat.reduceAdd] at p1 p2 p3 p4 p5 p6 p7 p8
  omega
end Go.Proofs.Ytmnfefebbadflaa
