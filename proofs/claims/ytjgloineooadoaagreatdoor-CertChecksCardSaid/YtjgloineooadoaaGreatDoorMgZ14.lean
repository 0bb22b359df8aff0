/- A row of arcs of one's own that is stored into; weights stretched; a graph made longer. No program in sight. -/
import Derived.Test.YtjgloineooadoaaGreatDoorMgZ13
import Derived.Test.YtjgloineooadoaaGreatDoorMgZ6
import Derived.StillTail
import Derived.Shelf.SlicesE.Clone
import Derived.Shelf.SlLaysE0
import Derived.Test.YtjgloineooadoaaGreatDoorShelf
import Derived.Test.YtjgloineooadoaaGreatDoorMgZ11
import Derived.Test.YtjgloineooadoaaGreatDoorMgZ12
namespace Go.Proofs.YtjgloineooadoaaGreatDoor
open Go.RowKit
def ARow (w : World) (b m : Nat) (Z : Nat → Int) : Prop := ∃ (cap : Nat) (G : Nat → Value), m * 3 ≤ cap ∧ w.rowIs b 40 cap G ∧ ∀ j, j < m * 3 → G j = .int .i64 (Z j)
def zA (L : List Arc) (j : Nat) : Int := if j % 3 = 0 then (L[j / 3]?.getD (0, 0, 0)).1 else if j % 3 = 1 then (L[j / 3]?.getD (0, 0, 0)).2.1 else (L[j / 3]?.getD (0, 0, 0)).2.2
theorem zA_at (L : List Arc) (i : Nat) : zA L (i * 3) = (L[i]?.getD (0, 0, 0)).1 ∧ zA L (i * 3 + 1) = (L[i]?.getD (0, 0, 0)).2.1 ∧ zA L (i * 3 + 2) = (L[i]?.getD (0, 0, 0)).2.2 := by
  have e0 : i * 3 % 3 = 0 := by omega
  have e1 : (i * 3 + 1) % 3 = 1 := by omega
  have e2 : (i * 3 + 2) % 3 = 2 := by omega
  have d0 : i * 3 / 3 = i := by omega
  have d1 : (i * 3 + 1) / 3 = i := by omega
  have d2 : (i * 3 + 2) / 3 = i := by omega
  unfold zA
  rw [e0, e1, e2, d0, d1, d2]
  simp
section
variable {w w' : World} {b m : Nat} {Z : Nat → Int}
theorem ARow.lt (h : ARow w b m Z) : b < w.heap.size := by obtain ⟨_, _, _, h, _⟩ := h; exact h.lt
theorem ARow.cell (h : ARow w b m Z) {j : Nat} (hj : j < m * 3) : w.cell? ⟨b, j, none⟩ = some (.int .i64 (Z j)) := by
  obtain ⟨cap, G, hn, h, hG⟩ := h
  rw [h.cell (by omega), hG j hj]
theorem ARow.frozen (h : ARow w b m Z) (j : Nat) : w.frozen? ⟨b, j, none⟩ = false := by
  obtain ⟨cap, G, hn, h, hG⟩ := h
  exact h.frozen j
theorem ARow.later (h : ARow w b m Z) (B : Below w.heap.size w w') : ARow w' b m Z := by
  have hl := h.lt
  obtain ⟨cap, G, hn, h, hG⟩ := h
  exact ⟨cap, G, hn, h.of_block (B.block _ hl), hG⟩
theorem ARow.congr {Z' : Nat → Int} (h : ARow w b m Z) (e : ∀ j, j < m * 3 → Z j = Z' j) : ARow w b m Z' := by
  obtain ⟨cap, G, hn, h, hG⟩ := h
  exact ⟨cap, G, hn, h, fun j hj => by rw [hG j hj, e j hj]⟩
theorem ARow.set (h : ARow w b m Z) (i : Nat) (y : Int) : ARow (w.setCell ⟨b, i, none⟩ (.int .i64 y)) b m (upd Z i y) := by
  obtain ⟨cap, G, hn, h, hG⟩ := h
  exact ⟨cap, _, hn, h.set i (.int .i64 y), fun j hj => by
    unfold upd
    by_cases e : j = i
    · rw [if_pos e, if_pos e]
    · rw [if_neg e, if_neg e]; exact hG j hj⟩
theorem ARow.arcs (h : ARow w b m Z) {L : List Arc} {c : Nat} (hL : L.length = m) (hc : m ≤ c) (e : ∀ j, j < m * 3 → Z j = zA L j) : Arcs w (.slice (some ⟨b, 0, none⟩) m c) L := by
  subst hL
  refine ⟨some ⟨b, 0, none⟩, c, rfl, hc, (fun h => by cases h), fun hl => ⟨b, 0, rfl, fun i a hi r v hv => ?_⟩⟩
  have hil := (List.getElem?_eq_some_iff.1 hi).1
  obtain ⟨z0, z1, z2⟩ := zA_at L i
  rw [hi] at z0 z1 z2
  simp only [Option.getD_some] at z0 z1 z2
  rw [Nat.zero_add]
  match r, hv with
  | 0, hv => simp [encA] at hv; subst hv; rw [Nat.add_zero, h.cell (by omega), e _ (by omega), z0]
  | 1, hv => simp [encA] at hv; subst hv; rw [h.cell (by omega), e _ (by omega), z1]
  | 2, hv => simp [encA] at hv; subst hv; rw [h.cell (by omega), e _ (by omega), z2]
/-- What a clone is. -/
theorem ARow.of_own {B : Nat} {V : Value} {L : List Arc} (h : w.ownsRow B 40 3 V L.length (flat encA L)) (hz : 0 < L.length) : ∃ (g c : Nat), V = .slice (some ⟨g, 0, none⟩) L.length c ∧ L.length ≤ c ∧ B ≤ g ∧ ARow w g L.length (zA L) := by
  rcases h.2 with ⟨hV, h0⟩ | ⟨g, cap, cur, hV, hg, hh, hle, r1, r2, r3⟩
  · have h0' : L.length = 0 := h0
    omega
  · have hk : ∀ j, j < L.length * 3 → cur[j]? = some (.int .i64 (zA L j)) := fun j hj => by
      have h2 : w.cell? ⟨g, j, none⟩ = some (.int .i64 (zA L j)) := by
        rw [hV] at h
        have hi : j / 3 < L.length := by omega
        have ej : j / 3 * 3 + j % 3 = j := by omega
        have e0 := flat_get encA_length L (j / 3) (j % 3) (by omega) _ (List.getElem?_eq_getElem hi)
        rw [ej] at e0
        rw [h.cellAt j hj, e0]
        have h3 : j % 3 = 0 ∨ j % 3 = 1 ∨ j % 3 = 2 := by omega
        rcases h3 with h3 | h3 | h3 <;> simp [zA, h3, encA, hi]
      unfold World.cell? at h2
      rw [hh] at h2
      simpa using h2
    refine ⟨g, cap, hV, hle, hg, cur.size, fun j => (cur[j]?).getD default, ?_, ⟨cur, hh, rfl, fun i hi => by simp [hi]⟩, fun j hj => ?_⟩
    · have := (Array.getElem?_eq_some_iff.1 (hk (L.length * 3 - 1) (by omega))).1
      omega
    · simp [hk j hj]
end
/-- All weights so many times as great. -/
def bigL (K : Int) (L : List Arc) : List Arc := L.map fun a => (a.1, a.2.1, a.2.2 * K)
def zK (K : Int) (L : List Arc) (k j : Nat) : Int := if j / 3 < k ∧ j % 3 = 2 then zA L j * K else zA L j
theorem zK_zero (K : Int) (L : List Arc) : zK K L 0 = zA L := by funext j; unfold zK; rw [if_neg (by omega)]
theorem zK_step (K : Int) (L : List Arc) (k j : Nat) : upd (zK K L k) (k * 3 + 2) (zA L (k * 3 + 2) * K) j = zK K L (k + 1) j := by
  unfold upd zK
  by_cases e : j = k * 3 + 2
  · subst e
    rw [if_pos rfl, if_pos (by omega)]
  · rw [if_neg e]
    by_cases h : j / 3 < k ∧ j % 3 = 2
    · rw [if_pos h, if_pos (by omega)]
    · rw [if_neg h, if_neg (by omega)]
theorem zK_at (K : Int) (L : List Arc) (k : Nat) : zK K L k (k * 3 + 2) = zA L (k * 3 + 2) := by unfold zK; rw [if_neg (by omega)]
theorem zK_end (K : Int) (L : List Arc) (j : Nat) (hj : j < L.length * 3) : zK K L L.length j = zA (bigL K L) j := by
  have hi : j / 3 < L.length := by omega
  have e : (bigL K L)[j / 3]? = some (L[j / 3].1, L[j / 3].2.1, L[j / 3].2.2 * K) := by simp [bigL, hi]
  have e2 : L[j / 3]? = some L[j / 3] := List.getElem?_eq_getElem hi
  unfold zK zA
  rw [e, e2]
  by_cases h2 : j % 3 = 2
  · rw [if_pos ⟨hi, h2⟩]
    simp [h2]
  · rw [if_neg (fun h => h2 h.2)]
    by_cases h0 : j % 3 = 0
    · simp [h0]
    · have h1 : j % 3 = 1 := by omega
      simp [h1]
theorem right_of {n : Nat} {L : List Arc} (hn : n ≤ 4096) (hl : L.length ≤ 16384) (h : ∀ a ∈ L, ∃ f t x : Nat, a = ((f : Int), (t : Int), (x : Int)) ∧ f < n ∧ t < n ∧ x ≤ 1000000) : rightB n L = true := by
  have hb : L.any (badA n) = false := by
    rw [List.any_eq_false]
    intro a ha
    obtain ⟨f, t, x, rfl, h1, h2, h3⟩ := h a ha
    simp only [badA, Bool.or_eq_true, decide_eq_true_eq, not_or]
    omega
  simp only [rightB, Bool.and_eq_true, decide_eq_true_eq, Bool.not_eq_true']
  exact ⟨⟨⟨by omega, by omega⟩, hl⟩, hb⟩
theorem bigL_right {n : Nat} {L : List Arc} {K : Nat} (k : Okg n L) (hw : ∀ a ∈ L, a.2.2 ≤ 7) (hK : K ≤ 9) : rightB n (bigL K L) = true := by
  refine right_of k.n1 (by simp [bigL]; exact k.m1) (fun a ha => ?_)
  obtain ⟨b, hb, rfl⟩ := List.mem_map.1 ha
  obtain ⟨i, hi⟩ := List.getElem?_of_mem hb
  obtain ⟨f, t, x, rfl, h1, h2, h3⟩ := k.arc i b hi
  have hx : (x : Int) ≤ 7 := hw _ hb
  have hm : x * K ≤ 7 * 9 := Nat.mul_le_mul (by omega) hK
  exact ⟨f, t, x * K, by simp, h1, h2, by omega⟩
theorem bigL_fit (K : Int) (L : List Arc) (l : List Int) : (bigL K L).all (fitA l) = L.all (fitA l) := by
  unfold bigL
  rw [List.all_map]
  rfl
theorem bigL_cost (K : Int) (l : List Int) : ∀ L : List Arc, costL l (bigL K L) = K * costL l L
  | [] => by simp [bigL, costL]
  | a :: L => by
    have h := bigL_cost K l L
    show a.2.2 * K * (at_ l a.2.1 - at_ l a.1) + costL l (bigL K L) = K * (a.2.2 * (at_ l a.2.1 - at_ l a.1) + costL l L)
    rw [h, Int.mul_add, Int.mul_comm a.2.2 K, Int.mul_assoc]
/-- Both are the least: so many times as great. -/
theorem big_same {n : Nat} {L : List Arc} {K : Nat} {xs fs ys gs : List Int} {ways ways2 : Nat} (k : Okg n L) (k2 : Okg n (bigL K L)) (S : Sol n L xs fs ways) (S2 : Sol n (bigL K L) ys gs ways2) : costL ys (bigL K L) = K * costL xs L := by
  have h1 := S2.best k2 (ys := xs) (by rw [bigL_fit]; exact S.fit)
  have h2 := S.best k (ys := ys) (by rw [← bigL_fit K]; exact S2.fit)
  rw [bigL_cost, bigL_cost] at h1
  rw [bigL_cost]
  have h3 := Int.mul_le_mul_of_nonneg_left h2 (show (0 : Int) ≤ (K : Int) by omega)
  omega
/-- One arc more. -/
theorem more_cost {L : List Arc} {a : Arc} {l : List Int} (hw : 0 ≤ a.2.2) (hf : (L ++ [a]).all (fitA l) = true) : L.all (fitA l) = true ∧ costL l L ≤ costL l (L ++ [a]) := by
  rw [List.all_append, Bool.and_eq_true] at hf
  refine ⟨hf.1, ?_⟩
  rw [costL_snoc]
  have h := hf.2
  simp only [List.all_cons, List.all_nil, Bool.and_true, fitA, decide_eq_true_eq] at h
  have := Int.mul_nonneg hw (show 0 ≤ at_ l a.2.1 - at_ l a.1 by omega)
  omega
end Go.Proofs.YtjgloineooadoaaGreatDoor
/- A graph turned; two graphs side by side: what the least costs are. No program in sight. -/
namespace Go.Proofs.YtjgloineooadoaaGreatDoor
open Go.RowKit
theorem backL_back (L : List Arc) : backL (backL L) = L := by
  unfold backL
  rw [List.map_map]
  conv => rhs; rw [← List.map_id L]
  rfl
theorem backL_takeT {L : List Arc} {i : Nat} {a : Arc} (h : L[i]? = some a) : backL (L.take (i + 1)) = backL (L.take i) ++ [(a.2.1, a.1, a.2.2)] := by
  obtain ⟨h1, h2⟩ := List.getElem?_eq_some_iff.1 h
  rw [List.take_succ_eq_append_getElem h1, h2, backL_snoc]
theorem backL_lengthT (L : List Arc) : (backL L).length = L.length := by simp [backL]
theorem backL_inX {L : List Arc} {m : Nat} (h : InX L m) : InX (backL L) m := fun a ha => by
  obtain ⟨b, hb, rfl⟩ := List.mem_map.1 ha
  obtain ⟨f, t, e1, e2, h1, h2⟩ := h b hb
  exact ⟨t, f, e2, e1, h2, h1⟩
/-- The least cost of a graph turned is the same. -/
theorem back_same {n : Nat} {L : List Arc} {xs fs ys gs : List Int} {ways ways2 : Nat} (k : Okg n L) (k2 : Okg n (backL L)) (S : Sol n L xs fs ways) (S2 : Sol n (backL L) ys gs ways2) : costL ys (backL L) = costL xs L := by
  have i1 : InX L xs.length := by rw [S.lx]; exact k.inX
  have i2 : InX (backL L) ys.length := by rw [S2.lx]; exact k2.inX
  have h1 := S2.best k2 (ys := xs.map fun v => -v) (by rw [fit_back i1]; exact S.fit)
  rw [cost_back i1] at h1
  have h2 := S.best k (ys := ys.map fun v => -v) (by
    have := fit_back i2
    rw [backL_back] at this
    rw [this]
    exact S2.fit)
  have h3 := cost_back i2
  rw [backL_back] at h3
  rw [h3] at h2
  omega
def shL (n : Nat) (M : List Arc) : List Arc := M.map fun a => ((n : Int) + a.1, (n : Int) + a.2.1, a.2.2)
theorem shL_take (n : Nat) {M : List Arc} {i : Nat} {a : Arc} (h : M[i]? = some a) : shL n (M.take (i + 1)) = shL n (M.take i) ++ [((n : Int) + a.1, (n : Int) + a.2.1, a.2.2)] := by
  obtain ⟨h1, h2⟩ := List.getElem?_eq_some_iff.1 h
  rw [List.take_succ_eq_append_getElem h1, h2]
  simp [shL]
theorem costL_app (l : List Int) (M : List Arc) : ∀ L : List Arc, costL l (L ++ M) = costL l L + costL l M
  | [] => by simp [costL]
  | a :: L => by simp only [List.cons_append, costL]; rw [costL_app l M L]; omega
theorem at_drop (l : List Int) (n v : Nat) : at_ (l.drop n) (v : Int) = at_ l ((n : Int) + (v : Int)) := by
  unfold at_
  rw [List.getElem?_drop]
  congr 2
theorem at_left {xs zs : List Int} {v : Nat} (h : v < xs.length) : at_ (xs ++ zs) (v : Int) = at_ xs (v : Int) := by
  unfold at_
  simp [List.getElem?_append_left, h]
theorem sh_cost {n m : Nat} (l : List Int) : ∀ {M : List Arc}, InX M m → costL l (shL n M) = costL (l.drop n) M
  | [], _ => rfl
  | a :: M, h => by
    have ih := sh_cost (n := n) l (M := M) (fun b hb => h b (by simp [hb]))
    obtain ⟨f, t, e1, e2, h1, h2⟩ := h a (by simp)
    show a.2.2 * (at_ l ((n : Int) + a.2.1) - at_ l ((n : Int) + a.1)) + costL l (shL n M) = a.2.2 * (at_ (l.drop n) a.2.1 - at_ (l.drop n) a.1) + costL (l.drop n) M
    rw [ih, e1, e2, at_drop, at_drop]
theorem sh_fit {n m : Nat} (l : List Int) : ∀ {M : List Arc}, InX M m → (shL n M).all (fitA l) = M.all (fitA (l.drop n))
  | [], _ => rfl
  | a :: M, h => by
    have ih := sh_fit (n := n) l (M := M) (fun b hb => h b (by simp [hb]))
    obtain ⟨f, t, e1, e2, h1, h2⟩ := h a (by simp)
    show (fitA l ((n : Int) + a.1, (n : Int) + a.2.1, a.2.2) && (shL n M).all (fitA l)) = (fitA (l.drop n) a && M.all (fitA (l.drop n)))
    rw [ih]
    congr 1
    unfold fitA
    simp only
    rw [e1, e2, at_drop, at_drop]
theorem left_cost {n : Nat} {xs zs : List Int} (hl : xs.length = n) : ∀ {L : List Arc}, InX L n → costL (xs ++ zs) L = costL xs L
  | [], _ => rfl
  | a :: L, h => by
    have ih := left_cost (zs := zs) hl (L := L) (fun b hb => h b (by simp [hb]))
    obtain ⟨f, t, e1, e2, h1, h2⟩ := h a (by simp)
    simp only [costL]
    rw [ih, e1, e2, at_left (by omega), at_left (by omega)]
theorem left_fit {n : Nat} {xs zs : List Int} (hl : xs.length = n) : ∀ {L : List Arc}, InX L n → L.all (fitA (xs ++ zs)) = L.all (fitA xs)
  | [], _ => rfl
  | a :: L, h => by
    have ih := left_fit (zs := zs) hl (L := L) (fun b hb => h b (by simp [hb]))
    obtain ⟨f, t, e1, e2, h1, h2⟩ := h a (by simp)
    simp only [List.all_cons]
    rw [ih]
    congr 1
    unfold fitA
    rw [e1, e2, at_left (by omega), at_left (by omega)]
theorem both_right {n m : Nat} {L M : List Arc} (k : Okg n L) (k2 : Okg m M) (hn : n + m ≤ 4096) (hl : L.length + M.length ≤ 16384) : rightB ((n + m : Nat) : Int) (L ++ shL n M) = true := by
  refine right_of hn (by simp [shL]; exact hl) (fun a ha => ?_)
  rcases List.mem_append.1 ha with ha | ha
  · obtain ⟨i, hi⟩ := List.getElem?_of_mem ha
    obtain ⟨f, t, x, e, h1, h2, h3⟩ := k.arc i a hi
    exact ⟨f, t, x, e, by omega, by omega, h3⟩
  · obtain ⟨b, hb, rfl⟩ := List.mem_map.1 ha
    obtain ⟨i, hi⟩ := List.getElem?_of_mem hb
    obtain ⟨f, t, x, rfl, h1, h2, h3⟩ := k2.arc i b hi
    exact ⟨n + f, n + t, x, by simp, by omega, by omega, h3⟩
theorem both_dag {n m : Nat} {L M : List Arc} (k : Okg n L) (k2 : Okg m M) (hn : n + m ≤ 4096) (hl : L.length + M.length ≤ 16384) (h1 : ∀ a ∈ L, a.1.toNat < a.2.1.toNat) (h2 : ∀ a ∈ M, a.1.toNat < a.2.1.toNat) : ordE ((n + m : Nat) : Int) (L ++ shL n M) = 0 := by
  refine ordE_dag (both_right k k2 hn hl) id (fun a ha => ?_)
  rcases List.mem_append.1 ha with ha | ha
  · exact h1 a ha
  · obtain ⟨b, hb, rfl⟩ := List.mem_map.1 ha
    have h3 := h2 b hb
    obtain ⟨i, hi⟩ := List.getElem?_of_mem hb
    obtain ⟨f, t, x, rfl, q1, q2, q3⟩ := k2.arc i b hi
    simp only [id] at h3 ⊢
    omega
/-- Two graphs side by side: both least costs together. -/
theorem both_same {n m : Nat} {L M : List Arc} {xs fs zs gs us hs : List Int} {ways ways2 ways3 : Nat} (k : Okg n L) (k2 : Okg m M) (k3 : Okg (n + m) (L ++ shL n M)) (S : Sol n L xs fs ways) (S2 : Sol m M zs gs ways2) (S3 : Sol (n + m) (L ++ shL n M) us hs ways3) :
    costL us (L ++ shL n M) = costL xs L + costL zs M := by
  have i1 := k.inX
  have i2 := k2.inX
  have e1 : (xs ++ zs).drop n = zs := by rw [← S.lx]; simp
  have h1 := S3.best k3 (ys := xs ++ zs) (by
    rw [List.all_append, left_fit S.lx i1, sh_fit (m := m) _ i2, e1, S.fit, S2.fit]; rfl)
  rw [costL_app, costL_app, left_cost S.lx i1, sh_cost (m := m) _ i2, sh_cost (m := m) _ i2, e1] at h1
  have hf := S3.fit
  rw [List.all_append, Bool.and_eq_true, sh_fit (m := m) _ i2] at hf
  have h2 := S.best k hf.1
  have h3 := S2.best k2 hf.2
  rw [costL_app, sh_cost (m := m) _ i2]
  omega
end Go.Proofs.YtjgloineooadoaaGreatDoor
/- Proofs of a graph turned, of two graphs side by side; wherever there is a proof nothing that fits costs less. No program in sight. -/
namespace Go.Proofs.YtjgloineooadoaaGreatDoor
open Go.RowKit
theorem back_get (L : List Arc) (i : Nat) : (backL L)[i]?.getD (0, 0, 0) = ((L[i]?.getD (0, 0, 0)).2.1, (L[i]?.getD (0, 0, 0)).1, (L[i]?.getD (0, 0, 0)).2.2) := by
  unfold backL
  rw [List.getElem?_map]
  cases L[i]? <;> rfl
theorem back_fr (L : List Arc) (i : Nat) : frL (backL L) i = ttL L i := by unfold frL ttL; rw [back_get]
theorem back_tt (L : List Arc) (i : Nat) : ttL (backL L) i = frL L i := by unfold frL ttL; rw [back_get]
theorem back_wt (L : List Arc) : wtL (backL L) = wtL L := by funext i; unfold wtL; rw [back_get]
theorem nf_back {n : Nat} (L : List Arc) (g : Nat → Int) (v : Nat) : ∀ m, nf (gfL n (backL L)) g v m = -nf (gfL n L) g v m
  | 0 => by simp [nf]
  | m + 1 => by
    have ih := nf_back (n := n) L g v m
    show nf (gfL n (backL L)) g v m + ind (frL (backL L) m = v) (g m) - ind (ttL (backL L) m = v) (g m) = -(nf (gfL n L) g v m + ind (frL L m = v) (g m) - ind (ttL L m = v) (g m))
    rw [ih, back_fr, back_tt]
    omega
theorem right_back {n : Nat} {L : List Arc} {fs : List Int} (h : rightF n L fs = true) : rightF n (backL L) fs = true := by
  obtain ⟨h1, h2, h3⟩ := rightF_iff.1 h
  refine rightF_iff.2 ⟨by rw [backL_lengthT]; exact h1, fun i hi => h2 i (by rwa [backL_lengthT] at hi), fun u hu => ?_⟩
  rw [nf_back, nf_back, back_wt, backL_lengthT, h3 u hu]
theorem app_fr {L M : List Arc} {i : Nat} (h : i < L.length) : (L ++ M)[i]?.getD (0, 0, 0) = L[i]?.getD (0, 0, 0) := by
  rw [List.getElem?_append_left h]
theorem nf_app {n k : Nat} {L M : List Arc} {g h : Nat → Int} (v : Nat) : ∀ j, j ≤ L.length → (∀ i, i < j → g i = h i) → nf (gfL k (L ++ M)) g v j = nf (gfL n L) h v j
  | 0, _, _ => rfl
  | j + 1, hj, e => by
    have ih := nf_app (n := n) (k := k) (L := L) (M := M) v j (by omega) (fun i hi => e i (by omega))
    have e1 : frL (L ++ M) j = frL L j := by unfold frL; rw [app_fr (L := L) (M := M) (i := j) (by omega)]
    have e2 : ttL (L ++ M) j = ttL L j := by unfold ttL; rw [app_fr (L := L) (M := M) (i := j) (by omega)]
    show nf (gfL k (L ++ M)) g v j + ind (frL (L ++ M) j = v) (g j) - ind (ttL (L ++ M) j = v) (g j) = nf (gfL n L) h v j + ind (frL L j = v) (h j) - ind (ttL L j = v) (h j)
    rw [ih, e1, e2, e j (by omega)]
theorem nf_none {n : Nat} {L : List Arc} (k : Okg n L) {g : Nat → Int} {v : Nat} (hv : n ≤ v) : ∀ j, j ≤ L.length → nf (gfL n L) g v j = 0
  | 0, _ => rfl
  | j + 1, hj => by
    have ih := nf_none k (g := g) hv j (by omega)
    obtain ⟨-, h1, h2, -⟩ := k.at_ (i := j) (by omega)
    show nf (gfL n L) g v j + ind (frL L j = v) (g j) - ind (ttL L j = v) (g j) = 0
    rw [ih]
    unfold ind
    rw [if_neg (by omega), if_neg (by omega)]
    rfl
theorem sh_at {n m : Nat} {L M : List Arc} (k : Okg m M) {i : Nat} (hi : i < M.length) : frL (L ++ shL n M) (L.length + i) = n + frL M i ∧ ttL (L ++ shL n M) (L.length + i) = n + ttL M i ∧ wtL (L ++ shL n M) (L.length + i) = wtL M i := by
  obtain ⟨e, -⟩ := k.at_ hi
  have e2 : (L ++ shL n M)[L.length + i]? = some ((n : Int) + (frL M i : Nat), (n : Int) + (ttL M i : Nat), wtL M i) := by
    rw [List.getElem?_append_right (by omega)]
    unfold shL
    rw [List.getElem?_map, show L.length + i - L.length = i by omega, e]
    rfl
  refine ⟨?_, ?_, ?_⟩
  · show ((L ++ shL n M)[L.length + i]?.getD (0, 0, 0)).1.toNat = _
    rw [e2]
    show ((n : Int) + (frL M i : Nat)).toNat = _
    omega
  · show ((L ++ shL n M)[L.length + i]?.getD (0, 0, 0)).2.1.toNat = _
    rw [e2]
    show ((n : Int) + (ttL M i : Nat)).toNat = _
    omega
  · show ((L ++ shL n M)[L.length + i]?.getD (0, 0, 0)).2.2 = _
    rw [e2]
    rfl
theorem nf_sh {n m k : Nat} {L M : List Arc} (h : Okg m M) {g G : Nat → Int} (v : Nat) : ∀ j, j ≤ M.length → (∀ i, i < j → g (L.length + i) = G i) → nf (gfL k (L ++ shL n M)) g v (L.length + j) = nf (gfL k (L ++ shL n M)) g v L.length + (if v < n then 0 else nf (gfL m M) G (v - n) j)
  | 0, _, _ => by simp [nf]
  | j + 1, hj, e => by
    have ih := nf_sh (n := n) (k := k) (L := L) h v j (by omega) (fun i hi => e i (by omega))
    obtain ⟨e1, e2, -⟩ := sh_at (n := n) (L := L) h (i := j) (by omega)
    show nf (gfL k (L ++ shL n M)) g v (L.length + j) + ind (frL (L ++ shL n M) (L.length + j) = v) (g (L.length + j)) - ind (ttL (L ++ shL n M) (L.length + j) = v) (g (L.length + j)) = nf (gfL k (L ++ shL n M)) g v L.length + (if v < n then 0 else nf (gfL m M) G (v - n) j + ind (frL M j = v - n) (G j) - ind (ttL M j = v - n) (G j))
    rw [ih, e1, e2, e j (by omega)]
    unfold ind
    by_cases hv : v < n
    · rw [if_pos hv, if_pos hv, if_neg (by omega), if_neg (by omega)]
      omega
    · rw [if_neg hv, if_neg hv]
      have c1 : (n + frL M j = v) = (frL M j = v - n) := by apply propext; omega
      have c2 : (n + ttL M j = v) = (ttL M j = v - n) := by apply propext; omega
      simp only [c1, c2]
      omega
theorem nf_both {n m : Nat} {L M : List Arc} (k : Okg n L) (k2 : Okg m M) {g G1 G2 : Nat → Int} (h1 : ∀ i, i < L.length → g i = G1 i) (h2 : ∀ i, i < M.length → g (L.length + i) = G2 i) (v : Nat) : nf (gfL (n + m) (L ++ shL n M)) g v (L.length + M.length) = if v < n then nf (gfL n L) G1 v L.length else nf (gfL m M) G2 (v - n) M.length := by
  rw [nf_sh (n := n) (k := n + m) (L := L) k2 v M.length (Nat.le_refl _) h2, nf_app (n := n) v L.length (Nat.le_refl _) h1]
  by_cases hv : v < n
  · rw [if_pos hv, if_pos hv]; omega
  · rw [if_neg hv, if_neg hv, nf_none k (by omega) L.length (Nat.le_refl _)]; omega
theorem ff_left {fs gs : List Int} {i : Nat} (h : i < fs.length) : ff (fs ++ gs) i = ff fs i := by unfold ff; rw [List.getElem?_append_left h]
theorem ff_right {fs gs : List Int} {q i : Nat} (h : fs.length = q) : ff (fs ++ gs) (q + i) = ff gs i := by
  unfold ff
  rw [List.getElem?_append_right (by omega), show q + i - fs.length = i by omega]
theorem wt_left {L M : List Arc} {i : Nat} (h : i < L.length) : wtL (L ++ M) i = wtL L i := by unfold wtL; rw [app_fr h]
theorem right_both {n m : Nat} {L M : List Arc} {fs gs : List Int} (k : Okg n L) (k2 : Okg m M) (h : rightF n L fs = true) (h2 : rightF m M gs = true) : rightF (n + m) (L ++ shL n M) (fs ++ gs) = true := by
  obtain ⟨a1, a2, a3⟩ := rightF_iff.1 h
  obtain ⟨b1, b2, b3⟩ := rightF_iff.1 h2
  have hl : (L ++ shL n M).length = L.length + M.length := by simp [shL]
  refine rightF_iff.2 ⟨by rw [hl, List.length_append, a1, b1], fun i hi => ?_, fun u hu => ?_⟩
  · rw [hl] at hi
    by_cases c : i < L.length
    · rw [ff_left (by omega)]; exact a2 i c
    · have e := ff_right (gs := gs) (i := i - L.length) a1
      rw [show L.length + (i - L.length) = i by omega] at e
      rw [e]
      exact b2 _ (by omega)
  · rw [hl, nf_both k k2 (G1 := wtL L) (G2 := wtL M) (fun i hi => wt_left hi) (fun i hi => (sh_at k2 hi).2.2) u, nf_both k k2 (G1 := ff fs) (G2 := ff gs) (fun i hi => ff_left (by omega)) (fun i hi => ff_right a1) u]
    by_cases c : u < n
    · rw [if_pos c, if_pos c, a3 u c]
    · rw [if_neg c, if_neg c, b3 (u - n) (by omega)]
theorem sumN_split (f : Nat → Int) (a : Nat) : ∀ b, sumN f (a + b) = sumN f a + sumN (fun i => f (a + i)) b
  | 0 => by simp [sumN]
  | b + 1 => by
    show sumN f (a + b) + f (a + b) = sumN f a + (sumN (fun i => f (a + i)) b + f (a + b))
    rw [sumN_split f a b]; omega
theorem sum_both (fs gs : List Int) : sumN (ff (fs ++ gs)) (fs.length + gs.length) = sumN (ff fs) fs.length + sumN (ff gs) gs.length := by
  rw [sumN_split]
  rw [sumN_congr (f := ff (fs ++ gs)) (g := ff fs) (fun i hi => ff_left hi), sumN_congr (f := fun i => ff (fs ++ gs) (fs.length + i)) (g := ff gs) (fun i _ => ff_right rfl)]
section
variable {n : Nat} {L : List Arc} {xs fs : List Int} {ways : Nat}
/-- Turned, with the other sign: a proof. -/
theorem Sol.turned (h : Sol n L xs fs ways) (k : Okg n L) (hr : rightB n L = true) (hd : ∀ a ∈ L, a.1.toNat < a.2.1.toNat) : checkC n (backL L) (xs.map fun v => -v) fs = 0 := by
  have hfl := h.flowOk
  rw [checkC_of (backL_dag hr hd) (by simp [h.lx]) ?_ (by rw [fit_back (h.inX k)]; exact h.fit), if_pos ⟨by rw [backL_lengthT]; exact hfl.1, hfl.2⟩, if_pos (right_back h.right), if_pos]
  · rw [cost_back (h.inX k), h.lf, h.sum k]
  · intro x hx
    obtain ⟨y, hy, rfl⟩ := List.mem_map.1 hx
    have := h.lo y hy
    have := k.n1
    omega
/-- Side by side: a proof of both. -/
theorem Sol.both {m : Nat} {M : List Arc} {zs gs : List Int} {ways2 : Nat} (h : Sol n L xs fs ways) (h2 : Sol m M zs gs ways2) (k : Okg n L) (k2 : Okg m M) (hn : n + m ≤ 4096) (hl : L.length + M.length ≤ 16384) (d1 : ∀ a ∈ L, a.1.toNat < a.2.1.toNat) (d2 : ∀ a ∈ M, a.1.toNat < a.2.1.toNat) : checkC (n + m) (L ++ shL n M) (xs ++ zs) (fs ++ gs) = 0 := by
  have e1 : (xs ++ zs).drop n = zs := by rw [← h.lx]; simp
  have f1 := h.flowOk
  have f2 := h2.flowOk
  have hL : (L ++ shL n M).length = L.length + M.length := by simp [shL]
  rw [checkC_of (both_dag k k2 hn hl d1 d2) (by simp [h.lx, h2.lx]) ?_ ?_, if_pos ⟨by rw [hL, List.length_append, f1.1, f2.1], by rw [List.any_append, f1.2, f2.2]; rfl⟩, if_pos (right_both k k2 h.right h2.right), if_pos]
  · rw [costL_app, left_cost h.lx k.inX, sh_cost (m := m) _ k2.inX, e1, List.length_append, sum_both, h.lf, h2.lf, h.sum k, h2.sum k2]
  · intro x hx
    have := k.n1
    have := k2.n1
    rcases List.mem_append.1 hx with hx | hx
    · have := h.lo x hx; omega
    · have := h2.lo x hx; omega
  · rw [List.all_append, left_fit h.lx k.inX, sh_fit (m := m) _ k2.inX, e1, h.fit, h2.fit]; rfl
end
theorem check_zero {n : Nat} {L : List Arc} {xs fs : List Int} (h : checkC n L xs fs = 0) : costE n L xs = 0 ∧ (fs.length = L.length ∧ fs.any badF = false) ∧ rightF n L fs = true ∧ costL xs L = sumN (ff fs) fs.length := by
  unfold checkC at h
  split at h
  · rename_i h0
    split at h
    · rename_i h1
      split at h
      · rename_i h2
        split at h
        · rename_i h3
          exact ⟨h0, h1, h2, h3⟩
        · cases h
      · cases h
    · cases h
  · rename_i h0
    exact absurd h h0
/-- Wherever there is a proof, what fits costs no less. -/
theorem check_best {n : Nat} {L : List Arc} {xs fs ys : List Int} (hn : 1 ≤ n) (h : checkC n L xs fs = 0) (hf : L.all (fitA ys) = true) : costL xs L ≤ costL ys L := by
  obtain ⟨h0, ⟨h1, -⟩, h2, h3⟩ := check_zero h
  obtain ⟨-, b, c⟩ := rightF_iff.1 h2
  have k := okg_of (ordE_right (costE_zero h0).1) hn
  rw [h3, h1]
  exact flow_le k b c hf
end Go.Proofs.YtjgloineooadoaaGreatDoor
/- A region that draws its order: its reads are taken first; what they read need not hold behind the stores that wait for them. No program in sight. -/
namespace Go.Proofs.YtjgloineooadoaaGreatDoor
section
variable {P : Program} {md : Region.Mode} {ops : Array Oper} {Q : Exit → Act → World → Prop} {S : World → Prop} {W : List Nat}
def wpW (P : Program) (md : Region.Mode) (ops : Array Oper) (Q : Exit → Act → World → Prop) (S : World → Prop) (W : List Nat) : Nat → Array Bool → Act → World → Prop
  | 0, listed, a, w => Region.ready md ops listed = [] ∧ Q .normal a w
  | fuel + 1, listed, a, w => (Region.ready md ops listed = [] → Q .normal a w) ∧ ∀ j ∈ Region.ready md ops listed, wpOp P ops Q j (fun a' w' => (j ∉ W → S w') ∧ wpW P md ops Q S W fuel (listed.setIfInBounds j true) a' w') a w
theorem wpAny_of_wpW : ∀ (fuel : Nat) (listed : Array Bool) (a : Act) (w : World), wpW P md ops Q S W fuel listed a w → wpAny P md ops Q fuel listed a w
  | 0, _, _, _, h => h
  | fuel + 1, _, _, _, h => ⟨h.1, fun i hi => wpOp_mono (fun a' w' h' => wpAny_of_wpW fuel _ a' w' h'.2) (h.2 i hi)⟩
theorem wpW_first {i : Nat} {oi : Oper} {v : Value} (hi : ops[i]? = some oi) (hsel : ∀ (j : Nat) (o : Oper) cs b, ops[j]? = some o → o.op ≠ .select cs b) (hQ : ∀ c a w, Q (.panic c) (a.put oi.dst v) w → Q (.panic c) a w)
    (hW : ∀ j ∈ W, j ≠ i → ∃ oj, ops[j]? = some oj ∧ ∃ e ∈ oj.after, Region.binds md e = true ∧ e.on = i) : ∀ (fuel : Nat) (listed : Array Bool) (a : Act) (w : World),
      (∀ j oj, ops[j]? = some oj → j ≠ i → listed.getD j true = false → (∀ e ∈ oj.after, Region.binds md e = true → e.on ≠ i) → oi.apart ops oj = true) →
      i ∈ Region.ready md ops listed → YieldsIf P ops S oi v a → S w → wpW P md ops Q S W fuel (listed.setIfInBounds i true) (a.put oi.dst v) w → wpW P md ops Q S W (fuel + 1) listed a w := by
  intro fuel
  induction fuel with
  | zero =>
    intro listed a w _ hr hy hS H
    refine ⟨fun h => absurd hr (by rw [h]; simp), fun j hj => ?_⟩
    by_cases hji : j = i
    · subst hji; exact hy.wpOp hi hS ⟨fun _ => hS, H⟩
    · exact absurd (ready_mono hj hji) (by rw [H.1]; simp)
  | succ fuel ih =>
    intro listed a w hfree hr hy hS H
    refine ⟨fun h => absurd hr (by rw [h]; simp), fun j hj => ?_⟩
    by_cases hji : j = i
    · subst hji; exact hy.wpOp hi hS ⟨fun _ => hS, H⟩
    obtain ⟨hjun, oj, hoj, hall⟩ := mem_ready.1 hj
    have hun := (mem_ready.1 hr).1
    have hnot : ∀ e ∈ oj.after, Region.binds md e = true → e.on ≠ i := fun e he hb heq => by
      have h1 := hall e he hb
      rw [heq] at h1
      rcases Nat.lt_or_ge i listed.size with h' | h'
      · simp [h'] at hun h1; rw [hun] at h1; cases h1
      · simp [Array.getElem?_eq_none h'] at h1
    have hjW : j ∉ W := fun h => by
      obtain ⟨oj', ho', e, he, hb, hon⟩ := hW j h hji
      have : oj' = oj := Option.some.inj (ho'.symm.trans hoj)
      subst this
      exact hnot e he hb hon
    have h2 := wpOp_putIf hoj (hfree j oj hoj hji hjun hnot) (fun cs b => hsel i oi cs b hi) (fun cs b => hsel j oj cs b hoj) hQ hy (H.2 j (ready_mono hj hji))
    refine wpOp_mono (fun a' w' h3 => ⟨h3.2.1, ih _ a' w' (fun k ok hk hki hkun hno => hfree k ok hk hki ?_ hno) (ready_mono hr (Ne.symm hji)) h3.1 (h3.2.1 hjW) ?_⟩) h2
    · by_cases hjk : j = k
      · subst hjk; exact hjun
      · rw [getD_set_ne true hjk] at hkun; exact hkun
    · rw [Array.setIfInBounds_comm _ _ hji]; exact h3.2.2
def lexOKw (md : Region.Mode) (ops : Array Oper) (W : List Nat) : List Nat → Array Bool → Bool
  | [], _ => true
  | k :: ks, listed => (Region.ready md ops listed).contains k && Region.free md ops listed k && (W.all fun j => j == k || Region.waitsFor md ops j k) && lexOKw md ops W ks (listed.setIfInBounds k true)
theorem wpW_heads {w : World} (hS : S w) (hs : Region.noSelect ops = true) (hQ : ∀ c a d v w, Q (.panic c) (Act.put a d v) w → Q (.panic c) a w) : ∀ (is : List Nat) (listed : Array Bool) (a : Act) (fuel : Nat),
    lexOKw md ops W is listed = true → wpHi P ops S (fun a' => wpW P md ops Q S W fuel (marksi is listed) a' w) is a → wpW P md ops Q S W (is.length + fuel) listed a w
  | [], listed, a, fuel, _, h => by rw [List.length_nil, Nat.zero_add]; exact h
  | k :: ks, listed, a, fuel, hB, h => by
    obtain ⟨o, v, ho, hy, hr⟩ := h
    simp only [lexOKw, Bool.and_eq_true] at hB
    rw [show (k :: ks).length + fuel = (ks.length + fuel) + 1 by simp only [List.length_cons]; omega]
    refine wpW_first ho (Region.noSelect_spec hs) (fun c a w h => hQ c _ _ _ w h) (fun j hj hjk => ?_) _ _ _ _ (Region.free_spec ho hB.1.1.2) (by simpa using hB.1.1.1) hy hS (wpW_heads hS hs hQ ks _ _ fuel hB.2 hr)
    have := List.all_eq_true.1 hB.1.2 j hj
    simp only [Bool.or_eq_true, beq_iff_eq] at this
    rcases this with h | h
    · exact absurd h hjk
    · exact Region.waitsFor_spec h
theorem wp_region_headsW {id : Nat} {a : Act} {w : World} {l : List Oper} (is W : List Nat) (S : World → Prop) (hm : P.follows .mixedOrders = true)
    (hB : (Region.noSelect l.toArray && decide (is.length ≤ l.length) && lexOKw .any l.toArray W is (Array.replicate l.length false)) = true) (hS : S w.drew)
    (h : wpHi P l.toArray S (fun a' => wpW P .any l.toArray (NoPanic Q) S W (l.length - is.length) (marksi is (Array.replicate l.length false)) a' w.drew) is a) : (Code.region id l.toArray true).wp P Q a w := by
  simp only [Bool.and_eq_true, decide_eq_true_eq] at hB
  obtain ⟨⟨hs, hn⟩, hlex⟩ := hB
  refine wp_region_noPanic ?_
  have H := wpW_heads (md := .any) (W := W) (listed := Array.replicate l.length false) (fuel := l.length - is.length) (a := a) hS hs (fun _ _ _ _ _ h => h) is hlex h
  rw [show is.length + (l.length - is.length) = l.length by omega] at H
  refine wp_region_any hm ?_
  have := wpAny_of_wpW _ _ _ _ H
  simpa using this
/-- One that may come up now, and no other. -/
theorem wpW_one {k fuel : Nat} {listed : Array Bool} {a : Act} {w : World} {o : Oper} (hr : Region.ready md ops listed = [k]) (ho : ops[k]? = some o)
    (h : ∀ K' : Act → World → Prop, Shut (∀ a w, (k ∉ W → S w) → wpW P md ops Q S W fuel (listed.setIfInBounds k true) a w → K' a w) → if Region.wanted o (yielded ops a.tmps) = true then Oper.wp P o a w K' Q else K' (a.put o.dst undef) w) : wpW P md ops Q S W (fuel + 1) listed a w := by
  refine ⟨fun h0 => (by rw [hr] at h0; cases h0), fun j hj => ?_⟩
  rw [hr] at hj
  have : j = k := by simpa using hj
  subst this
  exact wpOp_step ho (fun K' hK => h K' (fun a w h1 h2 => hK a w ⟨h1, h2⟩))
/-- Two that may come up now. -/
theorem wpW_two {k l fuel : Nat} {listed : Array Bool} {a : Act} {w : World} {o p : Oper} (hr : Region.ready md ops listed = [k, l]) (ho : ops[k]? = some o) (hp : ops[l]? = some p)
    (h : ∀ K' : Act → World → Prop, Shut (∀ a w, (k ∉ W → S w) → wpW P md ops Q S W fuel (listed.setIfInBounds k true) a w → K' a w) → if Region.wanted o (yielded ops a.tmps) = true then Oper.wp P o a w K' Q else K' (a.put o.dst undef) w)
    (h2 : ∀ K' : Act → World → Prop, Shut (∀ a w, (l ∉ W → S w) → wpW P md ops Q S W fuel (listed.setIfInBounds l true) a w → K' a w) → if Region.wanted p (yielded ops a.tmps) = true then Oper.wp P p a w K' Q else K' (a.put p.dst undef) w) : wpW P md ops Q S W (fuel + 1) listed a w := by
  refine ⟨fun h0 => (by rw [hr] at h0; cases h0), fun j hj => ?_⟩
  rw [hr] at hj
  simp only [List.mem_cons, List.not_mem_nil, or_false] at hj
  rcases hj with rfl | rfl
  · exact wpOp_step ho (fun K' hK => h K' (fun a w h1 h2 => hK a w ⟨h1, h2⟩))
  · exact wpOp_step hp (fun K' hK => h2 K' (fun a w h1 h2 => hK a w ⟨h1, h2⟩))
theorem wpW_done {fuel : Nat} {listed : Array Bool} {a : Act} {w : World} (hr : Region.ready md ops listed = []) (h : Q .normal a w) : wpW P md ops Q S W fuel listed a w := by
  cases fuel with
  | zero => exact ⟨hr, h⟩
  | succ n => exact ⟨fun _ => h, by rw [hr]; simp⟩
end
end Go.Proofs.YtjgloineooadoaaGreatDoor
/- A region that draws its order: some operations that wait for nothing of one another, in whatever order. No program in sight. -/
namespace Go.Proofs.YtjgloineooadoaaGreatDoor
section
variable {P : Program} {md : Region.Mode} {ops : Array Oper} {Q : Exit → Act → World → Prop} {S : World → Prop}
def allB : Nat → List (List Bool)
  | 0 => [[]]
  | n + 1 => (allB n).flatMap fun l => [false :: l, true :: l]
theorem mem_allB : ∀ {n : Nat} {bs : List Bool}, bs.length = n → bs ∈ allB n
  | 0, [], _ => by simp [allB]
  | n + 1, b :: bs, h => by
    refine List.mem_flatMap.2 ⟨bs, mem_allB (by simpa using h), ?_⟩
    cases b <;> simp
def bagMk (T : List Nat) (base : Array Bool) (bs : List Bool) : Array Bool := (T.zip bs).foldl (fun l p => if p.2 then l.setIfInBounds p.1 true else l) base
def bagOK (md : Region.Mode) (ops : Array Oper) (T : List Nat) (base : Array Bool) : Bool :=
  (allB T.length).all fun bs => bs.all id || (Region.ready md ops (bagMk T base bs) == (T.zip bs).filterMap (fun p => if p.2 then none else some p.1)) &&
    (List.range T.length).all fun j => (bs.getD j true) || (bagMk T base bs).setIfInBounds (T.getD j 0) true == bagMk T base (bs.set j true)
theorem bag_unset {T : List Nat} {bs : List Bool} (h : T.length = bs.length) {i : Nat} (hi : i ∈ (T.zip bs).filterMap (fun p => if p.2 then none else some p.1)) : ∃ j, j < T.length ∧ T[j]? = some i ∧ bs[j]? = some false := by
  obtain ⟨p, hp, hpi⟩ := List.mem_filterMap.1 hi
  obtain ⟨j, hj, hje⟩ := List.mem_iff_getElem.1 hp
  rw [List.length_zip] at hj
  rw [List.getElem_zip] at hje
  subst hje
  simp only at hpi
  split at hpi
  · cases hpi
  · rename_i hb
    refine ⟨j, by omega, ?_, ?_⟩
    · rw [List.getElem?_eq_getElem (by omega)]; exact hpi
    · rw [List.getElem?_eq_getElem (by omega)]; simpa using hb
theorem count_set_lt {bs : List Bool} {j : Nat} (h : bs[j]? = some false) : (bs.set j true).count false + 1 = bs.count false := by
  obtain ⟨h1, h2⟩ := List.getElem?_eq_some_iff.1 h
  induction bs generalizing j with
  | nil => simp at h1
  | cons b bs ih =>
    cases j with
    | zero => simp at h2; subst h2; simp
    | succ j =>
      simp only [List.set_cons_succ, List.count_cons]
      have := ih (j := j) (by simpa using h) (by simpa using h1) (by simpa using h2)
      omega
theorem count_zero {bs : List Bool} (h : bs.all id = true) : bs.count false = 0 := by
  rw [List.count_eq_zero]
  intro hm
  have := List.all_eq_true.1 h false hm
  simp at this
theorem wpAnyH_bag (T : List Nat) (base : Array Bool) (hB : bagOK md ops T base = true) (J : List Bool → Act → World → Prop) (fuel : Nat)
    (hstep : ∀ (bs : List Bool) (j i : Nat) (a : Act) (w : World), bs.length = T.length → T[j]? = some i → bs[j]? = some false → J bs a w → wpOp P ops Q i (fun a' w' => S w' ∧ J (bs.set j true) a' w') a w)
    (hend : ∀ (bs : List Bool) (a : Act) (w : World), bs.length = T.length → bs.all id = true → J bs a w → wpAnyH P md ops Q S fuel (bagMk T base bs) a w) :
    ∀ (k : Nat) (bs : List Bool) (a : Act) (w : World), bs.length = T.length → bs.count false = k → J bs a w → wpAnyH P md ops Q S (k + fuel) (bagMk T base bs) a w := by
  intro k
  induction k with
  | zero =>
    intro bs a w hl hc hJ
    rw [Nat.zero_add]
    refine hend bs a w hl (List.all_eq_true.2 (fun b hb => ?_)) hJ
    cases b with
    | true => rfl
    | false => exact absurd hb (List.count_eq_zero.1 hc)
  | succ k ih =>
    intro bs a w hl hc hJ
    have h0 := List.all_eq_true.1 hB bs (mem_allB hl)
    have hna : bs.all id = false := by
      cases e : bs.all id with
      | false => rfl
      | true => have := count_zero e; omega
    rw [hna, Bool.false_or, Bool.and_eq_true, beq_iff_eq] at h0
    obtain ⟨hr, hs⟩ := h0
    rw [show k + 1 + fuel = (k + fuel) + 1 by omega]
    have key : ∀ i ∈ Region.ready md ops (bagMk T base bs), wpOp P ops Q i (fun a' w' => S w' ∧ wpAnyH P md ops Q S (k + fuel) ((bagMk T base bs).setIfInBounds i true) a' w') a w := fun i hi => by
      rw [hr] at hi
      obtain ⟨j, hj, h1, h2⟩ := bag_unset hl.symm hi
      have hset := List.all_eq_true.1 hs j (List.mem_range.2 hj)
      have e1 : bs.getD j true = false := by rw [List.getD_eq_getElem?_getD, h2]; rfl
      have e2 : T.getD j 0 = i := by rw [List.getD_eq_getElem?_getD, h1]; rfl
      rw [e1, e2, Bool.false_or, beq_iff_eq] at hset
      rw [hset]
      refine wpOp_mono (fun a' w' h => ⟨h.1, ih _ a' w' (by simpa using hl) (by have := count_set_lt h2; omega) h.2⟩) (hstep bs j i a w hl h1 h2 hJ)
    refine ⟨fun h => ?_, key⟩
    exfalso
    rw [hr] at h
    have : bs.count false ≠ 0 := by omega
    have hm : false ∈ bs := by
      apply Classical.byContradiction
      intro hm
      exact this (List.count_eq_zero.2 hm)
    obtain ⟨j, hj, hje⟩ := List.mem_iff_getElem.1 hm
    have hz : (T[j]'(by omega), false) ∈ T.zip bs := by
      rw [List.mem_iff_getElem]
      exact ⟨j, by rw [List.length_zip]; omega, by rw [List.getElem_zip, hje]⟩
    have : T[j]'(by omega) ∈ (T.zip bs).filterMap (fun p => if p.2 then none else some p.1) := List.mem_filterMap.2 ⟨_, hz, by simp⟩
    rw [h] at this
    cases this
end
end Go.Proofs.YtjgloineooadoaaGreatDoor
/- A region that draws its order: its reads are taken first. Some facts (A) hold all along, some (S) only till an operation of W has come up: a read that needs S must stand, over however many steps, before all of W. No program in sight. -/
namespace Go.Proofs.YtjgloineooadoaaGreatDoor
section
variable {P : Program} {md : Region.Mode} {ops : Array Oper} {Q : Exit → Act → World → Prop} {A S : World → Prop} {W : List Nat}
def wpV (P : Program) (md : Region.Mode) (ops : Array Oper) (Q : Exit → Act → World → Prop) (A S : World → Prop) (W : List Nat) : Nat → Array Bool → Act → World → Prop
  | 0, listed, a, w => Region.ready md ops listed = [] ∧ Q .normal a w
  | fuel + 1, listed, a, w => (Region.ready md ops listed = [] → Q .normal a w) ∧ ∀ j ∈ Region.ready md ops listed, wpOp P ops Q j (fun a' w' => (A w' ∧ (j ∉ W → S w → S w')) ∧ wpV P md ops Q A S W fuel (listed.setIfInBounds j true) a' w') a w
theorem wpAny_of_wpV : ∀ (fuel : Nat) (listed : Array Bool) (a : Act) (w : World), wpV P md ops Q A S W fuel listed a w → wpAny P md ops Q fuel listed a w
  | 0, _, _, _, h => h
  | fuel + 1, _, _, _, h => ⟨h.1, fun i hi => wpOp_mono (fun a' w' h' => wpAny_of_wpV fuel _ a' w' h'.2) (h.2 i hi)⟩
theorem wpV_first {i : Nat} {oi : Oper} {v : Value} (hi : ops[i]? = some oi) (hsel : ∀ (j : Nat) (o : Oper) cs b, ops[j]? = some o → o.op ≠ .select cs b) (hQ : ∀ c a w, Q (.panic c) (a.put oi.dst v) w → Q (.panic c) a w)
    (X : List Nat) (hX : ∀ p ∈ X, ∃ op, ops[p]? = some op ∧ ∃ e ∈ op.after, Region.binds md e = true ∧ (e.on = i ∨ e.on ∈ X))
    (Z : World → Prop) (hZA : ∀ w, Z w → A w) (hZ : ∀ j, j ≠ i → j ∉ X → ∀ w w', Z w → A w' → (j ∉ W → S w → S w') → Z w') : ∀ (fuel : Nat) (listed : Array Bool) (a : Act) (w : World),
      (∀ j oj, ops[j]? = some oj → j ≠ i → listed.getD j true = false → (∀ e ∈ oj.after, Region.binds md e = true → e.on ≠ i) → oi.apart ops oj = true) →
      (∀ p ∈ X, listed.getD p true = false) →
      i ∈ Region.ready md ops listed → YieldsIf P ops Z oi v a → Z w → wpV P md ops Q A S W fuel (listed.setIfInBounds i true) (a.put oi.dst v) w → wpV P md ops Q A S W (fuel + 1) listed a w := by
  intro fuel
  induction fuel with
  | zero =>
    intro listed a w _ _ hr hy hS H
    refine ⟨fun h => absurd hr (by rw [h]; simp), fun j hj => ?_⟩
    by_cases hji : j = i
    · subst hji; exact hy.wpOp hi hS ⟨⟨hZA _ hS, fun _ h => h⟩, H⟩
    · exact absurd (ready_mono hj hji) (by rw [H.1]; simp)
  | succ fuel ih =>
    intro listed a w hfree hXl hr hy hS H
    refine ⟨fun h => absurd hr (by rw [h]; simp), fun j hj => ?_⟩
    by_cases hji : j = i
    · subst hji; exact hy.wpOp hi hS ⟨⟨hZA _ hS, fun _ h => h⟩, H⟩
    obtain ⟨hjun, oj, hoj, hall⟩ := mem_ready.1 hj
    have hun := (mem_ready.1 hr).1
    have toF : ∀ {k : Nat}, listed.getD k true = false → listed.getD k false = true → False := fun {k} h0 h1 => by
      rcases Nat.lt_or_ge k listed.size with h' | h'
      · simp [h'] at h0 h1; rw [h0] at h1; cases h1
      · simp [Array.getElem?_eq_none h'] at h1
    have hnot : ∀ e ∈ oj.after, Region.binds md e = true → e.on ≠ i := fun e he hb heq => by
      have h1 := hall e he hb
      rw [heq] at h1
      exact toF hun h1
    have hjX : j ∉ X := fun h => by
      obtain ⟨oj', ho', e, he, hb, hon⟩ := hX j h
      have : oj' = oj := Option.some.inj (ho'.symm.trans hoj)
      subst this
      rcases hon with hon | hon
      · exact hnot e he hb hon
      · exact toF (hXl _ hon) (hall e he hb)
    have h2 := wpOp_putIf hoj (hfree j oj hoj hji hjun hnot) (fun cs b => hsel i oi cs b hi) (fun cs b => hsel j oj cs b hoj) hQ hy (H.2 j (ready_mono hj hji))
    refine wpOp_mono (fun a' w' h3 => ⟨h3.2.1, ih _ a' w' (fun k ok hk hki hkun hno => hfree k ok hk hki ?_ hno) (fun p hp => ?_) (ready_mono hr (Ne.symm hji)) h3.1 (hZ j hji hjX w w' hS h3.2.1.1 h3.2.1.2) ?_⟩) h2
    · by_cases hjk : j = k
      · subst hjk; exact hjun
      · rw [getD_set_ne true hjk] at hkun; exact hkun
    · rw [getD_set_ne true (fun e : j = p => hjX (e ▸ hp))]; exact hXl p hp
    · rw [Array.setIfInBounds_comm _ _ hji]; exact h3.2.2
/-- What waits for i, over however many steps. -/
def behind (md : Region.Mode) (ops : Array Oper) (i : Nat) : List Nat := (List.range ops.size).foldl (fun X p => if (ops[p]?.map fun o => o.after.any fun e => Region.binds md e && (e.on == i || X.contains e.on)).getD false then p :: X else X) []
def behindOK (md : Region.Mode) (ops : Array Oper) (X : List Nat) (listed : Array Bool) (i : Nat) : Bool := X.all fun p => listed.getD p true == false && (ops[p]?.map fun o => o.after.any fun e => Region.binds md e && (e.on == i || X.contains e.on)).getD false
theorem behindOK_spec {X : List Nat} {listed : Array Bool} {i : Nat} (h : behindOK md ops X listed i = true) : (∀ p ∈ X, ∃ op, ops[p]? = some op ∧ ∃ e ∈ op.after, Region.binds md e = true ∧ (e.on = i ∨ e.on ∈ X)) ∧ ∀ p ∈ X, listed.getD p true = false := by
  have h0 := fun p hp => List.all_eq_true.1 h p hp
  refine ⟨fun p hp => ?_, fun p hp => ?_⟩
  · have h1 := h0 p hp
    rw [Bool.and_eq_true] at h1
    cases ho : ops[p]? with
    | none => rw [ho] at h1; simp at h1
    | some o =>
      rw [ho] at h1
      obtain ⟨e, he, hb⟩ := Array.any_eq_true'.1 h1.2
      rw [Bool.and_eq_true, Bool.or_eq_true, beq_iff_eq, List.contains_iff_mem] at hb
      exact ⟨o, rfl, e, he, hb.1, hb.2⟩
  · have h1 := h0 p hp
    rw [Bool.and_eq_true, beq_iff_eq] at h1
    exact h1.1
def zOf (A S : World → Prop) (b : Bool) (w : World) : Prop := A w ∧ (b = true → S w)
def wpHv (P : Program) (ops : Array Oper) (A S : World → Prop) (K : Act → Prop) : List (Nat × Bool) → Act → Prop
  | [], a => K a
  | k :: ks, a => ∃ o v, ops[k.1]? = some o ∧ YieldsIf P ops (zOf A S k.2) o v a ∧ wpHv P ops A S K ks (a.put o.dst v)
theorem wpHv_cons {K : Act → Prop} {k : Nat × Bool} {ks : List (Nat × Bool)} {a : Act} {o : Oper} {v : Value} (ho : ops[k.1]? = some o) (hw : Region.wanted o (yielded ops a.tmps) = true) (hv : ∀ w, zOf A S k.2 w → (execOp a.eval o).run P w = .ok (.value v) w) (h : wpHv P ops A S K ks (a.put o.dst v)) : wpHv P ops A S K (k :: ks) a := ⟨o, v, ho, .inl ⟨hw, hv⟩, h⟩
theorem wpHv_nil {K : Act → Prop} {a : Act} (h : K a) : wpHv P ops A S K [] a := h
def lexOKv (md : Region.Mode) (ops : Array Oper) (W : List Nat) : List (Nat × Bool) → Array Bool → Bool
  | [], _ => true
  | k :: ks, listed => (Region.ready md ops listed).contains k.1 && Region.free md ops listed k.1 && behindOK md ops (behind md ops k.1) listed k.1 && (!k.2 || W.all fun j => j == k.1 || (behind md ops k.1).contains j) && lexOKv md ops W ks (listed.setIfInBounds k.1 true)
theorem wpV_heads {w : World} (hA : A w) (hS : S w) (hs : Region.noSelect ops = true) (hQ : ∀ c a d v w, Q (.panic c) (Act.put a d v) w → Q (.panic c) a w) : ∀ (is : List (Nat × Bool)) (listed : Array Bool) (a : Act) (fuel : Nat),
    lexOKv md ops W is listed = true → wpHv P ops A S (fun a' => wpV P md ops Q A S W fuel (marksi (is.map (·.1)) listed) a' w) is a → wpV P md ops Q A S W (is.length + fuel) listed a w
  | [], listed, a, fuel, _, h => by rw [List.length_nil, Nat.zero_add]; exact h
  | k :: ks, listed, a, fuel, hB, h => by
    obtain ⟨o, v, ho, hy, hr⟩ := h
    simp only [lexOKv, Bool.and_eq_true] at hB
    obtain ⟨⟨⟨⟨b1, b2⟩, b3⟩, b4⟩, b5⟩ := hB
    obtain ⟨hX, hXl⟩ := behindOK_spec b3
    rw [show (k :: ks).length + fuel = (ks.length + fuel) + 1 by simp only [List.length_cons]; omega]
    refine wpV_first ho (Region.noSelect_spec hs) (fun c a w h => hQ c _ _ _ w h) (behind md ops k.1) hX (zOf A S k.2) (fun w h => h.1) (fun j hji hjX w w' hz hA' hS' => ⟨hA', fun hb => hS' (fun hjW => ?_) (hz.2 hb)⟩) _ _ _ _ (Region.free_spec ho b2) hXl (by simpa using b1) hy ⟨hA, fun _ => hS⟩ (wpV_heads hA hS hs hQ ks _ _ fuel b5 hr)
    rw [hb, Bool.not_true, Bool.false_or] at b4
    have := List.all_eq_true.1 b4 j hjW
    simp only [Bool.or_eq_true, beq_iff_eq, List.contains_iff_mem] at this
    rcases this with h | h
    · exact hji h
    · exact hjX h
theorem wp_region_headsV {id : Nat} {a : Act} {w : World} {l : List Oper} (is : List (Nat × Bool)) (W : List Nat) (A S : World → Prop) (hm : P.follows .mixedOrders = true)
    (hB : (Region.noSelect l.toArray && decide (is.length ≤ l.length) && lexOKv .any l.toArray W is (Array.replicate l.length false)) = true) (hA : A w.drew) (hS : S w.drew)
    (h : wpHv P l.toArray A S (fun a' => wpV P .any l.toArray (NoPanic Q) A S W (l.length - is.length) (marksi (is.map (·.1)) (Array.replicate l.length false)) a' w.drew) is a) : (Code.region id l.toArray true).wp P Q a w := by
  simp only [Bool.and_eq_true, decide_eq_true_eq] at hB
  obtain ⟨⟨hs, hn⟩, hlex⟩ := hB
  refine wp_region_noPanic ?_
  have H := wpV_heads (md := .any) (W := W) (listed := Array.replicate l.length false) (fuel := l.length - is.length) (a := a) hA hS hs (fun _ _ _ _ _ h => h) is hlex h
  rw [show is.length + (l.length - is.length) = l.length by omega] at H
  refine wp_region_any hm ?_
  have := wpAny_of_wpV _ _ _ _ H
  simpa using this
/-- One that may come up now, and no other. -/
theorem wpV_one {k fuel : Nat} {listed : Array Bool} {a : Act} {w : World} {o : Oper} (hr : Region.ready md ops listed = [k]) (ho : ops[k]? = some o)
    (h : ∀ K' : Act → World → Prop, Shut (∀ a w', (A w' ∧ (k ∉ W → S w → S w')) → wpV P md ops Q A S W fuel (listed.setIfInBounds k true) a w' → K' a w') → if Region.wanted o (yielded ops a.tmps) = true then Oper.wp P o a w K' Q else K' (a.put o.dst undef) w) : wpV P md ops Q A S W (fuel + 1) listed a w := by
  refine ⟨fun h0 => (by rw [hr] at h0; cases h0), fun j hj => ?_⟩
  rw [hr] at hj
  have : j = k := by simpa using hj
  subst this
  exact wpOp_step ho (fun K' hK => h K' (fun a w' h1 h2 => hK a w' ⟨h1, h2⟩))
theorem wpV_done {fuel : Nat} {listed : Array Bool} {a : Act} {w : World} (hr : Region.ready md ops listed = []) (h : Q .normal a w) : wpV P md ops Q A S W fuel listed a w := by
  cases fuel with
  | zero => exact ⟨hr, h⟩
  | succ n => exact ⟨fun _ => h, by rw [hr]; simp⟩
end
end Go.Proofs.YtjgloineooadoaaGreatDoor
/- A region that draws its order: two operations that may come up in either order, then what follows. No program in sight. -/
namespace Go.Proofs.YtjgloineooadoaaGreatDoor
section
variable {P : Program} {md : Region.Mode} {ops : Array Oper} {Q : Exit → Act → World → Prop} {A : World → Prop}
theorem wpHv_skip {S : World → Prop} {K : Act → Prop} {k : Nat × Bool} {ks : List (Nat × Bool)} {a : Act} {o : Oper} (ho : ops[k.1]? = some o) (hw : Region.wanted o (yielded ops a.tmps) = false) (h : wpHv P ops A S K ks (a.put o.dst undef)) : wpHv P ops A S K (k :: ks) a := ⟨o, undef, ho, .inr ⟨hw, rfl⟩, h⟩
theorem wpV_two {i j fuel : Nat} {listed : Array Bool} {a : Act} {w : World} {oi oj : Oper} (hr : Region.ready md ops listed = [i, j]) (hri : Region.ready md ops (listed.setIfInBounds i true) = [j]) (hrj : Region.ready md ops (listed.setIfInBounds j true) = [i]) (hi : ops[i]? = some oi) (hj : ops[j]? = some oj) (hij : i ≠ j) (F : Value → Value → World → Prop)
    (hput : ∀ v v', (a.put oj.dst v').put oi.dst v = (a.put oi.dst v).put oj.dst v')
    (h1 : ∀ K' : Act → World → Prop, Shut (∀ v a' w', a' = a.put oi.dst v → A w' → (∀ K'' : Act → World → Prop, Shut (∀ v' a'' w'', a'' = a'.put oj.dst v' → A w'' → F v v' w'' → K'' a'' w'') → if Region.wanted oj (yielded ops a'.tmps) = true then Oper.wp P oj a' w' K'' Q else K'' (a'.put oj.dst undef) w') → K' a' w') → if Region.wanted oi (yielded ops a.tmps) = true then Oper.wp P oi a w K' Q else K' (a.put oi.dst undef) w)
    (h2 : ∀ K' : Act → World → Prop, Shut (∀ v' a' w', a' = a.put oj.dst v' → A w' → (∀ K'' : Act → World → Prop, Shut (∀ v a'' w'', a'' = a'.put oi.dst v → A w'' → F v v' w'' → K'' a'' w'') → if Region.wanted oi (yielded ops a'.tmps) = true then Oper.wp P oi a' w' K'' Q else K'' (a'.put oi.dst undef) w') → K' a' w') → if Region.wanted oj (yielded ops a.tmps) = true then Oper.wp P oj a w K' Q else K' (a.put oj.dst undef) w)
    (h : ∀ v v' w', A w' → F v v' w' → wpV P md ops Q A (fun _ => True) [] fuel ((listed.setIfInBounds i true).setIfInBounds j true) ((a.put oi.dst v).put oj.dst v') w') : wpV P md ops Q A (fun _ => True) [] (fuel + 2) listed a w := by
  refine ⟨fun h0 => (by rw [hr] at h0; cases h0), fun k hk => ?_⟩
  rw [hr] at hk
  have hk' : k = i ∨ k = j := by simpa using hk
  rcases hk' with rfl | rfl
  · refine wpOp_step hi (fun K' hK => h1 K' (fun v a' w' e hA hin => hK a' w' ⟨⟨hA, fun _ _ => trivial⟩, ?_⟩))
    subst e
    exact wpV_one hri hj (fun K'' hK2 => hin K'' (fun v' a'' w'' e hA2 hF => hK2 a'' w'' ⟨hA2, fun _ _ => trivial⟩ (by subst e; exact h v v' w'' hA2 hF)))
  · refine wpOp_step hj (fun K' hK => h2 K' (fun v' a' w' e hA hin => hK a' w' ⟨⟨hA, fun _ _ => trivial⟩, ?_⟩))
    subst e
    exact wpV_one hrj hi (fun K'' hK2 => hin K'' (fun v a'' w'' e hA2 hF => hK2 a'' w'' ⟨hA2, fun _ _ => trivial⟩ (by
      subst e
      rw [hput, Array.setIfInBounds_comm _ _ (Ne.symm hij)]
      exact h v v' w'' hA2 hF)))
/-- Two that may come up now: each way for itself. -/
theorem wpV_split {S : World → Prop} {W : List Nat} {i j fuel : Nat} {listed : Array Bool} {a : Act} {w : World} {oi oj : Oper} (hr : Region.ready md ops listed = [i, j]) (hi : ops[i]? = some oi) (hj : ops[j]? = some oj)
    (h1 : ∀ K' : Act → World → Prop, Shut (∀ a w', (A w' ∧ (i ∉ W → S w → S w')) → wpV P md ops Q A S W fuel (listed.setIfInBounds i true) a w' → K' a w') → if Region.wanted oi (yielded ops a.tmps) = true then Oper.wp P oi a w K' Q else K' (a.put oi.dst undef) w)
    (h2 : ∀ K' : Act → World → Prop, Shut (∀ a w', (A w' ∧ (j ∉ W → S w → S w')) → wpV P md ops Q A S W fuel (listed.setIfInBounds j true) a w' → K' a w') → if Region.wanted oj (yielded ops a.tmps) = true then Oper.wp P oj a w K' Q else K' (a.put oj.dst undef) w) : wpV P md ops Q A S W (fuel + 1) listed a w := by
  refine ⟨fun h0 => (by rw [hr] at h0; cases h0), fun k hk => ?_⟩
  rw [hr] at hk
  have hk' : k = i ∨ k = j := by simpa using hk
  rcases hk' with rfl | rfl
  · exact wpOp_step hi (fun K' hK => h1 K' (fun a w' x y => hK a w' ⟨x, y⟩))
  · exact wpOp_step hj (fun K' hK => h2 K' (fun a w' x y => hK a w' ⟨x, y⟩))
end
end Go.Proofs.YtjgloineooadoaaGreatDoor
/- slices.Clone of arcs, of numbers. -/
namespace Go.Proofs.YtjgloineooadoaaGreatDoor
open Go.RowKit Go.Shelf
def laysCloneArc_ren : Go.Shelf.Ren := ⟨fun | 41 => 12 | n => n, fun | 22 => 26 | 23 => 40 | 4 => 4 | n => n, fun | n => n⟩
theorem laysCloneArc : Go.Proofs.SlLaysE0.n41 Tryz.prog laysCloneArc_ren := {
  mixed := by kernel_rfl
  f41 := ⟨Tryz.f12.name, by decide, Tryz.func12.trans (congrArg some (by kernel_rfl))⟩
  t4 := Tryz.underlying4
  a4 := Tryz.isAgg4
  z4 := Tryz.sizeOf4
  v4 := Tryz.zeroValue4
  t22 := Tryz.underlying26
  a22 := Tryz.isAgg26
  z22 := Tryz.sizeOf26
  v22 := Tryz.zeroValue26 }
theorem news_sl {α : Type} {sz : Nat} {enc : α → List Value} (he : ∀ a, (enc a).length = sz) {w : World} {L : List α} {b off : Nat} (hc : ∀ i a, L[i]? = some a → ∀ r v, (enc a)[r]? = some v → w.cell? ⟨b, off + i * sz + r, none⟩ = some v) : ∀ j u, (flat enc L)[j]? = some u → w.cell? ⟨b, off + j, none⟩ = some u := by
  intro j u hu
  have hl := (List.getElem?_eq_some_iff.1 hu).1
  rw [flat_length he] at hl
  have hs : 0 < sz := by
    rcases Nat.eq_zero_or_pos sz with h | h
    · rw [h, Nat.mul_zero] at hl; omega
    · exact h
  have hi : j / sz < L.length := by
    rw [Nat.div_lt_iff_lt_mul hs]; exact hl
  have hr : j % sz < sz := Nat.mod_lt _ hs
  have e : j / sz * sz + j % sz = j := by rw [Nat.mul_comm]; exact Nat.div_add_mod j sz
  have h1 := flat_get he L (j / sz) (j % sz) hr _ (List.getElem?_eq_getElem hi)
  rw [e, hu] at h1
  have := hc (j / sz) _ (List.getElem?_eq_getElem hi) (j % sz) u h1.symm
  rwa [Nat.add_assoc, e] at this
section
variable {w : World} {V : Value}
theorem cloneA_own {L : List Arc} {B : Nat} (h : w.ownsRow B 40 3 V L.length (flat encA L)) (hl : L.length ≤ 1000000) : Calls Tryz.prog 12 #[V] w fun e w' => ∃ V', e = .returned V' ∧ w'.ownsRow w.heap.size 40 3 V' L.length (flat encA L) ∧ Below w.heap.size w w' := by
  obtain ⟨i0, hi0, hz0, hz1, hz2⟩ := info_parts info_arcM
  have fl : (flat encA L).length = L.length * 3 := flat_length encA_length L
  have one : ∀ u ∈ flat encA L, u.oneCell' = true := fun u hu => by
    obtain ⟨x, -, hx⟩ := List.mem_flatMap.1 hu
    simp [encA] at hx
    rcases hx with rfl | rfl | rfl <;> rfl
  rcases h.2 with ⟨rfl, h0⟩ | ⟨g, cap, cur, rfl, hg, hh, hle, r⟩
  · have h0' : L.length = 0 := h0
    have : L = [] := List.length_eq_zero_iff.1 h0'
    subst this
    refine (AnyE.slices_Clone_nil laysCloneArc 0 0 w).mono ?_
    rintro e w' ⟨rfl, rfl⟩
    exact ⟨_, rfl, ⟨rfl, .inl ⟨rfl, rfl⟩⟩, Below.refl _ _⟩
  · refine (AnyE.slices_Clone laysCloneArc i0 _ 3 24 hi0 hz0 hz1 hz2 rfl (by decide) (fun w => Tryz.sizeOf40 w) g 0 L.length cap (flat encA L) w fl (by simp only [maxLen]; omega) (by omega) (fun j u hu => ?_) one).mono ?_
    · have hj := (List.getElem?_eq_some_iff.1 hu).1
      rw [fl] at hj
      rw [Nat.zero_add, h.cellAt j hj]
      exact hu
    · rintro e w' ⟨v', rfl, h1, -, h2⟩
      exact ⟨v', rfl, h1, h2⟩
theorem cloneI_any {xs : List Int} (h : Ints w V xs) (hl : xs.length ≤ 1000000) : Calls Tryz.prog 11 #[V] w fun e w' => ∃ V', e = .returned V' ∧ w'.ownsRow w.heap.size 3 1 V' xs.length (flat encI xs) ∧ Below w.heap.size w w' := by
  obtain ⟨A, cap, rfl, -, hn, hA⟩ := h.at_
  by_cases h0 : 0 < xs.length
  · obtain ⟨b, off, rfl, hc⟩ := hA h0
    refine (Tryz.slices_Clone_int b off xs.length cap xs w (Nat.le_refl _) (by omega) (fun j hj => ?_)).mono ?_
    · rw [hc j _ (List.getElem?_eq_getElem hj)]
      simp [hj]
    · rintro e w' ⟨v', rfl, h1, -, h2⟩
      rw [List.take_of_length_le (Nat.le_refl _), ← flat_encI] at h1
      exact ⟨v', rfl, h1, h2⟩
  · have h0' : xs.length = 0 := by omega
    have : xs = [] := List.length_eq_zero_iff.1 h0'
    subst this
    cases A with
    | none =>
      refine (Tryz.slices_Clone_int_nil 0 cap w).mono ?_
      rintro e w' ⟨rfl, rfl⟩
      exact ⟨_, rfl, ⟨rfl, .inl ⟨rfl, rfl⟩⟩, Below.refl _ _⟩
    | some a =>
      refine (Tryz.slices_Clone_int_zero a cap w).mono ?_
      rintro e w' ⟨v', rfl, h1, -, h2⟩
      exact ⟨v', rfl, h1, h2⟩
end
end Go.Proofs.YtjgloineooadoaaGreatDoor
