/- A graph turned; two graphs side by side: what the least costs are. No program in sight. -/
import Derived.Test.YtimffpnfhkobkaaMgG18
namespace Go.Proofs.Ytimffpnfhkobkaa
open Go.RowKit
theorem backL_back (L : List Arc) : backL (backL L) = L := by
  unfold backL
  rw [List.map_map]
  conv => rhs; rw [← List.map_id L]
  rfl
theorem backL_takeT {L : List Arc} {i : Nat} {a : Arc} (h : L[i]? = some a) : backL (L.take (i + 1)) = backL (L.take i) ++ [(a.2.1, a.1, a.2.2)] := by
  obtain ⟨h1, h2⟩ := List.getElem?_eq_some_iff.1 h
  rw [List.take_succ_eq_append_getElem h1, h2, backL_snoc]
theorem backL_lengthT (L : List Arc) : (backL L).length = L.length := by simp [backL]
theorem backL_inX {L : List Arc} {m : Nat} (h : InX L m) : InX (backL L) m := fun a ha => by
  obtain ⟨b, hb, rfl⟩ := List.mem_map.1 ha
  obtain ⟨f, t, e1, e2, h1, h2⟩ := h b hb
  exact ⟨t, f, e2, e1, h2, h1⟩
/-- The least cost of a graph turned is the same. -/
theorem back_same {n : Nat} {L : List Arc} {xs fs ys gs : List Int} {ways ways2 : Nat} (k : Okg n L) (k2 : Okg n (backL L)) (S : Sol n L xs fs ways) (S2 : Sol n (backL L) ys gs ways2) : costL ys (backL L) = costL xs L := by
  have i1 : InX L xs.length := by rw [S.lx]; exact k.inX
  have i2 : InX (backL L) ys.length := by rw [S2.lx]; exact k2.inX
  have h1 := S2.best k2 (ys := xs.map fun v => -v) (by rw [fit_back i1]; exact S.fit)
  rw [cost_back i1] at h1
  have h2 := S.best k (ys := ys.map fun v => -v) (by
    have := fit_back i2
    rw [backL_back] at this
    rw [this]
    exact S2.fit)
  have h3 := cost_back i2
  rw [backL_back] at h3
  rw [h3] at h2
  omega
def shL (n : Nat) (M : List Arc) : List Arc := M.map fun a => ((n : Int) + a.1, (n : Int) + a.2.1, a.2.2)
theorem shL_take (n : Nat) {M : List Arc} {i : Nat} {a : Arc} (h : M[i]? = some a) : shL n (M.take (i + 1)) = shL n (M.take i) ++ [((n : Int) + a.1, (n : Int) + a.2.1, a.2.2)] := by
  obtain ⟨h1, h2⟩ := List.getElem?_eq_some_iff.1 h
  rw [List.take_succ_eq_append_getElem h1, h2]
  simp [shL]
theorem costL_app (l : List Int) (M : List Arc) : ∀ L : List Arc, costL l (L ++ M) = costL l L + costL l M
  | [] => by simp [costL]
  | a :: L => by simp only [List.cons_append, costL]; rw [costL_app l M L]; omega
theorem at_drop (l : List Int) (n v : Nat) : at_ (l.drop n) (v : Int) = at_ l ((n : Int) + (v : Int)) := by
  unfold at_
  rw [List.getElem?_drop]
  congr 2
theorem at_left {xs zs : List Int} {v : Nat} (h : v < xs.length) : at_ (xs ++ zs) (v : Int) = at_ xs (v : Int) := by
  unfold at_
  simp [List.getElem?_append_left, h]
theorem sh_cost {n m : Nat} (l : List Int) : ∀ {M : List Arc}, InX M m → costL l (shL n M) = costL (l.drop n) M
  | [], _ => rfl
  | a :: M, h => by
    have ih := sh_cost (n := n) l (M := M) (fun b hb => h b (by simp [hb]))
    obtain ⟨f, t, e1, e2, h1, h2⟩ := h a (by simp)
    show a.2.2 * (at_ l ((n : Int) + a.2.1) - at_ l ((n : Int) + a.1)) + costL l (shL n M) = a.2.2 * (at_ (l.drop n) a.2.1 - at_ (l.drop n) a.1) + costL (l.drop n) M
    rw [ih, e1, e2, at_drop, at_drop]
theorem sh_fit {n m : Nat} (l : List Int) : ∀ {M : List Arc}, InX M m → (shL n M).all (fitA l) = M.all (fitA (l.drop n))
  | [], _ => rfl
  | a :: M, h => by
    have ih := sh_fit (n := n) l (M := M) (fun b hb => h b (by simp [hb]))
    obtain ⟨f, t, e1, e2, h1, h2⟩ := h a (by simp)
    show (fitA l ((n : Int) + a.1, (n : Int) + a.2.1, a.2.2) && (shL n M).all (fitA l)) = (fitA (l.drop n) a && M.all (fitA (l.drop n)))
    rw [ih]
    congr 1
    unfold fitA
    simp only
    rw [e1, e2, at_drop, at_drop]
theorem left_cost {n : Nat} {xs zs : List Int} (hl : xs.length = n) : ∀ {L : List Arc}, InX L n → costL (xs ++ zs) L = costL xs L
  | [], _ => rfl
  | a :: L, h => by
    have ih := left_cost (zs := zs) hl (L := L) (fun b hb => h b (by simp [hb]))
    obtain ⟨f, t, e1, e2, h1, h2⟩ := h a (by simp)
    simp only [costL]
    rw [ih, e1, e2, at_left (by omega), at_left (by omega)]
theorem left_fit {n : Nat} {xs zs : List Int} (hl : xs.length = n) : ∀ {L : List Arc}, InX L n → L.all (fitA (xs ++ zs)) = L.all (fitA xs)
  | [], _ => rfl
  | a :: L, h => by
    have ih := left_fit (zs := zs) hl (L := L) (fun b hb => h b (by simp [hb]))
    obtain ⟨f, t, e1, e2, h1, h2⟩ := h a (by simp)
    simp only [List.all_cons]
    rw [ih]
    congr 1
    unfold fitA
    rw [e1, e2, at_left (by omega), at_left (by omega)]
theorem both_right {n m : Nat} {L M : List Arc} (k : Okg n L) (k2 : Okg m M) (hn : n + m ≤ 4096) (hl : L.length + M.length ≤ 16384) : rightB ((n + m : Nat) : Int) (L ++ shL n M) = true := by
  refine right_of hn (by simp [shL]; exact hl) (fun a ha => ?_)
  rcases List.mem_append.1 ha with ha | ha
  · obtain ⟨i, hi⟩ := List.getElem?_of_mem ha
    obtain ⟨f, t, x, e, h1, h2, h3⟩ := k.arc i a hi
    exact ⟨f, t, x, e, by omega, by omega, h3⟩
  · obtain ⟨b, hb, rfl⟩ := List.mem_map.1 ha
    obtain ⟨i, hi⟩ := List.getElem?_of_mem hb
    obtain ⟨f, t, x, rfl, h1, h2, h3⟩ := k2.arc i b hi
    exact ⟨n + f, n + t, x, by simp, by omega, by omega, h3⟩
theorem both_dag {n m : Nat} {L M : List Arc} (k : Okg n L) (k2 : Okg m M) (hn : n + m ≤ 4096) (hl : L.length + M.length ≤ 16384) (h1 : ∀ a ∈ L, a.1.toNat < a.2.1.toNat) (h2 : ∀ a ∈ M, a.1.toNat < a.2.1.toNat) : ordE ((n + m : Nat) : Int) (L ++ shL n M) = 0 := by
  refine ordE_dag (both_right k k2 hn hl) id (fun a ha => ?_)
  rcases List.mem_append.1 ha with ha | ha
  · exact h1 a ha
  · obtain ⟨b, hb, rfl⟩ := List.mem_map.1 ha
    have h3 := h2 b hb
    obtain ⟨i, hi⟩ := List.getElem?_of_mem hb
    obtain ⟨f, t, x, rfl, q1, q2, q3⟩ := k2.arc i b hi
    simp only [id] at h3 ⊢
    omega
/-- Two graphs side by side: both least costs together. -/
theorem both_same {n m : Nat} {L M : List Arc} {xs fs zs gs us hs : List Int} {ways ways2 ways3 : Nat} (k : Okg n L) (k2 : Okg m M) (k3 : Okg (n + m) (L ++ shL n M)) (S : Sol n L xs fs ways) (S2 : Sol m M zs gs ways2) (S3 : Sol (n + m) (L ++ shL n M) us hs ways3) :
    costL us (L ++ shL n M) = costL xs L + costL zs M := by
  have i1 := k.inX
  have i2 := k2.inX
  have e1 : (xs ++ zs).drop n = zs := by rw [← S.lx]; simp
  have h1 := S3.best k3 (ys := xs ++ zs) (by
    rw [List.all_append, left_fit S.lx i1, sh_fit (m := m) _ i2, e1, S.fit, S2.fit]; rfl)
  rw [costL_app, costL_app, left_cost S.lx i1, sh_cost (m := m) _ i2, sh_cost (m := m) _ i2, e1] at h1
  have hf := S3.fit
  rw [List.all_append, Bool.and_eq_true, sh_fit (m := m) _ i2] at hf
  have h2 := S.best k hf.1
  have h3 := S2.best k2 hf.2
  rw [costL_app, sh_cost (m := m) _ i2]
  omega
end Go.Proofs.Ytimffpnfhkobkaa
