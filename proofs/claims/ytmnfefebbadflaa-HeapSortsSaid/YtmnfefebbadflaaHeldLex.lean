/- A region that draws its order: its first operations, which read only, are taken in the text's order, whatever follows. No program in sight. -/
import Derived.Test.YtmnfefebbadflaaSl
import Derived.Deep.RegionHeld3
import Derived.StillTactics
namespace Go.Proofs.Ytmnfefebbadflaa
section
variable {P : Program} {md : Region.Mode} {ops : Array Oper} {Q : Exit → Act → World → Prop} {S : World → Prop}
def wpHd (P : Program) (ops : Array Oper) (S : World → Prop) (K : Act → Prop) : List Oper → Act → Prop
  | [], a => K a
  | o :: l, a => ∃ v, YieldsIf P ops S o v a ∧ wpHd P ops S K l (a.put o.dst v)
theorem wpHd_cons {K : Act → Prop} {o : Oper} {l : List Oper} {a : Act} {v : Value} (hw : Region.wanted o (yielded ops a.tmps) = true) (hv : ∀ w, S w → (execOp a.eval o).run P w = .ok (.value v) w) (h : wpHd P ops S K l (a.put o.dst v)) : wpHd P ops S K (o :: l) a := ⟨v, .inl ⟨hw, hv⟩, h⟩
theorem wpHd_skip {K : Act → Prop} {o : Oper} {l : List Oper} {a : Act} (hw : Region.wanted o (yielded ops a.tmps) = false) (h : wpHd P ops S K l (a.put o.dst undef)) : wpHd P ops S K (o :: l) a := ⟨undef, .inr ⟨hw, rfl⟩, h⟩
theorem wpHd_nil {K : Act → Prop} {a : Act} (h : K a) : wpHd P ops S K [] a := h
def lexOK (md : Region.Mode) (ops : Array Oper) : Nat → Nat → Array Bool → Bool
  | 0, _, _ => true
  | f + 1, k, listed => (Region.ready md ops listed).contains k && Region.free md ops listed k && lexOK md ops f (k + 1) (listed.setIfInBounds k true)
def marks : Nat → Nat → Array Bool → Array Bool
  | 0, _, l => l
  | f + 1, k, l => marks f (k + 1) (l.setIfInBounds k true)
theorem wpAnyH_head {w : World} (hS : S w) (hs : Region.noSelect ops = true) (hQ : ∀ c a d v w, Q (.panic c) (Act.put a d v) w → Q (.panic c) a w) : ∀ (l : List Oper) (k : Nat) (listed : Array Bool) (a : Act) (fuel : Nat),
    (∀ j, j < l.length → ops[k + j]? = l[j]?) → lexOK md ops l.length k listed = true → wpHd P ops S (fun a' => wpAnyH P md ops Q S fuel (marks l.length k listed) a' w) l a → wpAnyH P md ops Q S (l.length + fuel) listed a w
  | [], k, listed, a, fuel, _, _, h => by rw [List.length_nil, Nat.zero_add]; exact h
  | o :: l, k, listed, a, fuel, hl, hB, h => by
    obtain ⟨v, hy, hr⟩ := h
    simp only [List.length_cons, lexOK, Bool.and_eq_true] at hB
    have h0 : ops[k]? = some o := by simpa using hl 0 (by simp)
    rw [show (o :: l).length + fuel = (l.length + fuel) + 1 by simp only [List.length_cons]; omega]
    refine wpAnyH_take h0 hs hB.1.2 hB.1.1 (fun c a w h => hQ c _ _ _ w h) hy hS ?_
    refine wpAnyH_head hS hs hQ l (k + 1) _ _ fuel (fun j hj => ?_) hB.2 hr
    have := hl (j + 1) (by simp only [List.length_cons]; omega)
    rw [show k + 1 + j = k + (j + 1) by omega, this]
    simp
theorem wp_region_head {id : Nat} {a : Act} {w : World} {l : List Oper} (n : Nat) (S : World → Prop) (hm : P.follows .mixedOrders = true)
    (hB : (Region.noSelect l.toArray && decide (n ≤ l.length) && lexOK .any l.toArray n 0 (Array.replicate l.length false)) = true) (hS : S w.drew)
    (h : wpHd P l.toArray S (fun a' => wpAnyH P .any l.toArray (NoPanic Q) S (l.length - n) (marks n 0 (Array.replicate l.length false)) a' w.drew) (l.take n) a) : (Code.region id l.toArray true).wp P Q a w := by
  simp only [Bool.and_eq_true, decide_eq_true_eq] at hB
  obtain ⟨⟨hs, hn⟩, hlex⟩ := hB
  have htl : (l.take n).length = n := by simp; omega
  refine wp_region_noPanic (wp_region_held_drew (S := S) hm hS (fun hS => ?_))
  have H := wpAnyH_head (md := .any) (k := 0) (listed := Array.replicate l.length false) (fuel := l.length - n) (a := a) hS hs (fun _ _ _ _ _ h => h) (l.take n) (fun j hj => by
    have hj' : j < n := by rw [htl] at hj; exact hj
    simp [hj']) (by rw [htl]; exact hlex) (by rw [htl]; exact h)
  rw [htl, show n + (l.length - n) = l.length by omega] at H
  simpa using H
end
end Go.Proofs.Ytmnfefebbadflaa
