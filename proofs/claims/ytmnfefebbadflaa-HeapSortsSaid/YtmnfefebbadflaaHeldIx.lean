/- A region that draws its order: those of its operations that read only are taken first, in an order of one's own; then the others. No program in sight. -/
import Derived.Test.YtmnfefebbadflaaHeldLex
namespace Go.Proofs.Ytmnfefebbadflaa
section
variable {P : Program} {md : Region.Mode} {ops : Array Oper} {Q : Exit → Act → World → Prop} {S : World → Prop}
def wpHi (P : Program) (ops : Array Oper) (S : World → Prop) (K : Act → Prop) : List Nat → Act → Prop
  | [], a => K a
  | k :: ks, a => ∃ o v, ops[k]? = some o ∧ YieldsIf P ops S o v a ∧ wpHi P ops S K ks (a.put o.dst v)
theorem wpHi_cons {K : Act → Prop} {k : Nat} {ks : List Nat} {a : Act} {o : Oper} {v : Value} (ho : ops[k]? = some o) (hw : Region.wanted o (yielded ops a.tmps) = true) (hv : ∀ w, S w → (execOp a.eval o).run P w = .ok (.value v) w) (h : wpHi P ops S K ks (a.put o.dst v)) : wpHi P ops S K (k :: ks) a := ⟨o, v, ho, .inl ⟨hw, hv⟩, h⟩
theorem wpHi_skip {K : Act → Prop} {k : Nat} {ks : List Nat} {a : Act} {o : Oper} (ho : ops[k]? = some o) (hw : Region.wanted o (yielded ops a.tmps) = false) (h : wpHi P ops S K ks (a.put o.dst undef)) : wpHi P ops S K (k :: ks) a := ⟨o, undef, ho, .inr ⟨hw, rfl⟩, h⟩
theorem wpHi_nil {K : Act → Prop} {a : Act} (h : K a) : wpHi P ops S K [] a := h
def lexOKi (md : Region.Mode) (ops : Array Oper) : List Nat → Array Bool → Bool
  | [], _ => true
  | k :: ks, listed => (Region.ready md ops listed).contains k && Region.free md ops listed k && lexOKi md ops ks (listed.setIfInBounds k true)
def marksi : List Nat → Array Bool → Array Bool
  | [], l => l
  | k :: ks, l => marksi ks (l.setIfInBounds k true)
theorem wpAnyH_heads {w : World} (hS : S w) (hs : Region.noSelect ops = true) (hQ : ∀ c a d v w, Q (.panic c) (Act.put a d v) w → Q (.panic c) a w) : ∀ (is : List Nat) (listed : Array Bool) (a : Act) (fuel : Nat),
    lexOKi md ops is listed = true → wpHi P ops S (fun a' => wpAnyH P md ops Q S fuel (marksi is listed) a' w) is a → wpAnyH P md ops Q S (is.length + fuel) listed a w
  | [], listed, a, fuel, _, h => by rw [List.length_nil, Nat.zero_add]; exact h
  | k :: ks, listed, a, fuel, hB, h => by
    obtain ⟨o, v, ho, hy, hr⟩ := h
    simp only [lexOKi, Bool.and_eq_true] at hB
    rw [show (k :: ks).length + fuel = (ks.length + fuel) + 1 by simp only [List.length_cons]; omega]
    exact wpAnyH_take ho hs hB.1.2 hB.1.1 (fun c a w h => hQ c _ _ _ w h) hy hS (wpAnyH_heads hS hs hQ ks _ _ fuel hB.2 hr)
theorem wp_region_heads {id : Nat} {a : Act} {w : World} {l : List Oper} (is : List Nat) (S : World → Prop) (hm : P.follows .mixedOrders = true)
    (hB : (Region.noSelect l.toArray && decide (is.length ≤ l.length) && lexOKi .any l.toArray is (Array.replicate l.length false)) = true) (hS : S w.drew)
    (h : wpHi P l.toArray S (fun a' => wpAnyH P .any l.toArray (NoPanic Q) S (l.length - is.length) (marksi is (Array.replicate l.length false)) a' w.drew) is a) : (Code.region id l.toArray true).wp P Q a w := by
  simp only [Bool.and_eq_true, decide_eq_true_eq] at hB
  obtain ⟨⟨hs, hn⟩, hlex⟩ := hB
  refine wp_region_noPanic (wp_region_held_drew (S := S) hm hS (fun hS => ?_))
  have H := wpAnyH_heads (md := .any) (listed := Array.replicate l.length false) (fuel := l.length - is.length) (a := a) hS hs (fun _ _ _ _ _ h => h) is hlex h
  rw [show is.length + (l.length - is.length) = l.length by omega] at H
  simpa using H
end
end Go.Proofs.Ytmnfefebbadflaa
