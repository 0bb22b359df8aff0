/- A region that draws its order: its reads are taken first. Some facts (A) hold all along, some (S) only till an operation of W has come up: a read that needs S must stand, over however many steps, before all of W. No program in sight. -/
import Derived.Test.YtmnfefebbadflaaHeldW
import Derived.Test.YtmnfefebbadflaaBag
namespace Go.Proofs.Ytmnfefebbadflaa
section
variable {P : Program} {md : Region.Mode} {ops : Array Oper} {Q : Exit → Act → World → Prop} {A S : World → Prop} {W : List Nat}
def wpV (P : Program) (md : Region.Mode) (ops : Array Oper) (Q : Exit → Act → World → Prop) (A S : World → Prop) (W : List Nat) : Nat → Array Bool → Act → World → Prop
  | 0, listed, a, w => Region.ready md ops listed = [] ∧ Q .normal a w
  | fuel + 1, listed, a, w => (Region.ready md ops listed = [] → Q .normal a w) ∧ ∀ j ∈ Region.ready md ops listed, wpOp P ops Q j (fun a' w' => (A w' ∧ (j ∉ W → S w → S w')) ∧ wpV P md ops Q A S W fuel (listed.setIfInBounds j true) a' w') a w
theorem wpAny_of_wpV : ∀ (fuel : Nat) (listed : Array Bool) (a : Act) (w : World), wpV P md ops Q A S W fuel listed a w → wpAny P md ops Q fuel listed a w
  | 0, _, _, _, h => h
  | fuel + 1, _, _, _, h => ⟨h.1, fun i hi => wpOp_mono (fun a' w' h' => wpAny_of_wpV fuel _ a' w' h'.2) (h.2 i hi)⟩
theorem wpV_first {i : Nat} {oi : Oper} {v : Value} (hi : ops[i]? = some oi) (hsel : ∀ (j : Nat) (o : Oper) cs b, ops[j]? = some o → o.op ≠ .select cs b) (hQ : ∀ c a w, Q (.panic c) (a.put oi.dst v) w → Q (.panic c) a w)
    (X : List Nat) (hX : ∀ p ∈ X, ∃ op, ops[p]? = some op ∧ ∃ e ∈ op.after, Region.binds md e = true ∧ (e.on = i ∨ e.on ∈ X))
    (Z : World → Prop) (hZA : ∀ w, Z w → A w) (hZ : ∀ j, j ≠ i → j ∉ X → ∀ w w', Z w → A w' → (j ∉ W → S w → S w') → Z w') : ∀ (fuel : Nat) (listed : Array Bool) (a : Act) (w : World),
      (∀ j oj, ops[j]? = some oj → j ≠ i → listed.getD j true = false → (∀ e ∈ oj.after, Region.binds md e = true → e.on ≠ i) → oi.apart ops oj = true) →
      (∀ p ∈ X, listed.getD p true = false) →
      i ∈ Region.ready md ops listed → YieldsIf P ops Z oi v a → Z w → wpV P md ops Q A S W fuel (listed.setIfInBounds i true) (a.put oi.dst v) w → wpV P md ops Q A S W (fuel + 1) listed a w := by
  intro fuel
  induction fuel with
  | zero =>
    intro listed a w _ _ hr hy hS H
    refine ⟨fun h => absurd hr (by rw [h]; simp), fun j hj => ?_⟩
    by_cases hji : j = i
    · subst hji; exact hy.wpOp hi hS ⟨⟨hZA _ hS, fun _ h => h⟩, H⟩
    · exact absurd (ready_mono hj hji) (by rw [H.1]; simp)
  | succ fuel ih =>
    intro listed a w hfree hXl hr hy hS H
    refine ⟨fun h => absurd hr (by rw [h]; simp), fun j hj => ?_⟩
    by_cases hji : j = i
    · subst hji; exact hy.wpOp hi hS ⟨⟨hZA _ hS, fun _ h => h⟩, H⟩
    obtain ⟨hjun, oj, hoj, hall⟩ := mem_ready.1 hj
    have hun := (mem_ready.1 hr).1
    have toF : ∀ {k : Nat}, listed.getD k true = false → listed.getD k false = true → False := fun {k} h0 h1 => by
      rcases Nat.lt_or_ge k listed.size with h' | h'
      · simp [h'] at h0 h1; rw [h0] at h1; cases h1
      · simp [Array.getElem?_eq_none h'] at h1
    have hnot : ∀ e ∈ oj.after, Region.binds md e = true → e.on ≠ i := fun e he hb heq => by
      have h1 := hall e he hb
      rw [heq] at h1
      exact toF hun h1
    have hjX : j ∉ X := fun h => by
      obtain ⟨oj', ho', e, he, hb, hon⟩ := hX j h
      have : oj' = oj := Option.some.inj (ho'.symm.trans hoj)
      subst this
      rcases hon with hon | hon
      · exact hnot e he hb hon
      · exact toF (hXl _ hon) (hall e he hb)
    have h2 := wpOp_putIf hoj (hfree j oj hoj hji hjun hnot) (fun cs b => hsel i oi cs b hi) (fun cs b => hsel j oj cs b hoj) hQ hy (H.2 j (ready_mono hj hji))
    refine wpOp_mono (fun a' w' h3 => ⟨h3.2.1, ih _ a' w' (fun k ok hk hki hkun hno => hfree k ok hk hki ?_ hno) (fun p hp => ?_) (ready_mono hr (Ne.symm hji)) h3.1 (hZ j hji hjX w w' hS h3.2.1.1 h3.2.1.2) ?_⟩) h2
    · by_cases hjk : j = k
      · subst hjk; exact hjun
      · rw [getD_set_ne true hjk] at hkun; exact hkun
    · rw [getD_set_ne true (fun e : j = p => hjX (e ▸ hp))]; exact hXl p hp
    · rw [Array.setIfInBounds_comm _ _ hji]; exact h3.2.2
/-- What waits for i, over however many steps. -/
def behind (md : Region.Mode) (ops : Array Oper) (i : Nat) : List Nat := (List.range ops.size).foldl (fun X p => if (ops[p]?.map fun o => o.after.any fun e => Region.binds md e && (e.on == i || X.contains e.on)).getD false then p :: X else X) []
def behindOK (md : Region.Mode) (ops : Array Oper) (X : List Nat) (listed : Array Bool) (i : Nat) : Bool := X.all fun p => listed.getD p true == false && (ops[p]?.map fun o => o.after.any fun e => Region.binds md e && (e.on == i || X.contains e.on)).getD false
theorem behindOK_spec {X : List Nat} {listed : Array Bool} {i : Nat} (h : behindOK md ops X listed i = true) : (∀ p ∈ X, ∃ op, ops[p]? = some op ∧ ∃ e ∈ op.after, Region.binds md e = true ∧ (e.on = i ∨ e.on ∈ X)) ∧ ∀ p ∈ X, listed.getD p true = false := by
  have h0 := fun p hp => List.all_eq_true.1 h p hp
  refine ⟨fun p hp => ?_, fun p hp => ?_⟩
  · have h1 := h0 p hp
    rw [Bool.and_eq_true] at h1
    cases ho : ops[p]? with
    | none => rw [ho] at h1; simp at h1
    | some o =>
      rw [ho] at h1
      obtain ⟨e, he, hb⟩ := Array.any_eq_true'.1 h1.2
      rw [Bool.and_eq_true, Bool.or_eq_true, beq_iff_eq, List.contains_iff_mem] at hb
      exact ⟨o, rfl, e, he, hb.1, hb.2⟩
  · have h1 := h0 p hp
    rw [Bool.and_eq_true, beq_iff_eq] at h1
    exact h1.1
def zOf (A S : World → Prop) (b : Bool) (w : World) : Prop := A w ∧ (b = true → S w)
def wpHv (P : Program) (ops : Array Oper) (A S : World → Prop) (K : Act → Prop) : List (Nat × Bool) → Act → Prop
  | [], a => K a
  | k :: ks, a => ∃ o v, ops[k.1]? = some o ∧ YieldsIf P ops (zOf A S k.2) o v a ∧ wpHv P ops A S K ks (a.put o.dst v)
theorem wpHv_cons {K : Act → Prop} {k : Nat × Bool} {ks : List (Nat × Bool)} {a : Act} {o : Oper} {v : Value} (ho : ops[k.1]? = some o) (hw : Region.wanted o (yielded ops a.tmps) = true) (hv : ∀ w, zOf A S k.2 w → (execOp a.eval o).run P w = .ok (.value v) w) (h : wpHv P ops A S K ks (a.put o.dst v)) : wpHv P ops A S K (k :: ks) a := ⟨o, v, ho, .inl ⟨hw, hv⟩, h⟩
theorem wpHv_nil {K : Act → Prop} {a : Act} (h : K a) : wpHv P ops A S K [] a := h
def lexOKv (md : Region.Mode) (ops : Array Oper) (W : List Nat) : List (Nat × Bool) → Array Bool → Bool
  | [], _ => true
  | k :: ks, listed => (Region.ready md ops listed).contains k.1 && Region.free md ops listed k.1 && behindOK md ops (behind md ops k.1) listed k.1 && (!k.2 || W.all fun j => j == k.1 || (behind md ops k.1).contains j) && lexOKv md ops W ks (listed.setIfInBounds k.1 true)
theorem wpV_heads {w : World} (hA : A w) (hS : S w) (hs : Region.noSelect ops = true) (hQ : ∀ c a d v w, Q (.panic c) (Act.put a d v) w → Q (.panic c) a w) : ∀ (is : List (Nat × Bool)) (listed : Array Bool) (a : Act) (fuel : Nat),
    lexOKv md ops W is listed = true → wpHv P ops A S (fun a' => wpV P md ops Q A S W fuel (marksi (is.map (·.1)) listed) a' w) is a → wpV P md ops Q A S W (is.length + fuel) listed a w
  | [], listed, a, fuel, _, h => by rw [List.length_nil, Nat.zero_add]; exact h
  | k :: ks, listed, a, fuel, hB, h => by
    obtain ⟨o, v, ho, hy, hr⟩ := h
    simp only [lexOKv, Bool.and_eq_true] at hB
    obtain ⟨⟨⟨⟨b1, b2⟩, b3⟩, b4⟩, b5⟩ := hB
    obtain ⟨hX, hXl⟩ := behindOK_spec b3
    rw [show (k :: ks).length + fuel = (ks.length + fuel) + 1 by simp only [List.length_cons]; omega]
    refine wpV_first ho (Region.noSelect_spec hs) (fun c a w h => hQ c _ _ _ w h) (behind md ops k.1) hX (zOf A S k.2) (fun w h => h.1) (fun j hji hjX w w' hz hA' hS' => ⟨hA', fun hb => hS' (fun hjW => ?_) (hz.2 hb)⟩) _ _ _ _ (Region.free_spec ho b2) hXl (by simpa using b1) hy ⟨hA, fun _ => hS⟩ (wpV_heads hA hS hs hQ ks _ _ fuel b5 hr)
    rw [hb, Bool.not_true, Bool.false_or] at b4
    have := List.all_eq_true.1 b4 j hjW
    simp only [Bool.or_eq_true, beq_iff_eq, List.contains_iff_mem] at this
    rcases this with h | h
    · exact hji h
    · exact hjX h
theorem wp_region_headsV {id : Nat} {a : Act} {w : World} {l : List Oper} (is : List (Nat × Bool)) (W : List Nat) (A S : World → Prop) (hm : P.follows .mixedOrders = true)
    (hB : (Region.noSelect l.toArray && decide (is.length ≤ l.length) && lexOKv .any l.toArray W is (Array.replicate l.length false)) = true) (hA : A w.drew) (hS : S w.drew)
    (h : wpHv P l.toArray A S (fun a' => wpV P .any l.toArray (NoPanic Q) A S W (l.length - is.length) (marksi (is.map (·.1)) (Array.replicate l.length false)) a' w.drew) is a) : (Code.region id l.toArray true).wp P Q a w := by
  simp only [Bool.and_eq_true, decide_eq_true_eq] at hB
  obtain ⟨⟨hs, hn⟩, hlex⟩ := hB
  refine wp_region_noPanic ?_
  have H := wpV_heads (md := .any) (W := W) (listed := Array.replicate l.length false) (fuel := l.length - is.length) (a := a) hA hS hs (fun _ _ _ _ _ h => h) is hlex h
  rw [show is.length + (l.length - is.length) = l.length by omega] at H
  refine wp_region_any hm ?_
  have := wpAny_of_wpV _ _ _ _ H
  simpa using this
/-- One that may come up now, and no other. -/
theorem wpV_one {k fuel : Nat} {listed : Array Bool} {a : Act} {w : World} {o : Oper} (hr : Region.ready md ops listed = [k]) (ho : ops[k]? = some o)
    (h : ∀ K' : Act → World → Prop, Shut (∀ a w', (A w' ∧ (k ∉ W → S w → S w')) → wpV P md ops Q A S W fuel (listed.setIfInBounds k true) a w' → K' a w') → if Region.wanted o (yielded ops a.tmps) = true then Oper.wp P o a w K' Q else K' (a.put o.dst undef) w) : wpV P md ops Q A S W (fuel + 1) listed a w := by
  refine ⟨fun h0 => (by rw [hr] at h0; cases h0), fun j hj => ?_⟩
  rw [hr] at hj
  have : j = k := by simpa using hj
  subst this
  exact wpOp_step ho (fun K' hK => h K' (fun a w' h1 h2 => hK a w' ⟨h1, h2⟩))
theorem wpV_done {fuel : Nat} {listed : Array Bool} {a : Act} {w : World} (hr : Region.ready md ops listed = []) (h : Q .normal a w) : wpV P md ops Q A S W fuel listed a w := by
  cases fuel with
  | zero => exact ⟨hr, h⟩
  | succ n => exact ⟨fun _ => h, by rw [hr]; simp⟩
end
end Go.Proofs.Ytmnfefebbadflaa
