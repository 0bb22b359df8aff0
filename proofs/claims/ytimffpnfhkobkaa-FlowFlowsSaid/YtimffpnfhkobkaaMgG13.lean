/- A region that draws its order: its reads are taken first. Some facts (A) hold all along, some (S) only till an operation of W has come up: a read that needs S must stand, over however many steps, before all of W. No program in sight. -/
import Derived.Test.YtimffpnfhkobkaaMgG7
import Derived.Test.YtimffpnfhkobkaaMgG12
import Derived.Test.YtimffpnfhkobkaaMgG0
import Derived.Test.YtimffpnfhkobkaaMgG2
import Derived.Test.YtimffpnfhkobkaaMgG9
import Derived.Test.YtimffpnfhkobkaaMgG10
namespace Go.Proofs.Ytimffpnfhkobkaa
section
variable {P : Program} {md : Region.Mode} {ops : Array Oper} {Q : Exit → Act → World → Prop} {A S : World → Prop} {W : List Nat}
def wpV (P : Program) (md : Region.Mode) (ops : Array Oper) (Q : Exit → Act → World → Prop) (A S : World → Prop) (W : List Nat) : Nat → Array Bool → Act → World → Prop
  | 0, listed, a, w => Region.ready md ops listed = [] ∧ Q .normal a w
  | fuel + 1, listed, a, w => (Region.ready md ops listed = [] → Q .normal a w) ∧ ∀ j ∈ Region.ready md ops listed, wpOp P ops Q j (fun a' w' => (A w' ∧ (j ∉ W → S w → S w')) ∧ wpV P md ops Q A S W fuel (listed.setIfInBounds j true) a' w') a w
theorem wpAny_of_wpV : ∀ (fuel : Nat) (listed : Array Bool) (a : Act) (w : World), wpV P md ops Q A S W fuel listed a w → wpAny P md ops Q fuel listed a w
  | 0, _, _, _, h => h
  | fuel + 1, _, _, _, h => ⟨h.1, fun i hi => wpOp_mono (fun a' w' h' => wpAny_of_wpV fuel _ a' w' h'.2) (h.2 i hi)⟩
theorem wpV_first {i : Nat} {oi : Oper} {v : Value} (hi : ops[i]? = some oi) (hsel : ∀ (j : Nat) (o : Oper) cs b, ops[j]? = some o → o.op ≠ .select cs b) (hQ : ∀ c a w, Q (.panic c) (a.put oi.dst v) w → Q (.panic c) a w)
    (X : List Nat) (hX : ∀ p ∈ X, ∃ op, ops[p]? = some op ∧ ∃ e ∈ op.after, Region.binds md e = true ∧ (e.on = i ∨ e.on ∈ X))
    (Z : World → Prop) (hZA : ∀ w, Z w → A w) (hZ : ∀ j, j ≠ i → j ∉ X → ∀ w w', Z w → A w' → (j ∉ W → S w → S w') → Z w') : ∀ (fuel : Nat) (listed : Array Bool) (a : Act) (w : World),
      (∀ j oj, ops[j]? = some oj → j ≠ i → listed.getD j true = false → (∀ e ∈ oj.after, Region.binds md e = true → e.on ≠ i) → oi.apart ops oj = true) →
      (∀ p ∈ X, listed.getD p true = false) →
      i ∈ Region.ready md ops listed → YieldsIf P ops Z oi v a → Z w → wpV P md ops Q A S W fuel (listed.setIfInBounds i true) (a.put oi.dst v) w → wpV P md ops Q A S W (fuel + 1) listed a w := by
  intro fuel
  induction fuel with
  | zero =>
    intro listed a w _ _ hr hy hS H
    refine ⟨fun h => absurd hr (by rw [h]; simp), fun j hj => ?_⟩
    by_cases hji : j = i
    · subst hji; exact hy.wpOp hi hS ⟨⟨hZA _ hS, fun _ h => h⟩, H⟩
    · exact absurd (ready_mono hj hji) (by rw [H.1]; simp)
  | succ fuel ih =>
    intro listed a w hfree hXl hr hy hS H
    refine ⟨fun h => absurd hr (by rw [h]; simp), fun j hj => ?_⟩
    by_cases hji : j = i
    · subst hji; exact hy.wpOp hi hS ⟨⟨hZA _ hS, fun _ h => h⟩, H⟩
    obtain ⟨hjun, oj, hoj, hall⟩ := mem_ready.1 hj
    have hun := (mem_ready.1 hr).1
    have toF : ∀ {k : Nat}, listed.getD k true = false → listed.getD k false = true → False := fun {k} h0 h1 => by
      rcases Nat.lt_or_ge k listed.size with h' | h'
      · simp [h'] at h0 h1; rw [h0] at h1; cases h1
      · simp [Array.getElem?_eq_none h'] at h1
    have hnot : ∀ e ∈ oj.after, Region.binds md e = true → e.on ≠ i := fun e he hb heq => by
      have h1 := hall e he hb
      rw [heq] at h1
      exact toF hun h1
    have hjX : j ∉ X := fun h => by
      obtain ⟨oj', ho', e, he, hb, hon⟩ := hX j h
      have : oj' = oj := Option.some.inj (ho'.symm.trans hoj)
      subst this
      rcases hon with hon | hon
      · exact hnot e he hb hon
      · exact toF (hXl _ hon) (hall e he hb)
    have h2 := wpOp_putIf hoj (hfree j oj hoj hji hjun hnot) (fun cs b => hsel i oi cs b hi) (fun cs b => hsel j oj cs b hoj) hQ hy (H.2 j (ready_mono hj hji))
    refine wpOp_mono (fun a' w' h3 => ⟨h3.2.1, ih _ a' w' (fun k ok hk hki hkun hno => hfree k ok hk hki ?_ hno) (fun p hp => ?_) (ready_mono hr (Ne.symm hji)) h3.1 (hZ j hji hjX w w' hS h3.2.1.1 h3.2.1.2) ?_⟩) h2
    · by_cases hjk : j = k
      · subst hjk; exact hjun
      · rw [getD_set_ne true hjk] at hkun; exact hkun
    · rw [getD_set_ne true (fun e : j = p => hjX (e ▸ hp))]; exact hXl p hp
    · rw [Array.setIfInBounds_comm _ _ hji]; exact h3.2.2
/-- What waits for i, over however many steps. -/
def behind (md : Region.Mode) (ops : Array Oper) (i : Nat) : List Nat := (List.range ops.size).foldl (fun X p => if (ops[p]?.map fun o => o.after.any fun e => Region.binds md e && (e.on == i || X.contains e.on)).getD false then p :: X else X) []
def behindOK (md : Region.Mode) (ops : Array Oper) (X : List Nat) (listed : Array Bool) (i : Nat) : Bool := X.all fun p => listed.getD p true == false && (ops[p]?.map fun o => o.after.any fun e => Region.binds md e && (e.on == i || X.contains e.on)).getD false
theorem behindOK_spec {X : List Nat} {listed : Array Bool} {i : Nat} (h : behindOK md ops X listed i = true) : (∀ p ∈ X, ∃ op, ops[p]? = some op ∧ ∃ e ∈ op.after, Region.binds md e = true ∧ (e.on = i ∨ e.on ∈ X)) ∧ ∀ p ∈ X, listed.getD p true = false := by
  have h0 := fun p hp => List.all_eq_true.1 h p hp
  refine ⟨fun p hp => ?_, fun p hp => ?_⟩
  · have h1 := h0 p hp
    rw [Bool.and_eq_true] at h1
    cases ho : ops[p]? with
    | none => rw [ho] at h1; simp at h1
    | some o =>
      rw [ho] at h1
      obtain ⟨e, he, hb⟩ := Array.any_eq_true'.1 h1.2
      rw [Bool.and_eq_true, Bool.or_eq_true, beq_iff_eq, List.contains_iff_mem] at hb
      exact ⟨o, rfl, e, he, hb.1, hb.2⟩
  · have h1 := h0 p hp
    rw [Bool.and_eq_true, beq_iff_eq] at h1
    exact h1.1
def zOf (A S : World → Prop) (b : Bool) (w : World) : Prop := A w ∧ (b = true → S w)
def wpHv (P : Program) (ops : Array Oper) (A S : World → Prop) (K : Act → Prop) : List (Nat × Bool) → Act → Prop
  | [], a => K a
  | k :: ks, a => ∃ o v, ops[k.1]? = some o ∧ YieldsIf P ops (zOf A S k.2) o v a ∧ wpHv P ops A S K ks (a.put o.dst v)
theorem wpHv_cons {K : Act → Prop} {k : Nat × Bool} {ks : List (Nat × Bool)} {a : Act} {o : Oper} {v : Value} (ho : ops[k.1]? = some o) (hw : Region.wanted o (yielded ops a.tmps) = true) (hv : ∀ w, zOf A S k.2 w → (execOp a.eval o).run P w = .ok (.value v) w) (h : wpHv P ops A S K ks (a.put o.dst v)) : wpHv P ops A S K (k :: ks) a := ⟨o, v, ho, .inl ⟨hw, hv⟩, h⟩
theorem wpHv_nil {K : Act → Prop} {a : Act} (h : K a) : wpHv P ops A S K [] a := h
def lexOKv (md : Region.Mode) (ops : Array Oper) (W : List Nat) : List (Nat × Bool) → Array Bool → Bool
  | [], _ => true
  | k :: ks, listed => (Region.ready md ops listed).contains k.1 && Region.free md ops listed k.1 && behindOK md ops (behind md ops k.1) listed k.1 && (!k.2 || W.all fun j => j == k.1 || (behind md ops k.1).contains j) && lexOKv md ops W ks (listed.setIfInBounds k.1 true)
theorem wpV_heads {w : World} (hA : A w) (hS : S w) (hs : Region.noSelect ops = true) (hQ : ∀ c a d v w, Q (.panic c) (Act.put a d v) w → Q (.panic c) a w) : ∀ (is : List (Nat × Bool)) (listed : Array Bool) (a : Act) (fuel : Nat),
    lexOKv md ops W is listed = true → wpHv P ops A S (fun a' => wpV P md ops Q A S W fuel (marksi (is.map (·.1)) listed) a' w) is a → wpV P md ops Q A S W (is.length + fuel) listed a w
  | [], listed, a, fuel, _, h => by rw [List.length_nil, Nat.zero_add]; exact h
  | k :: ks, listed, a, fuel, hB, h => by
    obtain ⟨o, v, ho, hy, hr⟩ := h
    simp only [lexOKv, Bool.and_eq_true] at hB
    obtain ⟨⟨⟨⟨b1, b2⟩, b3⟩, b4⟩, b5⟩ := hB
    obtain ⟨hX, hXl⟩ := behindOK_spec b3
    rw [show (k :: ks).length + fuel = (ks.length + fuel) + 1 by simp only [List.length_cons]; omega]
    refine wpV_first ho (Region.noSelect_spec hs) (fun c a w h => hQ c _ _ _ w h) (behind md ops k.1) hX (zOf A S k.2) (fun w h => h.1) (fun j hji hjX w w' hz hA' hS' => ⟨hA', fun hb => hS' (fun hjW => ?_) (hz.2 hb)⟩) _ _ _ _ (Region.free_spec ho b2) hXl (by simpa using b1) hy ⟨hA, fun _ => hS⟩ (wpV_heads hA hS hs hQ ks _ _ fuel b5 hr)
    rw [hb, Bool.not_true, Bool.false_or] at b4
    have := List.all_eq_true.1 b4 j hjW
    simp only [Bool.or_eq_true, beq_iff_eq, List.contains_iff_mem] at this
    rcases this with h | h
    · exact hji h
    · exact hjX h
theorem wp_region_headsV {id : Nat} {a : Act} {w : World} {l : List Oper} (is : List (Nat × Bool)) (W : List Nat) (A S : World → Prop) (hm : P.follows .mixedOrders = true)
    (hB : (Region.noSelect l.toArray && decide (is.length ≤ l.length) && lexOKv .any l.toArray W is (Array.replicate l.length false)) = true) (hA : A w.drew) (hS : S w.drew)
    (h : wpHv P l.toArray A S (fun a' => wpV P .any l.toArray (NoPanic Q) A S W (l.length - is.length) (marksi (is.map (·.1)) (Array.replicate l.length false)) a' w.drew) is a) : (Code.region id l.toArray true).wp P Q a w := by
  simp only [Bool.and_eq_true, decide_eq_true_eq] at hB
  obtain ⟨⟨hs, hn⟩, hlex⟩ := hB
  refine wp_region_noPanic ?_
  have H := wpV_heads (md := .any) (W := W) (listed := Array.replicate l.length false) (fuel := l.length - is.length) (a := a) hA hS hs (fun _ _ _ _ _ h => h) is hlex h
  rw [show is.length + (l.length - is.length) = l.length by omega] at H
  refine wp_region_any hm ?_
  have := wpAny_of_wpV _ _ _ _ H
  simpa using this
/-- One that may come up now, and no other. -/
theorem wpV_one {k fuel : Nat} {listed : Array Bool} {a : Act} {w : World} {o : Oper} (hr : Region.ready md ops listed = [k]) (ho : ops[k]? = some o)
    (h : ∀ K' : Act → World → Prop, Shut (∀ a w', (A w' ∧ (k ∉ W → S w → S w')) → wpV P md ops Q A S W fuel (listed.setIfInBounds k true) a w' → K' a w') → if Region.wanted o (yielded ops a.tmps) = true then Oper.wp P o a w K' Q else K' (a.put o.dst undef) w) : wpV P md ops Q A S W (fuel + 1) listed a w := by
  refine ⟨fun h0 => (by rw [hr] at h0; cases h0), fun j hj => ?_⟩
  rw [hr] at hj
  have : j = k := by simpa using hj
  subst this
  exact wpOp_step ho (fun K' hK => h K' (fun a w' h1 h2 => hK a w' ⟨h1, h2⟩))
theorem wpV_done {fuel : Nat} {listed : Array Bool} {a : Act} {w : World} (hr : Region.ready md ops listed = []) (h : Q .normal a w) : wpV P md ops Q A S W fuel listed a w := by
  cases fuel with
  | zero => exact ⟨hr, h⟩
  | succ n => exact ⟨fun _ => h, by rw [hr]; simp⟩
end
end Go.Proofs.Ytimffpnfhkobkaa
/- A region that draws its order: some operations of which one may wait for another. No program in sight. -/
namespace Go.Proofs.Ytimffpnfhkobkaa
section
variable {P : Program} {md : Region.Mode} {ops : Array Oper} {Q : Exit → Act → World → Prop} {S : World → Prop}
def bagOKp (md : Region.Mode) (ops : Array Oper) (T : List Nat) (base : Array Bool) : Bool :=
  (allB T.length).all fun bs => bs.all id || (!(Region.ready md ops (bagMk T base bs)).isEmpty && (Region.ready md ops (bagMk T base bs)).all (fun i => ((T.zip bs).filterMap (fun p => if p.2 then none else some p.1)).contains i)) &&
    (List.range T.length).all fun j => (bs.getD j true) || (bagMk T base bs).setIfInBounds (T.getD j 0) true == bagMk T base (bs.set j true)
def bagOKr (md : Region.Mode) (ops : Array Oper) (T : List Nat) (base : Array Bool) (rc : List Bool → Bool) : Bool :=
  (allB T.length).all fun bs => !rc bs || (bs.all id || (!(Region.ready md ops (bagMk T base bs)).isEmpty && (Region.ready md ops (bagMk T base bs)).all (fun i => ((T.zip bs).filterMap (fun p => if p.2 then none else some p.1)).contains i)) &&
    (List.range T.length).all fun j => (bs.getD j true) || (bagMk T base bs).setIfInBounds (T.getD j 0) true == bagMk T base (bs.set j true))
theorem wpAnyH_bagp (T : List Nat) (base : Array Bool) (hB : bagOKp md ops T base = true) (J : List Bool → Act → World → Prop) (fuel : Nat)
    (hstep : ∀ (bs : List Bool) (j i : Nat) (a : Act) (w : World), bs.length = T.length → T[j]? = some i → bs[j]? = some false → i ∈ Region.ready md ops (bagMk T base bs) → J bs a w → wpOp P ops Q i (fun a' w' => S w' ∧ J (bs.set j true) a' w') a w)
    (hend : ∀ (bs : List Bool) (a : Act) (w : World), bs.length = T.length → bs.all id = true → J bs a w → wpAnyH P md ops Q S fuel (bagMk T base bs) a w) :
    ∀ (k : Nat) (bs : List Bool) (a : Act) (w : World), bs.length = T.length → bs.count false = k → J bs a w → wpAnyH P md ops Q S (k + fuel) (bagMk T base bs) a w := by
  intro k
  induction k with
  | zero =>
    intro bs a w hl hc hJ
    rw [Nat.zero_add]
    refine hend bs a w hl (List.all_eq_true.2 (fun b hb => ?_)) hJ
    cases b with
    | true => rfl
    | false => exact absurd hb (List.count_eq_zero.1 hc)
  | succ k ih =>
    intro bs a w hl hc hJ
    have h0 := List.all_eq_true.1 hB bs (mem_allB hl)
    have hna : bs.all id = false := by
      cases e : bs.all id with
      | false => rfl
      | true => have := count_zero e; omega
    rw [hna, Bool.false_or, Bool.and_eq_true, Bool.and_eq_true] at h0
    obtain ⟨⟨he, hr⟩, hs⟩ := h0
    rw [show k + 1 + fuel = (k + fuel) + 1 by omega]
    have key : ∀ i ∈ Region.ready md ops (bagMk T base bs), wpOp P ops Q i (fun a' w' => S w' ∧ wpAnyH P md ops Q S (k + fuel) ((bagMk T base bs).setIfInBounds i true) a' w') a w := fun i hi => by
      have hc' := List.all_eq_true.1 hr i hi
      obtain ⟨j, hj, h1, h2⟩ := bag_unset hl.symm (List.contains_iff_mem.1 hc')
      have hset := List.all_eq_true.1 hs j (List.mem_range.2 hj)
      have e1 : bs.getD j true = false := by rw [List.getD_eq_getElem?_getD, h2]; rfl
      have e2 : T.getD j 0 = i := by rw [List.getD_eq_getElem?_getD, h1]; rfl
      rw [e1, e2, Bool.false_or, beq_iff_eq] at hset
      rw [hset]
      refine wpOp_mono (fun a' w' h => ⟨h.1, ih _ a' w' (by simpa using hl) (by have := count_set_lt h2; omega) h.2⟩) (hstep bs j i a w hl h1 h2 hi hJ)
    refine ⟨fun h => ?_, key⟩
    rw [h] at he
    cases he
theorem wpW_bagp {W : List Nat} (T : List Nat) (base : Array Bool) (hB : bagOKp md ops T base = true) (J : List Bool → Act → World → Prop) (fuel : Nat)
    (hstep : ∀ (bs : List Bool) (j i : Nat) (a : Act) (w : World), bs.length = T.length → T[j]? = some i → bs[j]? = some false → i ∈ Region.ready md ops (bagMk T base bs) → J bs a w → wpOp P ops Q i (fun a' w' => (i ∉ W → S w') ∧ J (bs.set j true) a' w') a w)
    (hend : ∀ (bs : List Bool) (a : Act) (w : World), bs.length = T.length → bs.all id = true → J bs a w → wpW P md ops Q S W fuel (bagMk T base bs) a w) :
    ∀ (k : Nat) (bs : List Bool) (a : Act) (w : World), bs.length = T.length → bs.count false = k → J bs a w → wpW P md ops Q S W (k + fuel) (bagMk T base bs) a w := by
  intro k
  induction k with
  | zero =>
    intro bs a w hl hc hJ
    rw [Nat.zero_add]
    refine hend bs a w hl (List.all_eq_true.2 (fun b hb => ?_)) hJ
    cases b with
    | true => rfl
    | false => exact absurd hb (List.count_eq_zero.1 hc)
  | succ k ih =>
    intro bs a w hl hc hJ
    have h0 := List.all_eq_true.1 hB bs (mem_allB hl)
    have hna : bs.all id = false := by
      cases e : bs.all id with
      | false => rfl
      | true => have := count_zero e; omega
    rw [hna, Bool.false_or, Bool.and_eq_true, Bool.and_eq_true] at h0
    obtain ⟨⟨he, hr⟩, hs⟩ := h0
    rw [show k + 1 + fuel = (k + fuel) + 1 by omega]
    have key : ∀ i ∈ Region.ready md ops (bagMk T base bs), wpOp P ops Q i (fun a' w' => (i ∉ W → S w') ∧ wpW P md ops Q S W (k + fuel) ((bagMk T base bs).setIfInBounds i true) a' w') a w := fun i hi => by
      have hc' := List.all_eq_true.1 hr i hi
      obtain ⟨j, hj, h1, h2⟩ := bag_unset hl.symm (List.contains_iff_mem.1 hc')
      have hset := List.all_eq_true.1 hs j (List.mem_range.2 hj)
      have e1 : bs.getD j true = false := by rw [List.getD_eq_getElem?_getD, h2]; rfl
      have e2 : T.getD j 0 = i := by rw [List.getD_eq_getElem?_getD, h1]; rfl
      rw [e1, e2, Bool.false_or, beq_iff_eq] at hset
      rw [hset]
      refine wpOp_mono (fun a' w' h => ⟨h.1, ih _ a' w' (by simpa using hl) (by have := count_set_lt h2; omega) h.2⟩) (hstep bs j i a w hl h1 h2 hi hJ)
    refine ⟨fun h => ?_, key⟩
    rw [h] at he
    cases he
theorem wpV_bagp {A : World → Prop} {W : List Nat} (T : List Nat) (base : Array Bool) (rc : List Bool → Bool) (hB : bagOKr md ops T base rc = true) (J : List Bool → Act → World → Prop) (fuel : Nat) (hrc : ∀ bs a w, J bs a w → rc bs = true)
    (hstep : ∀ (bs : List Bool) (j i : Nat) (a : Act) (w : World), bs.length = T.length → T[j]? = some i → bs[j]? = some false → i ∈ Region.ready md ops (bagMk T base bs) → J bs a w → wpOp P ops Q i (fun a' w' => (A w' ∧ (i ∉ W → S w → S w')) ∧ J (bs.set j true) a' w') a w)
    (hend : ∀ (bs : List Bool) (a : Act) (w : World), bs.length = T.length → bs.all id = true → J bs a w → wpV P md ops Q A S W fuel (bagMk T base bs) a w) :
    ∀ (k : Nat) (bs : List Bool) (a : Act) (w : World), bs.length = T.length → bs.count false = k → J bs a w → wpV P md ops Q A S W (k + fuel) (bagMk T base bs) a w := by
  intro k
  induction k with
  | zero =>
    intro bs a w hl hc hJ
    rw [Nat.zero_add]
    refine hend bs a w hl (List.all_eq_true.2 (fun b hb => ?_)) hJ
    cases b with
    | true => rfl
    | false => exact absurd hb (List.count_eq_zero.1 hc)
  | succ k ih =>
    intro bs a w hl hc hJ
    have h0 := List.all_eq_true.1 hB bs (mem_allB hl)
    rw [hrc bs a w hJ, Bool.not_true, Bool.false_or] at h0
    have hna : bs.all id = false := by
      cases e : bs.all id with
      | false => rfl
      | true => have := count_zero e; omega
    rw [hna, Bool.false_or, Bool.and_eq_true, Bool.and_eq_true] at h0
    obtain ⟨⟨he, hr⟩, hs⟩ := h0
    rw [show k + 1 + fuel = (k + fuel) + 1 by omega]
    have key : ∀ i ∈ Region.ready md ops (bagMk T base bs), wpOp P ops Q i (fun a' w' => (A w' ∧ (i ∉ W → S w → S w')) ∧ wpV P md ops Q A S W (k + fuel) ((bagMk T base bs).setIfInBounds i true) a' w') a w := fun i hi => by
      have hc' := List.all_eq_true.1 hr i hi
      obtain ⟨j, hj, h1, h2⟩ := bag_unset hl.symm (List.contains_iff_mem.1 hc')
      have hset := List.all_eq_true.1 hs j (List.mem_range.2 hj)
      have e1 : bs.getD j true = false := by rw [List.getD_eq_getElem?_getD, h2]; rfl
      have e2 : T.getD j 0 = i := by rw [List.getD_eq_getElem?_getD, h1]; rfl
      rw [e1, e2, Bool.false_or, beq_iff_eq] at hset
      rw [hset]
      refine wpOp_mono (fun a' w' h => ⟨h.1, ih _ a' w' (by simpa using hl) (by have := count_set_lt h2; omega) h.2⟩) (hstep bs j i a w hl h1 h2 hi hJ)
    refine ⟨fun h => ?_, key⟩
    rw [h] at he
    cases he
theorem bag_dep {T : List Nat} {base : Array Bool} {rc : List Bool → Bool} {i j' : Nat} (h : ((allB T.length).all fun bs => !rc bs || !(Region.ready md ops (bagMk T base bs)).contains i || bs[j']? == some true) = true) {bs : List Bool} (hl : bs.length = T.length) (hrc : rc bs = true) (hi : i ∈ Region.ready md ops (bagMk T base bs)) : bs[j']? = some true := by
  have h0 := List.all_eq_true.1 h bs (mem_allB hl)
  rw [hrc, List.contains_iff_mem.2 hi, Bool.not_true, Bool.false_or, Bool.false_or, beq_iff_eq] at h0
  exact h0
end
end Go.Proofs.Ytimffpnfhkobkaa
/- An arc's number put at the end of two rows: the four operations, in whatever order. -/
namespace Go.Proofs.Ytimffpnfhkobkaa
open Go.RowKit
def vvB (VV : Nat → Value) (f t : Nat) (bs : List Bool) (U : Nat → Value) : Nat → Value := if bs[3]? = some true then upd (upd VV f (U 1)) t (U 3) else if bs[1]? = some true then upd VV f (U 1) else VV
def kkB (n : Nat) (L : List Arc) (j f t : Nat) (bs : List Bool) : Nat → Nat := if bs[3]? = some true then upd (upd (fun v => (rws n L j v).length) f ((rws n L j f).length + 1)) t ((rws n L j t).length + 1) else if bs[1]? = some true then upd (fun v => (rws n L j v).length) f ((rws n L j f).length + 1) else fun v => (rws n L j v).length
def xxB (n : Nat) (L : List Arc) (j f t : Nat) (bs : List Bool) : Nat → List Value := if bs[3]? = some true then upd (upd (fun v => flat encN (rws n L j v)) f (flat encN (rws n L j f) ++ encN j)) t (flat encN (rws n L j t) ++ encN j) else if bs[1]? = some true then upd (fun v => flat encN (rws n L j v)) f (flat encN (rws n L j f) ++ encN j) else fun v => flat encN (rws n L j v)
def rcB (bs : List Bool) : Bool := (!(bs.getD 1 false) || bs.getD 0 false) && (!(bs.getD 3 false) || (bs.getD 1 false && bs.getD 2 false))
/-- What stands when some of the four are done: 0 and 2 lay the number into a block, 1 and 3 put it at a row's end. -/
structure JB (n : Nat) (L : List Arc) (base j f t : Nat) (wA : World) (VV : Nat → Value) (bs : List Bool) (U : Nat → Value) (w : World) : Prop where
  be : Below base wA w
  lo : base ≤ wA.heap.size
  a0 : bs[1]? = some true → bs[0]? = some true
  a1 : bs[3]? = some true → bs[1]? = some true ∧ bs[2]? = some true
  p : ∀ k, (k = 0 ∨ k = 2) → bs[k]? = some true → ∃ e, U k = .slice (some ⟨e, 0, none⟩) 1 1 ∧ wA.heap.size ≤ e ∧ e < w.heap.size ∧ w.heap[e]? = some (.cells #[.int .i64 (j : Nat)] 3)
  s : ∀ k, (k = 1 ∨ k = 3) → bs[k]? = some true → ∃ q c, U k = .slice (some ⟨q, 0, none⟩) ((rws n L j (if k = 1 then f else t)).length + 1) c
  r : RS w base 3 1 (2 * n) (vvB VV f t bs U) (kkB n L j f t bs) (xxB n L j f t bs)
theorem JB.rc {n : Nat} {L : List Arc} {base j f t : Nat} {wA w : World} {VV : Nat → Value} {bs : List Bool} {U : Nat → Value} (h : JB n L base j f t wA VV bs U w) : rcB bs = true := by
  have a0 := h.a0
  have a1 := h.a1
  have e : ∀ k, bs.getD k false = true ↔ bs[k]? = some true := fun k => by
    rw [List.getD_eq_getElem?_getD]
    cases bs[k]? with
    | none => simp
    | some b => simp
  unfold rcB
  rw [← e, ← e] at a0
  rw [← e, ← e, ← e] at a1
  generalize bs.getD 0 false = x0 at *
  generalize bs.getD 1 false = x1 at *
  generalize bs.getD 2 false = x2 at *
  generalize bs.getD 3 false = x3 at *
  cases x0 <;> cases x1 <;> cases x2 <;> cases x3 <;> simp_all
theorem set_get {bs : List Bool} {k i : Nat} (h : (bs.set k true)[i]? = some true) (hne : i ≠ k) : bs[i]? = some true := by
  rwa [List.getElem?_set_ne (Ne.symm hne)] at h
theorem JB.begin {n : Nat} {L : List Arc} {wM wA : World} {bo bi j f t : Nat} {VV : Nat → Value} (h : Pt n L wM bo bi j wA VV) (U : Nat → Value) : JB n L wM.heap.size j f t wA VV [false, false, false, false] U wA.drew := by
  refine ⟨(Below.refl _ _).drew, h.chg.size, fun h => by simp at h, fun h => by simp at h, fun k hk h => ?_, fun k hk h => ?_, ?_⟩
  · rcases hk with rfl | rfl <;> simp at h
  · rcases hk with rfl | rfl <;> simp at h
  · exact h.rs.later (Below.refl _ _).drew
/-- The number laid into a block. -/
theorem JB.lay {n : Nat} {L : List Arc} {base j f t : Nat} {wA w w' : World} {VV : Nat → Value} {bs : List Bool} {U : Nat → Value} (h : JB n L base j f t wA VV bs U w) {k e : Nat} (hk : k = 0 ∨ k = 2) (hb : bs[k]? = some false) (B : Below w.heap.size w w') (he : w.heap.size ≤ e) (hl : w'.heap[e]? = some (.cells #[.int .i64 (j : Nat)] 3)) :
    JB n L base j f t wA VV (bs.set k true) (upd U k (.slice (some ⟨e, 0, none⟩) 1 1)) w' := by
  have hs := h.be.size
  have g : ∀ i, (i = 1 ∨ i = 3) → (bs.set k true)[i]? = bs[i]? := fun i hi => List.getElem?_set_ne (by omega)
  have hlt := (List.getElem?_eq_some_iff.1 hb).1
  have self : (bs.set k true)[k]? = some true := by rw [List.getElem?_set_self hlt]
  have mono : ∀ i, bs[i]? = some true → (bs.set k true)[i]? = some true := fun i hi => by
    by_cases e : i = k
    · rw [e]; exact self
    · rw [List.getElem?_set_ne (Ne.symm e)]; exact hi
  have ue : ∀ i, (i = 1 ∨ i = 3) → upd U k (.slice (some ⟨e, 0, none⟩) 1 1) i = U i := fun i hi => by
    unfold upd
    rw [if_neg (by omega)]
  refine ⟨h.be.trans (B.mono (by have := h.lo; omega)), h.lo, fun h1 => ?_, fun h3 => ?_, fun i hi hbi => ?_, fun i hi hbi => ?_, ?_⟩
  · rw [g 1 (.inl rfl)] at h1; exact mono 0 (h.a0 h1)
  · rw [g 3 (.inr rfl)] at h3
    rw [g 1 (.inl rfl)]
    exact ⟨(h.a1 h3).1, mono 2 (h.a1 h3).2⟩
  · by_cases ei : i = k
    · subst ei
      exact ⟨e, by simp [upd], by omega, (Array.getElem?_eq_some_iff.1 hl).1, hl⟩
    · obtain ⟨e', h1, h2, h3, h4⟩ := h.p i hi (set_get hbi ei)
      exact ⟨e', by unfold upd; rw [if_neg ei]; exact h1, h2, Nat.lt_of_lt_of_le h3 B.size, (B.block e' h3).trans h4⟩
  · rw [g i hi] at hbi
    rw [ue i hi]
    exact h.s i hi hbi
  · have r := h.r.later B
    unfold vvB kkB xxB at r ⊢
    rw [g 1 (.inl rfl), g 3 (.inr rfl), ue 1 (.inl rfl), ue 3 (.inr rfl)]
    exact r
/-- The number put at the end of out's row. -/
theorem JB.put1 {n : Nat} {L : List Arc} {base j f t : Nat} {wA w w' : World} {VV : Nat → Value} {bs : List Bool} {U : Nat → Value} (h : JB n L base j f t wA VV bs U w) (hf : f < n) (hb0 : bs[0]? = some true) (hb1 : bs[1]? = some false) (hVf : ∀ g, (VV f).ownBlock = some g → g < wA.heap.size)
    {q cq : Nat} (hown : w'.ownsRow base 3 1 (.slice (some ⟨q, 0, none⟩) ((rws n L j f).length + 1) cq) ((rws n L j f).length + 1) (flat encN (rws n L j f) ++ encN j)) (hg : w.grownBy w' (VV f).ownBlock) (hat : (VV f).ownBlock = some q ∨ w.heap.size ≤ q) (hge : ∀ g, (VV f).ownBlock = some g → base ≤ g) :
    JB n L base j f t wA VV (bs.set 1 true) (upd U 1 (.slice (some ⟨q, 0, none⟩) ((rws n L j f).length + 1) cq)) w' := by
  have hb3 : bs[3]? ≠ some true := fun e => by rw [(h.a1 e).1] at hb1; cases hb1
  have hlt := (List.getElem?_eq_some_iff.1 hb1).1
  have g : ∀ i, i ≠ 1 → (bs.set 1 true)[i]? = bs[i]? := fun i hi => List.getElem?_set_ne (Ne.symm hi)
  have self : (bs.set 1 true)[1]? = some true := by rw [List.getElem?_set_self hlt]
  refine ⟨h.be.grown hg (Nat.le_trans h.lo h.be.size) (fun q hq => hge q hq), h.lo, fun _ => ?_, fun h3 => ?_, fun i hi hbi => ?_, fun i hi hbi => ?_, ?_⟩
  · rw [g 0 (by omega)]; exact hb0
  · rw [g 3 (by omega)] at h3; exact absurd h3 hb3
  · rw [g i (by omega)] at hbi
    obtain ⟨e', h1, h2, h3, h4⟩ := h.p i hi hbi
    exact ⟨e', by unfold upd; rw [if_neg (by omega)]; exact h1, h2, Nat.lt_of_lt_of_le h3 hg.size, (hg.block e' h3 (fun e => by have := hVf e' e.symm; omega)).trans h4⟩
  · rcases hi with rfl | rfl
    · exact ⟨q, cq, by simp [upd]⟩
    · rw [g 3 (by omega)] at hbi; exact absurd hbi hb3
  · have r := h.r
    have hb1' : bs[1]? ≠ some true := by rw [hb1]; simp
    unfold vvB kkB xxB at r ⊢
    rw [g 3 (by omega), self, if_neg hb3, if_neg hb3, if_neg hb3, if_pos rfl, if_pos rfl, if_pos rfl]
    rw [if_neg hb3, if_neg hb3, if_neg hb3, if_neg hb1', if_neg hb1', if_neg hb1'] at r
    have e : upd U 1 (.slice (some ⟨q, 0, none⟩) ((rws n L j f).length + 1) cq) 1 = .slice (some ⟨q, 0, none⟩) ((rws n L j f).length + 1) cq := by simp [upd]
    rw [e]
    exact r.push f (by omega) hown hg hat
/-- The number put at the end of in's row. -/
theorem JB.put3 {n : Nat} {L : List Arc} {base j f t : Nat} {wA w w' : World} {VV : Nat → Value} {bs : List Bool} {U : Nat → Value} (h : JB n L base j f t wA VV bs U w) (ht : t < 2 * n) (hft : f ≠ t) (hb1 : bs[1]? = some true) (hb2 : bs[2]? = some true) (hb3 : bs[3]? = some false) (hVf : ∀ g, (VV t).ownBlock = some g → g < wA.heap.size)
    {q cq : Nat} (hown : w'.ownsRow base 3 1 (.slice (some ⟨q, 0, none⟩) ((rws n L j t).length + 1) cq) ((rws n L j t).length + 1) (flat encN (rws n L j t) ++ encN j)) (hg : w.grownBy w' (VV t).ownBlock) (hat : (VV t).ownBlock = some q ∨ w.heap.size ≤ q) (hge : ∀ g, (VV t).ownBlock = some g → base ≤ g) :
    JB n L base j f t wA VV (bs.set 3 true) (upd U 3 (.slice (some ⟨q, 0, none⟩) ((rws n L j t).length + 1) cq)) w' := by
  have hb3' : bs[3]? ≠ some true := by rw [hb3]; simp
  have hlt := (List.getElem?_eq_some_iff.1 hb3).1
  have g : ∀ i, i ≠ 3 → (bs.set 3 true)[i]? = bs[i]? := fun i hi => List.getElem?_set_ne (Ne.symm hi)
  have self : (bs.set 3 true)[3]? = some true := by rw [List.getElem?_set_self hlt]
  refine ⟨h.be.grown hg (Nat.le_trans h.lo h.be.size) (fun q hq => hge q hq), h.lo, fun _ => ?_, fun _ => ?_, fun i hi hbi => ?_, fun i hi hbi => ?_, ?_⟩
  · rw [g 0 (by omega)]; exact h.a0 hb1
  · rw [g 1 (by omega), g 2 (by omega)]; exact ⟨hb1, hb2⟩
  · rw [g i (by omega)] at hbi
    obtain ⟨e', h1, h2, h3, h4⟩ := h.p i hi hbi
    exact ⟨e', by unfold upd; rw [if_neg (by omega)]; exact h1, h2, Nat.lt_of_lt_of_le h3 hg.size, (hg.block e' h3 (fun e => by have := hVf e' e.symm; omega)).trans h4⟩
  · rcases hi with rfl | rfl
    · rw [g 1 (by omega)] at hbi
      obtain ⟨q', c', e'⟩ := h.s 1 (.inl rfl) hbi
      exact ⟨q', c', by unfold upd; rw [if_neg (by omega)]; exact e'⟩
    · exact ⟨q, cq, by simp [upd]⟩
  · have r := h.r
    unfold vvB kkB xxB at r ⊢
    rw [self, if_pos rfl, if_pos rfl, if_pos rfl]
    rw [if_neg hb3', if_neg hb3', if_neg hb3', if_pos hb1, if_pos hb1, if_pos hb1] at r
    have e : upd U 3 (.slice (some ⟨q, 0, none⟩) ((rws n L j t).length + 1) cq) 3 = .slice (some ⟨q, 0, none⟩) ((rws n L j t).length + 1) cq := by simp [upd]
    have e1 : upd U 3 (.slice (some ⟨q, 0, none⟩) ((rws n L j t).length + 1) cq) 1 = U 1 := by simp [upd]
    have e2 : upd VV f (U 1) t = VV t := by unfold upd; rw [if_neg (Ne.symm hft)]
    rw [e, e1]
    exact r.push t ht hown (by rw [e2]; exact hg) (by rw [e2]; exact hat)
theorem JB.row1 {n : Nat} {L : List Arc} {base j f t : Nat} {wA w : World} {VV : Nat → Value} {bs : List Bool} {U : Nat → Value} (h : JB n L base j f t wA VV bs U w) (hf : f < 2 * n) (hb1 : bs[1]? = some false) : w.ownsRow base 3 1 (VV f) (rws n L j f).length (flat encN (rws n L j f)) := by
  have hb3 : bs[3]? ≠ some true := fun e => by rw [(h.a1 e).1] at hb1; cases hb1
  have hb1' : bs[1]? ≠ some true := by rw [hb1]; simp
  have r := h.r.rows f hf
  unfold vvB kkB xxB at r
  rw [if_neg hb3, if_neg hb3, if_neg hb3, if_neg hb1', if_neg hb1', if_neg hb1'] at r
  exact r
theorem JB.row3 {n : Nat} {L : List Arc} {base j f t : Nat} {wA w : World} {VV : Nat → Value} {bs : List Bool} {U : Nat → Value} (h : JB n L base j f t wA VV bs U w) (ht : t < 2 * n) (hft : f ≠ t) (hb1 : bs[1]? = some true) (hb3 : bs[3]? = some false) : w.ownsRow base 3 1 (VV t) (rws n L j t).length (flat encN (rws n L j t)) := by
  have hb3' : bs[3]? ≠ some true := by rw [hb3]; simp
  have r := h.r.rows t ht
  unfold vvB kkB xxB at r
  rw [if_neg hb3', if_neg hb3', if_neg hb3', if_pos hb1, if_pos hb1, if_pos hb1] at r
  unfold upd at r
  rw [if_neg (Ne.symm hft), if_neg (Ne.symm hft), if_neg (Ne.symm hft)] at r
  exact r
theorem JB.all {n : Nat} {L : List Arc} {base j f t : Nat} {wA w : World} {VV : Nat → Value} {U : Nat → Value} (h : JB n L base j f t wA VV [true, true, true, true] U w) :
    ∃ q1 c1 q2 c2, U 1 = .slice (some ⟨q1, 0, none⟩) ((rws n L j f).length + 1) c1 ∧ U 3 = .slice (some ⟨q2, 0, none⟩) ((rws n L j t).length + 1) c2 ∧
      RS w base 3 1 (2 * n) (upd (upd VV f (.slice (some ⟨q1, 0, none⟩) ((rws n L j f).length + 1) c1)) t (.slice (some ⟨q2, 0, none⟩) ((rws n L j t).length + 1) c2)) (upd (upd (fun v => (rws n L j v).length) f ((rws n L j f).length + 1)) t ((rws n L j t).length + 1))
        (upd (upd (fun v => flat encN (rws n L j v)) f (flat encN (rws n L j f) ++ encN j)) t (flat encN (rws n L j t) ++ encN j)) := by
  obtain ⟨q1, c1, e1⟩ := h.s 1 (.inl rfl) rfl
  obtain ⟨q2, c2, e2⟩ := h.s 3 (.inr rfl) rfl
  refine ⟨q1, c1, q2, c2, e1, e2, ?_⟩
  have e1' : U 1 = .slice (some ⟨q1, 0, none⟩) ((rws n L j f).length + 1) c1 := e1
  have e2' : U 3 = .slice (some ⟨q2, 0, none⟩) ((rws n L j t).length + 1) c2 := e2
  rw [← e1', ← e2']
  have r := h.r
  have h3 : ([true, true, true, true] : List Bool)[3]? = some true := rfl
  unfold vvB kkB xxB at r
  rw [if_pos h3, if_pos h3, if_pos h3] at r
  exact r
/-- The cells that the round's reads look at. -/
def SixA (z sb bo bi f t n : Nat) (w : World) : Prop := w.cell? ⟨z, 0, none⟩ = some (.int .i64 (f : Nat)) ∧ w.cell? ⟨z, 1, none⟩ = some (.int .i64 (t : Nat)) ∧ w.cell? ⟨sb, 1, none⟩ = some (.slice (some ⟨bo, 0, none⟩) n n) ∧ w.cell? ⟨sb, 2, none⟩ = some (.slice (some ⟨bi, 0, none⟩) n n)
def SixS (bo bi f t : Nat) (V1 V2 : Value) (w : World) : Prop := w.cell? ⟨bo, f, none⟩ = some V1 ∧ w.cell? ⟨bi, t, none⟩ = some V2
theorem SixA.of {z sb bo bi f t n : Nat} {w w' : World} (h : SixA z sb bo bi f t n w) (hz : w'.heap[z]? = w.heap[z]?) (hs : w'.heap[sb]? = w.heap[sb]?) : SixA z sb bo bi f t n w' :=
  ⟨(World.cell?_of_block hz).trans h.1, (World.cell?_of_block hz).trans h.2.1, (World.cell?_of_block hs).trans h.2.2.1, (World.cell?_of_block hs).trans h.2.2.2⟩
theorem SixS.of {bo bi f t : Nat} {V1 V2 : Value} {w w' : World} (h : SixS bo bi f t V1 V2 w) (ho : w'.heap[bo]? = w.heap[bo]?) (hi : w'.heap[bi]? = w.heap[bi]?) : SixS bo bi f t V1 V2 w' :=
  ⟨(World.cell?_of_block ho).trans h.1, (World.cell?_of_block hi).trans h.2⟩
/-- Both hold, and the four blocks lie. -/
structure Six (z sb bo bi f t n : Nat) (V1 V2 : Value) (w : World) : Prop where
  a : SixA z sb bo bi f t n w
  s : SixS bo bi f t V1 V2 w
theorem Six.later {z sb bo bi f t n : Nat} {V1 V2 : Value} {w w' : World} (h : Six z sb bo bi f t n V1 V2 w) (b : Below w.heap.size w w') : Six z sb bo bi f t n V1 V2 w' :=
  have l1 := World.block_lt_of_cell? _ _ h.a.1
  have l2 := World.block_lt_of_cell? _ _ h.a.2.2.1
  have l3 := World.block_lt_of_cell? _ _ h.s.1
  have l4 := World.block_lt_of_cell? _ _ h.s.2
  ⟨h.a.of (b.block z l1) (b.block sb l2), h.s.of (b.block bo l3) (b.block bi l4)⟩
theorem Six.grown {z sb bo bi f t n : Nat} {V1 V2 : Value} {w w' : World} (h : Six z sb bo bi f t n V1 V2 w) {row : Option Nat} (g : w.grownBy w' row) (hne : ∀ q, row = some q → q ≠ z ∧ q ≠ sb ∧ q ≠ bo ∧ q ≠ bi) : Six z sb bo bi f t n V1 V2 w' :=
  have l1 := World.block_lt_of_cell? _ _ h.a.1
  have l2 := World.block_lt_of_cell? _ _ h.a.2.2.1
  have l3 := World.block_lt_of_cell? _ _ h.s.1
  have l4 := World.block_lt_of_cell? _ _ h.s.2
  ⟨h.a.of (g.block z l1 (fun e => (hne z e.symm).1 rfl)) (g.block sb l2 (fun e => (hne sb e.symm).2.1 rfl)), h.s.of (g.block bo l3 (fun e => (hne bo e.symm).2.2.1 rfl)) (g.block bi l4 (fun e => (hne bi e.symm).2.2.2 rfl))⟩
end Go.Proofs.Ytimffpnfhkobkaa
/- What is left, and what a round of pushing does to it. No program in sight. -/
namespace Go.Proofs.Ytimffpnfhkobkaa
open Go.RowKit
/-- What is left to be sent. -/
def spN (left : Nat → Int) (n : Nat) : Int := sumN (fun v => max 0 (left v)) n
theorem spN_nonneg (left : Nat → Int) (n : Nat) : 0 ≤ spN left n := sumN_nonneg (fun v _ => by omega)
theorem sumN_upd' {f : Nat → Int} {v : Nat} {y : Int} : ∀ {n : Nat}, v < n → sumN (upd f v y) n = sumN f n - f v + y
  | 0, h => by omega
  | n + 1, h => by
    show sumN (upd f v y) n + upd f v y n = sumN f n + f n - f v + y
    by_cases e : v = n
    · subst e
      have : sumN (upd f v y) v = sumN f v := sumN_congr (fun u hu => by unfold upd; rw [if_neg (by omega)])
      rw [this]
      have : upd f v y v = y := by simp [upd]
      omega
    · rw [sumN_upd' (n := n) (by omega)]
      have : upd f v y n = f n := by unfold upd; rw [if_neg (fun h => e h.symm)]
      omega
/-- N goes from one node that has it to one that wants it. -/
theorem spN_push {left : Nat → Int} {n v0 z : Nat} {N : Int} (hv : v0 < n) (hz : z < n) (h1 : 1 ≤ N) (h2 : N ≤ left v0) (h3 : N ≤ -left z) : spN (upd (upd left v0 (left v0 - N)) z (left z + N)) n = spN left n - N := by
  have hne : z ≠ v0 := fun e => by rw [e] at h3; omega
  have e : (fun v => max 0 (upd (upd left v0 (left v0 - N)) z (left z + N) v)) = upd (upd (fun v => max 0 (left v)) v0 (max 0 (left v0) - N)) z (max 0 (left z)) := by
    funext v
    unfold upd
    by_cases e1 : v = z
    · rw [if_pos e1, if_pos e1]; omega
    · rw [if_neg e1, if_neg e1]
      by_cases e2 : v = v0
      · rw [if_pos e2, if_pos e2]; omega
      · rw [if_neg e2, if_neg e2]
  unfold spN
  rw [e, sumN_upd' hz, sumN_upd' hv]
  have : upd (fun v => max 0 (left v)) v0 (max 0 (left v0) - N) z = max 0 (left z) := by unfold upd; rw [if_neg hne]
  rw [this]
  omega
/-- What is left at first is no more than all weights together. -/
theorem spN_start (G : Gf) (w : Nat → Int) (hw : ∀ i, i < G.m → 0 ≤ w i) (n : Nat) : ∀ m, m ≤ G.m → spN (fun v => nf G w v m) n ≤ sumN w m := by
  intro m
  induction m with
  | zero =>
    intro _
    show sumN (fun v => max 0 (nf G w v 0)) n ≤ 0
    have : sumN (fun v => max 0 (nf G w v 0)) n = sumN (fun _ => (0 : Int)) n := sumN_congr (fun v _ => by simp [nf])
    rw [this]
    clear this
    induction n with
    | zero => exact Int.le_refl _
    | succ n ih => show sumN (fun _ => (0 : Int)) n + 0 ≤ 0; omega
  | succ m ih =>
    intro hm
    have h := ih (by omega)
    have hwm := hw m (by omega)
    have key : ∀ n, spN (fun v => nf G w v (m + 1)) n ≤ spN (fun v => nf G w v m) n + (if G.fr m < n then w m else 0) := by
      intro n
      induction n with
      | zero => show (0 : Int) ≤ 0 + _; split <;> omega
      | succ n ih2 =>
        show spN (fun v => nf G w v (m + 1)) n + max 0 (nf G w n (m + 1)) ≤ spN (fun v => nf G w v m) n + max 0 (nf G w n m) + _
        have e : nf G w n (m + 1) = nf G w n m + ind (G.fr m = n) (w m) - ind (G.tt m = n) (w m) := rfl
        unfold ind at e
        rw [e]
        split at ih2 <;> split <;> split <;> split <;> omega
    have k := key n
    show _ ≤ sumN w m + w m
    split at k <;> omega
end Go.Proofs.Ytimffpnfhkobkaa
/- A round of Solve: search, turn, push. No walk. -/
namespace Go.Proofs.Ytimffpnfhkobkaa
open Go.RowKit
/-- Where the main loop stands. -/
structure Rnd (s : Sv) (wt : Nat → Int) (wS : World) (S0 : Int) (ways : Nat) (left fl x : Nat → Int) (w : World) : Prop where
  st : ∃ far came cl, s.st w left fl x far came cl
  ch : Chg (fun b => b = s.bl ∨ b = s.bf ∨ b = s.bx ∨ b = s.br ∨ b = s.bm ∨ b = s.bc) wS w
  P : Pot s.G fl x
  bal : ∀ u, u < s.n → nf s.G wt u s.L.length - nf s.G fl u s.L.length = left u
  pos : ∀ v, v < s.n → 0 < left v → 0 ≤ x v
  xup : ∀ v, v < s.n → x v ≤ s.n
  xlo : ∀ v, v < s.n → -(8192 * (ways : Int)) ≤ x v
  sp : (ways : Int) + spN left s.n ≤ S0
  fb : ∀ i, i < s.L.length → fl i + spN left s.n ≤ S0
  lb : ∀ v, v < s.n → -100000000000 ≤ left v ∧ left v ≤ 100000000000
theorem Rnd.next {s : Sv} {wt : Nat → Int} {wS : World} {S0 : Int} {ways : Nat} {left fl x : Nat → Int} {w w1 w2 w3 : World} (R : Rnd s wt wS S0 ways left fl x w) (hn1 : s.n ≤ 4096) {far : Nat → Int} {came : Nat → Stp} {cl : Nat → Bool} {ord : List Nat} {z : Nat} {D : Int}
    (c1 : Chg (fun b => b = s.br ∨ b = s.bm ∨ b = s.bc) w w1) (F : Fnd s.G left fl x far came cl ord z D) (c2 : Chg (fun b => b = s.bx) w1 w2) {N : Int} {v0 : Nat} {g : Nat → Int}
    (Q : Pushed s left fl (fun v => x v - ddv far cl D v) far came cl ord wt z w2 w3 N v0 g) :
    Rnd s wt wS S0 (ways + 1) (upd (upd left v0 (left v0 - N)) z (left z + N)) g (fun v => x v - ddv far cl D v) w3 := by
  obtain ⟨P1, P2⟩ := F.turn R.P
  have h1 := Q.n1
  have h2 := Q.nl
  have h3 := Q.nz
  have hz : z < s.n := F.toN
  have hsp := spN_push Q.vn hz h1 h2 h3
  have hD : D ≤ 8192 := by
    have := F.dn
    have := R.xup z hz
    have e : s.G.n = s.n := rfl
    omega
  have hl : ∀ v, 0 < upd (upd left v0 (left v0 - N)) z (left z + N) v → 0 < left v := fun v h => by
    unfold upd at h
    split at h
    · omega
    · split at h
      · rename_i e; subst e; omega
      · exact h
  refine ⟨⟨_, _, _, Q.st⟩, ?_, ⟨P1.sl, Q.nn, fun i hi hp => ?_⟩, Q.bal, fun v hv h => ?_, fun v hv => ?_, fun v hv => ?_, ?_, fun i hi => ?_, fun v hv => ?_⟩
  · exact ((R.ch.trans c1 (fun b _ h => .inr (.inr (.inr h)))).trans c2 (fun b _ h => .inr (.inr (.inl h)))).trans Q.ch (fun b _ h => h.elim .inl (fun e => .inr (.inl e)))
  · rcases Q.sup i hi hp with h | ⟨v, hv, e⟩
    · exact P1.cs i hi h
    · exact P2 v hv i hi e
  · have h0 := hl v h
    have h4 := F.t4 v hv h0
    have h5 := R.pos v hv h0
    show 0 ≤ x v - ddv far cl D v
    omega
  · have h4 := (F.t3 v hv).1
    have h5 := R.xup v hv
    show x v - ddv far cl D v ≤ s.n
    omega
  · have h4 := (F.t3 v hv).2
    have h5 := R.xlo v hv
    show _ ≤ x v - ddv far cl D v
    omega
  · rw [hsp]; have := R.sp; omega
  · rw [hsp]; have := R.fb i hi; have := Q.le i hi; omega
  · have h4 := R.lb v hv
    unfold upd
    split
    · rename_i e; subst e; omega
    · split
      · rename_i e; subst e; omega
      · exact h4
/-- What its walk wants. -/
theorem Rnd.bounds {s : Sv} {wt : Nat → Int} {wS : World} {S0 : Int} {ways : Nat} {left fl x : Nat → Int} {w : World} (R : Rnd s wt wS S0 ways left fl x w) (hn1 : s.n ≤ 4096) (hS : S0 ≤ 20000000000) :
    (ways : Int) ≤ 20000000000 ∧ (∀ v, v < s.n → -1000000000000000 ≤ x v ∧ x v ≤ 1000000000000000) ∧ (∀ v, v < s.n → -1000000000000 ≤ left v ∧ left v ≤ 1000000000000) ∧ ∀ i, i < s.L.length → 0 ≤ fl i ∧ fl i ≤ 1000000000000 := by
  have h1 := R.sp
  have h2 := spN_nonneg left s.n
  refine ⟨by omega, fun v hv => ?_, fun v hv => ?_, fun i hi => ?_⟩
  · have := R.xlo v hv; have := R.xup v hv; omega
  · have := R.lb v hv; omega
  · have := R.fb i hi; have := R.P.nn i hi; omega
/-- Nothing is left when the search finds none. -/
theorem Rnd.fin {s : Sv} {wt : Nat → Int} {wS : World} {S0 : Int} {ways : Nat} {left fl x : Nat → Int} {w : World} (R : Rnd s wt wS S0 ways left fl x w) (k : s.ok) (hw : ∀ i, i < s.L.length → 0 ≤ wt i) {cl : Nat → Bool} (F : Fin s.G left fl cl) : ∀ v, v < s.n → left v = 0 :=
  none_left k.g.g hw R.P.nn (fun v hv => (R.bal v hv).symm) F.o F.i F.p F.n
theorem nf_nil (G : Gf) (v : Nat) : ∀ m, nf G (fun _ => 0) v m = 0
  | 0 => rfl
  | m + 1 => by
    have h := nf_nil G v m
    have e : nf G (fun _ => 0) v (m + 1) = nf G (fun _ => 0) v m + ind (G.fr m = v) 0 - ind (G.tt m = v) 0 := rfl
    rw [e, h]
    unfold ind
    split <;> split <;> omega
theorem nf_abs (G : Gf) (w : Nat → Int) (v : Nat) : ∀ m, (∀ i, i < m → 0 ≤ w i ∧ w i ≤ 1000000) → -(1000000 * (m : Int)) ≤ nf G w v m ∧ nf G w v m ≤ 1000000 * (m : Int)
  | 0, _ => ⟨by simp [nf], by simp [nf]⟩
  | m + 1, h => by
    have h1 := nf_abs G w v m (fun i hi => h i (by omega))
    have h2 := h m (by omega)
    have e : nf G w v (m + 1) = nf G w v m + ind (G.fr m = v) (w m) - ind (G.tt m = v) (w m) := rfl
    rw [e]
    unfold ind
    split <;> split <;> omega
theorem sumN_abs (w : Nat → Int) : ∀ m, (∀ i, i < m → 0 ≤ w i ∧ w i ≤ 1000000) → sumN w m ≤ 1000000 * (m : Int)
  | 0, _ => by simp [sumN]
  | m + 1, h => by
    have h1 := sumN_abs w m (fun i hi => h i (by omega))
    have h2 := h m (by omega)
    show sumN w m + w m ≤ _
    omega
/-- The first round. -/
theorem Rnd.begin {s : Sv} {w : World} {X far : Nat → Int} {came : Nat → Stp} {cl : Nat → Bool} (k : s.ok) (h : s.st w (fun v => nf s.G (wtL s.L) v s.L.length) (fun _ => 0) X far came cl) (hX0 : ∀ v, v < s.n → 0 ≤ X v ∧ X v ≤ s.n) (hX1 : ∀ i, i < s.L.length → X (frL s.L i) + 1 ≤ X (ttL s.L i)) :
    Rnd s (wtL s.L) w (spN (fun v => nf s.G (wtL s.L) v s.L.length) s.n) 0 (fun v => nf s.G (wtL s.L) v s.L.length) (fun _ => 0) X w ∧ spN (fun v => nf s.G (wtL s.L) v s.L.length) s.n ≤ 20000000000 := by
  have hw : ∀ i, i < s.L.length → 0 ≤ wtL s.L i ∧ wtL s.L i ≤ 1000000 := fun i hi => (k.g.at_ hi).2.2.2
  have hm := k.g.m1
  have hsp : spN (fun v => nf s.G (wtL s.L) v s.L.length) s.n ≤ sumN (wtL s.L) s.L.length := spN_start s.G (wtL s.L) (fun i hi => (hw i hi).1) s.n s.L.length (Nat.le_refl _)
  refine ⟨⟨⟨_, _, _, h⟩, Chg.refl _ _, ⟨fun i hi => ?_, fun i hi => Int.le_refl _, fun i hi hp => absurd hp (by simp)⟩, fun u _ => by rw [nf_nil]; omega, fun v hv _ => (hX0 v hv).1, fun v hv => (hX0 v hv).2, fun v hv => by have := (hX0 v hv).1; simp; omega, by simp, fun i hi => by simp, fun v hv => ?_⟩, ?_⟩
  · have := hX1 i hi
    show 0 ≤ X (ttL s.L i) - X (frL s.L i) - 1
    omega
  · have := nf_abs s.G (wtL s.L) v s.L.length hw
    show -100000000000 ≤ nf s.G (wtL s.L) v s.L.length ∧ nf s.G (wtL s.L) v s.L.length ≤ 100000000000
    omega
  · have := sumN_abs (wtL s.L) s.L.length hw
    omega
/-- At the loop's head: the search has just answered. -/
def Stand (s : Sv) (wS : World) (S0 : Int) (p q : Value) (wr : World) : Prop := ∃ (ways : Nat) (left fl x far : Nat → Int) (came : Nat → Stp) (cl : Nat → Bool) (wq : World), p = .int .i64 (ways : Int) ∧ Rnd s (wtL s.L) wS S0 ways left fl x wq ∧ s.st wr left fl x far came cl ∧ Chg (fun b => b = s.br ∨ b = s.bm ∨ b = s.bc) wq wr ∧
  ((∃ (z : Nat) (ord : List Nat) (D : Int), q = .int .i64 (z : Int) ∧ Fnd s.G left fl x far came cl ord z D) ∨ (q = .int .i64 (-1) ∧ Fin s.G left fl cl))
end Go.Proofs.Ytimffpnfhkobkaa
/- The document's own order, whole. -/
namespace Go.Proofs.Ytimffpnfhkobkaa
open Go.RowKit
set_option maxRecDepth 100000 in
set_option maxHeartbeats 1000000 in
theorem refOrder_any {w : World} {V : Value} {L : List Arc} (n : Int) (h : Arcs w V L) :
    Calls Try.prog 15 #[.int .i64 n, V] w fun e w' => OrdW w n L e w' := by
  by_cases hr : rightB n L = true
  · refine (refOrder_right n h hr).mono ?_
    rintro e w' ⟨V', er, rfl, B, h⟩
    rcases h with ⟨h1, h2, h3⟩ | ⟨h1, h2, h3⟩
    · subst h2 h3
      have e1 : ordE n L = 11 := by unfold ordE; rw [if_pos hr, if_pos h1]
      have e2 : ordR n L = [] := by unfold ordR; rw [e1]; rfl
      exact ⟨_, by rw [e1], B, by rw [e2]; exact World.ownsRow_nil _ _ _ _⟩
    · subst h3
      have e1 : ordE n L = 0 := by unfold ordE; rw [if_pos hr, if_neg (by omega)]
      have e2 : ordR n L = ordL (gOf L) n.toNat := by unfold ordR; rw [if_pos e1]
      exact ⟨_, by rw [e1], B, by rw [e2]; exact h2⟩
  · have e1 : ordE n L = 2 := by unfold ordE; rw [if_neg hr]
    have e2 : ordR n L = [] := by unfold ordR; rw [e1]; rfl
    have hrf : rightB n L = false := by simpa using hr
    have HR := Lib.hid hrf
    have HE1 := Lib.hid e1
    have HE2 := Lib.hid e2
    have HH := Lib.hid h
    obtain ⟨A, cap, rfl, -, -, -⟩ := h.at_
    clear h hr hrf e1 e2
    go_enter Try.func15, Try.ntmps15
    go_wp2_with fail
    refine (refRight_any _ HH.out).mono ?_
    rw [HR.out]
    rintro e w1 ⟨rfl, B1⟩
    have HB := Lib.hid B1
    clear B1
    go_wp2_with fail
    refine bodyPost_ret (v := .tuple #[.slice none 0 0, .int .i64 2]) (by simp [results, Try.results15, go_sem]) rfl ?_
    exact ⟨_, by rw [HE1.out], HB.out, by rw [HE2.out]; exact World.ownsRow_nil _ _ _ _⟩
end Go.Proofs.Ytimffpnfhkobkaa
