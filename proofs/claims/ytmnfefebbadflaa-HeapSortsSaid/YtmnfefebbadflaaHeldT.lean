/- A region that draws its order: two operations that may come up in either order, then what follows. No program in sight. -/
import Derived.Test.YtmnfefebbadflaaHeldV
namespace Go.Proofs.Ytmnfefebbadflaa
section
variable {P : Program} {md : Region.Mode} {ops : Array Oper} {Q : Exit → Act → World → Prop} {A : World → Prop}
theorem wpHv_skip {S : World → Prop} {K : Act → Prop} {k : Nat × Bool} {ks : List (Nat × Bool)} {a : Act} {o : Oper} (ho : ops[k.1]? = some o) (hw : Region.wanted o (yielded ops a.tmps) = false) (h : wpHv P ops A S K ks (a.put o.dst undef)) : wpHv P ops A S K (k :: ks) a := ⟨o, undef, ho, .inr ⟨hw, rfl⟩, h⟩
theorem wpV_two {i j fuel : Nat} {listed : Array Bool} {a : Act} {w : World} {oi oj : Oper} (hr : Region.ready md ops listed = [i, j]) (hri : Region.ready md ops (listed.setIfInBounds i true) = [j]) (hrj : Region.ready md ops (listed.setIfInBounds j true) = [i]) (hi : ops[i]? = some oi) (hj : ops[j]? = some oj) (hij : i ≠ j) (F : Value → Value → World → Prop)
    (hput : ∀ v v', (a.put oj.dst v').put oi.dst v = (a.put oi.dst v).put oj.dst v')
    (h1 : ∀ K' : Act → World → Prop, Shut (∀ v a' w', a' = a.put oi.dst v → A w' → (∀ K'' : Act → World → Prop, Shut (∀ v' a'' w'', a'' = a'.put oj.dst v' → A w'' → F v v' w'' → K'' a'' w'') → if Region.wanted oj (yielded ops a'.tmps) = true then Oper.wp P oj a' w' K'' Q else K'' (a'.put oj.dst undef) w') → K' a' w') → if Region.wanted oi (yielded ops a.tmps) = true then Oper.wp P oi a w K' Q else K' (a.put oi.dst undef) w)
    (h2 : ∀ K' : Act → World → Prop, Shut (∀ v' a' w', a' = a.put oj.dst v' → A w' → (∀ K'' : Act → World → Prop, Shut (∀ v a'' w'', a'' = a'.put oi.dst v → A w'' → F v v' w'' → K'' a'' w'') → if Region.wanted oi (yielded ops a'.tmps) = true then Oper.wp P oi a' w' K'' Q else K'' (a'.put oi.dst undef) w') → K' a' w') → if Region.wanted oj (yielded ops a.tmps) = true then Oper.wp P oj a w K' Q else K' (a.put oj.dst undef) w)
    (h : ∀ v v' w', A w' → F v v' w' → wpV P md ops Q A (fun _ => True) [] fuel ((listed.setIfInBounds i true).setIfInBounds j true) ((a.put oi.dst v).put oj.dst v') w') : wpV P md ops Q A (fun _ => True) [] (fuel + 2) listed a w := by
  refine ⟨fun h0 => (by rw [hr] at h0; cases h0), fun k hk => ?_⟩
  rw [hr] at hk
  have hk' : k = i ∨ k = j := by simpa using hk
  rcases hk' with rfl | rfl
  · refine wpOp_step hi (fun K' hK => h1 K' (fun v a' w' e hA hin => hK a' w' ⟨⟨hA, fun _ _ => trivial⟩, ?_⟩))
    subst e
    exact wpV_one hri hj (fun K'' hK2 => hin K'' (fun v' a'' w'' e hA2 hF => hK2 a'' w'' ⟨hA2, fun _ _ => trivial⟩ (by subst e; exact h v v' w'' hA2 hF)))
  · refine wpOp_step hj (fun K' hK => h2 K' (fun v' a' w' e hA hin => hK a' w' ⟨⟨hA, fun _ _ => trivial⟩, ?_⟩))
    subst e
    exact wpV_one hrj hi (fun K'' hK2 => hin K'' (fun v a'' w'' e hA2 hF => hK2 a'' w'' ⟨hA2, fun _ _ => trivial⟩ (by
      subst e
      rw [hput, Array.setIfInBounds_comm _ _ (Ne.symm hij)]
      exact h v v' w'' hA2 hF)))
/-- Two that may come up now: each way for itself. -/
theorem wpV_split {S : World → Prop} {W : List Nat} {i j fuel : Nat} {listed : Array Bool} {a : Act} {w : World} {oi oj : Oper} (hr : Region.ready md ops listed = [i, j]) (hi : ops[i]? = some oi) (hj : ops[j]? = some oj)
    (h1 : ∀ K' : Act → World → Prop, Shut (∀ a w', (A w' ∧ (i ∉ W → S w → S w')) → wpV P md ops Q A S W fuel (listed.setIfInBounds i true) a w' → K' a w') → if Region.wanted oi (yielded ops a.tmps) = true then Oper.wp P oi a w K' Q else K' (a.put oi.dst undef) w)
    (h2 : ∀ K' : Act → World → Prop, Shut (∀ a w', (A w' ∧ (j ∉ W → S w → S w')) → wpV P md ops Q A S W fuel (listed.setIfInBounds j true) a w' → K' a w') → if Region.wanted oj (yielded ops a.tmps) = true then Oper.wp P oj a w K' Q else K' (a.put oj.dst undef) w) : wpV P md ops Q A S W (fuel + 1) listed a w := by
  refine ⟨fun h0 => (by rw [hr] at h0; cases h0), fun k hk => ?_⟩
  rw [hr] at hk
  have hk' : k = i ∨ k = j := by simpa using hk
  rcases hk' with rfl | rfl
  · exact wpOp_step hi (fun K' hK => h1 K' (fun a w' x y => hK a w' ⟨x, y⟩))
  · exact wpOp_step hj (fun K' hK => h2 K' (fun a w' x y => hK a w' ⟨x, y⟩))
end
end Go.Proofs.Ytmnfefebbadflaa
