/- The graph that plain data make is a dag. -/
import Derived.Test.YtimffpnfhkobkaaMakeA
import Derived.Test.YtimffpnfhkobkaaDagQ
namespace Go.Proofs.Ytimffpnfhkobkaa
theorem mkL_mem {n : Nat} {T : List Tri} {a : Arc} (hn : 0 < n) (h : a ∈ mkL n T) : ∃ f t x : Nat, a = ((f : Int), (t : Int), (x : Int)) ∧ f < t ∧ t < n ∧ x < 8 := by
  unfold mkL at h
  obtain ⟨t, _, ha⟩ := List.mem_flatMap.1 h
  unfold mkA at ha
  split at ha
  · cases ha
  · rename_i hne
    have := List.mem_singleton.1 ha
    subst this
    have h1 := Nat.mod_lt t.1 hn
    have h2 := Nat.mod_lt t.2.1 hn
    exact ⟨_, _, _, rfl, by omega, by omega, Nat.mod_lt _ (by omega)⟩
theorem makeL_right (N most : Nat) (hm : 0 < most) (hm2 : most ≤ 1000) (T : List Tri) : rightB (mkN N most : Nat) (makeL N most T) = true := by
  have hN : N % most < most := Nat.mod_lt _ hm
  have hb : (makeL N most T).any (badA (mkN N most : Nat)) = false := by
    rw [List.any_eq_false]
    intro a ha
    obtain ⟨f, t, x, rfl, h1, h2, h3⟩ := mkL_mem (by unfold mkN; omega) ha
    simp [badA]
    omega
  have hl := mkL_length (mkN N most) (T.take 40)
  rw [List.length_take] at hl
  unfold rightB
  rw [hb]
  simp
  unfold makeL
  refine ⟨?_, by omega⟩
  unfold mkN
  omega
theorem makeL_dag (N most : Nat) (hm : 0 < most) (hm2 : most ≤ 1000) (T : List Tri) : ordE (mkN N most : Nat) (makeL N most T) = 0 := by
  refine ordE_dag (makeL_right N most hm hm2 T) id ?_
  intro a ha
  obtain ⟨f, t, x, rfl, h1, h2, h3⟩ := mkL_mem (by unfold mkN; omega) ha
  simpa using h1
#print axioms makeL_dag
end Go.Proofs.Ytimffpnfhkobkaa
