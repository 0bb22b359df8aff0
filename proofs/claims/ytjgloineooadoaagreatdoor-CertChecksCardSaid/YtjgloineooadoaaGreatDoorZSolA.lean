/- What Solve tells, its slices opened. No program in sight. -/
import Derived.Test.YtjgloineooadoaaGreatDoorMgZ18
namespace Go.Proofs.YtjgloineooadoaaGreatDoor
open Go.RowKit
theorem solW_at {n : Nat} {L : List Arc} {w w' : World} {e : Ending} (h : SolW n L w e w') : ∃ (AX : Option Addr) (cX : Nat) (AF : Option Addr) (cF : Nat) (xs fs : List Int) (ways : Nat), e = .returned (.tuple #[.agg #[.slice AX n cX, .slice AF L.length cF, .int .i64 (ways : Int)], .int .i64 0]) ∧ Ints w' (.slice AX n cX) xs ∧ Ints w' (.slice AF L.length cF) fs ∧ Sol n L xs fs ways ∧ Below w.heap.size w w' := by
  obtain ⟨VX, VF, xs, fs, ways, rfl, IX, IF, S, B⟩ := h
  have IX2 := IX
  have IF2 := IF
  obtain ⟨AX, cX, rfl, -⟩ := IX.at_
  obtain ⟨AF, cF, rfl, -⟩ := IF.at_
  have h1 := S.lx
  have h2 := S.lf
  rw [h1] at IX2 ⊢
  rw [h2] at IF2 ⊢
  exact ⟨AX, cX, AF, cF, xs, fs, ways, rfl, IX2, IF2, S, B⟩
end Go.Proofs.YtjgloineooadoaaGreatDoor
