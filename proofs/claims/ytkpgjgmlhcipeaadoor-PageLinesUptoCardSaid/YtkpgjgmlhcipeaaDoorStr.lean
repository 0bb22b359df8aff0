/- Rows of strings. No program in sight but for the type string's row. -/
import Derived.Test.YtkpgjgmlhcipeaaDoorSl
import Derived.Test.YtkpgjgmlhcipeaaDoorLexQ
namespace Go.Proofs.YtkpgjgmlhcipeaaDoor
open Go.RowKit
def encS (s : ByteArray) : List Value := [.string s]
theorem encS_length (s : ByteArray) : (encS s).length = 1 := rfl
abbrev Strs (w : World) (V : Value) (L : List ByteArray) : Prop := Sl 1 encS w V L
theorem info_str : (Tryd.prog.info? 9).map (fun i => (i.zero, i.size, i.bytes)) = some (some (.string ByteArray.empty), 1, 16) := by kernel_rfl
section
variable {w : World} {V : Value} {L : List ByteArray}
theorem Strs.at_ (h : Strs w V L) : ∃ A cap, V = .slice A L.length cap ∧ L.length ≤ cap ∧ (A = none → L.length = 0 ∧ cap = 0) ∧ (0 < L.length → ∃ b off, A = some ⟨b, off, none⟩ ∧ ∀ i x, L[i]? = some x → w.cell? ⟨b, off + i, none⟩ = some (.string x)) := by
  obtain ⟨A, cap, e, h1, h2, h⟩ := h
  refine ⟨A, cap, e, h1, h2, fun hl => ?_⟩
  obtain ⟨b, off, e2, hc⟩ := h hl
  refine ⟨b, off, e2, fun i x hi => ?_⟩
  have := hc i x hi 0 (.string x) rfl
  rwa [Nat.mul_one, Nat.add_zero] at this
theorem Strs.nil (w : World) : Strs w (.slice none 0 0) [] := ⟨none, 0, rfl, Nat.le_refl _, fun _ => ⟨rfl, rfl⟩, fun h => absurd h (by simp)⟩
theorem Strs.lit {b n t : Nat} (hb : w.heap[b]? = some (.cells (L.map Value.string).toArray t)) (hn : n = L.length) : Strs w (.slice (some ⟨b, 0, none⟩) n n) L := by
  subst hn
  refine ⟨some ⟨b, 0, none⟩, L.length, rfl, Nat.le_refl _, (fun h => by cases h), fun _ => ⟨b, 0, rfl, fun i x hi r v hv => ?_⟩⟩
  have hr : r = 0 := by have := (List.getElem?_eq_some_iff.1 hv).1; simp [encS] at this; omega
  subst hr
  have hv : Value.string x = v := by simpa [encS] using hv
  subst hv
  unfold World.cell?
  rw [hb]
  simp [hi]
end
end Go.Proofs.YtkpgjgmlhcipeaaDoor
