/- DagCosts' parts: its closure; a slice less its first. -/
import Derived.Test.YtimffpnfhkobkaaMakeB
namespace Go.Proofs.Ytimffpnfhkobkaa
open Go.RowKit
theorem enterG : ∀ (args : Array Value) (w : World), (callFunc 22 args).run Try.prog w = .ok (.enter 22 args) w := by
  intro args w; kernel_rfl
theorem farG_any (v : Int) (w : World) : Calls Try.prog 22 #[.int .i64 v] w fun e w' => e = .returned (.bool (farB v)) ∧ Below w.heap.size w w' := by
  go_enter Try.func22, Try.ntmps22
  by_cases h : v < -1000000
  · go_wp2
    go_ret
    exact ⟨ret_bool (by simp [farB, h]), Below.refl _ _⟩
  · go_wp2
    go_ret
    exact ⟨ret_bool (by simp [farB]; omega), Below.refl _ _⟩
theorem predG (w : World) : Pred 22 #[] (fun x : Int => Value.int .i64 x) farB (fun _ => True) w :=
  ⟨enterG, fun a w' _ _ => by
    have e : (#[Value.int .i64 a] ++ #[] : Array Value) = #[Value.int .i64 a] := rfl
    rw [e]
    exact farG_any a w'⟩
theorem Ints.tail {w : World} {b n c : Nat} {xs : List Int} {x : Int} (h : Ints w (.slice (some ⟨b, 0, none⟩) n c) (x :: xs)) : Ints w (.slice (some ⟨b, 1, none⟩) (n - 1) (c - 1)) xs := by
  obtain ⟨A, cap, e, h1, h2, h⟩ := h
  cases e
  obtain ⟨b2, off, e2, hc⟩ := h (by simp)
  cases e2
  refine ⟨some ⟨b, 1, none⟩, c - 1, by simp, by simp at h1; omega, (fun h => by cases h), fun hl => ⟨b, 1, rfl, fun i a hi r v hv => ?_⟩⟩
  have h3 := hc (i + 1) a (by simpa using hi) r v hv
  have e3 : 0 + (i + 1) * 1 + r = 1 + i * 1 + r := by omega
  rwa [e3] at h3
def valC (big : Bool) (x : List Int) (i : Nat) : Int :=
  let v : Int := if i < x.length ∧ (big = true ∨ (x[i]?.getD 0).tmod 2 = 0) then x[i]?.getD 0 else i
  if big then v else v.tmod 50 + 100 * i
def valsC (big : Bool) (x : List Int) (n : Nat) : List Int := (List.range n).map (valC big x)
theorem valsC_length (big : Bool) (x : List Int) (n : Nat) : (valsC big x n).length = n := by simp [valsC]
theorem valsC_succ (big : Bool) (x : List Int) (n : Nat) : valsC big x (n + 1) = valsC big x n ++ [valC big x n] := by simp [valsC, List.range_succ]
end Go.Proofs.Ytimffpnfhkobkaa
