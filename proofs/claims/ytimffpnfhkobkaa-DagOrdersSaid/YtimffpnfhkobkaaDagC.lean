/- The order of a graph's nodes, whole; a graph checked. -/
import Derived.Test.YtimffpnfhkobkaaDagO
namespace Go.Proofs.Ytimffpnfhkobkaa
open Go.RowKit
/-- What Order tells: the error, and the nodes. -/
def ordE (n : Int) (L : List Arc) : Int := if rightB n L = true then (if (ordL (gOf L) n.toNat).length < n.toNat then 11 else 0) else 2
def ordR (n : Int) (L : List Arc) : List Nat := if ordE n L = 0 then ordL (gOf L) n.toNat else []
theorem ordE_range (n : Int) (L : List Arc) : ordE n L = 0 ∨ ordE n L = 2 ∨ ordE n L = 11 := by
  unfold ordE
  split
  · split
    · exact .inr (.inr rfl)
    · exact .inl rfl
  · exact .inr (.inl rfl)
def OrdW (w : World) (n : Int) (L : List Arc) (e : Ending) (w' : World) : Prop :=
  ∃ V, e = .returned (.tuple #[V, .int .i64 (ordE n L)]) ∧ Below w.heap.size w w' ∧ w'.ownsRow w.heap.size 3 1 V (ordR n L).length (flat encN (ordR n L))
set_option maxRecDepth 100000 in
set_option maxHeartbeats 1000000 in
theorem order_any {w : World} {V : Value} {L : List Arc} (n : Int) (h : Arcs w V L) :
    Calls Try.prog 14 #[.int .i64 n, V] w fun e w' => OrdW w n L e w' := by
  by_cases hr : rightB n L = true
  · refine (order_right n h hr).mono ?_
    rintro e w' ⟨V', er, rfl, B, h⟩
    rcases h with ⟨h1, h2, h3⟩ | ⟨h1, h2, h3⟩
    · subst h2 h3
      have e1 : ordE n L = 11 := by unfold ordE; rw [if_pos hr, if_pos h1]
      have e2 : ordR n L = [] := by unfold ordR; rw [e1]; rfl
      exact ⟨_, by rw [e1], B, by rw [e2]; exact World.ownsRow_nil _ _ _ _⟩
    · subst h3
      have e1 : ordE n L = 0 := by unfold ordE; rw [if_pos hr, if_neg (by omega)]
      have e2 : ordR n L = ordL (gOf L) n.toNat := by unfold ordR; rw [if_pos e1]
      exact ⟨_, by rw [e1], B, by rw [e2]; exact h2⟩
  · have e1 : ordE n L = 2 := by unfold ordE; rw [if_neg hr]
    have e2 : ordR n L = [] := by unfold ordR; rw [e1]; rfl
    have hrf : rightB n L = false := by simpa using hr
    have HR := Lib.hid hrf
    have HE1 := Lib.hid e1
    have HE2 := Lib.hid e2
    have HH := Lib.hid h
    clear h hr hrf e1 e2
    go_enter Try.func14, Try.ntmps14
    go_wp2_with fail
    refine (right_any _ HH.out).mono ?_
    rw [HR.out]
    rintro e w1 ⟨rfl, B1⟩
    have HB := Lib.hid B1
    clear B1
    go_wp2_with fail
    refine bodyPost_ret (v := .tuple #[.slice none 0 0, .int .i64 2]) (by simp [results, Try.results14, go_sem]) rfl ?_
    exact ⟨_, by rw [HE1.out], HB.out, by rw [HE2.out]; exact World.ownsRow_nil _ _ _ _⟩
set_option maxHeartbeats 1000000 in
theorem check_any {w : World} {V : Value} {L : List Arc} (n : Int) (h : Arcs w V L) :
    Calls Try.prog 17 #[.int .i64 n, V] w fun e w' => e = .returned (.int .i64 (ordE n L)) ∧ Below w.heap.size w w' := by
  have HH := Lib.hid h
  clear h
  go_enter Try.func17, Try.ntmps17
  go_wp2_with fail
  refine (order_any _ HH.out).mono ?_
  rintro e w1 ⟨V', rfl, B1, -⟩
  have HB := Lib.hid B1
  clear B1
  go_wp2_with fail
  go_ret
  exact ⟨rfl, HB.out⟩
end Go.Proofs.Ytimffpnfhkobkaa
