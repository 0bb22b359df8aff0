/- The heap's functions at one element type, what each call does: a new one, the top, a pop. -/
import Derived.Test.YtmnfefebbadflaaHeapBStr
import Derived.Laws.EntriesVeiled
namespace Go.Proofs.Ytmnfefebbadflaa.HStr
open Go.RowKit
set_option maxRecDepth 100000 in
set_option maxHeartbeats 1000000 in
theorem new_any (lf : Nat) (w : World) : Calls Try.prog 37 #[.func (.func lf) #[] #[]] w fun e w' => e = .returned (.pointer (some ⟨w.heap.size, 0, none⟩)) ∧ w' = w.alloc (.cells #[.func (.func lf) #[] #[], .slice none 0 0, .int .i64 0] 101) := by
  go_enter Try.func37, Try.ntmps37
  go_wp2
  go_ret
  exact ⟨rfl, rfl⟩
theorem new_rep (F : Value) (w : World) (base : Nat) : Rep (w.alloc (.cells #[F, .slice none 0 0, .int .i64 0] 101)) w.heap.size F (.slice none 0 0) 0 base [] :=
  ⟨heap_at rfl, World.ownsRow_nil _ _ _ _, by simp [Value.ownBlock]⟩
set_option maxRecDepth 100000 in
set_option maxHeartbeats 1000000 in
theorem top_some {w : World} {hb : Nat} {F V : Value} {t : Int} {base : Nat} {a : El × Int} {l : List (El × Int)} (H : Rep w hb F V t base (a :: l)) :
    Calls Try.prog 49 #[.pointer (some ⟨hb, 0, none⟩)] w fun e w' => e = .returned (.tuple #[.string a.1, .bool true]) ∧ Below w.heap.size w w' := by
  obtain ⟨g, cap, rfl, hg, hgl, hne⟩ := H.slice (by simp)
  have cV := (Cl.of_block H.blk (j := 1) (v := .slice (some ⟨g, 0, none⟩) (l.length + 1) cap) rfl).cell
  have ca0 : w.cell? ⟨g, 0, none⟩ = some (.string a.1) := by simpa using (H.item enc_length rfl (j := 0) (a := a) rfl (r := 0) (by omega) (v := .string a.1) rfl).cell
  have ca1 : w.cell? ⟨g, 1, none⟩ = some (.int .i64 a.2) := by simpa using (H.item enc_length rfl (j := 0) (a := a) rfl (r := 1) (by omega) (v := .int .i64 a.2) rfl).cell
  have z1 := H.lt
  have hn : ((l.length : Int) + 1 == 0) = false := by simp; omega
  have HH := Lib.hid H
  clear H
  go_enter Try.func49, Try.ntmps49
  go_wp2_with fail
  refine (len_any (HH.out.later (Below.refl _ _))).mono ?_
  rintro e w' ⟨rfl, rfl⟩
  go_wp2_with fail
  go_ret2
  exact ⟨rfl, Below.refl _ _⟩
set_option maxRecDepth 100000 in
set_option maxHeartbeats 1000000 in
theorem top_none {w : World} {hb : Nat} {F V : Value} {t : Int} {base : Nat} (H : Rep w hb F V t base []) :
    Calls Try.prog 49 #[.pointer (some ⟨hb, 0, none⟩)] w fun e w' => e = .returned (.tuple #[.string ⟨#[]⟩, .bool false]) ∧ Below w.heap.size w w' := by
  have HH := Lib.hid H
  clear H
  go_enter Try.func49, Try.ntmps49
  go_wp2_with fail
  refine (len_any (HH.out.later (Below.refl _ _))).mono ?_
  rintro e w' ⟨rfl, rfl⟩
  go_wp2_with fail
  go_ret2
  exact ⟨rfl, Below.refl _ _⟩
set_option maxRecDepth 100000 in
set_option maxHeartbeats 1000000 in
theorem top_nil (w : World) : Calls Try.prog 49 #[.pointer none] w fun e w' => e = .returned (.tuple #[.string ⟨#[]⟩, .bool false]) ∧ Below w.heap.size w w' := by
  go_enter Try.func49, Try.ntmps49
  go_wp2_with fail
  refine (len_nil _).mono ?_
  rintro e w' ⟨rfl, rfl⟩
  go_wp2_with fail
  go_ret2
  exact ⟨rfl, Below.refl _ _⟩
end Go.Proofs.Ytmnfefebbadflaa.HStr
