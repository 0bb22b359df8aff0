/- A heap merged into itself, into none, or none into it. -/
import Derived.Test.YtmnfefebbadflaaMrgB
namespace Go.Proofs.Ytmnfefebbadflaa
open Go.RowKit
set_option maxRecDepth 100000 in
set_option maxHeartbeats 1000000 in
theorem merge_none (q : Option Addr) (w : World) : Calls Try.prog 32 #[.pointer none, .pointer q] w fun e w' => e = .returned (.tuple #[]) ∧ w = w' := by
  go_enter Try.func32, Try.ntmps32
  go_wp2_with fail
  refine bodyPost_ret (results_none rfl _ _ _) rfl ?_
  exact ⟨rfl, rfl⟩
set_option maxRecDepth 100000 in
set_option maxHeartbeats 1000000 in
theorem merge_self (hb : Nat) (w : World) : Calls Try.prog 32 #[.pointer (some ⟨hb, 0, none⟩), .pointer (some ⟨hb, 0, none⟩)] w fun e w' => e = .returned (.tuple #[]) ∧ w = w' := by
  have heq := eql_self hb w
  go_enter Try.func32, Try.ntmps32
  go_wp2_with fail
  refine bodyPost_ret (results_none rfl _ _ _) rfl ?_
  exact ⟨rfl, rfl⟩
set_option maxRecDepth 100000 in
set_option maxHeartbeats 1000000 in
theorem merge_nil (hb : Nat) (w : World) : Calls Try.prog 32 #[.pointer (some ⟨hb, 0, none⟩), .pointer none] w fun e w' => e = .returned (.tuple #[]) ∧ Below w.heap.size w w' := by
  go_enter Try.func32, Try.ntmps32
  go_wp2_with fail
  refine (HOne.pop_nil w).mono ?_
  rintro e w1 ⟨rfl, B1⟩
  go_wp2_with fail
  go_loopw [5] (fun p wr => p = .bool false ∧ Below w.heap.size w wr) (fun _ _ => 0)
  case atStart => exact ⟨rfl, B1.alloc B1.size _⟩
  case round =>
    obtain ⟨rfl, B⟩ := hrel
    go_wp2_with fail
    go_end0
    exact ⟨rfl, B⟩
theorem pop2_any {w : World} {ob base : Nat} {Vo : Value} {tq : Int} {lo : List (One × Int)} {mo N : List One} {so : List (One × Int)} {y : One} (Ro : HOne.Rep w ob lf Vo tq base lo) (So : Sim lo tq mo so) (hl : mo.length ≤ 100000) (hst : Stb.Sts kO mo (y :: N)) :
    Calls Try.prog 14 #[.pointer (some ⟨ob, 0, none⟩)] w fun e w' => e = .returned (.tuple #[.agg #[.int .i64 y.1, .int .i64 y.2], .bool true]) ∧ ∃ Vo' lo' mo' so', Vo'.ownBlock = Vo.ownBlock ∧ HOne.Rep w' ob lf Vo' tq base lo' ∧ Sim lo' tq mo' so' ∧ Stb.Sts kO mo' N ∧ Chg (fun b => b = ob ∨ Vo.ownBlock = some b) w w' := by
  match lo, Ro, So with
  | [], Ro, So =>
    have hm : mo = [] := List.eq_nil_of_length_eq_zero (by rw [← So.len]; rfl)
    have := hst.len
    rw [hm] at this
    simp at this
  | a :: r, Ro, So =>
    have hlen := So.len
    obtain ⟨p, s', h1, h2, h3, h4⟩ := So.pop
    obtain ⟨N', h5, h6⟩ := least_pop h1 h2 h3 hst
    obtain ⟨rfl, rfl⟩ := List.cons.inj h5
    refine (HOne.pop_some lessO Ro (by simp at hlen; omega)).mono ?_
    rintro e w' ⟨rfl, ⟨V', hv, R'⟩, C⟩
    exact ⟨rfl, V', _, _, s', hv, R', h4, h6, C⟩
end Go.Proofs.Ytmnfefebbadflaa
