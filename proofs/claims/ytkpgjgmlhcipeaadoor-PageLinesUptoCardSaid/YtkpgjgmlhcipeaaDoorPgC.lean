/- page.points: slices.Chunk by twos, collected. -/
import Derived.RangeFuncBox
import Derived.RangeFuncLeaves
import Derived.Shelf.Abstract
import Derived.WalkKit
import Derived.OwnWalkIn
import Derived.TacticsInMore
import Derived.LoopNIn
import Derived.LoopIn
import Derived.Maps.AppendAt
import Derived.Shelf.RegionOpen
import Derived.Test.YtkpgjgmlhcipeaaDoorPgA
namespace Go.Proofs.YtkpgjgmlhcipeaaDoor
open Go.RowKit Go.Shelf
attribute [local go_sem] Oper.semAt_some
/-- The number of a piece. -/
abbrev Ix (k : Nat) := { x : Nat // x < k }
/-- What the closure reads in each round stays. -/
def KC (Bs Bn : Nat) (A B : World) : Prop := (∀ v, A.cell? ⟨Bs, 0, none⟩ = some v → B.cell? ⟨Bs, 0, none⟩ = some v) ∧ ∀ v, A.cell? ⟨Bn, 0, none⟩ = some v → B.cell? ⟨Bn, 0, none⟩ = some v
theorem KC.refl (Bs Bn : Nat) (A : World) : KC Bs Bn A A := ⟨fun _ h => h, fun _ h => h⟩
theorem KC.trans {Bs Bn : Nat} {A B C : World} (h : KC Bs Bn A B) (k : KC Bs Bn B C) : KC Bs Bn A C := ⟨fun v e => k.1 v (h.1 v e), fun v e => k.2 v (h.2 v e)⟩
theorem KC.putObj {Bs Bn : Nat} (W : World) (l : Nat) (o o' : Obj) (h : W.heap[l]? = some o) (hc : o.isCells = false) : KC Bs Bn W (W.putObj l o') := by
  have one : ∀ (b : Nat) (v : Value), W.cell? ⟨b, 0, none⟩ = some v → (W.putObj l o').cell? ⟨b, 0, none⟩ = some v := by
    intro b v e
    by_cases hb : b = l
    · subst hb
      unfold World.cell? at e
      simp only [h] at e
      cases o <;> first | (cases hc; done) | (cases e; done) | skip
    · have hx := (grownBy_putObj' W l o').block b (World.block_lt_of_cell? _ _ e) (by simpa using hb)
      exact (World.cell?_of_block (a := ⟨b, 0, none⟩) hx).trans e
  exact ⟨one Bs, one Bn⟩
set_option maxRecDepth 100000 in
set_option maxHeartbeats 2000000 in
/-- The closure of slices.Chunk, for every loop body that keeps what lay below n₀. -/
theorem chunk1_in (n : Nat) (l Bs Bn b off len cap : Nat) (hlen : len ≤ 4000000000) (hcap : 2 * len ≤ cap) (J Jx : List (Ix len) → World → Prop)
    (hY : ∀ pre x W, J pre W → pre.length < len → YieldAt Fence.wide (n - 1) Tryd.prog l #[.slice (some ⟨b, off + 2 * x.1, none⟩) 2 2] W fun e W' =>
      (e = .returned (.bool true) ∧ J (pre ++ [x]) W' ∧ KC Bs Bn W W') ∨ (e = .returned (.bool false) ∧ Jx (pre ++ [x]) W'))
    (hJd : ∀ pre W, J pre W → J pre W.drew)
    (W : World) (hBs : W.cell? ⟨Bs, 0, none⟩ = some (.slice (some ⟨b, off, none⟩) (2 * len) cap)) (hBn : W.cell? ⟨Bn, 0, none⟩ = some (.int .i64 2)) (h0 : J [] W) :
    CallsIn Fence.wide n Tryd.prog 103 #[.func (.yield l) #[] #[], .pointer (some ⟨Bs, 0, none⟩), .pointer (some ⟨Bn, 0, none⟩)] W fun e W' => (∃ v, e = .returned v) ∧
      ((∃ ys, ys.map (·.1) = List.range len ∧ J ys W') ∨ (∃ pre, Jx pre W')) := by
  refine callsIn_of_wp Tryd.func103 rfl trivial ?_ rfl
  simp only [Tryd.ntmps103, List.size_toArray, List.length_cons, List.length_nil, Nat.reduceAdd, Nat.reduceSub, Array.replicate_succ, Array.replicate_zero, List.push_toArray, List.append_toArray, List.nil_append, List.cons_append]
  gi_wp2
  gi_loopw [4] (fun i wr => ∃ k : Nat, k ≤ len ∧ i = .int .i64 (2 * k : Nat) ∧ (∃ pre : List (Ix len), pre.map (·.1) = List.range k ∧ J pre wr) ∧ KC Bs Bn W wr)
    (fun i _ => 2 * len - (intOf i).toNat)
  case atStart => exact ⟨0, Nat.zero_le _, rfl, ⟨[], rfl, h0⟩, KC.refl _ _ _⟩
  case round =>
    obtain ⟨k, hk, rfl, ⟨pre, hpk, hJs⟩, hnx⟩ := hrel
    have hpl : pre.length = k := by have := congrArg List.length hpk; simpa using this
    have hcs := hnx.1 _ hBs
    have hcn := hnx.2 _ hBn
    by_cases hlt : k < len
    · obtain ⟨fn, tmps, assign, body, hy, hR⟩ := hY pre ⟨k, hlt⟩ wr.drew (hJd _ _ hJs) (by rw [hpl]; exact hlt)
      have g1 : ¬(2 * len < 2 * k) := by omega
      have g2 : min (2 : Int) ((2 * len - 2 * k : Nat) : Int) = 2 := by omega
      gi_wp2
      gi_region
      have e1 : ((2 * k : Nat) : Int) + 2 = ((2 * (k + 1) : Nat) : Int) := by omega
      have e2 : 2 * k ≤ 2 * (k + 1) ∧ 2 * (k + 1) ≤ cap := by omega
      have e3 : 2 * (k + 1) - 2 * k = 2 := by omega
      gi_wp2
      refine ⟨fun h => absurd h (by simp [Fence.wide]), hR.mono ?_⟩
      rintro e W3 (⟨rfl, hJ3, hk3⟩ | ⟨rfl, hJx3⟩)
      · have hcn3 := hk3.2 _ (show wr.drew.cell? ⟨Bn, 0, none⟩ = some (.int .i64 2) from hcn)
        gi_wp2
        go_roundw
        case rel => exact ⟨k + 1, by omega, by go_num, ⟨pre ++ [⟨k, hlt⟩], by rw [List.map_append, hpk, List.range_succ]; rfl, hJ3⟩, (hnx.trans (show KC Bs Bn wr wr.drew from KC.refl _ _ _)).trans hk3⟩
        case measure => simp [intOf]; omega
      · gi_wp2
        refine bodyPost_ret (results_none rfl _ _ _) rfl ?_
        exact ⟨⟨_, rfl⟩, .inr ⟨_, hJx3⟩⟩
    · obtain rfl : k = len := by omega
      gi_wp2
      go_end0
      exact ⟨⟨_, rfl⟩, .inl ⟨_, hpk, hJs⟩⟩
set_option maxRecDepth 100000 in
set_option maxHeartbeats 1000000 in
theorem chunk1_nil (n : Nat) (l Bs Bn cap : Nat) (a : Option Addr) (J : List (Ix 0) → World → Prop) (W : World) (hBs : W.cell? ⟨Bs, 0, none⟩ = some (.slice a 0 cap)) (h0 : J [] W) :
    CallsIn Fence.wide n Tryd.prog 103 #[.func (.yield l) #[] #[], .pointer (some ⟨Bs, 0, none⟩), .pointer (some ⟨Bn, 0, none⟩)] W fun e W' => (∃ v, e = .returned v) ∧ J [] W' := by
  refine callsIn_of_wp Tryd.func103 rfl trivial ?_ rfl
  simp only [Tryd.ntmps103, List.size_toArray, List.length_cons, List.length_nil, Nat.reduceAdd, Nat.reduceSub, Array.replicate_succ, Array.replicate_zero, List.push_toArray, List.append_toArray, List.nil_append, List.cons_append]
  gi_wp2
  gi_loopw [4] (fun i wr => i = .int .i64 0 ∧ wr = W) (fun _ _ => 0)
  case atStart => exact ⟨rfl, rfl⟩
  case round =>
    obtain ⟨rfl, rfl⟩ := hrel
    gi_wp2
    go_end0
    exact ⟨⟨_, rfl⟩, h0⟩
set_option maxHeartbeats 1000000 in
theorem chunk_in (n : Nat) (a : Option Addr) (len cap : Nat) (w : World) :
    CallsIn Fence.wide n Tryd.prog 92 #[.slice a len cap, .int .i64 2] w fun e w' => e = .returned (.func (.func 103) #[] #[.pointer (some ⟨w.heap.size, 0, none⟩), .pointer (some ⟨w.heap.size + 1, 0, none⟩)]) ∧ w' = (w.alloc (.cells #[.slice a len cap] 101)).alloc (.cells #[.int .i64 2] 3) := by
  refine callsIn_of_wp Tryd.func92 rfl trivial ?_ rfl
  simp only [Tryd.ntmps92, List.size_toArray, List.length_cons, List.length_nil, Nat.reduceAdd, Nat.reduceSub, Array.replicate_succ, Array.replicate_zero, List.push_toArray, List.append_toArray, List.nil_append, List.cons_append]
  gi_wp2
  go_ret
  exact ⟨rfl, rfl⟩
/-- The slice value lies in a block below n₀, or there is nothing. -/
def VSl (sv : Value) (k b off : Nat) : Prop := (k = 0 ∧ ∃ a cap, sv = .slice a 0 cap) ∨ (∃ cap, sv = .slice (some ⟨b, off, none⟩) (2 * k) cap ∧ 2 * k ≤ cap)
theorem chunk_stops (n : Nat) (Bs Bn : Nat) (sv : Value) (k b off : Nat) (hk : k ≤ 4000000000) (w : World) (hBs : Bs < w.heap.size) (hBn : Bn < w.heap.size)
    (hc : w.cell? ⟨Bs, 0, none⟩ = some sv) (hcn : w.cell? ⟨Bn, 0, none⟩ = some (.int .i64 2)) (hI : VSl sv k b off) :
    SeqStopsK Fence.wide n Tryd.prog 103 #[.pointer (some ⟨Bs, 0, none⟩), .pointer (some ⟨Bn, 0, none⟩)] (fun x : Ix k => #[Value.slice (some ⟨b, off + 2 * x.1, none⟩) 2 2]) (KC Bs Bn) (fun ys => ys.map (·.1) = List.range k) (fun _ => True) k w := fun l J Jx W hW hJ _ hY h0 => by
  have hc' := (hW.cell (p := ⟨Bs, 0, none⟩) hBs).trans hc
  have hcn' := (hW.cell (p := ⟨Bn, 0, none⟩) hBn).trans hcn
  rcases hI with ⟨rfl, a, cap, rfl⟩ | ⟨cap, rfl, hcap⟩
  · exact (chunk1_nil n l Bs Bn cap a J W hc' h0).mono fun e W' ⟨he, hj⟩ => ⟨he, .inl ⟨_, rfl, hj⟩⟩
  · refine (chunk1_in n l Bs Bn b off k cap hk hcap J Jx hY (fun pre W h => hJ pre W W.drew none h ⟨rfl, rfl, rfl, Nat.le_refl _, fun _ _ _ => rfl⟩ (fun r e => by cases e)) W hc' hcn' h0).mono ?_
    rintro e W' ⟨he, h | ⟨pre, hj⟩⟩
    · exact ⟨he, .inl h⟩
    · exact ⟨he, .inr ⟨_, trivial, hj⟩⟩
end Go.Proofs.YtkpgjgmlhcipeaaDoor
