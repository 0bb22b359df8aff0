/- The reference's list of what was pushed: the place of the one that comes first, and the list without one; what is less by the key. What each call answers. -/
import Derived.Test.YtmnfefebbadflaaFnd
import Derived.Deep.LoopGhost
namespace Go.Proofs.Ytmnfefebbadflaa
open Go.RowKit
abbrev One := Int × Int
def encO (a : One) : List Value := [.int .i64 a.1, .int .i64 a.2]
theorem encO_length (a : One) : (encO a).length = 2 := rfl
theorem row_item {α : Type} {E sz : Nat} {enc : α → List Value} {w : World} {base g cap : Nat} {l : List α} (he : ∀ a, (enc a).length = sz)
    (h : w.ownsRow base E sz (.slice (some ⟨g, 0, none⟩) l.length cap) l.length (flat enc l)) {j : Nat} {a : α} (hj : l[j]? = some a) {r : Nat} (hr : r < sz) {v : Value} (hv : (enc a)[r]? = some v) : Cl w ⟨g, j * sz + r, none⟩ v := by
  have hl : j < l.length := (List.getElem?_eq_some_iff.1 hj).1
  have hlt : j * sz + r < l.length * sz := by
    have : (j + 1) * sz ≤ l.length * sz := Nat.mul_le_mul_right _ hl
    rw [Nat.add_mul] at this
    omega
  exact ⟨(h.cellAt _ hlt).trans ((flat_get he l j r hr a hj).trans hv), h.frozenAt _⟩
theorem row_later {w w' : World} {base E sz : Nat} {V : Value} {n : Nat} {xs : List Value} (h : w.ownsRow base E sz V n xs) (hb : Below w.heap.size w w') : w'.ownsRow base E sz V n xs := by
  refine ⟨h.1, ?_⟩
  rcases h.2 with h0 | ⟨g, cap, cur, rfl, hg, hh, r⟩
  · exact .inl h0
  · exact .inr ⟨g, cap, cur, rfl, hg, block_later hb hh, r⟩
theorem row_shape {w : World} {base E sz : Nat} {V : Value} {n : Nat} {xs : List Value} (h : w.ownsRow base E sz V n xs) : ∃ A cap, V = .slice A n cap ∧ (0 < n → ∃ g, A = some ⟨g, 0, none⟩) := by
  rcases h.2 with ⟨h, h0⟩ | ⟨g, cap, cur, h, _⟩
  · exact ⟨none, 0, by rw [h, h0], by omega⟩
  · exact ⟨_, cap, h, fun _ => ⟨g, rfl⟩⟩

def leastTo (l : List One) : Nat → Int
  | 0 => -1
  | k + 1 => if leastTo l k < 0 ∨ l[k]!.1 < l[(leastTo l k).toNat]!.1 then (k : Int) else leastTo l k
theorem leastTo_bd (l : List One) (k : Nat) : -1 ≤ leastTo l k ∧ leastTo l k < k ∧ (0 < k → 0 ≤ leastTo l k) := by
  induction k with
  | zero => simp [leastTo]
  | succ k ih =>
    simp only [leastTo]
    split <;> omega
def wTo (l : List One) (p : Int) : Nat → List One
  | 0 => []
  | k + 1 => if (k : Int) = p then wTo l p k else wTo l p k ++ [l[k]!]
theorem wTo_len (l : List One) (p : Int) (k : Nat) : (wTo l p k).length ≤ k := by
  induction k with
  | zero => simp [wTo]
  | succ k ih =>
    simp only [wTo]
    split
    · omega
    · simp; omega

set_option maxRecDepth 100000 in
set_option maxHeartbeats 1000000 in
theorem least_any {w : World} {base : Nat} {V : Value} {l : List One} (H : w.ownsRow base 26 2 V l.length (flat encO l)) (hn : l.length ≤ 1000000000) :
    Calls Try.prog 13 #[V] w fun e w' => e = .returned (.int .i64 (leastTo l l.length)) ∧ Below w.heap.size w w' := by
  obtain ⟨A, cap, rfl, hA⟩ := row_shape H
  have HH := Lib.hid H
  clear H
  go_enter Try.func13, Try.ntmps13
  go_wp2_with fail
  go_loopw [3, 4] (fun p c wr => ∃ k : Nat, k ≤ l.length ∧ c = .int .i64 k ∧ p = .int .i64 (leastTo l k) ∧ Below w.heap.size w wr) (fun _ c _ => l.length - (intOf c).toNat)
  case atStart => exact ⟨0, by omega, rfl, rfl, Below.refl _ _⟩
  case round =>
    obtain ⟨k, hk, rfl, rfl, hb⟩ := hrel
    have hbd := leastTo_bd l k
    by_cases hlt : k < l.length
    · obtain ⟨g, rfl⟩ := hA (by omega)
      obtain ⟨a, ha⟩ : ∃ a, l[k]? = some a := ⟨_, List.getElem?_eq_getElem hlt⟩
      have ea : l[k]! = a := by simp [getElem!_def, ha]
      have HR := row_later HH.out hb
      have ca := (row_item encO_length HR ha (r := 0) (by omega) (v := .int .i64 a.1) rfl).cell
      rw [Nat.add_zero] at ca
      have HB := Lib.hid hb
      by_cases hp : leastTo l k < 0
      · have hs : Hid (leastTo l (k + 1) = k) := by show _ = _; simp only [leastTo]; rw [if_pos (.inl hp)]
        have hp' : decide (leastTo l k < 0) = true := decide_eq_true hp
        clear ha ea HR hb
        go_wp2_with fail
        go_quiet (fail)
        go_wp2_with fail
        exact ⟨⟨k + 1, by omega, by go_num, congrArg (Value.int .i64) hs.out.symm, below_drewN HB.out _⟩, by simp [intOf]; omega⟩
      · obtain ⟨q, hq⟩ : ∃ q : Nat, leastTo l k = q := ⟨(leastTo l k).toNat, by omega⟩
        obtain ⟨b, hb'⟩ : ∃ b, l[q]? = some b := ⟨_, List.getElem?_eq_getElem (by omega)⟩
        have eb : l[q]! = b := by simp [getElem!_def, hb']
        have cb := (row_item encO_length HR hb' (r := 0) (by omega) (v := .int .i64 b.1) rfl).cell
        rw [Nat.add_zero] at cb
        rw [hq] at hbd ⊢
        have hq1 : (q : Int) < (l.length : Int) := by omega
        have hq2 : decide ((q : Int) < 0) = false := decide_eq_false (by omega)
        by_cases hc : a.1 < b.1
        · have hs : Hid (leastTo l (k + 1) = k) := by show _ = _; simp only [leastTo]; rw [if_pos (.inr (by rw [hq, ea, Int.toNat_natCast, eb]; exact hc))]
          clear ha ea HR hb hb' eb hq hbd hp
          go_wp2_with fail
          go_quiet (fail)
          go_wp2_with fail
          exact ⟨⟨k + 1, by omega, by go_num, congrArg (Value.int .i64) hs.out.symm, below_drewN HB.out _⟩, by simp [intOf]; omega⟩
        · have hs : Hid (leastTo l (k + 1) = q) := by
            show _ = _
            simp only [leastTo]
            rw [if_neg (by rw [hq, ea, Int.toNat_natCast, eb]; omega)]
            exact hq
          clear ha ea HR hb hb' eb hq hbd hp
          go_wp2_with fail
          go_quiet (fail)
          go_wp2_with fail
          exact ⟨⟨k + 1, by omega, by go_num, congrArg (Value.int .i64) hs.out.symm, below_drewN HB.out _⟩, by simp [intOf]; omega⟩
    · obtain rfl : k = l.length := by omega
      go_wp2_with fail
      go_ret
      exact ⟨rfl, hb⟩

theorem info_one : (Try.prog.info? 26).map (fun i => (i.zero, i.size, i.bytes)) = some (some (.agg #[.int .i64 0, .int .i64 0]), 2, 16) := by kernel_rfl
set_option maxRecDepth 100000 in
set_option maxHeartbeats 1000000 in
theorem without_any {w : World} {base : Nat} {V : Value} {l : List One} (p : Int) (H : w.ownsRow base 26 2 V l.length (flat encO l)) (hn : l.length ≤ 1000000000) :
    Calls Try.prog 15 #[V, .int .i64 p] w fun e w' => ∃ V', e = .returned V' ∧ w'.ownsRow w.heap.size 26 2 V' (wTo l p l.length).length (flat encO (wTo l p l.length)) ∧ Below w.heap.size w w' := by
  obtain ⟨A, cap, rfl, hA⟩ := row_shape H
  obtain ⟨i0, hi, hz0, hz1, hz2⟩ := info_parts info_one
  have HH := Lib.hid H
  clear H
  go_enter Try.func15, Try.ntmps15
  go_wp2_with fail
  go_loopw [5, 6] (fun o c wr => ∃ k : Nat, k ≤ l.length ∧ c = .int .i64 k ∧ wr.ownsRow w.heap.size 26 2 o (wTo l p k).length (flat encO (wTo l p k)) ∧ Below w.heap.size w wr) (fun _ c _ => l.length - (intOf c).toNat)
  case atStart => exact ⟨0, by omega, rfl, World.ownsRow_nil _ _ _ _, Below.refl _ _⟩
  case round =>
    obtain ⟨k, hk, rfl, hown, hb⟩ := hrel
    have HO := Lib.hid hown
    have HB := Lib.hid hb
    have hs := hb.size
    have hwl := wTo_len l p k
    by_cases hlt : k < l.length
    · by_cases hp : (k : Int) = p
      · have hp' : ((k : Int) == p) = true := by simp [hp]
        have hs : Hid (wTo l p (k + 1) = wTo l p k) := by show _ = _; simp only [wTo]; rw [if_pos hp]
        clear hp hown hb
        go_wp2_with fail
        exact ⟨⟨k + 1, by omega, by go_num, by rw [hs.out]; exact HO.out, HB.out⟩, by simp [intOf]; omega⟩
      · have hp' : ((k : Int) == p) = false := by simp [hp]
        obtain ⟨g, rfl⟩ := hA (by omega)
        obtain ⟨a, ha⟩ : ∃ a, l[k]? = some a := ⟨_, List.getElem?_eq_getElem hlt⟩
        have ea : l[k]! = a := by simp [getElem!_def, ha]
        have HR := row_later HH.out hb
        have ca := (row_item encO_length HR ha (r := 0) (by omega) (v := .int .i64 a.1) rfl).cell
        have cb := (row_item encO_length HR ha (r := 1) (by omega) (v := .int .i64 a.2) rfl).cell
        rw [Nat.add_zero] at ca
        have hs2 : Hid (wTo l p (k + 1) = wTo l p k ++ [a]) := by show _ = _; simp only [wTo]; rw [if_neg hp, ea]
        clear hp hb ha ea HR hown
        go_wp2_with (refine wpList_append_lies _ rfl (.tmp 16) (.tmp 21) 28 rfl w.heap.size 26 i0 (.agg #[.int .i64 0, .int .i64 0]) 2 16 Try.underlying28 hi hz0 hz1 hz2 rfl (by decide) _ (wTo l p k).length (flat encO (wTo l p k)) rfl (HO.out.alloc _) ⟨wr.heap.size, 0, none⟩ 1 1 (encO a) rfl rfl (World.news_of_block (heap_at rfl)) (by intro u hu; simp [encO] at hu; rcases hu with rfl | rfl <;> rfl) (by omega) (by simp only [maxLen]; omega) (by omega) (by simp; omega) _ rfl ?_; intro g' cap' w' hown' hgrow hat hlt')
        refine ⟨⟨k + 1, by omega, by go_num, ?_, ?_⟩, by simp [intOf]; omega⟩
        · rw [hs2.out, flat_append, List.length_append]
          have e : flat encO [a] = encO a := by simp [flat]
          rw [e]
          exact hown'
        · exact (HB.out.alloc (by omega) _).grown hgrow (by simp; omega) (fun q hq => (HO.out.lt q hq).1)
    · obtain rfl : k = l.length := by omega
      go_wp2_with fail
      go_ret
      exact ⟨_, rfl, HO.out, HB.out⟩

set_option maxHeartbeats 1000000 in
theorem less_any (a b : One) (w : World) : Calls Try.prog 12 #[.agg #[.int .i64 a.1, .int .i64 a.2], .agg #[.int .i64 b.1, .int .i64 b.2]] w fun e w' => e = .returned (.bool (decide (a.1 < b.1))) ∧ Below w.heap.size w w' := by
  go_enter Try.func12, Try.ntmps12
  go_wp2
  go_ret
  exact ⟨rfl, ((Below.refl _ _).alloc (Nat.le_refl _) _).alloc (by simp) _⟩
theorem enter12 (args : Array Value) (w : World) : (callFunc 12 args).run Try.prog w = .ok (.enter 12 args) w := by
  kernel_rfl
end Go.Proofs.Ytmnfefebbadflaa
