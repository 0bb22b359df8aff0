/- The first look of the heap laws returns true. No condition. -/
import Derived.Test.YtmnfefebbadflaaHeapEStr
import Derived.Test.YtmnfefebbadflaaHeapEInt
import Derived.Test.YtmnfefebbadflaaHeapSpec
namespace Go.Proofs.Ytmnfefebbadflaa
open Go.RowKit
def ltS (a b : ByteArray) : Bool := Op.bytesLess a.data.toList b.data.toList
theorem enter48 (args : Array Value) (w : World) : (callFunc 48 args).run Try.prog w = .ok (.enter 48 args) w := by kernel_rfl
set_option maxHeartbeats 1000000 in
theorem less48 : HStr.Less 48 ltS := ⟨enter48, fun a b w => by
  have e : Hid (Op.bytesLess a.toList b.toList = ltS a b) := by show _ = _; rw [ByteArray.toList_eq, ByteArray.toList_eq]; rfl
  go_enter Try.func48, Try.ntmps48
  go_wp2
  go_ret
  exact ⟨ret_bool e.out, Below.refl _ _⟩⟩
theorem rep_below {α : Type} {T E sz : Nat} {enc : α → List Value} {w w' : World} {hb : Nat} {F V : Value} {t : Int} {base : Nat} {l : List α} (H : HRep T E sz enc w hb F V t base l) (h : Chg (fun b => b = hb ∨ V.ownBlock = some b) w w') {B : Nat} (hB : B ≤ hb) (hb' : B ≤ base) : Below B w w' :=
  h.below (by have := H.lt; omega) (fun k hk => hk.elim (fun e => by omega) (fun e => by have := (H.row.lt k e).1; omega))
set_option maxRecDepth 100000 in
set_option maxHeartbeats 1000000 in
theorem wakes_any (w : World) : Calls Try.prog 19 #[] w fun e w' => e = .returned (.bool true) ∧ Below w.heap.size w w' := by
  have p1 : pushL ltS [] ⟨#[99]⟩ (0 + 1) = [(⟨#[99]⟩, 1)] := by decide
  have p2 : pushL ltS [(⟨#[99]⟩, 1)] ⟨#[97]⟩ (1 + 1) = [(⟨#[97]⟩, 2), (⟨#[99]⟩, 1)] := by decide
  have p3 : pushL ltS [(⟨#[97]⟩, 2), (⟨#[99]⟩, 1)] ⟨#[98]⟩ (2 + 1) = [(⟨#[97]⟩, 2), (⟨#[99]⟩, 1), (⟨#[98]⟩, 3)] := by decide
  have p4 : popL ltS [(⟨#[97]⟩, 2), (⟨#[99]⟩, 1), (⟨#[98]⟩, 3)] = [(⟨#[98]⟩, 3), (⟨#[99]⟩, 1)] := by decide
  have P1 := Lib.hid p1
  have P2 := Lib.hid p2
  have P3 := Lib.hid p3
  have P4 := Lib.hid p4
  clear p1 p2 p3 p4
  go_enter Try.func19, Try.ntmps19
  go_wp2_with fail
  refine (HStr.new_any 48 _).mono ?_
  rintro e w' ⟨rfl, hw⟩
  have R0 := HStr.new_rep (.func (.func 48) #[] #[]) w w.heap.size
  rw [← hw] at R0
  have B0 : Below w.heap.size w w' := by rw [hw]; exact (Below.refl _ _).alloc (Nat.le_refl _) _
  have HR0 := Lib.hid R0
  have HB0 := Lib.hid B0
  have s0 := B0.size
  clear hw R0 B0
  go_wp2_with fail
  refine (HStr.push_any less48 HR0.out (by simp) (by omega) (by omega) s0).mono ?_
  rintro e w1 ⟨rfl, ⟨V1, _, R1⟩, C1⟩
  have HB1 := Lib.hid (HB0.out.trans (rep_below HR0.out C1 (Nat.le_refl _) (Nat.le_refl _)))
  rw [P1.out] at R1
  have HR1 := Lib.hid R1
  have s1 := HB1.out.size
  clear R1 C1
  go_wp2_with fail
  refine (HStr.push_any less48 HR1.out (by simp) (by omega) (by omega) s1).mono ?_
  rintro e w2 ⟨rfl, ⟨V2, _, R2⟩, C2⟩
  have HB2 := Lib.hid (HB1.out.trans (rep_below HR1.out C2 (Nat.le_refl _) (Nat.le_refl _)))
  have R2' : HStr.Rep w2 w.heap.size (.func (.func 48) #[] #[]) V2 (1 + 1) w.heap.size _ := R2
  rw [show pushL ltS [(⟨#[99]⟩, 1)] ⟨#[97]⟩ (0 + 1 + 1) = _ from P2.out] at R2
  have HR2 := Lib.hid R2
  have s2 := HB2.out.size
  clear R2 R2' C2
  go_wp2_with fail
  refine (HStr.push_any less48 HR2.out (by simp) (by omega) (by omega) s2).mono ?_
  rintro e w3 ⟨rfl, ⟨V3, _, R3⟩, C3⟩
  have HB3 := Lib.hid (HB2.out.trans (rep_below HR2.out C3 (Nat.le_refl _) (Nat.le_refl _)))
  rw [show pushL ltS [(⟨#[97]⟩, 2), (⟨#[99]⟩, 1)] ⟨#[98]⟩ (0 + 1 + 1 + 1) = _ from P3.out] at R3
  have HR3 := Lib.hid R3
  clear R3 C3
  go_wp2_with fail
  refine (HStr.pop_some less48 HR3.out (by simp)).mono ?_
  rintro e w4 ⟨rfl, ⟨V4, _, R4⟩, C4⟩
  have HB4 := Lib.hid (HB3.out.trans (rep_below HR3.out C4 (Nat.le_refl _) (Nat.le_refl _)))
  rw [P4.out] at R4
  have HR4 := Lib.hid R4
  clear R4 C4
  go_wp2_with fail
  refine (HStr.top_some HR4.out).mono ?_
  rintro e w5 ⟨rfl, hb5⟩
  have HR5 := Lib.hid (HR4.out.later hb5)
  have HB5 := Lib.hid (below_then HB4.out HB4.out.size hb5)
  clear hb5
  go_wp2_with fail
  refine (HInt.push_nil 1 _).mono ?_
  rintro e w6 ⟨rfl, hb6⟩
  have HR6 := Lib.hid (HR5.out.later hb6)
  have HB6 := Lib.hid (below_then HB5.out HB5.out.size hb6)
  clear hb6
  go_wp2_with fail
  refine (HInt.pop_nil _).mono ?_
  rintro e w7 ⟨rfl, hb7⟩
  have HR7 := Lib.hid (HR6.out.later hb7)
  have HB7 := Lib.hid (below_then HB6.out HB6.out.size hb7)
  clear hb7
  go_wp2_with fail
  refine (HStr.len_any HR7.out).mono ?_
  rintro e w' ⟨rfl, rfl⟩
  go_wp2_with fail
  refine (HInt.len_nil _).mono ?_
  rintro e w' ⟨rfl, rfl⟩
  go_wp2_with fail
  go_ret
  exact ⟨rfl, HB7.out⟩
end Go.Proofs.Ytmnfefebbadflaa
