/- slices.Clone of a row of words; Add. -/
import Derived.Test.YtmnfefebbadflaaRNew
import Derived.Deep.AppendLies
namespace Go.Proofs.Ytmnfefebbadflaa
open Go.RowKit
theorem eqnil90 (a : Addr) (n c : Nat) (w : World) : (binOp .eql 90 (.slice (some a) n c) (.slice none 0 0)).run Try.prog w = .ok (.bool false) w := by kernel_rfl
def words (m : Nat) (x : Nat → Nat) : List Value := (List.range m).map fun j => .int .u64 (x j : Nat)
theorem words_get {m : Nat} {x : Nat → Nat} {j : Nat} {u : Value} (h : (words m x)[j]? = some u) : j < m ∧ u = .int .u64 (x j : Nat) := by
  unfold words at h
  rw [List.getElem?_map] at h
  by_cases hj : j < m
  · rw [List.getElem?_range hj] at h; exact ⟨hj, by simpa using h.symm⟩
  · rw [List.getElem?_eq_none (by simp; omega)] at h; simp at h
theorem words_one (m : Nat) (x : Nat → Nat) : ∀ u ∈ words m x, u.oneCell' = true := by
  intro u hu
  obtain ⟨j, _, rfl⟩ := List.mem_map.1 hu
  rfl
theorem news_words {w : World} {b m : Nat} {x : Nat → Nat} (h : URow w b m x) {o : Obj} : ∀ j u, (words m x)[j]? = some u → (w.alloc o).cell? ((⟨b, 0, none⟩ : Addr).add j) = some u := by
  intro j u hu
  obtain ⟨hj, rfl⟩ := words_get hu
  have ad : (⟨b, 0, none⟩ : Addr).add j = ⟨b, j, none⟩ := by unfold Addr.add; split <;> simp_all
  rw [ad]
  exact ((h.cl hj).alloc o).cell
theorem urow_of_owns {w : World} {base g cap m : Nat} {x : Nat → Nat} (h : w.ownsRow base 93 1 (.slice (some ⟨g, 0, none⟩) m cap) m ([] ++ words m x)) : URow w g m x := by
  obtain ⟨_, h | ⟨g', cap', cur, hv, _, hh, hle, _, hs, ht⟩⟩ := h
  · cases h.1
  · cases hv
    refine ⟨cur.size, fun j => (cur[j]?).getD default, by omega, ⟨cur, hh, rfl, fun i hi => by simp [hi]⟩, fun j hj => ?_⟩
    have h1 : (cur.toList.take (m * 1))[j]? = some (.int .u64 (x j : Nat)) := by rw [ht]; simp [words, hj]
    rw [List.getElem?_take, if_pos (by omega)] at h1
    have h2 : cur[j]? = some (.int .u64 (x j : Nat)) := by simpa using h1
    simp [h2]
set_option maxRecDepth 100000 in
theorem clone_any {w : World} {b m c : Nat} {x : Nat → Nat} (hu : URow w b m x) (hm0 : 0 < m) (hm : m ≤ 64) :
    Calls Try.prog 55 #[.slice (some ⟨b, 0, none⟩) m c] w fun e w' => ∃ g cap, e = .returned (.slice (some ⟨g, 0, none⟩) m cap) ∧ URow w' g m x ∧ w.heap.size ≤ g ∧ Below w.heap.size w w' := by
  obtain ⟨i0, hi, hz0, hz1, hz2⟩ := info_parts info93
  have HU := Lib.hid hu
  clear hu
  have hE : (w.alloc (.cells #[] 93)).ownsRow w.heap.size 93 1 (.slice (some ⟨w.heap.size, 0, none⟩) 0 0) 0 [] := ⟨rfl, .inr ⟨w.heap.size, 0, #[], rfl, Nat.le_refl _, heap_at rfl, Nat.le_refl _, by decide, rfl, rfl⟩⟩
  have hnil := eqnil90 ⟨b, 0, none⟩ m c
  go_enter Try.func55, Try.ntmps55
  go_wp2_with (refine wpList_append_lies _ rfl (.tmp 5) (.tmp 6) 90 rfl w.heap.size 93 i0 (.int .u64 0) 1 8 Try.underlying90 hi hz0 hz1 hz2 rfl (by decide) _ 0 [] rfl hE ⟨b, 0, none⟩ m c (words m x) rfl (by simp [words]) (news_words HU.out) (words_one m x) hm0 (by unfold maxLen; omega) (by omega) (by simp) _ rfl ?_; intro g cap w' hown hgrow hat hlt)
  all_goals
    go_ret
    refine ⟨g, cap, by simp, ?_, ?_, ?_⟩
    · rw [Nat.zero_add] at hown; exact urow_of_owns hown
    · rcases hat with h | h
      · have h' : some w.heap.size = some g := h
        injection h' with h'; exact Nat.le_of_eq h'
      · rw [h]; simp
    · exact ((Below.refl _ _).alloc (Nat.le_refl _) _).grown hgrow (by simp) (fun q hq => by
      have h' : some w.heap.size = some q := hq
      injection h' with h'; exact Nat.le_of_eq h')
end Go.Proofs.Ytmnfefebbadflaa
