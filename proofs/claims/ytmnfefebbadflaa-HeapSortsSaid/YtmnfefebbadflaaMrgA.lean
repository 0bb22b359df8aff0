/- slices.SortStableFunc at a row that may be empty; the laws' comparisons. -/
import Derived.Test.YtmnfefebbadflaaStbS
import Derived.Test.YtmnfefebbadflaaLPlay
namespace Go.Proofs.Ytmnfefebbadflaa
open Go.RowKit
set_option maxHeartbeats 1000000 in
theorem cmp_body (f : Nat) (a b : One) (ha : Sm a) (hb : Sm b) (w : World) (hf : f = 34 ∨ f = 35 ∨ f = 36) : Calls Try.prog f #[.agg #[.int .i64 a.1, .int .i64 a.2], .agg #[.int .i64 b.1, .int .i64 b.2]] w fun e w' => e = .returned (.int .i64 (a.1 - b.1)) ∧ Below w.heap.size w w' := by
  obtain ⟨a1, a2⟩ := ha
  obtain ⟨b1, b2⟩ := hb
  rcases hf with rfl | rfl | rfl
  · go_enter Try.func34, Try.ntmps34
    go_wp2_with fail
    go_ret
    exact ⟨rfl, ((Below.refl _ _).alloc (Nat.le_refl _) _).alloc (by simp) _⟩
  · go_enter Try.func35, Try.ntmps35
    go_wp2_with fail
    go_ret
    exact ⟨rfl, ((Below.refl _ _).alloc (Nat.le_refl _) _).alloc (by simp) _⟩
  · go_enter Try.func36, Try.ntmps36
    go_wp2_with fail
    go_ret
    exact ⟨rfl, ((Below.refl _ _).alloc (Nat.le_refl _) _).alloc (by simp) _⟩
theorem cmp34 : Cmp 34 := ⟨fun _ _ => by kernel_rfl, fun a b ha hb w => cmp_body 34 a b ha hb w (.inl rfl)⟩
theorem cmp35 : Cmp 35 := ⟨fun _ _ => by kernel_rfl, fun a b ha hb w => cmp_body 35 a b ha hb w (.inr (.inl rfl))⟩
theorem cmp36 : Cmp 36 := ⟨fun _ _ => by kernel_rfl, fun a b ha hb w => cmp_body 36 a b ha hb w (.inr (.inr rfl))⟩
theorem ins_none (A : Option Addr) (len cap : Nat) (F : Value) (w : World) : Calls Try.prog 65 #[.slice A len cap, .int .i64 0, .int .i64 0, F] w fun e w' => e = .returned (.tuple #[]) ∧ w = w' := by
  go_enter Try.func65, Try.ntmps65
  go_wp2_with fail
  refine wp_loop_rounds 1 ?_
  rw [rounds_succ]
  go_wp2_with fail
  go_end0
  exact ⟨rfl, rfl⟩
theorem stable_none (A : Option Addr) (len cap : Nat) (F : Value) (w : World) : Calls Try.prog 58 #[.slice A len cap, .int .i64 0, F] w fun e w' => e = .returned (.tuple #[]) ∧ w = w' := by
  go_enter Try.func58, Try.ntmps58
  go_wp2_with fail
  refine wp_loop_rounds 1 ?_
  rw [rounds_succ]
  go_wp2_with fail
  refine (ins_none A len cap F w).mono ?_
  rintro e w' ⟨rfl, rfl⟩
  go_wp2_with fail
  refine wp_loop_rounds 1 ?_
  rw [rounds_succ]
  go_wp2_with fail
  go_end0
  exact ⟨rfl, rfl⟩
theorem sortStable_any {w : World} {base cf : Nat} {V : Value} {L : List One} (h : w.ownsRow base 26 2 V L.length (flat encO L)) (hc : Cmp cf) (hs : ∀ x ∈ L, Sm x) (hn : L.length ≤ 1000000000) :
    Calls Try.prog 33 #[V, .func (.func cf) #[] #[]] w fun e w' => e = .returned (.tuple #[]) ∧ (∃ M, Stb.Sts kO L M ∧ w'.ownsRow base 26 2 V L.length (flat encO M)) ∧ w.grownBy w' V.ownBlock := by
  by_cases h0 : L.length = 0
  · obtain ⟨A, cap, hV⟩ : ∃ A cap, V = .slice A 0 cap := by
      rcases h.2 with ⟨e, e0⟩ | ⟨g, cap, cur, e, _⟩
      · exact ⟨none, 0, e⟩
      · exact ⟨_, cap, by rw [e, h0]⟩
    have HL : Hid (L = []) := Lib.hid (List.eq_nil_of_length_eq_zero h0)
    have HH := Lib.hid h
    have HV := Lib.hid hV
    subst hV
    clear h h0
    go_enter Try.func33, Try.ntmps33
    go_wp2_with fail
    refine (stable_none A 0 cap _ w).mono ?_
    rintro e w' ⟨rfl, rfl⟩
    go_wp2_with fail
    go_end0
    refine ⟨rfl, ⟨L, ⟨?_, Stb.Same.refl _⟩, HH.out⟩, ⟨rfl, rfl, rfl, Nat.le_refl _, fun _ _ _ => rfl⟩⟩
    rw [HL.out]
    exact List.Pairwise.nil
  · obtain ⟨g, cap, hV, _, _⟩ := h.form (by omega)
    obtain ⟨n, hn'⟩ : ∃ n, L.length = n := ⟨_, rfl⟩
    rw [hn'] at h hn hV ⊢
    subst hV
    have HR : Hid (RowP w base g n cap L) := Lib.hid h
    have HS := Lib.hid hs
    have HC := Lib.hid hc
    clear h hs hc h0 hn'
    go_enter Try.func33, Try.ntmps33
    go_wp2_with fail
    refine (stable_any HR.out HC.out HS.out hn).mono ?_
    rintro e w' ⟨rfl, ⟨M, hst, hr⟩, hg⟩
    have H1 := Lib.hid hst
    have H2 := Lib.hid hr
    have H3 := Lib.hid hg
    clear hst hr hg
    go_wp2_with fail
    go_end0
    exact ⟨rfl, ⟨M, H1.out, H2.out⟩, H3.out⟩
end Go.Proofs.Ytmnfefebbadflaa
