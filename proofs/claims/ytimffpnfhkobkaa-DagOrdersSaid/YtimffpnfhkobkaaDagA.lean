/- May a graph be? What the program says of it. -/
import Derived.Test.YtimffpnfhkobkaaSl
namespace Go.Proofs.Ytimffpnfhkobkaa
open Go.RowKit
/-- A function value that tells of one thing: what it says, whatever lies in new memory. -/
structure Pred {α : Type} (lf : Nat) (bound : Array Value) (val : α → Value) (p : α → Bool) (ok : α → Prop) (w : World) : Prop where
  enter : ∀ (args : Array Value) (w : World), (callFunc lf args).run Try.prog w = .ok (.enter lf args) w
  calls : ∀ (a : α) (w' : World), ok a → Below w.heap.size w w' → Calls Try.prog lf (#[val a] ++ bound) w' fun e w'' => e = .returned (.bool (p a)) ∧ Below w'.heap.size w' w''
def arcV (a : Arc) : Value := .agg #[.int .i64 a.1, .int .i64 a.2.1, .int .i64 a.2.2]
def findI {α : Type} (p : α → Bool) (L : List α) : Int := match L.findIdx? p with | some i => i | none => -1
theorem findI_ge {α : Type} (p : α → Bool) (L : List α) : decide (0 ≤ findI p L) = L.any p := by
  unfold findI
  cases h : L.findIdx? p with
  | none =>
    have h1 := List.findIdx?_eq_none_iff.1 h
    have : L.any p = false := List.any_eq_false.2 (fun x hx => by simp [h1 x hx])
    rw [this]; rfl
  | some i =>
    have h1 := List.findIdx?_eq_some_iff_getElem.1 h
    obtain ⟨hi, hp, _⟩ := h1
    have : L.any p = true := List.any_eq_true.2 ⟨L[i], List.getElem_mem hi, hp⟩
    rw [this]
    simp
theorem find_stop {α : Type} {p : α → Bool} {L : List α} {k : Nat} (hk : k < L.length) (hn : ∀ (i : Nat) (a : α), i < k → L[i]? = some a → p a = false) (h : p L[k] = true) : findI p L = k := by
  unfold findI
  have : L.findIdx? p = some k := List.findIdx?_eq_some_iff_getElem.2 ⟨hk, h, fun j hj => by
    have := hn j L[j] hj (List.getElem?_eq_getElem (by omega))
    simp [this]⟩
  rw [this]
theorem find_none {α : Type} {p : α → Bool} {L : List α} (hn : ∀ (i : Nat) (a : α), L[i]? = some a → p a = false) : findI p L = -1 := by
  unfold findI
  have : L.findIdx? p = none := List.findIdx?_eq_none_iff.2 (fun x hx => by
    obtain ⟨i, hi⟩ := List.getElem?_of_mem hx
    exact hn i x hi)
  rw [this]
set_option maxRecDepth 100000 in
set_option maxHeartbeats 1000000 in
theorem indexArcs_any {w : World} {V : Value} {L : List Arc} {lf : Nat} {bound : Array Value} {p : Arc → Bool} {ok : Arc → Prop} (h : Arcs w V L) (P : Pred lf bound arcV p ok w) (hok : ∀ a ∈ L, ok a) (hl : L.length ≤ 1000000000000) :
    Calls Try.prog 65 #[V, .func (.func lf) #[] bound] w fun e w' => e = .returned (.int .i64 (findI p L)) ∧ Below w.heap.size w w' := by
  obtain ⟨A, cap, rfl, h1, h2, hA⟩ := h.at_
  clear h
  have HE := P.enter
  have HP := Lib.hid P
  have HO := Lib.hid hok
  clear P hok
  go_enter Try.func65, Try.ntmps65
  go_wp2_with fail
  go_loopw [8] (fun s wr => ∃ k : Nat, k ≤ L.length ∧ s = .int .i64 k ∧ Hid (∀ (i : Nat) (a : Arc), i < k → L[i]? = some a → p a = false) ∧ Below w.heap.size w wr) (fun s _ => L.length - (intOf s).toNat)
  case atStart => exact ⟨0, by omega, rfl, Lib.hid (fun i a hi _ => absurd hi (by omega)), Below.refl _ _⟩
  case round =>
    obtain ⟨k, hk, rfl, hn, Bl⟩ := hrel
    by_cases hkn : k < L.length
    · obtain ⟨b, off, rfl, hc⟩ := hA (by omega)
      obtain ⟨a, ha⟩ : ∃ a, L[k]? = some a := ⟨_, List.getElem?_eq_getElem hkn⟩
      obtain ⟨c0, c1, c2⟩ := hc k a ha
      have c0 := cell_later Bl c0
      have c1 := cell_later Bl c1
      have c2 := cell_later Bl c2
      have hC := HP.out.calls a wr (HO.out a (List.mem_of_getElem? ha)) Bl
      obtain ⟨pa, hpa⟩ : ∃ pa, p a = pa := ⟨_, rfl⟩
      rw [hpa] at hC
      have HC := Lib.hid hC
      have HPA := Lib.hid hpa
      have HAA := Lib.hid ha
      have HBl := Lib.hid Bl
      have hs := Bl.size
      have hld : decide ((k : Int) < L.length) = true := by simp; omega
      clear hc hA hC hpa ha Bl
      go_wp2_with fail
      refine HC.out.mono ?_
      rintro e w1 ⟨rfl, B1⟩
      have HB1 := Lib.hid (below_then HBl.out hs B1)
      clear B1
      cases pa
      · go_wp2_with fail
        exact ⟨⟨k + 1, by omega, by go_num, Lib.hid (fun i x hi hx => by
          by_cases e : i = k
          · subst e; rw [HAA.out] at hx; cases hx; exact HPA.out
          · exact hn.out i x (by omega) hx), HB1.out⟩, by simp [intOf]; omega⟩
      · go_wp2_with fail
        go_ret
        refine ⟨ret_int ?_, HB1.out⟩
        have e : L[k] = a := by have := HAA.out; rw [List.getElem?_eq_getElem hkn] at this; exact Option.some.inj this
        exact (find_stop hkn hn.out (by rw [e]; exact HPA.out)).symm
    · obtain rfl : k = L.length := by omega
      go_wp2_with fail
      go_ret
      exact ⟨ret_int (find_none (fun i a ha => hn.out i a (List.getElem?_eq_some_iff.1 ha).1 ha)).symm, Bl⟩
set_option maxHeartbeats 1000000 in
theorem anyArcs_any {w : World} {V : Value} {L : List Arc} {lf : Nat} {bound : Array Value} {p : Arc → Bool} {ok : Arc → Prop} (h : Arcs w V L) (P : Pred lf bound arcV p ok w) (hok : ∀ a ∈ L, ok a) (hl : L.length ≤ 1000000000000) :
    Calls Try.prog 50 #[V, .func (.func lf) #[] bound] w fun e w' => e = .returned (.bool (L.any p)) ∧ Below w.heap.size w w' := by
  have HH := Lib.hid h
  have HP := Lib.hid P
  have HO := Lib.hid hok
  clear h P hok
  go_enter Try.func50, Try.ntmps50
  go_wp2_with fail
  refine (indexArcs_any HH.out HP.out HO.out hl).mono ?_
  rintro e w1 ⟨rfl, B1⟩
  have HB1 := Lib.hid B1
  clear B1
  go_wp2_with fail
  go_ret
  exact ⟨ret_bool (findI_ge p L), HB1.out⟩
def badA (n : Int) (a : Arc) : Bool := decide (a.1 < 0) || decide (n ≤ a.1) || decide (a.2.1 < 0) || decide (n ≤ a.2.1) || decide (a.2.2 < 0) || decide (1000000 < a.2.2)
theorem enterR : ∀ (args : Array Value) (w : World), (callFunc 51 args).run Try.prog w = .ok (.enter 51 args) w := by
  intro args w; kernel_rfl
set_option maxRecDepth 100000 in
set_option maxHeartbeats 2000000 in
theorem badA_any (a : Arc) (n : Int) (nb : Nat) (w : World) (hn : w.cell? ⟨nb, 0, none⟩ = some (.int .i64 n)) :
    Calls Try.prog 51 #[arcV a, .pointer (some ⟨nb, 0, none⟩)] w fun e w' => e = .returned (.bool (badA n a)) ∧ Below w.heap.size w w' := by
  obtain ⟨f, t, x⟩ := a
  have hb : Below w.heap.size w (w.alloc (.cells #[.int .i64 f, .int .i64 t, .int .i64 x] 52)) := (Below.refl _ _).alloc (Nat.le_refl _) _
  have hn' := cell_later hb hn
  have g0 : (w.alloc (.cells #[.int .i64 f, .int .i64 t, .int .i64 x] 52)).cell? ⟨w.heap.size, 0, none⟩ = some (.int .i64 f) := (Cl.new rfl).cell
  have g1 : (w.alloc (.cells #[.int .i64 f, .int .i64 t, .int .i64 x] 52)).cell? ⟨w.heap.size, 1, none⟩ = some (.int .i64 t) := (Cl.new rfl).cell
  have g2 : (w.alloc (.cells #[.int .i64 f, .int .i64 t, .int .i64 x] 52)).cell? ⟨w.heap.size, 2, none⟩ = some (.int .i64 x) := (Cl.new rfl).cell
  have HB := Lib.hid hb
  clear hb hn
  unfold arcV
  simp only
  by_cases b0 : f < 0
  · have hr : Hid (badA n (f, t, x) = true) := by show _ = _; simp [badA, b0]
    go_enter Try.func51, Try.ntmps51
    go_wp2_with fail
    go_ret
    exact ⟨ret_bool hr.out.symm, HB.out⟩
  by_cases b1 : n ≤ f
  · have hr : Hid (badA n (f, t, x) = true) := by show _ = _; simp [badA, b1]
    go_enter Try.func51, Try.ntmps51
    go_wp2_with fail
    go_ret
    exact ⟨ret_bool hr.out.symm, HB.out⟩
  by_cases b2 : t < 0
  · have hr : Hid (badA n (f, t, x) = true) := by show _ = _; simp [badA, b2]
    go_enter Try.func51, Try.ntmps51
    go_wp2_with fail
    go_ret
    exact ⟨ret_bool hr.out.symm, HB.out⟩
  by_cases b3 : n ≤ t
  · have hr : Hid (badA n (f, t, x) = true) := by show _ = _; simp [badA, b3]
    go_enter Try.func51, Try.ntmps51
    go_wp2_with fail
    go_ret
    exact ⟨ret_bool hr.out.symm, HB.out⟩
  by_cases b4 : x < 0
  · have hr : Hid (badA n (f, t, x) = true) := by show _ = _; simp [badA, b4]
    go_enter Try.func51, Try.ntmps51
    go_wp2_with fail
    go_ret
    exact ⟨ret_bool hr.out.symm, HB.out⟩
  have hr : Hid (badA n (f, t, x) = decide (1000000 < x)) := by show _ = _; simp [badA, b0, b1, b2, b3, b4]
  go_enter Try.func51, Try.ntmps51
  go_wp2_with fail
  go_ret
  exact ⟨ret_bool hr.out.symm, HB.out⟩
theorem predR {w : World} {n : Int} {nb : Nat} (h : w.cell? ⟨nb, 0, none⟩ = some (.int .i64 n)) : Pred 51 #[.pointer (some ⟨nb, 0, none⟩)] arcV (badA n) (fun _ => True) w :=
  ⟨enterR, fun a w' _ b => by
    have e : (#[arcV a] ++ #[.pointer (some ⟨nb, 0, none⟩)] : Array Value) = #[arcV a, .pointer (some ⟨nb, 0, none⟩)] := rfl
    rw [e]
    exact badA_any a n nb w' (cell_later b h)⟩
/-- A graph that may be. -/
def rightB (n : Int) (L : List Arc) : Bool := decide (0 ≤ n) && decide (n ≤ 4096) && decide (L.length ≤ 16384) && !L.any (badA n)
set_option maxRecDepth 100000 in
set_option maxHeartbeats 1000000 in
theorem right_any {w : World} {V : Value} {L : List Arc} (n : Int) (h : Arcs w V L) :
    Calls Try.prog 36 #[.int .i64 n, V] w fun e w' => e = .returned (.bool (rightB n L)) ∧ Below w.heap.size w w' := by
  have hb : Below w.heap.size w (w.alloc (.cells #[.int .i64 n] 3)) := (Below.refl _ _).alloc (Nat.le_refl _) _
  have g0 : (w.alloc (.cells #[.int .i64 n] 3)).cell? ⟨w.heap.size, 0, none⟩ = some (.int .i64 n) := (Cl.new rfl).cell
  have h' := h.later hb
  obtain ⟨A, cap, rfl, -⟩ := h.at_
  have HH := Lib.hid h'
  have HB := Lib.hid hb
  have HG := Lib.hid g0
  clear h h' hb
  by_cases n0 : n < 0
  · have hr : Hid (rightB n L = false) := by show _ = _; simp [rightB]; omega
    go_enter Try.func36, Try.ntmps36
    go_wp2_with fail
    go_ret
    exact ⟨ret_bool hr.out.symm, HB.out⟩
  by_cases n1 : 4096 < n
  · have hr : Hid (rightB n L = false) := by show _ = _; simp [rightB]; omega
    go_enter Try.func36, Try.ntmps36
    go_wp2_with fail
    go_ret
    exact ⟨ret_bool hr.out.symm, HB.out⟩
  by_cases n2 : 16384 < (L.length : Int)
  · have hr : Hid (rightB n L = false) := by show _ = _; simp [rightB]; omega
    go_enter Try.func36, Try.ntmps36
    go_wp2_with fail
    go_ret
    exact ⟨ret_bool hr.out.symm, HB.out⟩
  have hr : Hid (rightB n L = !L.any (badA n)) := by
    show _ = _
    have e1 : decide (0 ≤ n) = true := by simp; omega
    have e2 : decide (n ≤ 4096) = true := by simp; omega
    have e3 : decide (L.length ≤ 16384) = true := by simp; omega
    simp only [rightB, e1, e2, e3, Bool.true_and]
  go_enter Try.func36, Try.ntmps36
  go_wp2_with fail
  refine (anyArcs_any HH.out (p := badA n) (ok := fun _ => True) (predR HG.out) (fun _ _ => trivial) (by omega)).mono ?_
  rintro e w1 ⟨rfl, B1⟩
  have HB1 := Lib.hid (below_then HB.out HB.out.size B1)
  clear B1
  go_wp2_with fail
  go_ret
  exact ⟨ret_bool hr.out.symm, HB1.out⟩
end Go.Proofs.Ytimffpnfhkobkaa
