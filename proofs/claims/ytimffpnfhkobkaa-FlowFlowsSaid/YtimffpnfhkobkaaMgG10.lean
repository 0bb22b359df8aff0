/- A node is met; a search begins. -/
import Derived.Test.YtimffpnfhkobkaaMgG9
import Derived.Test.YtimffpnfhkobkaaMgG7
import Derived.Deep.LoopGhost
namespace Go.Proofs.Ytimffpnfhkobkaa
open Go.RowKit
def ltR (a b : Int × Int) : Bool := decide (a.2 < b.2)
theorem enterRch (args : Array Value) (w : World) : (callFunc 73 args).run Try.prog w = .ok (.enter 73 args) w := by kernel_rfl
set_option maxHeartbeats 1000000 in
theorem lessR : HRch.Less 73 ltR := ⟨enterRch, fun a b w => by
  obtain ⟨wA, hwA⟩ : ∃ wA, (w.alloc (.cells #[.int .i64 a.1, .int .i64 a.2] 102)).alloc (.cells #[.int .i64 b.1, .int .i64 b.2] 102) = wA := ⟨_, rfl⟩
  have BA : Below w.heap.size w wA := by rw [← hwA]; exact ((Below.refl _ _).alloc (Nat.le_refl _) _).alloc (by simp) _
  have h1 : wA.heap[w.heap.size]? = some (.cells #[.int .i64 a.1, .int .i64 a.2] 102) := by rw [← hwA]; exact (Below.heap_alloc _ _ _ (by simp)).trans (heap_at rfl)
  have h2 : wA.heap[w.heap.size + 1]? = some (.cells #[.int .i64 b.1, .int .i64 b.2] 102) := by rw [← hwA]; exact heap_at (by simp)
  have g1 : wA.cell? ⟨w.heap.size, 1, none⟩ = some (.int .i64 a.2) := (Cl.of_block h1 (j := 1) rfl).cell
  have g2 : wA.cell? ⟨w.heap.size + 1, 1, none⟩ = some (.int .i64 b.2) := (Cl.of_block h2 (j := 1) rfl).cell
  have HB := Lib.hid BA
  clear h1 h2 BA
  go_enter Try.func73, Try.ntmps73
  go_wp2_with fail
  go_ret
  exact ⟨rfl, HB.out⟩⟩
section
variable {s : Sv} {w : World} {left fl x far : Nat → Int} {came : Nat → Stp} {cl : Nat → Bool}
/-- A heap apart from a solver. -/
def Apart (s : Sv) (hb : Nat) (V : Value) : Prop := ∀ b, (s.R b ∨ b ∈ [s.bl, s.bf, s.bx, s.br, s.bm, s.bc]) → b ≠ hb ∧ V.ownBlock ≠ some b
set_option maxRecDepth 100000 in
set_option maxHeartbeats 1000000 in
theorem meet_old {hb : Nat} (h : s.st w left fl x far came cl) (k : s.ok) (v : Nat) (hv : v < s.n) (d : Int) (y : Stp) (hf : far v ≠ -1 ∧ far v ≤ d) :
    Calls Try.prog 62 #[.pointer (some ⟨s.sb, 0, none⟩), .pointer (some ⟨hb, 0, none⟩), .int .i64 (v : Int), .int .i64 d, .agg #[.int .i64 y.1, .bool y.2]] w fun e w' => e = .returned (.tuple #[]) ∧ Below w.heap.size w w' := by
  have hn1 := k.g.n1
  obtain ⟨wA, hwA⟩ : ∃ wA, w.alloc (.cells #[.int .i64 y.1, .bool y.2] 108) = wA := ⟨_, rfl⟩
  have BA : Below w.heap.size w wA := by rw [← hwA]; exact (Below.refl _ _).alloc (Nat.le_refl _) _
  have S := h.later BA
  obtain ⟨-, -, -, -, -, -, d6, -, -⟩ := S.ro.cells
  have q1 := S.far.cell hv
  have HB := Lib.hid BA
  have i1 : (0 : Int) ≤ (v : Int) := by omega
  have i2 : (v : Int) < (s.n : Int) := by omega
  have hne : (far v == -1) = false := by simp; exact hf.1
  have hlt : decide (d < far v) = false := by simp; omega
  clear S BA h k
  go_enter Try.func62, Try.ntmps62
  go_wp2_with fail
  go_end0
  exact ⟨rfl, HB.out⟩
set_option maxRecDepth 100000 in
set_option maxHeartbeats 2000000 in
theorem meet_new {hb : Nat} {V : Value} {t : Int} {base : Nat} {l : List ((Int × Int) × Int)} (h : s.st w left fl x far came cl) (k : s.ok) (H : HRch.Rep w hb (.func (.func 73) #[] #[]) V t base l) (ha : Apart s hb V) (hl : l.length ≤ 1000000000) (ht0 : 0 ≤ t) (ht : t ≤ 1000000000) (hbase : base ≤ w.heap.size)
    (v : Nat) (hv : v < s.n) (d : Int) (y : Stp) (hf : far v = -1 ∨ d < far v) :
    Calls Try.prog 62 #[.pointer (some ⟨s.sb, 0, none⟩), .pointer (some ⟨hb, 0, none⟩), .int .i64 (v : Int), .int .i64 d, .agg #[.int .i64 y.1, .bool y.2]] w fun e w' => e = .returned (.tuple #[]) ∧ s.st w' left fl x (upd far v d) (upd came v y) cl ∧
      (∃ V', (V'.ownBlock = V.ownBlock ∨ ∃ k, V'.ownBlock = some k ∧ w.heap.size ≤ k) ∧ HRch.Rep w' hb (.func (.func 73) #[] #[]) V' (t + 1) base (pushL ltR l ((v : Int), d) (t + 1))) ∧ Chg (fun b => b = s.br ∨ b = s.bm ∨ b = hb ∨ V.ownBlock = some b) w w' := by
  have hn1 := k.g.n1
  obtain ⟨wA, hwA⟩ : ∃ wA, w.alloc (.cells #[.int .i64 y.1, .bool y.2] 108) = wA := ⟨_, rfl⟩
  have BA : Below w.heap.size w wA := by rw [← hwA]; exact (Below.refl _ _).alloc (Nat.le_refl _) _
  have g0 : wA.cell? ⟨w.heap.size, 0, none⟩ = some (.int .i64 y.1) := by rw [← hwA]; exact (Cl.new rfl).cell
  have g1 : wA.cell? ⟨w.heap.size, 1, none⟩ = some (.bool y.2) := by rw [← hwA]; exact (Cl.new rfl).cell
  have S := h.later BA
  obtain ⟨-, -, -, -, -, -, d6, d7, -⟩ := S.ro.cells
  have q1 := S.far.cell hv
  have HB := Lib.hid BA
  have HS := Lib.hid S
  have HK := Lib.hid k
  have HA := Lib.hid ha
  have HH := Lib.hid (H.later BA)
  have hwA2 := BA.size
  have i1 : (0 : Int) ≤ (v : Int) := by omega
  have i2 : (v : Int) < (s.n : Int) := by omega
  have hap := HK.out.ap
  simp only [List.nodup_cons, List.mem_cons, List.not_mem_nil, or_false, not_or] at hap
  have HAP := Lib.hid hap
  have HLT := Lib.hid h.lt
  clear S BA h k ha H hap
  go_enter Try.func62, Try.ntmps62
  by_cases hne0 : far v = -1
  rotate_left
  have hne : (far v == -1) = false := by simp; exact hne0
  have hlt : decide (d < far v) = true := by rcases hf with h | h; exact absurd h hne0; simp; exact h
  clear hne0 hf
  go_upto_region 2 with fail
  rotate_left
  have hne : (far v == -1) = true := by simp; exact hne0
  clear hne0 hf
  go_upto_region 2 with fail
  all_goals
    have hsb : s.sb ≠ s.br ∧ w.heap.size ≠ s.br ∧ s.sb ≠ s.bm ∧ w.heap.size ≠ s.bm := by
      have := HLT.out s.br (.inr (by simp))
      have := HLT.out s.bm (.inr (by simp))
      exact ⟨fun e => HK.out.rd _ HS.out.ro.rs (by rw [e]; simp), by omega, fun e => HK.out.rd _ HS.out.ro.rs (by rw [e]; simp), by omega⟩
    refine wp_region_heads [0, 1, 2, 3, 4, 5, 6, 7, 8, 9, 10, 11, 12] (fun w' => w'.cell? ⟨s.sb, 6, none⟩ = some (.slice (some ⟨s.br, 0, none⟩) s.n s.n) ∧ w'.cell? ⟨s.sb, 7, none⟩ = some (.slice (some ⟨s.bm, 0, none⟩) s.n s.n) ∧ w'.cell? ⟨w.heap.size, 0, none⟩ = some (.int .i64 y.1) ∧ w'.cell? ⟨w.heap.size, 1, none⟩ = some (.bool y.2)) (by kernel_rfl) (by kernel_rfl) ⟨d6, d7, g0, g1⟩ ?_
    iterate 13 (refine wpHi_cons (v := ?_) rfl (by rfl) (fun wS hwS => ?_) ?_; rotate_left 1; focus ((try dsimp only at hwS); go_simp; try with_reducible rfl); (try simp only [Act.put, List.setIfInBounds_toArray, List.set_cons_zero, List.set_cons_succ]))
    refine wpHi_nil ?_
    change wpAnyH _ _ _ _ _ 3 _ _ _
    refine wpAnyH_ready (rs := [13]) (by kernel_rfl) (by simp) (AllReadyH.cons rfl (fun K hK => ?_) AllReadyH.nil)
    have f1 := HS.out.far.frozen v
    go_simp
    have c1 := chg_set wA.drew ⟨s.br, v, none⟩ (.int .i64 d)
    have c1' : Chg (fun b => b = s.br) wA (wA.drew.setCell ⟨s.br, v, none⟩ (.int .i64 d)) := (chg_below (Below.refl _ _).drew (fun b => b = s.br)).trans c1 (fun b _ h => h)
    obtain ⟨n1, n2, n3, n4⟩ := hsb
    refine hK.out _ _ ⟨cell_chg c1' d6 n1, cell_chg c1' d7 n1, cell_chg c1' g0 n2, cell_chg c1' g1 n2⟩ (fun hHeld => ?_)
    clear hK K hHeld
    refine wpAnyH_ready (rs := [14]) (by kernel_rfl) (by simp) (AllReadyH.cons rfl (fun K hK => ?_) AllReadyH.nil)
    go_simp
    refine hK.out _ _ ⟨cell_chg c1' d6 n1, cell_chg c1' d7 n1, cell_chg c1' g0 n2, cell_chg c1' g1 n2⟩ (fun hHeld => ?_)
    clear hK K hHeld
    have RM := row_set_ne (p := ⟨s.br, v, none⟩) (v := .int .i64 d) HS.out.came (fun e => HAP.out.2.2.2.1.1 e.symm)
    obtain ⟨e1, e2⟩ := came_cells RM hv
    have e3 := RM.frozen (v * 2)
    have e4 := RM.frozen (v * 2 + 1)
    refine wpAnyH_ready (rs := [15]) (by kernel_rfl) (by simp) (AllReadyH.cons rfl (fun K hK => ?_) AllReadyH.nil)
    go_simp
    obtain ⟨w2, hw2⟩ : ∃ w2, (((wA.setCell ⟨s.br, v, none⟩ (.int .i64 d)).setCell ⟨s.bm, v * 2, none⟩ (.int .i64 y.1)).setCell ⟨s.bm, v * 2 + 1, none⟩ (.bool y.2)).drew = w2 := ⟨_, rfl⟩
    have c2 : Chg (fun b => b = s.br ∨ b = s.bm) wA w2 := by
      rw [← hw2]
      exact (((((Chg.refl (fun b => b = s.br ∨ b = s.bm) wA).setCell (p := ⟨s.br, v, none⟩) (fun _ => .inl rfl) (.int .i64 d)).setCell (p := ⟨s.bm, v * 2, none⟩) (fun _ => .inr rfl) (.int .i64 y.1)).setCell (p := ⟨s.bm, v * 2 + 1, none⟩) (fun _ => .inr rfl) (.bool y.2))).drew
    have hro : ∀ b, s.R b → ¬ (b = s.br ∨ b = s.bm) := fun b hb e => HK.out.rd b hb (by rcases e with e | e <;> rw [e] <;> simp)
    have S2 : s.st w2 left fl x (upd far v d) (upd came v y) cl := by
      obtain ⟨p1, p2, p3, p4, p5, -⟩ := HAP.out
      refine ⟨HS.out.ro.chg c2 hro, row_chg HS.out.left c2 (by rintro (e | e); exact p1.2.2.1 e; exact p1.2.2.2.1 e), row_chg HS.out.fl c2 (by rintro (e | e); exact p2.2.1 e; exact p2.2.2.1 e), row_chg HS.out.x c2 (by rintro (e | e); exact p3.1 e; exact p3.2.1 e), ?_, ?_, row_chg HS.out.cl c2 (by rintro (e | e); exact p4.2 e.symm; exact p5 e.symm)⟩
      · rw [← hw2]
        exact (row_set_ne (row_set_ne (row_upd (F := fun z => .int .i64 z) HS.out.far v d) p4.1) p4.1).of_block rfl
      · rw [← hw2]
        exact (row_updS RM v y).of_block rfl
    have hbn : hb ≠ s.br ∧ hb ≠ s.bm ∧ V.ownBlock ≠ some s.br ∧ V.ownBlock ≠ some s.bm := ⟨fun e => (HA.out s.br (.inr (by simp))).1 e.symm, fun e => (HA.out s.bm (.inr (by simp))).1 e.symm, (HA.out s.br (.inr (by simp))).2, (HA.out s.bm (.inr (by simp))).2⟩
    have H2 := HH.out.chg c2 (by rintro (e | e); exact hbn.1 e; exact hbn.2.1 e) (fun q hq e => by rcases e with e | e; exact hbn.2.2.1 (by rw [hq, e]); exact hbn.2.2.2 (by rw [hq, e]))
    have HS2 := Lib.hid S2
    have HH2 := Lib.hid H2
    have HC2 := Lib.hid ((chg_below HB.out (fun b => b = s.br ∨ b = s.bm)).trans c2 (fun b _ h => h))
    rw [hw2]
    refine hK.out _ _ ⟨cell_chg c2 d6 (hro _ HS.out.ro.rs), cell_chg c2 d7 (hro _ HS.out.ro.rs), cell_chg c2 g0 (by rintro (e | e); exact n2 e; exact n4 e), cell_chg c2 g1 (by rintro (e | e); exact n2 e; exact n4 e)⟩ (fun hHeld => ?_)
    clear hK K hHeld
    refine wpAnyH_done (by kernel_rfl) (NoPanic.normal ?_) _
    clear RM e1 e2 e3 e4 c1 c1' c2 S2 H2 f1 d6 d7 g0 g1 q1
    clear hw2
    go_wp2_with fail
    refine (HRch.push_any (x := ((v : Int), d)) lessR HH2.out hl ht0 ht (by have := HC2.out.size; omega)).mono ?_
    rintro e w3 ⟨rfl, ⟨V', hV', H3⟩, C3⟩
    have hch : Chg (fun b => b = s.br ∨ b = s.bm ∨ b = hb ∨ V.ownBlock = some b) w w3 := (HC2.out.mono (fun b _ h => by rcases h with h | h; exact .inl h; exact .inr (.inl h))).trans C3 (fun b _ h => .inr (.inr h))
    have S3 := HS2.out.chg C3 (fun b hb' e => by rcases e with e | e; exact (HA.out b hb').1 e; exact (HA.out b hb').2 e)
    have HF := Lib.hid (And.intro S3 (And.intro H3 hch))
    have HV := Lib.hid hV'
    clear S3 H3 hch C3 hV'
    go_wp2_with fail
    go_end0
    refine ⟨rfl, HF.out.1, ⟨V', HV.out.imp id (fun ⟨q, q1, q2⟩ => ⟨q, q1, by have := HC2.out.size; omega⟩), HF.out.2.1⟩, HF.out.2.2⟩
end
end Go.Proofs.Ytimffpnfhkobkaa
/- A search begins: from all nodes with something left. -/
namespace Go.Proofs.Ytimffpnfhkobkaa
open Go.RowKit
abbrev Item := (Int × Int) × Int
/-- The first k nodes are laid. -/
structure Bg (left : Nat → Int) (k : Nat) (far : Nat → Int) (came : Nat → Stp) (cl : Nat → Bool) (items : List Item) (t : Int) : Prop where
  p1 : ∀ v, v < k → 0 < left v → far v = 0 ∧ (came v).1 = -1
  p2 : ∀ v, v < k → ¬ 0 < left v → far v = -1
  p3 : ∀ v, v < k → cl v = false
  p4 : ∀ p ∈ items, ∃ v : Nat, v < k ∧ p.1 = ((v : Int), 0) ∧ 0 < left v
  p5 : ∀ v, v < k → 0 < left v → ∃ p ∈ items, p.1 = ((v : Int), 0)
  hp : Heapy ltR items
  tt : 0 ≤ t ∧ t ≤ k ∧ (items.length : Int) ≤ t
theorem Bg.nil (left far : Nat → Int) (came : Nat → Stp) (cl : Nat → Bool) : Bg left 0 far came cl [] 0 :=
  ⟨fun _ h => absurd h (by omega), fun _ h => absurd h (by omega), fun _ h => absurd h (by omega), by simp, fun _ h => absurd h (by omega), fun j _ hj => by simp at hj, by simp⟩
theorem totR : Tot ltR := by
  have f : ∀ {a b : Item}, ahd ltR a b = false ↔ (b.1.2 ≤ a.1.2 ∧ (a.1.2 ≤ b.1.2 → b.2 ≤ a.2)) := by
    intro a b
    unfold ahd ltR
    by_cases h1 : a.1.2 < b.1.2
    · simp [h1]; omega
    · by_cases h2 : b.1.2 < a.1.2
      · simp [h1, h2]; omega
      · simp [h1, h2]; omega
  have g : ∀ {a b : Item}, ahd ltR a b = true ↔ ¬ (b.1.2 ≤ a.1.2 ∧ (a.1.2 ≤ b.1.2 → b.2 ≤ a.2)) := by intro a b; rw [← f]; simp
  refine ⟨fun a b h => ?_, fun a b c h1 h2 => ?_⟩
  · rw [g] at h; rw [f]; omega
  · rw [f] at *; omega
theorem head_minR {a : Item} {r : List Item} (h : Heapy ltR (a :: r)) : ∀ p ∈ a :: r, a.1.2 ≤ p.1.2 := by
  intro p hp
  obtain ⟨j, hj, rfl⟩ := List.mem_iff_getElem.1 hp
  have := heapy_min totR h j hj
  rw [getElem!_pos (a :: r) j hj, getElem!_pos (a :: r) 0 (by simp)] at this
  unfold ahd ltR at this
  simp only [List.getElem_cons_zero] at this
  by_cases h1 : (a :: r)[j].1.2 < a.1.2
  · simp [h1] at this
  · omega
section
variable {left far : Nat → Int} {came : Nat → Stp} {cl : Nat → Bool} {items : List Item} {t : Int} {k : Nat}
theorem Bg.reset (h : Bg left k far came cl items t) (hl : ¬ 0 < left k) : Bg left (k + 1) (upd far k (-1)) came (upd cl k false) items t := by
  refine ⟨fun v hv hp => ?_, fun v hv hp => ?_, fun v hv => ?_, fun p hp => ?_, fun v hv hp => ?_, h.hp, ?_⟩
  · by_cases e : v = k
    · subst e; exact absurd hp hl
    · simp only [upd, if_neg e]; exact h.p1 v (by omega) hp
  · by_cases e : v = k
    · simp [upd, e]
    · simp only [upd, if_neg e]; exact h.p2 v (by omega) hp
  · by_cases e : v = k
    · simp [upd, e]
    · simp only [upd, if_neg e]; exact h.p3 v (by omega)
  · obtain ⟨v, h1, h2⟩ := h.p4 p hp; exact ⟨v, by omega, h2⟩
  · by_cases e : v = k
    · subst e; exact absurd hp hl
    · exact h.p5 v (by omega) hp
  · have := h.tt; omega
theorem Bg.meet (h : Bg left k far came cl items t) (hl : 0 < left k) : Bg left (k + 1) (upd (upd far k (-1)) k 0) (upd came k (-1, false)) (upd cl k false) (pushL ltR items ((k : Int), 0) (t + 1)) (t + 1) := by
  have hm : ∀ p, p ∈ pushL ltR items ((k : Int), 0) (t + 1) ↔ p ∈ items ∨ p = (((k : Int), 0), t + 1) := fun p => by
    rw [(push_perm items ((k : Int), (0 : Int)) (t + 1)).mem_iff, List.mem_append]; simp
  refine ⟨fun v hv hp => ?_, fun v hv hp => ?_, fun v hv => ?_, fun p hp => ?_, fun v hv hp => ?_, push_heapy totR h.hp _ _, ?_⟩
  · by_cases e : v = k
    · simp [upd, e]
    · simp only [upd, if_neg e]; exact h.p1 v (by omega) hp
  · by_cases e : v = k
    · subst e; exact absurd hl hp
    · simp only [upd, if_neg e]; exact h.p2 v (by omega) hp
  · by_cases e : v = k
    · simp [upd, e]
    · simp only [upd, if_neg e]; exact h.p3 v (by omega)
  · rcases (hm p).1 hp with hp | rfl
    · obtain ⟨v, h1, h2⟩ := h.p4 p hp; exact ⟨v, by omega, h2⟩
    · exact ⟨k, by omega, rfl, hl⟩
  · by_cases e : v = k
    · subst e; exact ⟨_, (hm _).2 (.inr rfl), rfl⟩
    · obtain ⟨p, h1, h2⟩ := h.p5 v (by omega) hp; exact ⟨p, (hm p).2 (.inl h1), h2⟩
  · have := h.tt
    have e := (push_perm (lt := ltR) items ((k : Int), (0 : Int)) (t + 1)).length_eq
    simp at e
    omega
end
section
variable {s : Sv} {w : World} {left fl x far : Nat → Int} {came : Nat → Stp} {cl : Nat → Bool}
abbrev LF : Value := .func (.func 73) #[] #[]
theorem apart_of {w0 w : World} {V : Value} {hb : Nat} {t : Int} {l : List Item} (h : s.st w0 left fl x far came cl) (H : HRch.Rep w hb LF V t w0.heap.size l) (hh : w0.heap.size ≤ hb) : Apart s hb V := fun b hb' => by
  have := h.lt b hb'
  exact ⟨by omega, fun e => by have := own_ge H.row e; omega⟩
set_option maxRecDepth 100000 in
set_option maxHeartbeats 4000000 in
theorem start_any (h : s.st w left fl x far came cl) (k : s.ok) :
    Calls Try.prog 60 #[.pointer (some ⟨s.sb, 0, none⟩)] w fun e w' => e = .returned (.pointer (some ⟨w.heap.size, 0, none⟩)) ∧ ∃ far' came' cl' V' t items, s.st w' left fl x far' came' cl' ∧ HRch.Rep w' w.heap.size LF V' t w.heap.size items ∧ Bg left s.n far' came' cl' items t ∧ Chg (fun b => b = s.br ∨ b = s.bm ∨ b = s.bc) w w' := by
  have hn1 := k.g.n1
  have HS := Lib.hid h
  have HK := Lib.hid k
  have hap := k.ap
  simp only [List.nodup_cons, List.mem_cons, List.not_mem_nil, or_false, not_or] at hap
  have HAP := Lib.hid hap
  have HLT := Lib.hid h.lt
  clear h k hap
  go_enter Try.func60, Try.ntmps60
  go_wp2_with fail
  refine (HRch.new_any 73 w).mono ?_
  rintro e w1 ⟨rfl, hw1⟩
  have H1 : HRch.Rep w1 w.heap.size LF (.slice none 0 0) 0 w.heap.size [] := by rw [hw1]; exact HRch.new_rep _ _ _
  have B1 : Below w.heap.size w w1 := by rw [hw1]; exact (Below.refl _ _).alloc (Nat.le_refl _) _
  have S1 := HS.out.later B1
  obtain ⟨-, -, -, d3, -, -, -, -, -⟩ := S1.ro.cells
  have HS1 := Lib.hid S1
  have HH1 := Lib.hid H1
  have HB1 := Lib.hid B1
  clear S1 H1 hw1 B1
  go_wp2_with fail
  clear d3
  go_loopw [11] (fun q wr => ∃ (k : Nat) (far' : Nat → Int) (came' : Nat → Stp) (cl' : Nat → Bool) (V : Value) (t : Int) (items : List Item), k ≤ s.n ∧ q = .int .i64 k ∧ s.st wr left fl x far' came' cl' ∧ HRch.Rep wr w.heap.size LF V t w.heap.size items ∧ Hid (Bg left k far' came' cl' items t) ∧ Chg (fun b => b = s.br ∨ b = s.bm ∨ b = s.bc) w wr) (fun q _ => s.n - (intOf q).toNat)
  case atStart => exact ⟨0, far, came, cl, _, 0, [], by omega, rfl, HS1.out, HH1.out, Lib.hid (Bg.nil _ _ _ _), chg_below HB1.out _⟩
  case round =>
    obtain ⟨k, far', came', cl', V, t, items, hk, rfl, S, H, hB, C⟩ := hrel
    obtain ⟨wo, rfl⟩ : ∃ x : World, x = wr := ⟨_, rfl⟩
    by_cases hkn : k < s.n
    · have hd : decide ((k : Int) < s.n) = true := by simp; omega
      obtain ⟨-, -, -, d3, -, -, d6, -, d8⟩ := S.ro.cells
      have q1 := S.far.cell hkn
      have f1 := S.far.frozen k
      have i1 : (0 : Int) ≤ (k : Int) := by omega
      have i2 : (k : Int) < (s.n : Int) := by omega
      have HSo := Lib.hid S
      have HHo := Lib.hid H
      have HCo := Lib.hid C
      clear S H C
      go_upto_region 5 with fail
      refine wp_region_heads [0, 1, 2, 3, 4, 5, 6, 7, 8, 9, 10] (fun w' => w'.cell? ⟨s.sb, 6, none⟩ = some (.slice (some ⟨s.br, 0, none⟩) s.n s.n) ∧ w'.cell? ⟨s.sb, 8, none⟩ = some (.slice (some ⟨s.bc, 0, none⟩) s.n s.n)) (by kernel_rfl) (by kernel_rfl) ⟨d6, d8⟩ ?_
      iterate 11 (refine wpHi_cons (v := ?_) rfl (by rfl) (fun wS hwS => ?_) ?_; rotate_left 1; focus ((try dsimp only at hwS); go_simp; try with_reducible rfl); (try simp only [Act.put, List.setIfInBounds_toArray, List.set_cons_zero, List.set_cons_succ]))
      refine wpHi_nil ?_
      change wpAnyH _ _ _ _ _ 3 _ _ _
      refine wpAnyH_ready (rs := [11]) (by kernel_rfl) (by simp) (AllReadyH.cons rfl (fun K hK => ?_) AllReadyH.nil)
      go_simp
      have c1 := chg_set wo ⟨s.br, k, none⟩ (.int .i64 (-1))
      have n1 : s.sb ≠ s.br := fun e => HK.out.rd _ HSo.out.ro.rs (by rw [e]; simp)
      have n2 : s.sb ≠ s.bc := fun e => HK.out.rd _ HSo.out.ro.rs (by rw [e]; simp)
      refine hK.out _ _ ⟨cell_chg c1 d6 n1, cell_chg c1 d8 n1⟩ (fun hHeld => ?_)
      clear hK K hHeld
      refine wpAnyH_ready (rs := [12]) (by kernel_rfl) (by simp) (AllReadyH.cons rfl (fun K hK => ?_) AllReadyH.nil)
      go_simp
      refine hK.out _ _ ⟨cell_chg c1 d6 n1, cell_chg c1 d8 n1⟩ (fun hHeld => ?_)
      clear hK K hHeld
      have RM := row_set_ne (p := ⟨s.br, k, none⟩) (v := .int .i64 (-1)) HSo.out.cl (fun e => HAP.out.2.2.2.1.2 e.symm)
      have e1 := RM.cell hkn
      have e3 := RM.frozen k
      refine wpAnyH_ready (rs := [13]) (by kernel_rfl) (by simp) (AllReadyH.cons rfl (fun K hK => ?_) AllReadyH.nil)
      go_simp
      obtain ⟨w2, hw2⟩ : ∃ w2, ((wo.setCell ⟨s.br, k, none⟩ (.int .i64 (-1))).setCell ⟨s.bc, k, none⟩ (.bool false)).drew = w2 := ⟨_, rfl⟩
      have c2 : Chg (fun b => b = s.br ∨ b = s.bc) wo w2 := by
        rw [← hw2]
        exact (((Chg.refl (fun b => b = s.br ∨ b = s.bc) wo).setCell (p := ⟨s.br, k, none⟩) (fun _ => .inl rfl) (.int .i64 (-1))).setCell (p := ⟨s.bc, k, none⟩) (fun _ => .inr rfl) (.bool false)).drew
      have hro : ∀ b, s.R b → ¬ (b = s.br ∨ b = s.bc) := fun b hb e => HK.out.rd b hb (by rcases e with e | e <;> rw [e] <;> simp)
      have S2 : s.st w2 left fl x (upd far' k (-1)) came' (upd cl' k false) := by
        obtain ⟨p1, p2, p3, p4, p5, -⟩ := HAP.out
        refine ⟨HSo.out.ro.chg c2 hro, row_chg HSo.out.left c2 (by rintro (e | e); exact p1.2.2.1 e; exact p1.2.2.2.2 e), row_chg HSo.out.fl c2 (by rintro (e | e); exact p2.2.1 e; exact p2.2.2.2 e), row_chg HSo.out.x c2 (by rintro (e | e); exact p3.1 e; exact p3.2.2 e), ?_, row_chg HSo.out.came c2 (by rintro (e | e); exact p4.1 e.symm; exact p5 e), ?_⟩
        · rw [← hw2]
          exact (row_set_ne (row_upd (F := fun z => .int .i64 z) HSo.out.far k (-1)) p4.2).of_block rfl
        · rw [← hw2]
          exact (row_updB RM k false).of_block rfl
      have hap2 := apart_of HS.out HHo.out (Nat.le_refl _)
      have H2 := HHo.out.chg c2 (by rintro (e | e); exact (hap2 s.br (.inr (by simp))).1 e.symm; exact (hap2 s.bc (.inr (by simp))).1 e.symm) (fun q hq e => by rcases e with e | e; exact (hap2 s.br (.inr (by simp))).2 (by rw [hq, e]); exact (hap2 s.bc (.inr (by simp))).2 (by rw [hq, e]))
      have HS2 := Lib.hid S2
      have HH2 := Lib.hid H2
      have HC2 := Lib.hid (HCo.out.trans c2 (fun b _ h => by rcases h with h | h; exact .inl h; exact .inr (.inr h)))
      have HA2 := Lib.hid hap2
      rw [hw2]
      refine hK.out _ _ ⟨cell_chg c2 d6 (hro _ HSo.out.ro.rs), cell_chg c2 d8 (hro _ HSo.out.ro.rs)⟩ (fun hHeld => ?_)
      clear hK K hHeld
      refine wpAnyH_done (by kernel_rfl) (NoPanic.normal ?_) _
      clear RM e1 e3 c1 c2 S2 H2 f1 d3 d6 d8 q1 hw2 hap2 n1 n2 hro
      obtain ⟨-, -, -, d3, -, -, -, -, -⟩ := HS2.out.ro.cells
      have q2 := HS2.out.left.cell hkn
      by_cases hl : 0 < left k
      · have hlt : decide (0 < left k) = true := by simp; exact hl
        go_wp2_with fail
        obtain ⟨t1, t2, t3⟩ := hB.out.tt
        refine (meet_new HS2.out HK.out HH2.out HA2.out (by omega) (by omega) (by omega) (by have := HC2.out.size; omega) k hkn 0 (-1, false) (.inl (by simp [upd]))).mono ?_
        rintro e w3 ⟨rfl, S3, ⟨V', -, H3⟩, C3⟩
        have HF := Lib.hid (And.intro S3 (And.intro H3 (HC2.out.trans C3 (fun b hb h => by
          rcases h with h | h | h | h
          · exact .inl h
          · exact .inr (.inl h)
          · exact absurd hb (by omega)
          · have := own_ge HH2.out.row h; exact absurd hb (by omega)))))
        have HBg := Lib.hid (hB.out.meet hl)
        clear S3 H3 C3
        go_wp2_with fail
        exact ⟨⟨k + 1, _, _, _, _, _, _, by omega, by go_num, HF.out.1, HF.out.2.1, HBg, HF.out.2.2⟩, by simp [intOf]; omega⟩
      · have hlt : decide (0 < left k) = false := by simp; omega
        go_wp2_with fail
        exact ⟨⟨k + 1, _, _, _, _, _, _, by omega, by go_num, HS2.out, HH2.out, Lib.hid (hB.out.reset hl), HC2.out⟩, by simp [intOf]; omega⟩
    · obtain rfl : k = s.n := by omega
      have hd : decide ((s.n : Int) < s.n) = false := by simp
      go_wp2_with fail
      go_ret
      exact ⟨rfl, far', came', cl', V, t, items, S, H, hB.out, C⟩
end
end Go.Proofs.Ytimffpnfhkobkaa
/- A search for the nearest node that lacks something. -/
namespace Go.Proofs.Ytimffpnfhkobkaa
open Go.RowKit
/-- No such node: what is closed is all that can be reached. -/
structure Fin (G : Gf) (left fl : Nat → Int) (cl : Nat → Bool) : Prop where
  o : ∀ i, i < G.m → cl (G.fr i) = true → cl (G.tt i) = true
  i : ∀ i, i < G.m → 0 < fl i → cl (G.tt i) = true → cl (G.fr i) = true
  p : ∀ v, v < G.n → 0 < left v → cl v = true
  n : ∀ v, v < G.n → cl v = true → 0 ≤ left v
theorem Srch.fin {G : Gf} {left fl x far : Nat → Int} {came : Nat → Stp} {cl : Nat → Bool} {ord : List Nat} {D : Int} (S : Srch G left fl x far came cl ord D [] (fun _ _ => True) (fun _ _ => True)) (hG : G.ok) (hn : ∀ v ∈ ord, 0 ≤ left v) : Fin G left fl cl := by
  have key : ∀ v, v < G.n → far v ≠ -1 → v ∈ ord := fun v hv hf => Classical.byContradiction (fun h => by
    obtain ⟨p, hp, _⟩ := S.met v hv hf h
    cases hp)
  refine ⟨fun i hi h => ?_, fun i hi hf h => ?_, fun v hv h => ?_, fun v hv h => hn v ((S.cli v hv).1 h)⟩
  · have b1 := hG.f i hi
    have b2 := hG.t i hi
    exact (S.cli _ b2).2 (key _ b2 (S.out _ ((S.cli _ b1).1 h) i hi rfl trivial).1)
  · have b1 := hG.f i hi
    have b2 := hG.t i hi
    exact (S.cli _ b1).2 (key _ b1 (S.inn _ ((S.cli _ b2).1 h) i hi rfl trivial hf).1)
  · exact (S.cli v hv).2 (key v hv (by have := S.st v hv h; omega))
theorem Srch.weak2 {G : Gf} {left fl x far : Nat → Int} {came : Nat → Stp} {cl : Nat → Bool} {ord : List Nat} {D : Int} {items : List Item} {DO DI DO' DI' : Nat → Nat → Prop} (S : Srch G left fl x far came cl ord D items DO DI) (h1 : ∀ i, i < G.m → G.fr i ∈ ord → DO' (G.fr i) i → DO (G.fr i) i) (h2 : ∀ i, i < G.m → G.tt i ∈ ord → DI' (G.tt i) i → DI (G.tt i) i) :
    Srch G left fl x far came cl ord D items DO' DI' :=
  { S with out := fun v hv i hi e hd => by subst e; exact S.out _ hv i hi rfl (h1 i hi hv hd), inn := fun v hv i hi e hd => by subst e; exact S.inn _ hv i hi rfl (h2 i hi hv hd) }
section
variable (s : Sv) (w0 : World) (left fl x : Nat → Int) (hb : Nat)
/-- While a node's arcs are gone through. -/
def MI (ord : List Nat) (u : Nat) (D : Int) (I0 T0 bx : Nat) (cl : Nat → Bool) (DO DI : Nat → Nat → Prop) (j : Nat) (wr : World) : Prop :=
  ∃ (far : Nat → Int) (came : Nat → Stp) (V : Value) (t : Int) (items : List Item), s.st wr left fl x far came cl ∧ HRch.Rep wr hb LF V t w0.heap.size items ∧ Heapy ltR items ∧ Srch s.G left fl x far came cl ord D items DO DI ∧ far u = D ∧ 0 ≤ t ∧ t ≤ T0 + j ∧ items.length ≤ I0 + j ∧ (items.length : Int) ≤ t ∧ Chg (fun b => b = s.br ∨ b = s.bm ∨ b = s.bc) w0 wr ∧ wr.heap[bx]? = some (.cells #[.int .i64 (u : Int), .int .i64 D] 102)
/-- At the head of the search's loop: what was popped last. -/
def SI (g : Nat) (node d : Int) (ok : Bool) (bx : Nat) (wr : World) : Prop :=
  ∃ (far : Nat → Int) (came : Nat → Stp) (cl : Nat → Bool) (V : Value) (t : Int) (items : List Item) (ord : List Nat) (D : Int), s.st wr left fl x far came cl ∧ HRch.Rep wr hb LF V t w0.heap.size items ∧ Heapy ltR items ∧ (∀ v ∈ ord, 0 ≤ left v) ∧
    0 ≤ t ∧ t ≤ s.n + 2 * s.L.length * ord.length ∧ (items.length : Int) ≤ t ∧ Chg (fun b => b = s.br ∨ b = s.bm ∨ b = s.bc) w0 wr ∧ wr.heap[bx]? = some (.cells #[.int .i64 node, .int .i64 d] 102) ∧ w0.heap.size ≤ bx ∧
    (s.n - ord.length) * (2 * s.L.length + 1) + items.length + (if ok = true then 1 else 0) ≤ g ∧
    (if ok = true then ∃ (a : Item) (r : List Item), a.1 = (node, d) ∧ items.Perm r ∧ (∀ p ∈ a :: r, d ≤ p.1.2) ∧ Srch s.G left fl x far came cl ord D (a :: r) (fun _ _ => True) (fun _ _ => True) else Srch s.G left fl x far came cl ord D [] (fun _ _ => True) (fun _ _ => True))
end
section
variable {s : Sv} {w0 : World} {left fl x : Nat → Int} {hb : Nat}
/-- The next one is popped. -/
theorem SI.pop {far : Nat → Int} {came : Nat → Stp} {cl : Nat → Bool} {V' : Value} {t : Int} {a : Item} {r : List Item} {ord : List Nat} {D : Int} {w1 : World} {bx g : Nat}
    (st : s.st w1 left fl x far came cl) (H : HRch.Rep w1 hb LF V' t w0.heap.size (popL ltR (a :: r))) (hp : Heapy ltR (a :: r)) (nn : ∀ v ∈ ord, 0 ≤ left v) (t0 : 0 ≤ t) (t1 : t ≤ s.n + 2 * s.L.length * ord.length) (t2 : ((a :: r).length : Int) ≤ t)
    (C : Chg (fun b => b = s.br ∨ b = s.bm ∨ b = s.bc) w0 w1) (hbx : w1.heap[bx]? = some (.cells #[.int .i64 a.1.1, .int .i64 a.1.2] 102)) (hb0 : w0.heap.size ≤ bx) (hg : (s.n - ord.length) * (2 * s.L.length + 1) + (a :: r).length ≤ g)
    (S : Srch s.G left fl x far came cl ord D (a :: r) (fun _ _ => True) (fun _ _ => True)) : SI s w0 left fl x hb g a.1.1 a.1.2 true bx w1 := by
  have pl := pop_perm (lt := ltR) a r
  have hl := pl.length_eq
  refine ⟨far, came, cl, V', t, popL ltR (a :: r), ord, D, st, H, pop_heapy totR hp, nn, t0, t1, ?_, C, hbx, hb0, ?_, ?_⟩
  · rw [hl]; simp only [List.length_cons] at t2; omega
  · rw [hl]; simp only [List.length_cons] at hg; simp only [if_true]; omega
  · rw [if_pos rfl]
    exact ⟨a, r, rfl, pl, head_minR hp, S⟩
theorem SI.stop {far : Nat → Int} {came : Nat → Stp} {cl : Nat → Bool} {V : Value} {t : Int} {ord : List Nat} {D node d : Int} {w1 : World} {bx g : Nat}
    (st : s.st w1 left fl x far came cl) (H : HRch.Rep w1 hb LF V t w0.heap.size []) (nn : ∀ v ∈ ord, 0 ≤ left v) (t0 : 0 ≤ t) (t1 : t ≤ s.n + 2 * s.L.length * ord.length)
    (C : Chg (fun b => b = s.br ∨ b = s.bm ∨ b = s.bc) w0 w1) (hbx : w1.heap[bx]? = some (.cells #[.int .i64 node, .int .i64 d] 102)) (hb0 : w0.heap.size ≤ bx) (hg : (s.n - ord.length) * (2 * s.L.length + 1) ≤ g)
    (S : Srch s.G left fl x far came cl ord D [] (fun _ _ => True) (fun _ _ => True)) : SI s w0 left fl x hb g node d false bx w1 :=
  ⟨far, came, cl, V, t, [], ord, D, st, H, fun j _ hj => by simp at hj, nn, t0, t1, by simpa using t0, C, hbx, hb0, by simpa using hg, by simpa using S⟩
/-- One arc more of the node that was closed last. -/
structure MB (s : Sv) (left fl x : Nat → Int) (ord : List Nat) (v : Nat) (D : Int) (I0 T0 : Nat) (cl : Nat → Bool) (DO DI DO' DI' : Nat → Nat → Prop) (j : Nat) (far : Nat → Int) (came : Nat → Stp) (t : Int) (items : List Item) (y : Stp) (i q : Nat) (d : Int) : Prop where
  hp : Heapy ltR items
  S : Srch s.G left fl x far came cl ord D items DO DI
  fu : far v = D
  t0 : 0 ≤ t
  t1 : t ≤ T0 + j
  t2 : items.length ≤ I0 + j
  t3 : (items.length : Int) ≤ t
  k : s.ok
  P : Pot s.G fl x
  vo : v ∈ ord
  la : ord.idxOf v + 1 = ord.length
  hi : i < s.L.length
  hs : y.1 = i
  hq : hdv s.G y = q
  hv : prv s.G y = v
  hb : y.2 = true → 0 < fl i
  hd : d = D + cst s.G x y
  sw : ∀ (far : Nat → Int) (came : Nat → Stp) (items : List Item), Srch s.G left fl x far came cl ord D items DO DI → far v = D → far q ≠ -1 → far q ≤ d → Srch s.G left fl x far came cl ord D items DO' DI'
theorem MI.new {ord : List Nat} {v : Nat} {D : Int} {I0 T0 bx : Nat} {cl : Nat → Bool} {DO DI DO' DI' : Nat → Nat → Prop} {j : Nat} {far : Nat → Int} {came : Nat → Stp} {t : Int} {items : List Item} {y : Stp} {i q : Nat} {d : Int} {w5 : World} {V5 : Value}
    (M : MB s left fl x ord v D I0 T0 cl DO DI DO' DI' j far came t items y i q d) (hnew : far q = -1 ∨ d < far q)
    (h : s.st w5 left fl x (upd far q d) (upd came q y) cl ∧ HRch.Rep w5 hb LF V5 (t + 1) w0.heap.size (pushL ltR items ((q : Int), d) (t + 1)) ∧ w5.heap[bx]? = some (.cells #[.int .i64 (v : Int), .int .i64 D] 102)) (C : Chg (fun b => b = s.br ∨ b = s.bm ∨ b = s.bc) w0 w5) :
    MI s w0 left fl x hb ord v D I0 T0 bx cl DO' DI' (j + 1) w5 := by
  have pp := push_perm (lt := ltR) items ((q : Int), d) (t + 1)
  have pl := pp.length_eq
  simp at pl
  obtain ⟨S1, e1, hDd, hqo⟩ := M.S.meet M.k.g.g M.P M.hi M.hs M.hq M.hv M.vo M.fu M.la M.hb (by rw [M.fu]; exact M.hd) hnew pp
  have hvq : v ≠ q := fun e => hqo (by rw [← e]; exact M.vo)
  have fv : upd far q d v = D := by simp [upd, hvq]; exact M.fu
  have d0 := M.S.d0
  have t1 := M.t1
  have t2 := M.t2
  have t3 := M.t3
  have t0 := M.t0
  refine ⟨_, _, V5, t + 1, _, h.1, h.2.1, push_heapy totR M.hp _ _, M.sw _ _ _ S1 fv (by rw [e1]; omega) (by rw [e1]; exact Int.le_refl _), fv, by omega, by omega, by omega, by omega, C, h.2.2⟩
theorem MI.old {ord : List Nat} {v : Nat} {D : Int} {I0 T0 bx : Nat} {cl : Nat → Bool} {DO DI DO' DI' : Nat → Nat → Prop} {j : Nat} {far : Nat → Int} {came : Nat → Stp} {V : Value} {t : Int} {items : List Item} {y : Stp} {i q : Nat} {d : Int} {wo w5 : World}
    (M : MB s left fl x ord v D I0 T0 cl DO DI DO' DI' j far came t items y i q d) (hold : far q ≠ -1 ∧ far q ≤ d) (st : s.st wo left fl x far came cl) (H : HRch.Rep wo hb LF V t w0.heap.size items) (C : Chg (fun b => b = s.br ∨ b = s.bm ∨ b = s.bc) w0 wo)
    (hbx : wo.heap[bx]? = some (.cells #[.int .i64 (v : Int), .int .i64 D] 102)) (B : Below wo.heap.size wo w5) :
    MI s w0 left fl x hb ord v D I0 T0 bx cl DO' DI' (j + 1) w5 := by
  have t1 := M.t1
  have t2 := M.t2
  refine ⟨far, came, V, t, items, st.later B, H.later B, M.hp, M.sw _ _ _ M.S M.fu hold.1 hold.2, M.fu, M.t0, by omega, by omega, M.t3, C.trans (chg_below B (fun b => b = s.br ∨ b = s.bm ∨ b = s.bc)) (fun b _ h => h), block_later B hbx⟩
/-- An arc along which nothing flows: it does not lead back. -/
theorem MI.skip {ord : List Nat} {v : Nat} {D : Int} {I0 T0 bx : Nat} {cl : Nat → Bool} {DO DI DO' DI' : Nat → Nat → Prop} {j : Nat} {wo w5 : World} (M : MI s w0 left fl x hb ord v D I0 T0 bx cl DO DI j wo) (B : Below wo.heap.size wo w5)
    (hS : ∀ (far : Nat → Int) (came : Nat → Stp) (items : List Item), Srch s.G left fl x far came cl ord D items DO DI → Srch s.G left fl x far came cl ord D items DO' DI') : MI s w0 left fl x hb ord v D I0 T0 bx cl DO' DI' (j + 1) w5 := by
  obtain ⟨far, came, V, t, items, st, H, hp, S, fu, t0, t1, t2, t3, C, hbx⟩ := M
  exact ⟨far, came, V, t, items, st.later B, H.later B, hp, hS _ _ _ S, fu, t0, by omega, by omega, t3, C.trans (chg_below B (fun b => b = s.br ∨ b = s.bm ∨ b = s.bc)) (fun b _ h => h), block_later B hbx⟩
/-- The box of what was popped is stored into. -/
theorem carry {far : Nat → Int} {came : Nat → Stp} {cl : Nat → Bool} {V : Value} {t : Int} {items : List Item} {w1 : World} {nb : Nat} {y0 y1 c0 c1 : Value} (st : s.st w1 left fl x far came cl) (H : HRch.Rep w1 hb LF V t w0.heap.size items) (C : Chg (fun b => b = s.br ∨ b = s.bm ∨ b = s.bc) w0 w1)
    (hl : ∀ b, (s.R b ∨ b ∈ [s.bl, s.bf, s.bx, s.br, s.bm, s.bc]) → b < w0.heap.size) (hbx : w1.heap[nb]? = some (.cells #[y0, y1] 102)) (hn : w0.heap.size ≤ nb) (hh : nb ≠ hb) (hV : V.ownBlock ≠ some nb) :
    s.st ((w1.setCell ⟨nb, 0, none⟩ c0).setCell ⟨nb, 1, none⟩ c1) left fl x far came cl ∧ HRch.Rep ((w1.setCell ⟨nb, 0, none⟩ c0).setCell ⟨nb, 1, none⟩ c1) hb LF V t w0.heap.size items ∧ Chg (fun b => b = s.br ∨ b = s.bm ∨ b = s.bc) w0 ((w1.setCell ⟨nb, 0, none⟩ c0).setCell ⟨nb, 1, none⟩ c1) ∧
      ((w1.setCell ⟨nb, 0, none⟩ c0).setCell ⟨nb, 1, none⟩ c1).heap[nb]? = some (.cells #[c0, c1] 102) := by
  have c : Chg (fun b => b = nb) w1 ((w1.setCell ⟨nb, 0, none⟩ c0).setCell ⟨nb, 1, none⟩ c1) := (chg_set w1 ⟨nb, 0, none⟩ c0).trans (chg_set _ ⟨nb, 1, none⟩ c1) (fun b _ h => h)
  refine ⟨st.chg c (fun b hb' e => by have := hl b hb'; omega), H.chg c (fun e => hh e.symm) (fun q hq e => hV (by rw [hq, e])), C.trans (c.mono (S' := fun b => b = nb) (fun _ _ h => h)) (fun b hb' h => absurd hb' (by omega)), ?_⟩
  have h1 : (w1.setCell ⟨nb, 0, none⟩ c0).heap[nb]? = some (.cells #[c0, y1] 102) := heap_setCell_same w1 nb 0 _ _ _ hbx
  exact heap_setCell_same _ nb 1 _ _ _ h1
end
end Go.Proofs.Ytimffpnfhkobkaa
