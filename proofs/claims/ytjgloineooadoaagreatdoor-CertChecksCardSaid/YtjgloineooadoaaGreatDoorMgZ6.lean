/- The order of a graph's nodes, whole; a graph checked. -/
import Derived.Test.YtjgloineooadoaaGreatDoorMgZ5
import Derived.Test.YtjgloineooadoaaGreatDoorMgZ4
import Derived.Deep.QuietTactic
import Derived.BigQuiet
import Derived.StillTailTactics
import Derived.Deep.DeepCutAuto
import Derived.Test.YtjgloineooadoaaGreatDoorMgZ0
import Derived.Deep.RegionHeld3
import Derived.StillTactics
import Derived.Test.YtjgloineooadoaaGreatDoorMgZ3
import Derived.BigRegion
import Derived.Deep.RegionWith
import Derived.Deep.RegionLaw
namespace Go.Proofs.YtjgloineooadoaaGreatDoor
open Go.RowKit
/-- What Order tells: the error, and the nodes. -/
def ordE (n : Int) (L : List Arc) : Int := if rightB n L = true then (if (ordL (gOf L) n.toNat).length < n.toNat then 11 else 0) else 2
def ordR (n : Int) (L : List Arc) : List Nat := if ordE n L = 0 then ordL (gOf L) n.toNat else []
theorem ordE_range (n : Int) (L : List Arc) : ordE n L = 0 ∨ ordE n L = 2 ∨ ordE n L = 11 := by
  unfold ordE
  split
  · split
    · exact .inr (.inr rfl)
    · exact .inl rfl
  · exact .inr (.inl rfl)
def OrdW (w : World) (n : Int) (L : List Arc) (e : Ending) (w' : World) : Prop :=
  ∃ V, e = .returned (.tuple #[V, .int .i64 (ordE n L)]) ∧ Below w.heap.size w w' ∧ w'.ownsRow w.heap.size 3 1 V (ordR n L).length (flat encN (ordR n L))
set_option maxRecDepth 100000 in
set_option maxHeartbeats 1000000 in
theorem order_any {w : World} {V : Value} {L : List Arc} (n : Int) (h : Arcs w V L) :
    Calls Tryz.prog 34 #[.int .i64 n, V] w fun e w' => OrdW w n L e w' := by
  by_cases hr : rightB n L = true
  · refine (order_right n h hr).mono ?_
    rintro e w' ⟨V', er, rfl, B, h⟩
    rcases h with ⟨h1, h2, h3⟩ | ⟨h1, h2, h3⟩
    · subst h2 h3
      have e1 : ordE n L = 11 := by unfold ordE; rw [if_pos hr, if_pos h1]
      have e2 : ordR n L = [] := by unfold ordR; rw [e1]; rfl
      exact ⟨_, by rw [e1], B, by rw [e2]; exact World.ownsRow_nil _ _ _ _⟩
    · subst h3
      have e1 : ordE n L = 0 := by unfold ordE; rw [if_pos hr, if_neg (by omega)]
      have e2 : ordR n L = ordL (gOf L) n.toNat := by unfold ordR; rw [if_pos e1]
      exact ⟨_, by rw [e1], B, by rw [e2]; exact h2⟩
  · have e1 : ordE n L = 2 := by unfold ordE; rw [if_neg hr]
    have e2 : ordR n L = [] := by unfold ordR; rw [e1]; rfl
    have hrf : rightB n L = false := by simpa using hr
    have HR := Lib.hid hrf
    have HE1 := Lib.hid e1
    have HE2 := Lib.hid e2
    have HH := Lib.hid h
    clear h hr hrf e1 e2
    go_enter Tryz.func34, Tryz.ntmps34
    go_wp2_with fail
    refine (right_any _ HH.out).mono ?_
    rw [HR.out]
    rintro e w1 ⟨rfl, B1⟩
    have HB := Lib.hid B1
    clear B1
    go_wp2_with fail
    refine bodyPost_ret (v := .tuple #[.slice none 0 0, .int .i64 2]) (by simp [results, Tryz.results34, go_sem]) rfl ?_
    exact ⟨_, by rw [HE1.out], HB.out, by rw [HE2.out]; exact World.ownsRow_nil _ _ _ _⟩
set_option maxHeartbeats 1000000 in
theorem check_any {w : World} {V : Value} {L : List Arc} (n : Int) (h : Arcs w V L) :
    Calls Tryz.prog 35 #[.int .i64 n, V] w fun e w' => e = .returned (.int .i64 (ordE n L)) ∧ Below w.heap.size w w' := by
  have HH := Lib.hid h
  clear h
  go_enter Tryz.func35, Tryz.ntmps35
  go_wp2_with fail
  refine (order_any _ HH.out).mono ?_
  rintro e w1 ⟨V', rfl, B1, -⟩
  have HB := Lib.hid B1
  clear B1
  go_wp2_with fail
  go_ret
  exact ⟨rfl, HB.out⟩
end Go.Proofs.YtjgloineooadoaaGreatDoor
/- A solver in memory: what is only read, what is written. -/
namespace Go.Proofs.YtjgloineooadoaaGreatDoor
open Go.RowKit
/-- Where a solver lies: its struct, its rows; which blocks are only read. -/
structure Sv where
  n : Nat
  L : List Arc
  outs : Nat → List Nat
  ins : Nat → List Nat
  sb : Nat
  bl : Nat
  bf : Nat
  bx : Nat
  br : Nat
  bm : Nat
  bc : Nat
  AA : Option Addr
  cA : Nat
  bo : Nat
  bi : Nat
  R : Nat → Prop
def frL (L : List Arc) (i : Nat) : Nat := (L[i]?.getD (0, 0, 0)).1.toNat
def ttL (L : List Arc) (i : Nat) : Nat := (L[i]?.getD (0, 0, 0)).2.1.toNat
def wtL (L : List Arc) (i : Nat) : Int := (L[i]?.getD (0, 0, 0)).2.2
def gfL (n : Nat) (L : List Arc) : Gf := ⟨n, L.length, frL L, ttL L⟩
abbrev Sv.G (s : Sv) : Gf := gfL s.n s.L
/-- A graph that may be. -/
structure Okg (n : Nat) (L : List Arc) : Prop where
  n0 : 1 ≤ n
  n1 : n ≤ 4096
  m1 : L.length ≤ 16384
  arc : ∀ (i : Nat) (a : Arc), L[i]? = some a → ∃ f t x : Nat, a = ((f : Int), (t : Int), (x : Int)) ∧ f < n ∧ t < n ∧ x ≤ 1000000
theorem Okg.at_ {n : Nat} {L : List Arc} (h : Okg n L) {i : Nat} (hi : i < L.length) : L[i]? = some ((frL L i : Int), (ttL L i : Int), wtL L i) ∧ frL L i < n ∧ ttL L i < n ∧ 0 ≤ wtL L i ∧ wtL L i ≤ 1000000 := by
  have e : L[i]? = some L[i] := List.getElem?_eq_getElem hi
  obtain ⟨f, t, x, h1, h2, h3, h4⟩ := h.arc i _ e
  have e1 : frL L i = f := by unfold frL; rw [e, h1]; simp
  have e2 : ttL L i = t := by unfold ttL; rw [e, h1]; simp
  have e3 : wtL L i = x := by unfold wtL; rw [e, h1]; simp
  rw [e1, e2, e3, e, h1]
  exact ⟨rfl, h2, h3, by omega, by omega⟩
theorem Okg.g {n : Nat} {L : List Arc} (h : Okg n L) : (gfL n L).ok := ⟨fun _ hi => (h.at_ hi).2.1, fun _ hi => (h.at_ hi).2.2.1⟩
/-- Rows of arcs' numbers, one a node. -/
def RowsA (w : World) (R : Nat → Prop) (b n : Nat) (N : Nat → List Nat) : Prop :=
  ∀ v, v < n → ∃ A c, w.cell? ⟨b, v, none⟩ = some (.slice A (N v).length c) ∧ (0 < (N v).length → ∃ g off, A = some ⟨g, off, none⟩ ∧ R g ∧ ∀ j i, (N v)[j]? = some i → w.cell? ⟨g, off + j, none⟩ = some (.int .i64 (i : Nat)))
structure Sv.ro (s : Sv) (w : World) : Prop where
  lt : ∀ b, s.R b → b < w.heap.size
  rs : s.R s.sb
  ro : s.R s.bo
  ri : s.R s.bi
  top : w.heap[s.sb]? = some (.cells #[.slice s.AA s.L.length s.cA, .slice (some ⟨s.bo, 0, none⟩) s.n s.n, .slice (some ⟨s.bi, 0, none⟩) s.n s.n, .slice (some ⟨s.bl, 0, none⟩) s.n s.n, .slice (some ⟨s.bf, 0, none⟩) s.L.length s.L.length, .slice (some ⟨s.bx, 0, none⟩) s.n s.n, .slice (some ⟨s.br, 0, none⟩) s.n s.n, .slice (some ⟨s.bm, 0, none⟩) s.n s.n, .slice (some ⟨s.bc, 0, none⟩) s.n s.n] 65)
  arcs : 0 < s.L.length → ∃ b off, s.AA = some ⟨b, off, none⟩ ∧ s.R b ∧ ∀ i a, s.L[i]? = some a → w.cell? ⟨b, off + i * 3, none⟩ = some (.int .i64 a.1) ∧ w.cell? ⟨b, off + i * 3 + 1, none⟩ = some (.int .i64 a.2.1) ∧ w.cell? ⟨b, off + i * 3 + 2, none⟩ = some (.int .i64 a.2.2)
  out : RowsA w s.R s.bo s.n s.outs
  inn : RowsA w s.R s.bi s.n s.ins
/-- What never changes: apart from one another, and the rows tell the arcs. -/
structure Sv.ok (s : Sv) : Prop where
  g : Okg s.n s.L
  ap : [s.bl, s.bf, s.bx, s.br, s.bm, s.bc].Nodup
  rd : ∀ b, s.R b → b ∉ [s.bl, s.bf, s.bx, s.br, s.bm, s.bc]
  o1 : ∀ v, v < s.n → ∀ i ∈ s.outs v, i < s.L.length ∧ frL s.L i = v
  o2 : ∀ i, i < s.L.length → i ∈ s.outs (frL s.L i)
  o3 : ∀ v, v < s.n → (s.outs v).length ≤ s.L.length
  i1 : ∀ v, v < s.n → ∀ i ∈ s.ins v, i < s.L.length ∧ ttL s.L i = v
  i2 : ∀ i, i < s.L.length → i ∈ s.ins (ttL s.L i)
  i3 : ∀ v, v < s.n → (s.ins v).length ≤ s.L.length
def cameV (came : Nat → Stp) (j : Nat) : Value := if j % 2 = 0 then .int .i64 (came (j / 2)).1 else .bool (came (j / 2)).2
structure Sv.st (s : Sv) (w : World) (left fl x far : Nat → Int) (came : Nat → Stp) (cl : Nat → Bool) : Prop where
  ro : s.ro w
  left : w.rowIs s.bl 3 s.n (fun v => .int .i64 (left v))
  fl : w.rowIs s.bf 3 s.L.length (fun v => .int .i64 (fl v))
  x : w.rowIs s.bx 3 s.n (fun v => .int .i64 (x v))
  far : w.rowIs s.br 3 s.n (fun v => .int .i64 (far v))
  came : w.rowIs s.bm 91 (s.n * 2) (cameV came)
  cl : w.rowIs s.bc 4 s.n (fun v => .bool (cl v))
theorem cell_chg {w w' : World} {S : Nat → Prop} (c : Chg S w w') {a : Addr} {v : Value} (h : w.cell? a = some v) (hs : ¬ S a.block) : w'.cell? a = some v :=
  (World.cell?_of_block (c.block a.block (World.block_lt_of_cell? _ _ h) hs)).trans h
theorem RowsA.chg {w w' : World} {R : Nat → Prop} {b n : Nat} {N : Nat → List Nat} {S : Nat → Prop} (h : RowsA w R b n N) (c : Chg S w w') (hd : ∀ b, R b → ¬ S b) (hb : R b) : RowsA w' R b n N := by
  intro v hv
  obtain ⟨A, cp, h1, h2⟩ := h v hv
  refine ⟨A, cp, cell_chg c h1 (hd b hb), fun hl => ?_⟩
  obtain ⟨g, off, e, hg, hc⟩ := h2 hl
  exact ⟨g, off, e, hg, fun j i hj => cell_chg c (hc j i hj) (hd g hg)⟩
theorem Sv.ro.chg {s : Sv} {w w' : World} {S : Nat → Prop} (h : s.ro w) (c : Chg S w w') (hd : ∀ b, s.R b → ¬ S b) : s.ro w' := by
  refine ⟨fun b hb => Nat.lt_of_lt_of_le (h.lt b hb) c.size, h.rs, h.ro, h.ri, ?_, fun hl => ?_, h.out.chg c hd h.ro, h.inn.chg c hd h.ri⟩
  · rw [c.block _ (h.lt _ h.rs) (hd _ h.rs)]; exact h.top
  · obtain ⟨b, off, e, hb, hc⟩ := h.arcs hl
    exact ⟨b, off, e, hb, fun i a hi => ⟨cell_chg c (hc i a hi).1 (hd b hb), cell_chg c (hc i a hi).2.1 (hd b hb), cell_chg c (hc i a hi).2.2 (hd b hb)⟩⟩
theorem row_chg {w w' : World} {b t n : Nat} {f : Nat → Value} {S : Nat → Prop} (h : w.rowIs b t n f) (c : Chg S w w') (hb : ¬ S b) : w'.rowIs b t n f := h.of_block (c.block _ h.lt hb)
section
variable {s : Sv} {w w' : World} {left fl x far : Nat → Int} {came : Nat → Stp} {cl : Nat → Bool}
/-- A call that writes none of it. -/
theorem Sv.st.chg {S : Nat → Prop} (h : s.st w left fl x far came cl) (c : Chg S w w') (hd : ∀ b, (s.R b ∨ b ∈ [s.bl, s.bf, s.bx, s.br, s.bm, s.bc]) → ¬ S b) : s.st w' left fl x far came cl :=
  ⟨h.ro.chg c (fun b hb => hd b (.inl hb)), row_chg h.left c (hd _ (by simp)), row_chg h.fl c (hd _ (by simp)), row_chg h.x c (hd _ (by simp)), row_chg h.far c (hd _ (by simp)), row_chg h.came c (hd _ (by simp)), row_chg h.cl c (hd _ (by simp))⟩
theorem Sv.st.later (h : s.st w left fl x far came cl) (b : Below w.heap.size w w') : s.st w' left fl x far came cl := h.chg (chg_below b (fun _ => False)) (fun _ _ h => h)
theorem Sv.st.lt (h : s.st w left fl x far came cl) : ∀ b, (s.R b ∨ b ∈ [s.bl, s.bf, s.bx, s.br, s.bm, s.bc]) → b < w.heap.size := by
  intro b hb
  rcases hb with hb | hb
  · exact h.ro.lt b hb
  · simp only [List.mem_cons, List.not_mem_nil, or_false] at hb
    rcases hb with rfl | rfl | rfl | rfl | rfl | rfl
    · exact h.left.lt
    · exact h.fl.lt
    · exact h.x.lt
    · exact h.far.lt
    · exact h.came.lt
    · exact h.cl.lt
theorem chg_set (w : World) (p : Addr) (v : Value) : Chg (fun b => b = p.block) w (w.setCell p v) := (Chg.refl (fun b => b = p.block) w).setCell (p := p) (fun _ => rfl) v
theorem row_set_ne {b t n : Nat} {f : Nat → Value} (h : w.rowIs b t n f) {p : Addr} {v : Value} (hne : b ≠ p.block) : (w.setCell p v).rowIs b t n f := row_chg h (chg_set w p v) hne
/-- One cell of a row stored. -/
theorem row_upd {b t n : Nat} {F : Int → Value} {f : Nat → Int} (h : w.rowIs b t n (fun v => F (f v))) (i : Nat) (y : Int) : (w.setCell ⟨b, i, none⟩ (F y)).rowIs b t n (fun v => F (upd f i y v)) :=
  (h.set i (F y)).congr (fun v _ => by unfold upd; split <;> rfl)
theorem row_updB {b t n : Nat} {f : Nat → Bool} (h : w.rowIs b t n (fun v => .bool (f v))) (i : Nat) (y : Bool) : (w.setCell ⟨b, i, none⟩ (.bool y)).rowIs b t n (fun v => .bool (upd f i y v)) :=
  (h.set i (.bool y)).congr (fun v _ => by unfold upd; split <;> rfl)
theorem row_updS {b t n : Nat} {f : Nat → Stp} (h : w.rowIs b t n (cameV f)) (i : Nat) (y : Stp) : ((w.setCell ⟨b, i * 2, none⟩ (.int .i64 y.1)).setCell ⟨b, i * 2 + 1, none⟩ (.bool y.2)).rowIs b t n (cameV (upd f i y)) :=
  ((h.set (i * 2) (.int .i64 y.1)).set (i * 2 + 1) (.bool y.2)).congr (fun v _ => by
    unfold cameV upd
    by_cases e1 : v = i * 2 + 1
    · subst e1
      have h1 : (i * 2 + 1) % 2 = 1 := by omega
      have h2 : (i * 2 + 1) / 2 = i := by omega
      simp [h1, h2]
    · by_cases e2 : v = i * 2
      · subst e2
        have h1 : (i * 2) % 2 = 0 := by omega
        have h2 : (i * 2) / 2 = i := by omega
        simp [h1, h2]
      · have h2 : v / 2 ≠ i := by omega
        simp [e1, e2, h2])
theorem came_cells {b t n : Nat} (h : w.rowIs b t (n * 2) (cameV came)) {i : Nat} (hi : i < n) : w.cell? ⟨b, i * 2, none⟩ = some (.int .i64 (came i).1) ∧ w.cell? ⟨b, i * 2 + 1, none⟩ = some (.bool (came i).2) := by
  have h1 := h.cell (i := i * 2) (by omega)
  have h2 := h.cell (i := i * 2 + 1) (by omega)
  have e1 : (i * 2) % 2 = 0 := by omega
  have e2 : (i * 2) / 2 = i := by omega
  have e3 : (i * 2 + 1) % 2 = 1 := by omega
  have e4 : (i * 2 + 1) / 2 = i := by omega
  unfold cameV at h1 h2
  rw [e1, e2] at h1
  rw [e3, e4] at h2
  exact ⟨h1, h2⟩
end
end Go.Proofs.YtjgloineooadoaaGreatDoor
/- The slack of an arc; where a step leads back to; coordinates turned. -/
namespace Go.Proofs.YtjgloineooadoaaGreatDoor
open Go.RowKit
section
variable {s : Sv} {w : World} {left fl x far : Nat → Int} {came : Nat → Stp} {cl : Nat → Bool}
/-- The cells of a solver that a walk reads. -/
theorem Sv.ro.cells (h : s.ro w) : w.cell? ⟨s.sb, 0, none⟩ = some (.slice s.AA s.L.length s.cA) ∧ w.cell? ⟨s.sb, 1, none⟩ = some (.slice (some ⟨s.bo, 0, none⟩) s.n s.n) ∧ w.cell? ⟨s.sb, 2, none⟩ = some (.slice (some ⟨s.bi, 0, none⟩) s.n s.n) ∧ w.cell? ⟨s.sb, 3, none⟩ = some (.slice (some ⟨s.bl, 0, none⟩) s.n s.n) ∧ w.cell? ⟨s.sb, 4, none⟩ = some (.slice (some ⟨s.bf, 0, none⟩) s.L.length s.L.length) ∧
    w.cell? ⟨s.sb, 5, none⟩ = some (.slice (some ⟨s.bx, 0, none⟩) s.n s.n) ∧ w.cell? ⟨s.sb, 6, none⟩ = some (.slice (some ⟨s.br, 0, none⟩) s.n s.n) ∧ w.cell? ⟨s.sb, 7, none⟩ = some (.slice (some ⟨s.bm, 0, none⟩) s.n s.n) ∧ w.cell? ⟨s.sb, 8, none⟩ = some (.slice (some ⟨s.bc, 0, none⟩) s.n s.n) :=
  ⟨(Cl.of_block h.top (j := 0) rfl).cell, (Cl.of_block h.top (j := 1) rfl).cell, (Cl.of_block h.top (j := 2) rfl).cell, (Cl.of_block h.top (j := 3) rfl).cell, (Cl.of_block h.top (j := 4) rfl).cell, (Cl.of_block h.top (j := 5) rfl).cell, (Cl.of_block h.top (j := 6) rfl).cell, (Cl.of_block h.top (j := 7) rfl).cell, (Cl.of_block h.top (j := 8) rfl).cell⟩
theorem Sv.arc_at (h : s.ro w) (k : s.ok) {i : Nat} (hi : i < s.L.length) : ∃ b off, s.AA = some ⟨b, off, none⟩ ∧ w.cell? ⟨b, off + i * 3, none⟩ = some (.int .i64 (frL s.L i : Nat)) ∧ w.cell? ⟨b, off + i * 3 + 1, none⟩ = some (.int .i64 (ttL s.L i : Nat)) ∧ frL s.L i < s.n ∧ ttL s.L i < s.n := by
  obtain ⟨b, off, e, _, hc⟩ := h.arcs (by omega)
  obtain ⟨h1, h2, h3, _⟩ := k.g.at_ hi
  obtain ⟨c0, c1, _⟩ := hc i _ h1
  exact ⟨b, off, e, c0, c1, h2, h3⟩
set_option maxRecDepth 100000 in
set_option maxHeartbeats 1000000 in
theorem slack_any (h : s.st w left fl x far came cl) (k : s.ok) (hx : ∀ v, v < s.n → -1000000000000000 ≤ x v ∧ x v ≤ 1000000000000000) (i : Nat) (hi : i < s.L.length) :
    Calls Tryz.prog 39 #[.pointer (some ⟨s.sb, 0, none⟩), .int .i64 (i : Int)] w fun e w' => e = .returned (.int .i64 (slk s.G x i)) ∧ Below w.heap.size w w' := by
  obtain ⟨b, off, hAA, c0, c1, hf, ht⟩ := Sv.arc_at h.ro k hi
  obtain ⟨d0, -, -, -, -, d5, -⟩ := h.ro.cells
  have q0 := h.x.cell hf
  have q1 := h.x.cell ht
  have b0 := hx _ hf
  have b1 := hx _ ht
  have hE : Hid (slk s.G x i = x (ttL s.L i) - x (frL s.L i) - 1) := Lib.hid rfl
  have hn1 := k.g.n1
  have hm1 := k.g.m1
  rw [hAA] at d0
  generalize frL s.L i = f at *
  generalize ttL s.L i = t at *
  generalize x f = xf at *
  generalize x t = xt at *
  have i1 : (0 : Int) ≤ (i : Int) := by omega
  have i2 : (i : Int) < (s.L.length : Int) := by omega
  have i3 : (0 : Int) ≤ (f : Int) := by omega
  have i4 : (f : Int) < (s.n : Int) := by omega
  have i5 : (0 : Int) ≤ (t : Int) := by omega
  have i6 : (t : Int) < (s.n : Int) := by omega
  have e1 : IntKind.i64.wrap (xt - xf) = xt - xf := IntWalk.i64_in _ (by omega)
  have e2 : IntKind.i64.wrap (xt - xf - 1) = xt - xf - 1 := IntWalk.i64_in _ (by omega)
  clear hAA h k hx
  go_enter Tryz.func39, Tryz.ntmps39
  go_wp2_with fail
  go_quiet (fail)
  go_wp2_with fail
  go_ret
  exact ⟨ret_int hE.out.symm, below_drewN (Below.refl _ _) _⟩
set_option maxRecDepth 100000 in
set_option maxHeartbeats 1000000 in
theorem back_any (h : s.ro w) (k : s.ok) (y : Bool) (i : Nat) (hi : i < s.L.length) :
    Calls Tryz.prog 40 #[.pointer (some ⟨s.sb, 0, none⟩), .agg #[.int .i64 (i : Int), .bool y]] w fun e w' => e = .returned (.int .i64 (prv s.G ((i : Int), y) : Nat)) ∧ Below w.heap.size w w' := by
  obtain ⟨b, off, hAA, c0, c1, hf, ht⟩ := Sv.arc_at h k hi
  obtain ⟨d0, -⟩ := h.cells
  have hE : Hid (prv s.G ((i : Int), y) = if y = true then ttL s.L i else frL s.L i) := Lib.hid rfl
  rw [hAA] at d0
  generalize frL s.L i = f at *
  generalize ttL s.L i = t at *
  have i1 : (0 : Int) ≤ (i : Int) := by omega
  have i2 : (i : Int) < (s.L.length : Int) := by omega
  have hm1 := k.g.m1
  clear hAA h k
  obtain ⟨wA, hwA⟩ : ∃ wA, w.alloc (.cells #[.int .i64 (i : Int), .bool y] 91) = wA := ⟨_, rfl⟩
  have BA : Below w.heap.size w wA := by rw [← hwA]; exact (Below.refl _ _).alloc (Nat.le_refl _) _
  have g0 : wA.cell? ⟨w.heap.size, 0, none⟩ = some (.int .i64 (i : Int)) := by rw [← hwA]; exact (Cl.new rfl).cell
  have g1 : wA.cell? ⟨w.heap.size, 1, none⟩ = some (.bool y) := by rw [← hwA]; exact (Cl.new rfl).cell
  have d0 := cell_later BA d0
  have c0 := cell_later BA c0
  have c1 := cell_later BA c1
  have HB := Lib.hid BA
  clear BA
  cases y
  · go_enter Tryz.func40, Tryz.ntmps40
    go_wp2_with fail
    go_quiet (fail)
    go_wp2_with fail
    go_ret
    exact ⟨ret_int (by rw [hE.out]; rfl), below_drewN HB.out _⟩
  · go_enter Tryz.func40, Tryz.ntmps40
    go_wp2_with fail
    go_quiet (fail)
    go_wp2_with fail
    go_ret
    exact ⟨ret_int (by rw [hE.out]; rfl), below_drewN HB.out _⟩
def turnX (x far : Nat → Int) (cl : Nat → Bool) (D : Int) (k v : Nat) : Int := if v < k then x v - ddv far cl D v else x v
theorem turnX_step (x far : Nat → Int) (cl : Nat → Bool) (D : Int) (k : Nat) : upd (turnX x far cl D k) k (x k - ddv far cl D k) = turnX x far cl D (k + 1) := by
  funext v
  unfold upd turnX
  by_cases e : v = k
  · subst e; simp
  · rw [if_neg e]
    by_cases h : v < k
    · rw [if_pos h, if_pos (by omega)]
    · rw [if_neg h, if_neg (by omega)]
set_option maxRecDepth 100000 in
set_option maxHeartbeats 1000000 in
theorem turn_any (D : Int) (h : s.st w left fl x far came cl) (k : s.ok) (hx : ∀ v, v < s.n → -1000000000000000 ≤ x v ∧ x v ≤ 1000000000000000) (hD : 0 ≤ D ∧ D ≤ 1000000) (hc : ∀ v, v < s.n → cl v = true → 0 ≤ far v ∧ far v ≤ D) :
    Calls Tryz.prog 20 #[.pointer (some ⟨s.sb, 0, none⟩), .int .i64 D] w fun e w' => e = .returned (.tuple #[]) ∧ s.st w' left fl (fun v => x v - ddv far cl D v) far came cl ∧ Chg (fun b => b = s.bx) w w' := by
  obtain ⟨d0, -, -, -, -, d5, d6, -, d8⟩ := h.ro.cells
  have hn1 := k.g.n1
  have HX := Lib.hid hx
  have HC := Lib.hid hc
  have HS := Lib.hid h
  have HK := Lib.hid k
  have hrx : ¬ s.R s.bx := fun q => k.rd _ q (by simp)
  have hap := k.ap
  simp only [List.nodup_cons, List.mem_cons, List.not_mem_nil, or_false, not_or] at hap
  have HAP := Lib.hid hap
  clear hx hc h k hap
  go_enter Tryz.func20, Tryz.ntmps20
  go_wp2_with fail
  clear d0 d5 d6 d8
  go_loopw [11] (fun q wr => ∃ k : Nat, k ≤ s.n ∧ q = .int .i64 k ∧ s.st wr left fl (turnX x far cl D k) far came cl ∧ Chg (fun b => b = s.bx) w wr) (fun q _ => s.n - (intOf q).toNat)
  case atStart => exact ⟨0, by omega, rfl, (by
    have e : turnX x far cl D 0 = x := by funext v; simp [turnX]
    rw [e]; exact HS.out), Chg.refl _ _⟩
  case round =>
    obtain ⟨k, hk, rfl, S, C⟩ := hrel
    by_cases hkn : k < s.n
    · have hd : decide ((k : Int) < s.n) = true := by simp; omega
      obtain ⟨-, -, -, -, -, d5, d6, -, d8⟩ := S.ro.cells
      have q0 := S.x.cell hkn
      have q1 := S.far.cell hkn
      have q2 := S.cl.cell hkn
      have q3 := S.x.frozen k
      have hxk : turnX x far cl D k k = x k := by simp [turnX]
      rw [hxk] at q0
      have b0 := HX.out k hkn
      have i1 : (0 : Int) ≤ (k : Int) := by omega
      have i2 : (k : Int) < (s.n : Int) := by omega
      have HSS := Lib.hid S
      have HCC := Lib.hid C
      clear S C hxk
      obtain ⟨ap1, ap2, ap3, ap4, ap5, -⟩ := HAP.out
      have fin : ∀ d : Int, d = ddv far cl D k → ∀ w2 : World, w2 = wr.setCell ⟨s.bx, k, none⟩ (.int .i64 (x k - d)) → s.st w2 left fl (turnX x far cl D (k + 1)) far came cl ∧ Chg (fun b => b = s.bx) w w2 := by
        rintro d rfl w2 rfl
        have c := chg_set wr ⟨s.bx, k, none⟩ (.int .i64 (x k - ddv far cl D k))
        refine ⟨⟨HSS.out.ro.chg c (fun b hb e => by subst e; exact hrx hb), row_set_ne HSS.out.left (Ne.symm ?_), row_set_ne HSS.out.fl ?_, ?_, row_set_ne HSS.out.far ?_, row_set_ne HSS.out.came ?_, row_set_ne HSS.out.cl ?_⟩, HCC.out.trans c (fun b _ h => h)⟩
        · exact fun e => ap1.2.1 e.symm
        · exact ap2.1
        · have := row_upd (F := fun z => .int .i64 z) HSS.out.x k (x k - ddv far cl D k)
          rw [turnX_step] at this
          exact this
        · exact fun e => ap3.1 e.symm
        · exact fun e => ap3.2.1 e.symm
        · exact fun e => ap3.2.2 e.symm
      have HF := Lib.hid fin
      clear fin
      obtain ⟨c, hcc⟩ : ∃ c, cl k = c := ⟨_, rfl⟩
      have HCL := Lib.hid (HC.out k hkn)
      have HDD : Hid (ddv far cl D k = if c = true then far k else D) := Lib.hid (by unfold ddv; rw [hcc])
      rw [hcc] at q2 HCL
      clear hcc ap1 ap2 ap3 ap4 ap5
      cases c
      · go_wp2_with fail
        obtain ⟨S2, C2⟩ := HF.out D (by rw [HDD.out]; rfl) _ rfl
        exact ⟨⟨k + 1, by omega, by go_num, S2, C2⟩, by simp [intOf]; omega⟩
      · obtain ⟨f0, f1⟩ := HCL.out rfl
        have hmin : min (far k) D = far k := by omega
        go_wp2_with fail
        obtain ⟨S2, C2⟩ := HF.out (far k) (by rw [HDD.out]; rfl) _ rfl
        exact ⟨⟨k + 1, by omega, by go_num, S2, C2⟩, by simp [intOf]; omega⟩
    · obtain rfl : k = s.n := by omega
      have hd : decide ((s.n : Int) < s.n) = false := by simp
      go_wp2_with fail
      go_end0
      refine ⟨rfl, ?_, C⟩
      have e : ∀ v, v < s.n → turnX x far cl D s.n v = x v - ddv far cl D v := fun v hv => by unfold turnX; rw [if_pos hv]
      exact ⟨S.ro, S.left, S.fl, S.x.congr (fun v hv => by rw [e v hv]), S.far, S.came, S.cl⟩
end
end Go.Proofs.YtjgloineooadoaaGreatDoor
/- As much as goes is pushed along a way. -/
namespace Go.Proofs.YtjgloineooadoaaGreatDoor
open Go.RowKit
def pth (G : Gf) (came : Nat → Stp) (z : Nat) : Nat → Nat
  | 0 => z
  | k + 1 => prv G (came (pth G came z k))
/-- What a push leaves. -/
structure Pushed (s : Sv) (left fl x far : Nat → Int) (came : Nat → Stp) (cl : Nat → Bool) (ord : List Nat) (wt : Nat → Int) (z : Nat) (w w' : World) (N : Int) (v0 : Nat) (g : Nat → Int) : Prop where
  n1 : 1 ≤ N
  vn : v0 < s.n
  nl : N ≤ left v0
  nz : N ≤ -left z
  st : s.st w' (upd (upd left v0 (left v0 - N)) z (left z + N)) g x far came cl
  ch : Chg (fun b => b = s.bl ∨ b = s.bf) w w'
  nn : ∀ i, i < s.L.length → 0 ≤ g i
  bal : ∀ u, u < s.n → nf s.G wt u s.L.length - nf s.G g u s.L.length = upd (upd left v0 (left v0 - N)) z (left z + N) u
  sup : ∀ i, i < s.L.length → 0 < g i → 0 < fl i ∨ ∃ v ∈ ord, (came v).1 = i
  le : ∀ i, i < s.L.length → g i ≤ fl i + N
section
variable {s : Sv} {w : World} {left fl x far : Nat → Int} {came : Nat → Stp} {cl : Nat → Bool} {ord : List Nat}
set_option maxRecDepth 100000 in
set_option maxHeartbeats 4000000 in
theorem push_any (z : Nat) (wt : Nat → Int) (h : s.st w left fl x far came cl) (k : s.ok) (W : Path s.G left fl came ord) (hz : z ∈ ord) (hneg : left z < 0) (hb : ∀ v, v < s.n → -1000000000000 ≤ left v ∧ left v ≤ 1000000000000)
    (hf : ∀ i, i < s.L.length → 0 ≤ fl i ∧ fl i ≤ 1000000000000) (hbal : ∀ u, u < s.n → nf s.G wt u s.L.length - nf s.G fl u s.L.length = left u) :
    Calls Tryz.prog 21 #[.pointer (some ⟨s.sb, 0, none⟩), .int .i64 (z : Int)] w fun e w' => e = .returned (.tuple #[]) ∧ ∃ N v0 g, Pushed s left fl x far came cl ord wt z w w' N v0 g := by
  obtain ⟨-, -, -, d3, d4, -, -, d7, -⟩ := h.ro.cells
  have hn1 := k.g.n1
  have hm1 := k.g.m1
  have hzn := W.lt z hz
  have q0 := h.left.cell hzn
  have bz := hb z hzn
  have z1 : (0 : Int) ≤ (z : Int) := by omega
  have z2 : (z : Int) < (s.n : Int) := by have : z < s.n := hzn; omega
  have HB := Lib.hid hb
  have HF := Lib.hid hf
  have HS := Lib.hid h
  have HK := Lib.hid k
  have HW := Lib.hid W
  have HBal := Lib.hid hbal
  have HZ := Lib.hid hz
  clear hb hf h k W hbal hz
  go_enter Tryz.func21, Tryz.ntmps21
  go_wp2_with fail
  clear d3 d4 d7 q0
  go_loopw [4, 5] (fun nv vv wr => ∃ (j : Nat) (N : Int), nv = .int .i64 N ∧ vv = .int .i64 (pth s.G came z j : Nat) ∧ pth s.G came z j ∈ ord ∧ 1 ≤ N ∧ N ≤ -left z ∧ Hid (∀ q, q < j → (came (pth s.G came z q)).1 ≠ -1 ∧ ((came (pth s.G came z q)).2 = true → N ≤ fl (came (pth s.G came z q)).1.toNat)) ∧ Below w.heap.size w wr) (fun _ vv _ => ord.idxOf (intOf vv).toNat)
  case atStart => exact ⟨0, -left z, rfl, rfl, HZ.out, by omega, by omega, Lib.hid (fun q hq => absurd hq (by omega)), Below.refl _ _⟩
  case round =>
    obtain ⟨j, N, rfl, rfl, hvo, hN1, hN2, hq, B⟩ := hrel
    obtain ⟨wo, rfl⟩ : ∃ x : World, x = wr := ⟨_, rfl⟩
    obtain ⟨v, hv⟩ : ∃ v, pth s.G came z j = v := ⟨_, rfl⟩
    rw [hv] at hvo ⊢
    have HV := Lib.hid hv
    have HVO := Lib.hid hvo
    have hvn : v < s.n := HW.out.lt v hvo
    have HSo := Lib.hid (HS.out.later B)
    have HBo := Lib.hid B
    obtain ⟨-, -, -, d3, d4, -, -, d7, -⟩ := HSo.out.ro.cells
    obtain ⟨c0, c1⟩ := came_cells HSo.out.came hvn
    have v1 : (0 : Int) ≤ (v : Int) := by omega
    have v2 : (v : Int) < (s.n : Int) := by omega
    have hstp := HW.out.stp v hvo
    clear hv hvo B
    rcases hstp with ⟨hno, hl0⟩ | ⟨i, hi, hci, hhd, hpo, hbf, hix⟩
    · rw [hno] at c0
      have HNO := Lib.hid hno
      have q1 := HSo.out.left.cell hvn
      have q2 := HSo.out.left.frozen v
      have bv := HB.out v hvn
      have q3 := HSo.out.left.cell hzn
      have q4 := HSo.out.left.frozen z
      have hvz : v ≠ z := fun e => by subst e; omega
      have hvzi : (v : Int) ≠ (z : Int) := by omega
      clear hno
      go_upto_region 5 with fail
      go_cut [4] (fun nv wx => ∃ M : Int, nv = .int .i64 M ∧ (1 ≤ M ∧ M ≤ N ∧ M ≤ left v) ∧ wo = wx)
      case first =>
        go_wp2_with fail
        all_goals
          go_meet
          exact ⟨_, rfl, by omega, rfl⟩
      rename_i nv wx
      obtain ⟨M, rfl, hM1, rfl⟩ := hcut
      have R1 := HSo.out.left.set v (.int .i64 (left v - M))
      have q5 := R1.cell hzn
      have q6 := R1.frozen z
      simp only [if_neg (Ne.symm hvz)] at q5
      have e3 := cell_chg (chg_set wo ⟨s.bl, v, none⟩ (.int .i64 (left v - M))) d3 (fun e => HK.out.rd _ HSo.out.ro.rs (by have e' : s.sb = s.bl := e; rw [e']; simp))
      have R2 := R1.set z (.int .i64 (left z + M))
      obtain ⟨w2, hw2⟩ : ∃ w2, (wo.setCell ⟨s.bl, v, none⟩ (.int .i64 (left v - M))).setCell ⟨s.bl, z, none⟩ (.int .i64 (left z + M)) = w2 := ⟨_, rfl⟩
      have C2 : Chg (fun b => b = s.bl) wo w2 := by rw [← hw2]; exact (chg_set wo ⟨s.bl, v, none⟩ _).trans (chg_set _ ⟨s.bl, z, none⟩ _) (fun b _ h => h)
      obtain ⟨L', hL'⟩ : ∃ L', upd (upd left v (left v - M)) z (left z + M) = L' := ⟨_, rfl⟩
      have hrl : ∀ b, s.R b → b ≠ s.bl := fun b hb e => HK.out.rd b hb (by rw [e]; simp)
      have hap := HK.out.ap
      simp only [List.nodup_cons, List.mem_cons, List.not_mem_nil, or_false, not_or] at hap
      obtain ⟨ap1, ap2, ap3, ap4, ap5, -⟩ := hap
      have S2 : s.st w2 L' fl x far came cl := by
        refine ⟨HSo.out.ro.chg C2 (fun b hb => hrl b hb), ?_, row_chg HSo.out.fl C2 (fun e => ap1.1 e.symm), row_chg HSo.out.x C2 (fun e => ap1.2.1 e.symm), row_chg HSo.out.far C2 (fun e => ap1.2.2.1 e.symm), row_chg HSo.out.came C2 (fun e => ap1.2.2.2.1 e.symm), row_chg HSo.out.cl C2 (fun e => ap1.2.2.2.2 e.symm)⟩
        rw [← hw2, ← hL']
        refine R2.congr (fun u _ => ?_)
        unfold upd
        by_cases e1 : u = z
        · simp [e1]
        · by_cases e2 : u = v
          · simp [e2, hvz]
          · simp [e1, e2]
      have HS2 := Lib.hid S2
      have HL' := Lib.hid hL'
      have HW2 := Lib.hid hw2
      have HC2 := Lib.hid ((chg_below HBo.out (fun b => b = s.bl)).trans C2 (fun b _ h => h))
      have HP0 := Lib.hid (Psh.begin (G := s.G) (left := left) (fl := fl) (came := came) (w := wt) (N := M) (by omega) HZ.out (fun i hi => (HF.out i hi).1) HBal.out)
      clear R1 R2 C2 S2 hL' hw2 ap1 ap2 ap3 ap4 ap5
      go_wp2_with fail
      rw [HW2.out]
      clear d3 d4 d7 c0 c1 q1 q2 q3 q4 q5 q6 e3
      go_loopw [5] (fun vv wr => ∃ (q : Nat) (g : Nat → Int), q ≤ j ∧ vv = .int .i64 (pth s.G came z q : Nat) ∧ Hid (Psh s.G left fl came ord wt z M (pth s.G came z q) g) ∧ Hid (∀ i, i < s.L.length → 0 < g i → 0 < fl i ∨ ∃ v ∈ ord, (came v).1 = i) ∧ s.st wr L' g x far came cl ∧ Chg (fun b => b = s.bf) w2 wr) (fun vv _ => ord.idxOf (intOf vv).toNat)
      case atStart => exact ⟨0, fl, by omega, rfl, Lib.hid HP0.out, Lib.hid (fun i _ h => .inl h), HS2.out, Chg.refl _ _⟩
      case round =>
        obtain ⟨q, g, hqj, rfl, hP, hsup, S, C⟩ := hrel
        obtain ⟨wo', rfl⟩ : ∃ x : World, x = wr := ⟨_, rfl⟩
        obtain ⟨u, hu⟩ : ∃ u, pth s.G came z q = u := ⟨_, rfl⟩
        rw [hu] at hP ⊢
        have HU := Lib.hid hu
        have hun : u < s.n := HW.out.lt u hP.out.vo
        obtain ⟨-, -, -, d3, d4, -, -, d7, -⟩ := S.ro.cells
        obtain ⟨c0, c1⟩ := came_cells S.came hun
        have v3 : (0 : Int) ≤ (u : Int) := by omega
        have v4 : (u : Int) < (s.n : Int) := by omega
        have HSS := Lib.hid S
        have HCC := Lib.hid C
        clear hu S C
        by_cases hqe : q = j
        · subst hqe
          have huv : u = v := by rw [← HU.out, HV.out]
          subst huv
          rw [HNO.out] at c0
          go_wp2_with fail
          go_end0
          refine ⟨rfl, M, u, g, hM1.1, hun, hM1.2.2, by omega, by rw [HL'.out]; exact HSS.out, ?_, hP.out.nn, fun t ht => ?_, hsup.out, hP.out.le⟩
          · exact (HC2.out.mono (fun b _ h => .inl h)).trans HCC.out (fun b _ h => .inr h)
          · refine (hP.out.bal t ht).trans ?_
            unfold ind upd
            by_cases e1 : t = z
            · subst e1
              simp [Ne.symm hvz]
            · by_cases e2 : t = u
              · subst e2
                simp [e1]
              · simp [e1, e2]
        · obtain ⟨a1, a2⟩ := hq.out q (by omega)
          rw [HU.out] at a1 a2
          rcases HW.out.stp u hP.out.vo with ⟨h', _⟩ | ⟨i, hi, hci, hhd, hpo, hbf, hix⟩
          · exact absurd h' a1
          obtain ⟨y, hy⟩ : ∃ y, (came u).2 = y := ⟨_, rfl⟩
          have hce : came u = ((i : Int), y) := by rw [← hci, ← hy]
          have HCE := Lib.hid hce
          have hst := hP.out.step HW.out (by omega) hi hci (fun hb => by have := a2 hb; rw [hci] at this; have h3 : N ≤ fl i := (by simpa using this); omega)
          obtain ⟨P2, hgs, hlt⟩ := hst
          rw [hce] at P2 hlt c0 c1
          have hi' : i < s.L.length := hi
          have q5 := HSS.out.fl.cell hi'
          have q6 := HSS.out.fl.frozen i
          rw [hgs] at P2 q5
          have bf := HF.out i hi'
          have i1 : (0 : Int) ≤ (i : Int) := by omega
          have i2 : (i : Int) < (s.L.length : Int) := by omega
          have HP2 := Lib.hid P2
          have HLT := Lib.hid hlt
          have hne : ((i : Int) != -1) = true := by rw [bne_iff_ne]; omega
          have hpth : Hid (pth s.G came z (q + 1) = prv s.G ((i : Int), y)) := Lib.hid (by
            show prv s.G (came (pth s.G came z q)) = _
            rw [HU.out, HCE.out])
          have hap := HK.out.ap
          simp only [List.nodup_cons, List.mem_cons, List.not_mem_nil, or_false, not_or] at hap
          obtain ⟨ap1, ap2, -⟩ := hap
          have fin : ∀ (d : Int) (wa : World), Below wo'.heap.size wo' wa → s.st (wa.setCell ⟨s.bf, i, none⟩ (.int .i64 d)) L' (upd g i d) x far came cl ∧ Chg (fun b => b = s.bf) w2 (wa.setCell ⟨s.bf, i, none⟩ (.int .i64 d)) := by
            intro d wa Ba
            have c := chg_set wa ⟨s.bf, i, none⟩ (.int .i64 d)
            have Sa := HSS.out.later Ba
            exact ⟨⟨Sa.ro.chg c (fun b hb e => HK.out.rd b hb (by rw [e]; simp)), row_set_ne Sa.left ap1.1, row_upd (F := fun z => .int .i64 z) Sa.fl i d, row_set_ne Sa.x (fun e => ap2.1 e.symm), row_set_ne Sa.far (fun e => ap2.2.1 e.symm), row_set_ne Sa.came (fun e => ap2.2.2.1 e.symm), row_set_ne Sa.cl (fun e => ap2.2.2.2 e.symm)⟩, (HCC.out.trans (chg_below Ba (fun b => b = s.bf)) (fun b _ h => h)).trans c (fun b _ h => h)⟩
          have HFN := Lib.hid fin
          have hsup2 : ∀ d : Int, ∀ t, t < s.L.length → 0 < upd g i d t → 0 < fl t ∨ ∃ v ∈ ord, (came v).1 = t := by
            intro d t ht h0
            by_cases e : t = i
            · subst e; exact .inr ⟨u, hP.out.vo, hci⟩
            · have : upd g i d t = g t := by simp [upd, e]
              rw [this] at h0; exact hsup.out t ht h0
          have HSP := Lib.hid hsup2
          clear a1 a2 hci hhd hpo hbf hix hy hce P2 hgs hlt hsup2 fin ap1 ap2 hi hP hsup
          cases y
          · go_wp2_with fail
            go_still_tail 17, (by kernel_rfl)
            change wpList _ _ _ _ _ wo'.drew
            have BD : Below wo'.heap.size wo' wo'.drew := (Below.refl _ _).drew
            generalize wo'.drew = wa at *
            have q7 := (HSS.out.later BD).fl.frozen i
            have q8 := (HSS.out.later BD).fl.cell hi'
            obtain ⟨S2, C2⟩ := HFN.out (fl i + M) wa BD
            obtain ⟨-, -, -, -, -, -, -, g7, -⟩ := S2.ro.cells
            obtain ⟨h0, h1⟩ := came_cells S2.came hun
            rw [HCE.out] at h0 h1
            have HS2 := Lib.hid S2
            have HC2 := Lib.hid C2
            clear S2 C2
            go_wp2_with fail
            refine (back_any HS2.out.ro HK.out false i hi').mono ?_
            rintro e w1 ⟨rfl, B1⟩
            have HB1 := Lib.hid B1
            clear B1
            go_wp2_with fail
            exact ⟨⟨q + 1, _, by omega, by rw [hpth.out], Lib.hid (by rw [hpth.out]; exact HP2.out), Lib.hid (HSP.out _), HS2.out.later HB1.out, HC2.out.trans (chg_below HB1.out (fun b => b = s.bf)) (fun b _ h => h)⟩, by have := HLT.out; simp [intOf]; omega⟩
          · go_wp2_with fail
            go_still_tail 17, (by kernel_rfl)
            change wpList _ _ _ _ _ wo'.drew
            have BD : Below wo'.heap.size wo' wo'.drew := (Below.refl _ _).drew
            generalize wo'.drew = wa at *
            have q7 := (HSS.out.later BD).fl.frozen i
            have q8 := (HSS.out.later BD).fl.cell hi'
            obtain ⟨S2, C2⟩ := HFN.out (fl i - M) wa BD
            obtain ⟨-, -, -, -, -, -, -, g7, -⟩ := S2.ro.cells
            obtain ⟨h0, h1⟩ := came_cells S2.came hun
            rw [HCE.out] at h0 h1
            have HS2 := Lib.hid S2
            have HC2 := Lib.hid C2
            clear S2 C2
            go_wp2_with fail
            refine (back_any HS2.out.ro HK.out true i hi').mono ?_
            rintro e w1 ⟨rfl, B1⟩
            have HB1 := Lib.hid B1
            clear B1
            go_wp2_with fail
            exact ⟨⟨q + 1, _, by omega, by rw [hpth.out], Lib.hid (by rw [hpth.out]; exact HP2.out), Lib.hid (HSP.out _), HS2.out.later HB1.out, HC2.out.trans (chg_below HB1.out (fun b => b = s.bf)) (fun b _ h => h)⟩, by have := HLT.out; simp [intOf]; omega⟩
    · rw [hci] at c0
      have HPO := Lib.hid hpo
      have HCI := Lib.hid hci
      have HIX := Lib.hid hix
      have hne : ((i : Int) != -1) = true := by rw [bne_iff_ne]; omega
      obtain ⟨y, hy⟩ : ∃ y, (came v).2 = y := ⟨_, rfl⟩
      have HY := Lib.hid hy
      rw [hy] at c1
      have hi' : i < s.L.length := hi
      have hce : came v = ((i : Int), y) := by rw [← hci, ← hy]
      have HCE := Lib.hid hce
      have q5 := HSo.out.fl.cell hi'
      have bf := HF.out i hi'
      have i1 : (0 : Int) ≤ (i : Int) := by omega
      have i2 : (i : Int) < (s.L.length : Int) := by omega
      have hnext : ∀ M : Int, (y = true → M ≤ fl i) → M ≤ N → ∀ q, q < j + 1 → (came (pth s.G came z q)).1 ≠ -1 ∧ ((came (pth s.G came z q)).2 = true → M ≤ fl (came (pth s.G came z q)).1.toNat) := by
        intro M hM1 hM2 q hq2
        by_cases e : q = j
        · subst e
          rw [HV.out, HCE.out]
          exact ⟨by simp only; omega, fun hb => by simpa using hM1 hb⟩
        · obtain ⟨a1, a2⟩ := hq.out q (by omega)
          exact ⟨a1, fun hb => by have := a2 hb; omega⟩
      have HNX := Lib.hid hnext
      have HBF := Lib.hid hbf
      rw [hy] at HBF
      have hpth : pth s.G came z (j + 1) = prv s.G ((i : Int), y) := by
        show prv s.G (came (pth s.G came z j)) = _
        rw [HV.out, HCE.out]
      have HPT := Lib.hid hpth
      rw [HCE.out] at HPO HIX
      clear hci hpo hy hix hhd hbf hi hce hnext hpth hq
      cases y
      · go_wp2_with fail
        refine (back_any HSo.out.ro HK.out false i hi').mono ?_
        rintro e w1 ⟨rfl, B1⟩
        have HB1 := Lib.hid (below_then HBo.out HBo.out.size B1)
        clear B1
        go_wp2_with fail
        exact ⟨⟨j + 1, N, rfl, by rw [HPT.out], by rw [HPT.out]; exact HPO.out, hN1, hN2, Lib.hid (HNX.out N (by simp) (by omega)), HB1.out⟩, by have := HIX.out; simp [intOf]; omega⟩
      · have hfp : 0 < fl i := HBF.out rfl
        go_wp2_with fail
        go_quiet (fail)
        go_wp2_with fail
        all_goals
          refine (back_any (HSo.out.later (below_drewN (Below.refl _ _) _)).ro HK.out true i hi').mono ?_
          rintro e w1 ⟨rfl, B1⟩
          have HB1 := Lib.hid (below_then HBo.out HBo.out.size ((below_drewN (Below.refl wo.heap.size wo) _).trans B1))
          clear B1
          go_wp2_with fail
          exact ⟨⟨j + 1, _, rfl, by rw [HPT.out], by rw [HPT.out]; exact HPO.out, by omega, by omega, Lib.hid (HNX.out _ (fun _ => by omega) (by omega)), HB1.out⟩, by have := HIX.out; simp [intOf]; omega⟩
end
end Go.Proofs.YtjgloineooadoaaGreatDoor
/- A region that draws its order: its first operations, which read only, are taken in the text's order, whatever follows. No program in sight. -/
namespace Go.Proofs.YtjgloineooadoaaGreatDoor
section
variable {P : Program} {md : Region.Mode} {ops : Array Oper} {Q : Exit → Act → World → Prop} {S : World → Prop}
def wpHd (P : Program) (ops : Array Oper) (S : World → Prop) (K : Act → Prop) : List Oper → Act → Prop
  | [], a => K a
  | o :: l, a => ∃ v, YieldsIf P ops S o v a ∧ wpHd P ops S K l (a.put o.dst v)
theorem wpHd_cons {K : Act → Prop} {o : Oper} {l : List Oper} {a : Act} {v : Value} (hw : Region.wanted o (yielded ops a.tmps) = true) (hv : ∀ w, S w → (execOp a.eval o).run P w = .ok (.value v) w) (h : wpHd P ops S K l (a.put o.dst v)) : wpHd P ops S K (o :: l) a := ⟨v, .inl ⟨hw, hv⟩, h⟩
theorem wpHd_skip {K : Act → Prop} {o : Oper} {l : List Oper} {a : Act} (hw : Region.wanted o (yielded ops a.tmps) = false) (h : wpHd P ops S K l (a.put o.dst undef)) : wpHd P ops S K (o :: l) a := ⟨undef, .inr ⟨hw, rfl⟩, h⟩
theorem wpHd_nil {K : Act → Prop} {a : Act} (h : K a) : wpHd P ops S K [] a := h
def lexOK (md : Region.Mode) (ops : Array Oper) : Nat → Nat → Array Bool → Bool
  | 0, _, _ => true
  | f + 1, k, listed => (Region.ready md ops listed).contains k && Region.free md ops listed k && lexOK md ops f (k + 1) (listed.setIfInBounds k true)
def marks : Nat → Nat → Array Bool → Array Bool
  | 0, _, l => l
  | f + 1, k, l => marks f (k + 1) (l.setIfInBounds k true)
theorem wpAnyH_head {w : World} (hS : S w) (hs : Region.noSelect ops = true) (hQ : ∀ c a d v w, Q (.panic c) (Act.put a d v) w → Q (.panic c) a w) : ∀ (l : List Oper) (k : Nat) (listed : Array Bool) (a : Act) (fuel : Nat),
    (∀ j, j < l.length → ops[k + j]? = l[j]?) → lexOK md ops l.length k listed = true → wpHd P ops S (fun a' => wpAnyH P md ops Q S fuel (marks l.length k listed) a' w) l a → wpAnyH P md ops Q S (l.length + fuel) listed a w
  | [], k, listed, a, fuel, _, _, h => by rw [List.length_nil, Nat.zero_add]; exact h
  | o :: l, k, listed, a, fuel, hl, hB, h => by
    obtain ⟨v, hy, hr⟩ := h
    simp only [List.length_cons, lexOK, Bool.and_eq_true] at hB
    have h0 : ops[k]? = some o := by simpa using hl 0 (by simp)
    rw [show (o :: l).length + fuel = (l.length + fuel) + 1 by simp only [List.length_cons]; omega]
    refine wpAnyH_take h0 hs hB.1.2 hB.1.1 (fun c a w h => hQ c _ _ _ w h) hy hS ?_
    refine wpAnyH_head hS hs hQ l (k + 1) _ _ fuel (fun j hj => ?_) hB.2 hr
    have := hl (j + 1) (by simp only [List.length_cons]; omega)
    rw [show k + 1 + j = k + (j + 1) by omega, this]
    simp
theorem wp_region_head {id : Nat} {a : Act} {w : World} {l : List Oper} (n : Nat) (S : World → Prop) (hm : P.follows .mixedOrders = true)
    (hB : (Region.noSelect l.toArray && decide (n ≤ l.length) && lexOK .any l.toArray n 0 (Array.replicate l.length false)) = true) (hS : S w.drew)
    (h : wpHd P l.toArray S (fun a' => wpAnyH P .any l.toArray (NoPanic Q) S (l.length - n) (marks n 0 (Array.replicate l.length false)) a' w.drew) (l.take n) a) : (Code.region id l.toArray true).wp P Q a w := by
  simp only [Bool.and_eq_true, decide_eq_true_eq] at hB
  obtain ⟨⟨hs, hn⟩, hlex⟩ := hB
  have htl : (l.take n).length = n := by simp; omega
  refine wp_region_noPanic (wp_region_held_drew (S := S) hm hS (fun hS => ?_))
  have H := wpAnyH_head (md := .any) (k := 0) (listed := Array.replicate l.length false) (fuel := l.length - n) (a := a) hS hs (fun _ _ _ _ _ h => h) (l.take n) (fun j hj => by
    have hj' : j < n := by rw [htl] at hj; exact hj
    simp [hj']) (by rw [htl]; exact hlex) (by rw [htl]; exact h)
  rw [htl, show n + (l.length - n) = l.length by omega] at H
  simpa using H
end
end Go.Proofs.YtjgloineooadoaaGreatDoor
/- A region that draws its order: those of its operations that read only are taken first, in an order of one's own; then the others. No program in sight. -/
namespace Go.Proofs.YtjgloineooadoaaGreatDoor
section
variable {P : Program} {md : Region.Mode} {ops : Array Oper} {Q : Exit → Act → World → Prop} {S : World → Prop}
def wpHi (P : Program) (ops : Array Oper) (S : World → Prop) (K : Act → Prop) : List Nat → Act → Prop
  | [], a => K a
  | k :: ks, a => ∃ o v, ops[k]? = some o ∧ YieldsIf P ops S o v a ∧ wpHi P ops S K ks (a.put o.dst v)
theorem wpHi_cons {K : Act → Prop} {k : Nat} {ks : List Nat} {a : Act} {o : Oper} {v : Value} (ho : ops[k]? = some o) (hw : Region.wanted o (yielded ops a.tmps) = true) (hv : ∀ w, S w → (execOp a.eval o).run P w = .ok (.value v) w) (h : wpHi P ops S K ks (a.put o.dst v)) : wpHi P ops S K (k :: ks) a := ⟨o, v, ho, .inl ⟨hw, hv⟩, h⟩
theorem wpHi_skip {K : Act → Prop} {k : Nat} {ks : List Nat} {a : Act} {o : Oper} (ho : ops[k]? = some o) (hw : Region.wanted o (yielded ops a.tmps) = false) (h : wpHi P ops S K ks (a.put o.dst undef)) : wpHi P ops S K (k :: ks) a := ⟨o, undef, ho, .inr ⟨hw, rfl⟩, h⟩
theorem wpHi_nil {K : Act → Prop} {a : Act} (h : K a) : wpHi P ops S K [] a := h
def lexOKi (md : Region.Mode) (ops : Array Oper) : List Nat → Array Bool → Bool
  | [], _ => true
  | k :: ks, listed => (Region.ready md ops listed).contains k && Region.free md ops listed k && lexOKi md ops ks (listed.setIfInBounds k true)
def marksi : List Nat → Array Bool → Array Bool
  | [], l => l
  | k :: ks, l => marksi ks (l.setIfInBounds k true)
theorem wpAnyH_heads {w : World} (hS : S w) (hs : Region.noSelect ops = true) (hQ : ∀ c a d v w, Q (.panic c) (Act.put a d v) w → Q (.panic c) a w) : ∀ (is : List Nat) (listed : Array Bool) (a : Act) (fuel : Nat),
    lexOKi md ops is listed = true → wpHi P ops S (fun a' => wpAnyH P md ops Q S fuel (marksi is listed) a' w) is a → wpAnyH P md ops Q S (is.length + fuel) listed a w
  | [], listed, a, fuel, _, h => by rw [List.length_nil, Nat.zero_add]; exact h
  | k :: ks, listed, a, fuel, hB, h => by
    obtain ⟨o, v, ho, hy, hr⟩ := h
    simp only [lexOKi, Bool.and_eq_true] at hB
    rw [show (k :: ks).length + fuel = (ks.length + fuel) + 1 by simp only [List.length_cons]; omega]
    exact wpAnyH_take ho hs hB.1.2 hB.1.1 (fun c a w h => hQ c _ _ _ w h) hy hS (wpAnyH_heads hS hs hQ ks _ _ fuel hB.2 hr)
theorem wp_region_heads {id : Nat} {a : Act} {w : World} {l : List Oper} (is : List Nat) (S : World → Prop) (hm : P.follows .mixedOrders = true)
    (hB : (Region.noSelect l.toArray && decide (is.length ≤ l.length) && lexOKi .any l.toArray is (Array.replicate l.length false)) = true) (hS : S w.drew)
    (h : wpHi P l.toArray S (fun a' => wpAnyH P .any l.toArray (NoPanic Q) S (l.length - is.length) (marksi is (Array.replicate l.length false)) a' w.drew) is a) : (Code.region id l.toArray true).wp P Q a w := by
  simp only [Bool.and_eq_true, decide_eq_true_eq] at hB
  obtain ⟨⟨hs, hn⟩, hlex⟩ := hB
  refine wp_region_noPanic (wp_region_held_drew (S := S) hm hS (fun hS => ?_))
  have H := wpAnyH_heads (md := .any) (listed := Array.replicate l.length false) (fuel := l.length - is.length) (a := a) hS hs (fun _ _ _ _ _ h => h) is hlex h
  rw [show is.length + (l.length - is.length) = l.length by omega] at H
  simpa using H
end
end Go.Proofs.YtjgloineooadoaaGreatDoor
/- The heap's functions at one element type, what each call does: how many, which comes ahead, an exchange. No condition but that the heap is one. -/
namespace Go.Proofs.YtjgloineooadoaaGreatDoor.HRch
open Go.RowKit
abbrev El := Int × Int
def enc (a : El × Int) : List Value := [.int .i64 a.1.1, .int .i64 a.1.2, .int .i64 a.2]
theorem enc_length (a : El × Int) : (enc a).length = 3 := rfl
abbrev Rep (w : World) (hb : Nat) (F V : Value) (t : Int) (base : Nat) (l : List (El × Int)) : Prop := HRep 112 141 3 enc w hb F V t base l
/-- What a call of what is less does. -/
structure Less (lf : Nat) (lt : El → El → Bool) : Prop where
  enter : ∀ (args : Array Value) (w : World), (callFunc lf args).run Tryz.prog w = .ok (.enter lf args) w
  calls : ∀ (a b : El) (w : World), Calls Tryz.prog lf #[.agg #[.int .i64 a.1, .int .i64 a.2], .agg #[.int .i64 b.1, .int .i64 b.2]] w fun e w' => e = .returned (.bool (lt a b)) ∧ Below w.heap.size w w'

set_option maxHeartbeats 400000 in
theorem len_any {w : World} {hb : Nat} {F V : Value} {t : Int} {base : Nat} {l : List (El × Int)} (H : Rep w hb F V t base l) :
    Calls Tryz.prog 81 #[.pointer (some ⟨hb, 0, none⟩)] w fun e w' => e = .returned (.int .i64 (l.length : Int)) ∧ w = w' := by
  have h1 : ∃ A cap, V = .slice A l.length cap := by
    rcases H.row.2 with ⟨h, h0⟩ | ⟨g, cap, cur, h, _⟩
    · exact ⟨none, 0, by rw [h, h0]⟩
    · exact ⟨_, cap, h⟩
  obtain ⟨A, cap, rfl⟩ := h1
  have c1 := (Cl.of_block H.blk (j := 1) (v := .slice A l.length cap) rfl).cell
  go_enter Tryz.func81, Tryz.ntmps81
  go_wp2
  go_ret
  exact ⟨rfl, rfl⟩
set_option maxHeartbeats 400000 in
theorem len_nil (w : World) : Calls Tryz.prog 81 #[.pointer none] w fun e w' => e = .returned (.int .i64 0) ∧ w = w' := by
  go_enter Tryz.func81, Tryz.ntmps81
  go_wp2
  go_ret
  exact ⟨rfl, rfl⟩

theorem two_blocks (w : World) (X Y : Obj) : Below w.heap.size w ((w.alloc X).alloc Y).drew ∧ ((w.alloc X).alloc Y).drew.heap[w.heap.size]? = some X ∧ ((w.alloc X).alloc Y).drew.heap[w.heap.size + 1]? = some Y :=
  ⟨(((Below.refl _ _).alloc (Nat.le_refl _) _).alloc (by simp) _).drew, (Below.heap_alloc _ _ _ (by simp)).trans (heap_at rfl), heap_at (by simp)⟩
set_option maxRecDepth 100000 in
set_option maxHeartbeats 1000000 in
theorem ahead_any {lf : Nat} {lt : El → El → Bool} (hless : Less lf lt) {w : World} {hb : Nat} {V : Value} {t : Int} {base : Nat} {l : List (El × Int)}
    (H : Rep w hb (.func (.func lf) #[] #[]) V t base l) (i k : Int) (i0 : 0 ≤ i) (i1 : i < l.length) (k0 : 0 ≤ k) (k1 : k < l.length) :
    Calls Tryz.prog 82 #[.pointer (some ⟨hb, 0, none⟩), .int .i64 i, .int .i64 k] w fun e w' => e = .returned (.bool (ahd lt l[i.toNat]! l[k.toNat]!)) ∧ Below w.heap.size w w' := by
  obtain ⟨g, cap, rfl, hg, hgl, hne⟩ := H.slice (by omega)
  obtain ⟨a, ha⟩ : ∃ a, l[i.toNat]? = some a := ⟨_, List.getElem?_eq_getElem (by omega)⟩
  obtain ⟨b, hb'⟩ : ∃ b, l[k.toNat]? = some b := ⟨_, List.getElem?_eq_getElem (by omega)⟩
  have HR : Hid (ahd lt l[i.toNat]! l[k.toNat]! = ahd lt a b) := by unfold Hid; simp [getElem!_def, ha, hb']
  have cF := (Cl.of_block H.blk (j := 0) (v := .func (.func lf) #[] #[]) rfl).cell
  have cV := (Cl.of_block H.blk (j := 1) (v := .slice (some ⟨g, 0, none⟩) l.length cap) rfl).cell
  have ca0 := (H.item enc_length rfl ha (r := 0) (by omega) (v := .int .i64 a.1.1) rfl).cell
  rw [Nat.add_zero] at ca0
  have ca1 := (H.item enc_length rfl ha (r := 1) (by omega) (v := .int .i64 a.1.2) rfl).cell
  have ca2 := (H.item enc_length rfl ha (r := 2) (by omega) (v := .int .i64 a.2) rfl).cell
  have cb0 := (H.item enc_length rfl hb' (r := 0) (by omega) (v := .int .i64 b.1.1) rfl).cell
  rw [Nat.add_zero] at cb0
  have cb1 := (H.item enc_length rfl hb' (r := 1) (by omega) (v := .int .i64 b.1.2) rfl).cell
  have cb2 := (H.item enc_length rfl hb' (r := 2) (by omega) (v := .int .i64 b.2) rfl).cell
  have z1 := H.lt
  have z2 := hgl
  have z3 : hb < w.heap.size + 1 := by omega
  have z4 : g < w.heap.size + 1 := by omega
  have HL := Lib.hid hless
  clear H hless ha hb'
  go_enter Tryz.func82, Tryz.ntmps82
  go_upto_region 1 with fail
  go_cut [7, 8] (fun p q wx => ∃ b1 b2 : Nat, p = .pointer (some ⟨b1, 0, none⟩) ∧ q = .pointer (some ⟨b2, 0, none⟩) ∧ Below w.heap.size w wx ∧ wx.heap[b1]? = some (.cells #[.int .i64 a.1.1, .int .i64 a.1.2, .int .i64 a.2] 141) ∧ wx.heap[b2]? = some (.cells #[.int .i64 b.1.1, .int .i64 b.1.2, .int .i64 b.2] 141))
  case first =>
    have T1 := two_blocks w (.cells #[.int .i64 a.1.1, .int .i64 a.1.2, .int .i64 a.2] 141) (.cells #[.int .i64 b.1.1, .int .i64 b.1.2, .int .i64 b.2] 141)
    have T2 := two_blocks w (.cells #[.int .i64 b.1.1, .int .i64 b.1.2, .int .i64 b.2] 141) (.cells #[.int .i64 a.1.1, .int .i64 a.1.2, .int .i64 a.2] 141)
    have T1' := Lib.hid T1
    have T2' := Lib.hid T2
    clear T1 T2
    go_region
    · go_wp2_with fail
      go_meet
      exact ⟨_, _, rfl, rfl, T1'.out.1, T1'.out.2.1, T1'.out.2.2⟩
    · go_wp2_with fail
      go_meet
      exact ⟨_, _, rfl, rfl, T2'.out.1, T2'.out.2.2, T2'.out.2.1⟩
  case rest =>
    rename World => wA
    obtain ⟨b1, b2, rfl, rfl, hw, h1, h2⟩ := hcut
    have HW := Lib.hid hw
    have H1 := Lib.hid h1
    have H2 := Lib.hid h2
    have cF' := cell_later hw cF
    have da0 := (Cl.of_block h1 (j := 0) (v := .int .i64 a.1.1) rfl).cell
    have da1 := (Cl.of_block h1 (j := 1) (v := .int .i64 a.1.2) rfl).cell
    have da2 := (Cl.of_block h1 (j := 2) (v := .int .i64 a.2) rfl).cell
    have db0 := (Cl.of_block h2 (j := 0) (v := .int .i64 b.1.1) rfl).cell
    have db1 := (Cl.of_block h2 (j := 1) (v := .int .i64 b.1.2) rfl).cell
    have db2 := (Cl.of_block h2 (j := 2) (v := .int .i64 b.2) rfl).cell
    clear ca0 cV cF hw h1 h2
    go_upto_region 2 with fail
    go_cut [31] (fun r wx => r = .bool (lt a.1 b.1) ∧ Below wA.heap.size wA wx)
    case first =>
      have HE := HL.out.enter
      go_still_tail 8, (by kernel_rfl)
      change wpList _ _ _ _ _ wA.drew
      generalize hwd : wA.drew = w2
      have HD := Lib.hid hwd
      clear hwd da0 db0 cF'
      go_wp2_with fail
      refine (HL.out.calls a.1 b.1 _).mono ?_
      rintro e w' ⟨rfl, hbw⟩
      go_wp2_with fail
      go_meet
      exact ⟨rfl, by rw [← HD.out] at hbw; exact (Below.refl _ _).drew.trans hbw⟩
    case rest =>
      rename World => wB
      obtain ⟨rfl, hw1⟩ := hcut
      have cF2 := cell_later hw1 cF'
      have g1 := block_later hw1 H1.out
      have g2 := block_later hw1 H2.out
      have HB := Lib.hid (below_then HW.out HW.out.size hw1)
      obtain ⟨x1, hx1⟩ : ∃ x, lt a.1 b.1 = x := ⟨_, rfl⟩
      rw [hx1]
      have HX := Lib.hid hx1
      clear hx1 ca1 ca2 cb0 cb1 cb2 da0 db0
      cases x1
      · obtain ⟨x2, hx2⟩ : ∃ x, lt b.1 a.1 = x := ⟨_, rfl⟩
        have HX2 := Lib.hid hx2
        clear hx2
        have ea0 := (Cl.of_block g1 (j := 0) (v := .int .i64 a.1.1) rfl).cell
        have ea1 := (Cl.of_block g1 (j := 1) (v := .int .i64 a.1.2) rfl).cell
        have ea2 := (Cl.of_block g1 (j := 2) (v := .int .i64 a.2) rfl).cell
        have eb0 := (Cl.of_block g2 (j := 0) (v := .int .i64 b.1.1) rfl).cell
        have eb1 := (Cl.of_block g2 (j := 1) (v := .int .i64 b.1.2) rfl).cell
        have eb2 := (Cl.of_block g2 (j := 2) (v := .int .i64 b.2) rfl).cell
        have hB := HB.out.size
        have f0 := grow_cell cF2
        have fea0 := grow_cell ea0
        have fea1 := grow_cell ea1
        have fea2 := grow_cell ea2
        have feb0 := grow_cell eb0
        have feb1 := grow_cell eb1
        have feb2 := grow_cell eb2
        have HF : Hid (ahd lt l[i.toNat]! l[k.toNat]! = (!x2 && decide (a.2 < b.2))) := by show _ = _; rw [HR.out]; simp [ahd, HX.out, HX2.out]
        have HC : Hid (∀ W : World, Calls Tryz.prog lf #[.agg #[.int .i64 b.1.1, .int .i64 b.1.2], .agg #[.int .i64 a.1.1, .int .i64 a.1.2]] W fun e w' => e = .returned (.bool x2) ∧ Below W.heap.size W w') := by rw [← HX2.out]; exact fun W => HL.out.calls b.1 a.1 W
        have HE := HL.out.enter
        go_upto_region 4 with fail
        clear ea0 eb0 cF2 hw1 g1 g2 HX2
        cases x2
        all_goals
          refine wp_region_grow (by kernel_rfl) (by kernel_rfl) ?_
          repeat (quiet_step (exact grow_calls (HC.out _)))
          refine wpQuiet_nil ?_
          rintro _ ⟨X, rfl⟩
          go_wp2_with fail
          go_ret
          exact ⟨ret_bool (by rw [HF.out]; simp), below_then HB.out hB (grow_below _ _)⟩
      · go_wp2_with fail
        go_ret
        exact ⟨ret_bool (by rw [HR.out]; simp [ahd, HX.out]), HB.out⟩
end Go.Proofs.YtjgloineooadoaaGreatDoor.HRch
