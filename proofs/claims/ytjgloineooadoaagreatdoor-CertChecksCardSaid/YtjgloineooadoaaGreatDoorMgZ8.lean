/- A search begins: from all nodes with something left. -/
import Derived.Test.YtjgloineooadoaaGreatDoorMgZ7
import Derived.Deep.LoopGhost
import Derived.Test.YtjgloineooadoaaGreatDoorMgZ4
import Derived.Test.YtjgloineooadoaaGreatDoorMgZ6
namespace Go.Proofs.YtjgloineooadoaaGreatDoor
open Go.RowKit
abbrev Item := (Int × Int) × Int
/-- The first k nodes are laid. -/
structure Bg (left : Nat → Int) (k : Nat) (far : Nat → Int) (came : Nat → Stp) (cl : Nat → Bool) (items : List Item) (t : Int) : Prop where
  p1 : ∀ v, v < k → 0 < left v → far v = 0 ∧ (came v).1 = -1
  p2 : ∀ v, v < k → ¬ 0 < left v → far v = -1
  p3 : ∀ v, v < k → cl v = false
  p4 : ∀ p ∈ items, ∃ v : Nat, v < k ∧ p.1 = ((v : Int), 0) ∧ 0 < left v
  p5 : ∀ v, v < k → 0 < left v → ∃ p ∈ items, p.1 = ((v : Int), 0)
  hp : Heapy ltR items
  tt : 0 ≤ t ∧ t ≤ k ∧ (items.length : Int) ≤ t
theorem Bg.nil (left far : Nat → Int) (came : Nat → Stp) (cl : Nat → Bool) : Bg left 0 far came cl [] 0 :=
  ⟨fun _ h => absurd h (by omega), fun _ h => absurd h (by omega), fun _ h => absurd h (by omega), by simp, fun _ h => absurd h (by omega), fun j _ hj => by simp at hj, by simp⟩
theorem totR : Tot ltR := by
  have f : ∀ {a b : Item}, ahd ltR a b = false ↔ (b.1.2 ≤ a.1.2 ∧ (a.1.2 ≤ b.1.2 → b.2 ≤ a.2)) := by
    intro a b
    unfold ahd ltR
    by_cases h1 : a.1.2 < b.1.2
    · simp [h1]; omega
    · by_cases h2 : b.1.2 < a.1.2
      · simp [h1, h2]; omega
      · simp [h1, h2]; omega
  have g : ∀ {a b : Item}, ahd ltR a b = true ↔ ¬ (b.1.2 ≤ a.1.2 ∧ (a.1.2 ≤ b.1.2 → b.2 ≤ a.2)) := by intro a b; rw [← f]; simp
  refine ⟨fun a b h => ?_, fun a b c h1 h2 => ?_⟩
  · rw [g] at h; rw [f]; omega
  · rw [f] at *; omega
theorem head_minR {a : Item} {r : List Item} (h : Heapy ltR (a :: r)) : ∀ p ∈ a :: r, a.1.2 ≤ p.1.2 := by
  intro p hp
  obtain ⟨j, hj, rfl⟩ := List.mem_iff_getElem.1 hp
  have := heapy_min totR h j hj
  rw [getElem!_pos (a :: r) j hj, getElem!_pos (a :: r) 0 (by simp)] at this
  unfold ahd ltR at this
  simp only [List.getElem_cons_zero] at this
  by_cases h1 : (a :: r)[j].1.2 < a.1.2
  · simp [h1] at this
  · omega
section
variable {left far : Nat → Int} {came : Nat → Stp} {cl : Nat → Bool} {items : List Item} {t : Int} {k : Nat}
theorem Bg.reset (h : Bg left k far came cl items t) (hl : ¬ 0 < left k) : Bg left (k + 1) (upd far k (-1)) came (upd cl k false) items t := by
  refine ⟨fun v hv hp => ?_, fun v hv hp => ?_, fun v hv => ?_, fun p hp => ?_, fun v hv hp => ?_, h.hp, ?_⟩
  · by_cases e : v = k
    · subst e; exact absurd hp hl
    · simp only [upd, if_neg e]; exact h.p1 v (by omega) hp
  · by_cases e : v = k
    · simp [upd, e]
    · simp only [upd, if_neg e]; exact h.p2 v (by omega) hp
  · by_cases e : v = k
    · simp [upd, e]
    · simp only [upd, if_neg e]; exact h.p3 v (by omega)
  · obtain ⟨v, h1, h2⟩ := h.p4 p hp; exact ⟨v, by omega, h2⟩
  · by_cases e : v = k
    · subst e; exact absurd hp hl
    · exact h.p5 v (by omega) hp
  · have := h.tt; omega
theorem Bg.meet (h : Bg left k far came cl items t) (hl : 0 < left k) : Bg left (k + 1) (upd (upd far k (-1)) k 0) (upd came k (-1, false)) (upd cl k false) (pushL ltR items ((k : Int), 0) (t + 1)) (t + 1) := by
  have hm : ∀ p, p ∈ pushL ltR items ((k : Int), 0) (t + 1) ↔ p ∈ items ∨ p = (((k : Int), 0), t + 1) := fun p => by
    rw [(push_perm items ((k : Int), (0 : Int)) (t + 1)).mem_iff, List.mem_append]; simp
  refine ⟨fun v hv hp => ?_, fun v hv hp => ?_, fun v hv => ?_, fun p hp => ?_, fun v hv hp => ?_, push_heapy totR h.hp _ _, ?_⟩
  · by_cases e : v = k
    · simp [upd, e]
    · simp only [upd, if_neg e]; exact h.p1 v (by omega) hp
  · by_cases e : v = k
    · subst e; exact absurd hl hp
    · simp only [upd, if_neg e]; exact h.p2 v (by omega) hp
  · by_cases e : v = k
    · simp [upd, e]
    · simp only [upd, if_neg e]; exact h.p3 v (by omega)
  · rcases (hm p).1 hp with hp | rfl
    · obtain ⟨v, h1, h2⟩ := h.p4 p hp; exact ⟨v, by omega, h2⟩
    · exact ⟨k, by omega, rfl, hl⟩
  · by_cases e : v = k
    · subst e; exact ⟨_, (hm _).2 (.inr rfl), rfl⟩
    · obtain ⟨p, h1, h2⟩ := h.p5 v (by omega) hp; exact ⟨p, (hm p).2 (.inl h1), h2⟩
  · have := h.tt
    have e := (push_perm (lt := ltR) items ((k : Int), (0 : Int)) (t + 1)).length_eq
    simp at e
    omega
end
section
variable {s : Sv} {w : World} {left fl x far : Nat → Int} {came : Nat → Stp} {cl : Nat → Bool}
abbrev LF : Value := .func (.func 59) #[] #[]
theorem apart_of {w0 w : World} {V : Value} {hb : Nat} {t : Int} {l : List Item} (h : s.st w0 left fl x far came cl) (H : HRch.Rep w hb LF V t w0.heap.size l) (hh : w0.heap.size ≤ hb) : Apart s hb V := fun b hb' => by
  have := h.lt b hb'
  exact ⟨by omega, fun e => by have := own_ge H.row e; omega⟩
set_option maxRecDepth 100000 in
set_option maxHeartbeats 4000000 in
theorem start_any (h : s.st w left fl x far came cl) (k : s.ok) :
    Calls Tryz.prog 36 #[.pointer (some ⟨s.sb, 0, none⟩)] w fun e w' => e = .returned (.pointer (some ⟨w.heap.size, 0, none⟩)) ∧ ∃ far' came' cl' V' t items, s.st w' left fl x far' came' cl' ∧ HRch.Rep w' w.heap.size LF V' t w.heap.size items ∧ Bg left s.n far' came' cl' items t ∧ Chg (fun b => b = s.br ∨ b = s.bm ∨ b = s.bc) w w' := by
  have hn1 := k.g.n1
  have HS := Lib.hid h
  have HK := Lib.hid k
  have hap := k.ap
  simp only [List.nodup_cons, List.mem_cons, List.not_mem_nil, or_false, not_or] at hap
  have HAP := Lib.hid hap
  have HLT := Lib.hid h.lt
  clear h k hap
  go_enter Tryz.func36, Tryz.ntmps36
  go_wp2_with fail
  refine (HRch.new_any 59 w).mono ?_
  rintro e w1 ⟨rfl, hw1⟩
  have H1 : HRch.Rep w1 w.heap.size LF (.slice none 0 0) 0 w.heap.size [] := by rw [hw1]; exact HRch.new_rep _ _ _
  have B1 : Below w.heap.size w w1 := by rw [hw1]; exact (Below.refl _ _).alloc (Nat.le_refl _) _
  have S1 := HS.out.later B1
  obtain ⟨-, -, -, d3, -, -, -, -, -⟩ := S1.ro.cells
  have HS1 := Lib.hid S1
  have HH1 := Lib.hid H1
  have HB1 := Lib.hid B1
  clear S1 H1 hw1 B1
  go_wp2_with fail
  clear d3
  go_loopw [11] (fun q wr => ∃ (k : Nat) (far' : Nat → Int) (came' : Nat → Stp) (cl' : Nat → Bool) (V : Value) (t : Int) (items : List Item), k ≤ s.n ∧ q = .int .i64 k ∧ s.st wr left fl x far' came' cl' ∧ HRch.Rep wr w.heap.size LF V t w.heap.size items ∧ Hid (Bg left k far' came' cl' items t) ∧ Chg (fun b => b = s.br ∨ b = s.bm ∨ b = s.bc) w wr) (fun q _ => s.n - (intOf q).toNat)
  case atStart => exact ⟨0, far, came, cl, _, 0, [], by omega, rfl, HS1.out, HH1.out, Lib.hid (Bg.nil _ _ _ _), chg_below HB1.out _⟩
  case round =>
    obtain ⟨k, far', came', cl', V, t, items, hk, rfl, S, H, hB, C⟩ := hrel
    obtain ⟨wo, rfl⟩ : ∃ x : World, x = wr := ⟨_, rfl⟩
    by_cases hkn : k < s.n
    · have hd : decide ((k : Int) < s.n) = true := by simp; omega
      obtain ⟨-, -, -, d3, -, -, d6, -, d8⟩ := S.ro.cells
      have q1 := S.far.cell hkn
      have f1 := S.far.frozen k
      have i1 : (0 : Int) ≤ (k : Int) := by omega
      have i2 : (k : Int) < (s.n : Int) := by omega
      have HSo := Lib.hid S
      have HHo := Lib.hid H
      have HCo := Lib.hid C
      clear S H C
      go_upto_region 5 with fail
      refine wp_region_heads [0, 1, 2, 3, 4, 5, 6, 7, 8, 9, 10] (fun w' => w'.cell? ⟨s.sb, 6, none⟩ = some (.slice (some ⟨s.br, 0, none⟩) s.n s.n) ∧ w'.cell? ⟨s.sb, 8, none⟩ = some (.slice (some ⟨s.bc, 0, none⟩) s.n s.n)) (by kernel_rfl) (by kernel_rfl) ⟨d6, d8⟩ ?_
      iterate 11 (refine wpHi_cons (v := ?_) rfl (by rfl) (fun wS hwS => ?_) ?_; rotate_left 1; focus ((try dsimp only at hwS); go_simp; try with_reducible rfl); (try simp only [Act.put, List.setIfInBounds_toArray, List.set_cons_zero, List.set_cons_succ]))
      refine wpHi_nil ?_
      change wpAnyH _ _ _ _ _ 3 _ _ _
      refine wpAnyH_ready (rs := [11]) (by kernel_rfl) (by simp) (AllReadyH.cons rfl (fun K hK => ?_) AllReadyH.nil)
      go_simp
      have c1 := chg_set wo ⟨s.br, k, none⟩ (.int .i64 (-1))
      have n1 : s.sb ≠ s.br := fun e => HK.out.rd _ HSo.out.ro.rs (by rw [e]; simp)
      have n2 : s.sb ≠ s.bc := fun e => HK.out.rd _ HSo.out.ro.rs (by rw [e]; simp)
      refine hK.out _ _ ⟨cell_chg c1 d6 n1, cell_chg c1 d8 n1⟩ (fun hHeld => ?_)
      clear hK K hHeld
      refine wpAnyH_ready (rs := [12]) (by kernel_rfl) (by simp) (AllReadyH.cons rfl (fun K hK => ?_) AllReadyH.nil)
      go_simp
      refine hK.out _ _ ⟨cell_chg c1 d6 n1, cell_chg c1 d8 n1⟩ (fun hHeld => ?_)
      clear hK K hHeld
      have RM := row_set_ne (p := ⟨s.br, k, none⟩) (v := .int .i64 (-1)) HSo.out.cl (fun e => HAP.out.2.2.2.1.2 e.symm)
      have e1 := RM.cell hkn
      have e3 := RM.frozen k
      refine wpAnyH_ready (rs := [13]) (by kernel_rfl) (by simp) (AllReadyH.cons rfl (fun K hK => ?_) AllReadyH.nil)
      go_simp
      obtain ⟨w2, hw2⟩ : ∃ w2, ((wo.setCell ⟨s.br, k, none⟩ (.int .i64 (-1))).setCell ⟨s.bc, k, none⟩ (.bool false)).drew = w2 := ⟨_, rfl⟩
      have c2 : Chg (fun b => b = s.br ∨ b = s.bc) wo w2 := by
        rw [← hw2]
        exact (((Chg.refl (fun b => b = s.br ∨ b = s.bc) wo).setCell (p := ⟨s.br, k, none⟩) (fun _ => .inl rfl) (.int .i64 (-1))).setCell (p := ⟨s.bc, k, none⟩) (fun _ => .inr rfl) (.bool false)).drew
      have hro : ∀ b, s.R b → ¬ (b = s.br ∨ b = s.bc) := fun b hb e => HK.out.rd b hb (by rcases e with e | e <;> rw [e] <;> simp)
      have S2 : s.st w2 left fl x (upd far' k (-1)) came' (upd cl' k false) := by
        obtain ⟨p1, p2, p3, p4, p5, -⟩ := HAP.out
        refine ⟨HSo.out.ro.chg c2 hro, row_chg HSo.out.left c2 (by rintro (e | e); exact p1.2.2.1 e; exact p1.2.2.2.2 e), row_chg HSo.out.fl c2 (by rintro (e | e); exact p2.2.1 e; exact p2.2.2.2 e), row_chg HSo.out.x c2 (by rintro (e | e); exact p3.1 e; exact p3.2.2 e), ?_, row_chg HSo.out.came c2 (by rintro (e | e); exact p4.1 e.symm; exact p5 e), ?_⟩
        · rw [← hw2]
          exact (row_set_ne (row_upd (F := fun z => .int .i64 z) HSo.out.far k (-1)) p4.2).of_block rfl
        · rw [← hw2]
          exact (row_updB RM k false).of_block rfl
      have hap2 := apart_of HS.out HHo.out (Nat.le_refl _)
      have H2 := HHo.out.chg c2 (by rintro (e | e); exact (hap2 s.br (.inr (by simp))).1 e.symm; exact (hap2 s.bc (.inr (by simp))).1 e.symm) (fun q hq e => by rcases e with e | e; exact (hap2 s.br (.inr (by simp))).2 (by rw [hq, e]); exact (hap2 s.bc (.inr (by simp))).2 (by rw [hq, e]))
      have HS2 := Lib.hid S2
      have HH2 := Lib.hid H2
      have HC2 := Lib.hid (HCo.out.trans c2 (fun b _ h => by rcases h with h | h; exact .inl h; exact .inr (.inr h)))
      have HA2 := Lib.hid hap2
      rw [hw2]
      refine hK.out _ _ ⟨cell_chg c2 d6 (hro _ HSo.out.ro.rs), cell_chg c2 d8 (hro _ HSo.out.ro.rs)⟩ (fun hHeld => ?_)
      clear hK K hHeld
      refine wpAnyH_done (by kernel_rfl) (NoPanic.normal ?_) _
      clear RM e1 e3 c1 c2 S2 H2 f1 d3 d6 d8 q1 hw2 hap2 n1 n2 hro
      obtain ⟨-, -, -, d3, -, -, -, -, -⟩ := HS2.out.ro.cells
      have q2 := HS2.out.left.cell hkn
      by_cases hl : 0 < left k
      · have hlt : decide (0 < left k) = true := by simp; exact hl
        go_wp2_with fail
        obtain ⟨t1, t2, t3⟩ := hB.out.tt
        refine (meet_new HS2.out HK.out HH2.out HA2.out (by omega) (by omega) (by omega) (by have := HC2.out.size; omega) k hkn 0 (-1, false) (.inl (by simp [upd]))).mono ?_
        rintro e w3 ⟨rfl, S3, ⟨V', -, H3⟩, C3⟩
        have HF := Lib.hid (And.intro S3 (And.intro H3 (HC2.out.trans C3 (fun b hb h => by
          rcases h with h | h | h | h
          · exact .inl h
          · exact .inr (.inl h)
          · exact absurd hb (by omega)
          · have := own_ge HH2.out.row h; exact absurd hb (by omega)))))
        have HBg := Lib.hid (hB.out.meet hl)
        clear S3 H3 C3
        go_wp2_with fail
        exact ⟨⟨k + 1, _, _, _, _, _, _, by omega, by go_num, HF.out.1, HF.out.2.1, HBg, HF.out.2.2⟩, by simp [intOf]; omega⟩
      · have hlt : decide (0 < left k) = false := by simp; omega
        go_wp2_with fail
        exact ⟨⟨k + 1, _, _, _, _, _, _, by omega, by go_num, HS2.out, HH2.out, Lib.hid (hB.out.reset hl), HC2.out⟩, by simp [intOf]; omega⟩
    · obtain rfl : k = s.n := by omega
      have hd : decide ((s.n : Int) < s.n) = false := by simp
      go_wp2_with fail
      go_ret
      exact ⟨rfl, far', came', cl', V, t, items, S, H, hB.out, C⟩
end
end Go.Proofs.YtjgloineooadoaaGreatDoor
/- A search for the nearest node that lacks something. -/
namespace Go.Proofs.YtjgloineooadoaaGreatDoor
open Go.RowKit
/-- No such node: what is closed is all that can be reached. -/
structure Fin (G : Gf) (left fl : Nat → Int) (cl : Nat → Bool) : Prop where
  o : ∀ i, i < G.m → cl (G.fr i) = true → cl (G.tt i) = true
  i : ∀ i, i < G.m → 0 < fl i → cl (G.tt i) = true → cl (G.fr i) = true
  p : ∀ v, v < G.n → 0 < left v → cl v = true
  n : ∀ v, v < G.n → cl v = true → 0 ≤ left v
theorem Srch.fin {G : Gf} {left fl x far : Nat → Int} {came : Nat → Stp} {cl : Nat → Bool} {ord : List Nat} {D : Int} (S : Srch G left fl x far came cl ord D [] (fun _ _ => True) (fun _ _ => True)) (hG : G.ok) (hn : ∀ v ∈ ord, 0 ≤ left v) : Fin G left fl cl := by
  have key : ∀ v, v < G.n → far v ≠ -1 → v ∈ ord := fun v hv hf => Classical.byContradiction (fun h => by
    obtain ⟨p, hp, _⟩ := S.met v hv hf h
    cases hp)
  refine ⟨fun i hi h => ?_, fun i hi hf h => ?_, fun v hv h => ?_, fun v hv h => hn v ((S.cli v hv).1 h)⟩
  · have b1 := hG.f i hi
    have b2 := hG.t i hi
    exact (S.cli _ b2).2 (key _ b2 (S.out _ ((S.cli _ b1).1 h) i hi rfl trivial).1)
  · have b1 := hG.f i hi
    have b2 := hG.t i hi
    exact (S.cli _ b1).2 (key _ b1 (S.inn _ ((S.cli _ b2).1 h) i hi rfl trivial hf).1)
  · exact (S.cli v hv).2 (key v hv (by have := S.st v hv h; omega))
theorem Srch.weak2 {G : Gf} {left fl x far : Nat → Int} {came : Nat → Stp} {cl : Nat → Bool} {ord : List Nat} {D : Int} {items : List Item} {DO DI DO' DI' : Nat → Nat → Prop} (S : Srch G left fl x far came cl ord D items DO DI) (h1 : ∀ i, i < G.m → G.fr i ∈ ord → DO' (G.fr i) i → DO (G.fr i) i) (h2 : ∀ i, i < G.m → G.tt i ∈ ord → DI' (G.tt i) i → DI (G.tt i) i) :
    Srch G left fl x far came cl ord D items DO' DI' :=
  { S with out := fun v hv i hi e hd => by subst e; exact S.out _ hv i hi rfl (h1 i hi hv hd), inn := fun v hv i hi e hd => by subst e; exact S.inn _ hv i hi rfl (h2 i hi hv hd) }
section
variable (s : Sv) (w0 : World) (left fl x : Nat → Int) (hb : Nat)
/-- While a node's arcs are gone through. -/
def MI (ord : List Nat) (u : Nat) (D : Int) (I0 T0 bx : Nat) (cl : Nat → Bool) (DO DI : Nat → Nat → Prop) (j : Nat) (wr : World) : Prop :=
  ∃ (far : Nat → Int) (came : Nat → Stp) (V : Value) (t : Int) (items : List Item), s.st wr left fl x far came cl ∧ HRch.Rep wr hb LF V t w0.heap.size items ∧ Heapy ltR items ∧ Srch s.G left fl x far came cl ord D items DO DI ∧ far u = D ∧ 0 ≤ t ∧ t ≤ T0 + j ∧ items.length ≤ I0 + j ∧ (items.length : Int) ≤ t ∧ Chg (fun b => b = s.br ∨ b = s.bm ∨ b = s.bc) w0 wr ∧ wr.heap[bx]? = some (.cells #[.int .i64 (u : Int), .int .i64 D] 85)
/-- At the head of the search's loop: what was popped last. -/
def SI (g : Nat) (node d : Int) (ok : Bool) (bx : Nat) (wr : World) : Prop :=
  ∃ (far : Nat → Int) (came : Nat → Stp) (cl : Nat → Bool) (V : Value) (t : Int) (items : List Item) (ord : List Nat) (D : Int), s.st wr left fl x far came cl ∧ HRch.Rep wr hb LF V t w0.heap.size items ∧ Heapy ltR items ∧ (∀ v ∈ ord, 0 ≤ left v) ∧
    0 ≤ t ∧ t ≤ s.n + 2 * s.L.length * ord.length ∧ (items.length : Int) ≤ t ∧ Chg (fun b => b = s.br ∨ b = s.bm ∨ b = s.bc) w0 wr ∧ wr.heap[bx]? = some (.cells #[.int .i64 node, .int .i64 d] 85) ∧ w0.heap.size ≤ bx ∧
    (s.n - ord.length) * (2 * s.L.length + 1) + items.length + (if ok = true then 1 else 0) ≤ g ∧
    (if ok = true then ∃ (a : Item) (r : List Item), a.1 = (node, d) ∧ items.Perm r ∧ (∀ p ∈ a :: r, d ≤ p.1.2) ∧ Srch s.G left fl x far came cl ord D (a :: r) (fun _ _ => True) (fun _ _ => True) else Srch s.G left fl x far came cl ord D [] (fun _ _ => True) (fun _ _ => True))
end
section
variable {s : Sv} {w0 : World} {left fl x : Nat → Int} {hb : Nat}
/-- The next one is popped. -/
theorem SI.pop {far : Nat → Int} {came : Nat → Stp} {cl : Nat → Bool} {V' : Value} {t : Int} {a : Item} {r : List Item} {ord : List Nat} {D : Int} {w1 : World} {bx g : Nat}
    (st : s.st w1 left fl x far came cl) (H : HRch.Rep w1 hb LF V' t w0.heap.size (popL ltR (a :: r))) (hp : Heapy ltR (a :: r)) (nn : ∀ v ∈ ord, 0 ≤ left v) (t0 : 0 ≤ t) (t1 : t ≤ s.n + 2 * s.L.length * ord.length) (t2 : ((a :: r).length : Int) ≤ t)
    (C : Chg (fun b => b = s.br ∨ b = s.bm ∨ b = s.bc) w0 w1) (hbx : w1.heap[bx]? = some (.cells #[.int .i64 a.1.1, .int .i64 a.1.2] 85)) (hb0 : w0.heap.size ≤ bx) (hg : (s.n - ord.length) * (2 * s.L.length + 1) + (a :: r).length ≤ g)
    (S : Srch s.G left fl x far came cl ord D (a :: r) (fun _ _ => True) (fun _ _ => True)) : SI s w0 left fl x hb g a.1.1 a.1.2 true bx w1 := by
  have pl := pop_perm (lt := ltR) a r
  have hl := pl.length_eq
  refine ⟨far, came, cl, V', t, popL ltR (a :: r), ord, D, st, H, pop_heapy totR hp, nn, t0, t1, ?_, C, hbx, hb0, ?_, ?_⟩
  · rw [hl]; simp only [List.length_cons] at t2; omega
  · rw [hl]; simp only [List.length_cons] at hg; simp only [if_true]; omega
  · rw [if_pos rfl]
    exact ⟨a, r, rfl, pl, head_minR hp, S⟩
theorem SI.stop {far : Nat → Int} {came : Nat → Stp} {cl : Nat → Bool} {V : Value} {t : Int} {ord : List Nat} {D node d : Int} {w1 : World} {bx g : Nat}
    (st : s.st w1 left fl x far came cl) (H : HRch.Rep w1 hb LF V t w0.heap.size []) (nn : ∀ v ∈ ord, 0 ≤ left v) (t0 : 0 ≤ t) (t1 : t ≤ s.n + 2 * s.L.length * ord.length)
    (C : Chg (fun b => b = s.br ∨ b = s.bm ∨ b = s.bc) w0 w1) (hbx : w1.heap[bx]? = some (.cells #[.int .i64 node, .int .i64 d] 85)) (hb0 : w0.heap.size ≤ bx) (hg : (s.n - ord.length) * (2 * s.L.length + 1) ≤ g)
    (S : Srch s.G left fl x far came cl ord D [] (fun _ _ => True) (fun _ _ => True)) : SI s w0 left fl x hb g node d false bx w1 :=
  ⟨far, came, cl, V, t, [], ord, D, st, H, fun j _ hj => by simp at hj, nn, t0, t1, by simpa using t0, C, hbx, hb0, by simpa using hg, by simpa using S⟩
/-- One arc more of the node that was closed last. -/
structure MB (s : Sv) (left fl x : Nat → Int) (ord : List Nat) (v : Nat) (D : Int) (I0 T0 : Nat) (cl : Nat → Bool) (DO DI DO' DI' : Nat → Nat → Prop) (j : Nat) (far : Nat → Int) (came : Nat → Stp) (t : Int) (items : List Item) (y : Stp) (i q : Nat) (d : Int) : Prop where
  hp : Heapy ltR items
  S : Srch s.G left fl x far came cl ord D items DO DI
  fu : far v = D
  t0 : 0 ≤ t
  t1 : t ≤ T0 + j
  t2 : items.length ≤ I0 + j
  t3 : (items.length : Int) ≤ t
  k : s.ok
  P : Pot s.G fl x
  vo : v ∈ ord
  la : ord.idxOf v + 1 = ord.length
  hi : i < s.L.length
  hs : y.1 = i
  hq : hdv s.G y = q
  hv : prv s.G y = v
  hb : y.2 = true → 0 < fl i
  hd : d = D + cst s.G x y
  sw : ∀ (far : Nat → Int) (came : Nat → Stp) (items : List Item), Srch s.G left fl x far came cl ord D items DO DI → far v = D → far q ≠ -1 → far q ≤ d → Srch s.G left fl x far came cl ord D items DO' DI'
theorem MI.new {ord : List Nat} {v : Nat} {D : Int} {I0 T0 bx : Nat} {cl : Nat → Bool} {DO DI DO' DI' : Nat → Nat → Prop} {j : Nat} {far : Nat → Int} {came : Nat → Stp} {t : Int} {items : List Item} {y : Stp} {i q : Nat} {d : Int} {w5 : World} {V5 : Value}
    (M : MB s left fl x ord v D I0 T0 cl DO DI DO' DI' j far came t items y i q d) (hnew : far q = -1 ∨ d < far q)
    (h : s.st w5 left fl x (upd far q d) (upd came q y) cl ∧ HRch.Rep w5 hb LF V5 (t + 1) w0.heap.size (pushL ltR items ((q : Int), d) (t + 1)) ∧ w5.heap[bx]? = some (.cells #[.int .i64 (v : Int), .int .i64 D] 85)) (C : Chg (fun b => b = s.br ∨ b = s.bm ∨ b = s.bc) w0 w5) :
    MI s w0 left fl x hb ord v D I0 T0 bx cl DO' DI' (j + 1) w5 := by
  have pp := push_perm (lt := ltR) items ((q : Int), d) (t + 1)
  have pl := pp.length_eq
  simp at pl
  obtain ⟨S1, e1, hDd, hqo⟩ := M.S.meet M.k.g.g M.P M.hi M.hs M.hq M.hv M.vo M.fu M.la M.hb (by rw [M.fu]; exact M.hd) hnew pp
  have hvq : v ≠ q := fun e => hqo (by rw [← e]; exact M.vo)
  have fv : upd far q d v = D := by simp [upd, hvq]; exact M.fu
  have d0 := M.S.d0
  have t1 := M.t1
  have t2 := M.t2
  have t3 := M.t3
  have t0 := M.t0
  refine ⟨_, _, V5, t + 1, _, h.1, h.2.1, push_heapy totR M.hp _ _, M.sw _ _ _ S1 fv (by rw [e1]; omega) (by rw [e1]; exact Int.le_refl _), fv, by omega, by omega, by omega, by omega, C, h.2.2⟩
theorem MI.old {ord : List Nat} {v : Nat} {D : Int} {I0 T0 bx : Nat} {cl : Nat → Bool} {DO DI DO' DI' : Nat → Nat → Prop} {j : Nat} {far : Nat → Int} {came : Nat → Stp} {V : Value} {t : Int} {items : List Item} {y : Stp} {i q : Nat} {d : Int} {wo w5 : World}
    (M : MB s left fl x ord v D I0 T0 cl DO DI DO' DI' j far came t items y i q d) (hold : far q ≠ -1 ∧ far q ≤ d) (st : s.st wo left fl x far came cl) (H : HRch.Rep wo hb LF V t w0.heap.size items) (C : Chg (fun b => b = s.br ∨ b = s.bm ∨ b = s.bc) w0 wo)
    (hbx : wo.heap[bx]? = some (.cells #[.int .i64 (v : Int), .int .i64 D] 85)) (B : Below wo.heap.size wo w5) :
    MI s w0 left fl x hb ord v D I0 T0 bx cl DO' DI' (j + 1) w5 := by
  have t1 := M.t1
  have t2 := M.t2
  refine ⟨far, came, V, t, items, st.later B, H.later B, M.hp, M.sw _ _ _ M.S M.fu hold.1 hold.2, M.fu, M.t0, by omega, by omega, M.t3, C.trans (chg_below B (fun b => b = s.br ∨ b = s.bm ∨ b = s.bc)) (fun b _ h => h), block_later B hbx⟩
/-- An arc along which nothing flows: it does not lead back. -/
theorem MI.skip {ord : List Nat} {v : Nat} {D : Int} {I0 T0 bx : Nat} {cl : Nat → Bool} {DO DI DO' DI' : Nat → Nat → Prop} {j : Nat} {wo w5 : World} (M : MI s w0 left fl x hb ord v D I0 T0 bx cl DO DI j wo) (B : Below wo.heap.size wo w5)
    (hS : ∀ (far : Nat → Int) (came : Nat → Stp) (items : List Item), Srch s.G left fl x far came cl ord D items DO DI → Srch s.G left fl x far came cl ord D items DO' DI') : MI s w0 left fl x hb ord v D I0 T0 bx cl DO' DI' (j + 1) w5 := by
  obtain ⟨far, came, V, t, items, st, H, hp, S, fu, t0, t1, t2, t3, C, hbx⟩ := M
  exact ⟨far, came, V, t, items, st.later B, H.later B, hp, hS _ _ _ S, fu, t0, by omega, by omega, t3, C.trans (chg_below B (fun b => b = s.br ∨ b = s.bm ∨ b = s.bc)) (fun b _ h => h), block_later B hbx⟩
/-- The box of what was popped is stored into. -/
theorem carry {far : Nat → Int} {came : Nat → Stp} {cl : Nat → Bool} {V : Value} {t : Int} {items : List Item} {w1 : World} {nb : Nat} {y0 y1 c0 c1 : Value} (st : s.st w1 left fl x far came cl) (H : HRch.Rep w1 hb LF V t w0.heap.size items) (C : Chg (fun b => b = s.br ∨ b = s.bm ∨ b = s.bc) w0 w1)
    (hl : ∀ b, (s.R b ∨ b ∈ [s.bl, s.bf, s.bx, s.br, s.bm, s.bc]) → b < w0.heap.size) (hbx : w1.heap[nb]? = some (.cells #[y0, y1] 85)) (hn : w0.heap.size ≤ nb) (hh : nb ≠ hb) (hV : V.ownBlock ≠ some nb) :
    s.st ((w1.setCell ⟨nb, 0, none⟩ c0).setCell ⟨nb, 1, none⟩ c1) left fl x far came cl ∧ HRch.Rep ((w1.setCell ⟨nb, 0, none⟩ c0).setCell ⟨nb, 1, none⟩ c1) hb LF V t w0.heap.size items ∧ Chg (fun b => b = s.br ∨ b = s.bm ∨ b = s.bc) w0 ((w1.setCell ⟨nb, 0, none⟩ c0).setCell ⟨nb, 1, none⟩ c1) ∧
      ((w1.setCell ⟨nb, 0, none⟩ c0).setCell ⟨nb, 1, none⟩ c1).heap[nb]? = some (.cells #[c0, c1] 85) := by
  have c : Chg (fun b => b = nb) w1 ((w1.setCell ⟨nb, 0, none⟩ c0).setCell ⟨nb, 1, none⟩ c1) := (chg_set w1 ⟨nb, 0, none⟩ c0).trans (chg_set _ ⟨nb, 1, none⟩ c1) (fun b _ h => h)
  refine ⟨st.chg c (fun b hb' e => by have := hl b hb'; omega), H.chg c (fun e => hh e.symm) (fun q hq e => hV (by rw [hq, e])), C.trans (c.mono (S' := fun b => b = nb) (fun _ _ h => h)) (fun b hb' h => absurd hb' (by omega)), ?_⟩
  have h1 : (w1.setCell ⟨nb, 0, none⟩ c0).heap[nb]? = some (.cells #[c0, y1] 85) := heap_setCell_same w1 nb 0 _ _ _ hbx
  exact heap_setCell_same _ nb 1 _ _ _ h1
end
end Go.Proofs.YtjgloineooadoaaGreatDoor
/- A round of Solve: search, turn, push. No walk. -/
namespace Go.Proofs.YtjgloineooadoaaGreatDoor
open Go.RowKit
/-- Where the main loop stands. -/
structure Rnd (s : Sv) (wt : Nat → Int) (wS : World) (S0 : Int) (ways : Nat) (left fl x : Nat → Int) (w : World) : Prop where
  st : ∃ far came cl, s.st w left fl x far came cl
  ch : Chg (fun b => b = s.bl ∨ b = s.bf ∨ b = s.bx ∨ b = s.br ∨ b = s.bm ∨ b = s.bc) wS w
  P : Pot s.G fl x
  bal : ∀ u, u < s.n → nf s.G wt u s.L.length - nf s.G fl u s.L.length = left u
  pos : ∀ v, v < s.n → 0 < left v → 0 ≤ x v
  xup : ∀ v, v < s.n → x v ≤ s.n
  xlo : ∀ v, v < s.n → -(8192 * (ways : Int)) ≤ x v
  sp : (ways : Int) + spN left s.n ≤ S0
  fb : ∀ i, i < s.L.length → fl i + spN left s.n ≤ S0
  lb : ∀ v, v < s.n → -100000000000 ≤ left v ∧ left v ≤ 100000000000
theorem Rnd.next {s : Sv} {wt : Nat → Int} {wS : World} {S0 : Int} {ways : Nat} {left fl x : Nat → Int} {w w1 w2 w3 : World} (R : Rnd s wt wS S0 ways left fl x w) (hn1 : s.n ≤ 4096) {far : Nat → Int} {came : Nat → Stp} {cl : Nat → Bool} {ord : List Nat} {z : Nat} {D : Int}
    (c1 : Chg (fun b => b = s.br ∨ b = s.bm ∨ b = s.bc) w w1) (F : Fnd s.G left fl x far came cl ord z D) (c2 : Chg (fun b => b = s.bx) w1 w2) {N : Int} {v0 : Nat} {g : Nat → Int}
    (Q : Pushed s left fl (fun v => x v - ddv far cl D v) far came cl ord wt z w2 w3 N v0 g) :
    Rnd s wt wS S0 (ways + 1) (upd (upd left v0 (left v0 - N)) z (left z + N)) g (fun v => x v - ddv far cl D v) w3 := by
  obtain ⟨P1, P2⟩ := F.turn R.P
  have h1 := Q.n1
  have h2 := Q.nl
  have h3 := Q.nz
  have hz : z < s.n := F.toN
  have hsp := spN_push Q.vn hz h1 h2 h3
  have hD : D ≤ 8192 := by
    have := F.dn
    have := R.xup z hz
    have e : s.G.n = s.n := rfl
    omega
  have hl : ∀ v, 0 < upd (upd left v0 (left v0 - N)) z (left z + N) v → 0 < left v := fun v h => by
    unfold upd at h
    split at h
    · omega
    · split at h
      · rename_i e; subst e; omega
      · exact h
  refine ⟨⟨_, _, _, Q.st⟩, ?_, ⟨P1.sl, Q.nn, fun i hi hp => ?_⟩, Q.bal, fun v hv h => ?_, fun v hv => ?_, fun v hv => ?_, ?_, fun i hi => ?_, fun v hv => ?_⟩
  · exact ((R.ch.trans c1 (fun b _ h => .inr (.inr (.inr h)))).trans c2 (fun b _ h => .inr (.inr (.inl h)))).trans Q.ch (fun b _ h => h.elim .inl (fun e => .inr (.inl e)))
  · rcases Q.sup i hi hp with h | ⟨v, hv, e⟩
    · exact P1.cs i hi h
    · exact P2 v hv i hi e
  · have h0 := hl v h
    have h4 := F.t4 v hv h0
    have h5 := R.pos v hv h0
    show 0 ≤ x v - ddv far cl D v
    omega
  · have h4 := (F.t3 v hv).1
    have h5 := R.xup v hv
    show x v - ddv far cl D v ≤ s.n
    omega
  · have h4 := (F.t3 v hv).2
    have h5 := R.xlo v hv
    show _ ≤ x v - ddv far cl D v
    omega
  · rw [hsp]; have := R.sp; omega
  · rw [hsp]; have := R.fb i hi; have := Q.le i hi; omega
  · have h4 := R.lb v hv
    unfold upd
    split
    · rename_i e; subst e; omega
    · split
      · rename_i e; subst e; omega
      · exact h4
/-- What its walk wants. -/
theorem Rnd.bounds {s : Sv} {wt : Nat → Int} {wS : World} {S0 : Int} {ways : Nat} {left fl x : Nat → Int} {w : World} (R : Rnd s wt wS S0 ways left fl x w) (hn1 : s.n ≤ 4096) (hS : S0 ≤ 20000000000) :
    (ways : Int) ≤ 20000000000 ∧ (∀ v, v < s.n → -1000000000000000 ≤ x v ∧ x v ≤ 1000000000000000) ∧ (∀ v, v < s.n → -1000000000000 ≤ left v ∧ left v ≤ 1000000000000) ∧ ∀ i, i < s.L.length → 0 ≤ fl i ∧ fl i ≤ 1000000000000 := by
  have h1 := R.sp
  have h2 := spN_nonneg left s.n
  refine ⟨by omega, fun v hv => ?_, fun v hv => ?_, fun i hi => ?_⟩
  · have := R.xlo v hv; have := R.xup v hv; omega
  · have := R.lb v hv; omega
  · have := R.fb i hi; have := R.P.nn i hi; omega
/-- Nothing is left when the search finds none. -/
theorem Rnd.fin {s : Sv} {wt : Nat → Int} {wS : World} {S0 : Int} {ways : Nat} {left fl x : Nat → Int} {w : World} (R : Rnd s wt wS S0 ways left fl x w) (k : s.ok) (hw : ∀ i, i < s.L.length → 0 ≤ wt i) {cl : Nat → Bool} (F : Fin s.G left fl cl) : ∀ v, v < s.n → left v = 0 :=
  none_left k.g.g hw R.P.nn (fun v hv => (R.bal v hv).symm) F.o F.i F.p F.n
theorem nf_nil (G : Gf) (v : Nat) : ∀ m, nf G (fun _ => 0) v m = 0
  | 0 => rfl
  | m + 1 => by
    have h := nf_nil G v m
    have e : nf G (fun _ => 0) v (m + 1) = nf G (fun _ => 0) v m + ind (G.fr m = v) 0 - ind (G.tt m = v) 0 := rfl
    rw [e, h]
    unfold ind
    split <;> split <;> omega
theorem nf_abs (G : Gf) (w : Nat → Int) (v : Nat) : ∀ m, (∀ i, i < m → 0 ≤ w i ∧ w i ≤ 1000000) → -(1000000 * (m : Int)) ≤ nf G w v m ∧ nf G w v m ≤ 1000000 * (m : Int)
  | 0, _ => ⟨by simp [nf], by simp [nf]⟩
  | m + 1, h => by
    have h1 := nf_abs G w v m (fun i hi => h i (by omega))
    have h2 := h m (by omega)
    have e : nf G w v (m + 1) = nf G w v m + ind (G.fr m = v) (w m) - ind (G.tt m = v) (w m) := rfl
    rw [e]
    unfold ind
    split <;> split <;> omega
theorem sumN_abs (w : Nat → Int) : ∀ m, (∀ i, i < m → 0 ≤ w i ∧ w i ≤ 1000000) → sumN w m ≤ 1000000 * (m : Int)
  | 0, _ => by simp [sumN]
  | m + 1, h => by
    have h1 := sumN_abs w m (fun i hi => h i (by omega))
    have h2 := h m (by omega)
    show sumN w m + w m ≤ _
    omega
/-- The first round. -/
theorem Rnd.begin {s : Sv} {w : World} {X far : Nat → Int} {came : Nat → Stp} {cl : Nat → Bool} (k : s.ok) (h : s.st w (fun v => nf s.G (wtL s.L) v s.L.length) (fun _ => 0) X far came cl) (hX0 : ∀ v, v < s.n → 0 ≤ X v ∧ X v ≤ s.n) (hX1 : ∀ i, i < s.L.length → X (frL s.L i) + 1 ≤ X (ttL s.L i)) :
    Rnd s (wtL s.L) w (spN (fun v => nf s.G (wtL s.L) v s.L.length) s.n) 0 (fun v => nf s.G (wtL s.L) v s.L.length) (fun _ => 0) X w ∧ spN (fun v => nf s.G (wtL s.L) v s.L.length) s.n ≤ 20000000000 := by
  have hw : ∀ i, i < s.L.length → 0 ≤ wtL s.L i ∧ wtL s.L i ≤ 1000000 := fun i hi => (k.g.at_ hi).2.2.2
  have hm := k.g.m1
  have hsp : spN (fun v => nf s.G (wtL s.L) v s.L.length) s.n ≤ sumN (wtL s.L) s.L.length := spN_start s.G (wtL s.L) (fun i hi => (hw i hi).1) s.n s.L.length (Nat.le_refl _)
  refine ⟨⟨⟨_, _, _, h⟩, Chg.refl _ _, ⟨fun i hi => ?_, fun i hi => Int.le_refl _, fun i hi hp => absurd hp (by simp)⟩, fun u _ => by rw [nf_nil]; omega, fun v hv _ => (hX0 v hv).1, fun v hv => (hX0 v hv).2, fun v hv => by have := (hX0 v hv).1; simp; omega, by simp, fun i hi => by simp, fun v hv => ?_⟩, ?_⟩
  · have := hX1 i hi
    show 0 ≤ X (ttL s.L i) - X (frL s.L i) - 1
    omega
  · have := nf_abs s.G (wtL s.L) v s.L.length hw
    show -100000000000 ≤ nf s.G (wtL s.L) v s.L.length ∧ nf s.G (wtL s.L) v s.L.length ≤ 100000000000
    omega
  · have := sumN_abs (wtL s.L) s.L.length hw
    omega
/-- At the loop's head: the search has just answered. -/
def Stand (s : Sv) (wS : World) (S0 : Int) (p q : Value) (wr : World) : Prop := ∃ (ways : Nat) (left fl x far : Nat → Int) (came : Nat → Stp) (cl : Nat → Bool) (wq : World), p = .int .i64 (ways : Int) ∧ Rnd s (wtL s.L) wS S0 ways left fl x wq ∧ s.st wr left fl x far came cl ∧ Chg (fun b => b = s.br ∨ b = s.bm ∨ b = s.bc) wq wr ∧
  ((∃ (z : Nat) (ord : List Nat) (D : Int), q = .int .i64 (z : Int) ∧ Fnd s.G left fl x far came cl ord z D) ∨ (q = .int .i64 (-1) ∧ Fin s.G left fl cl))
end Go.Proofs.YtjgloineooadoaaGreatDoor
/- What coordinates cost, or that they don't fit. -/
namespace Go.Proofs.YtjgloineooadoaaGreatDoor
open Go.RowKit
set_option maxRecDepth 100000 in
set_option maxHeartbeats 1000000 in
theorem indexInts_any {w : World} {V : Value} {L : List Int} {lf : Nat} {bound : Array Value} {p : Int → Bool} {ok : Int → Prop} (h : Ints w V L) (P : Pred lf bound (fun x => .int .i64 x) p ok w) (hok : ∀ a ∈ L, ok a) (hl : L.length ≤ 1000000000000000) :
    Calls Tryz.prog 49 #[V, .func (.func lf) #[] bound] w fun e w' => e = .returned (.int .i64 (findI p L)) ∧ Below w.heap.size w w' := by
  obtain ⟨A, cap, rfl, h1, h2, hA⟩ := h.at_
  clear h
  have HE := P.enter
  have HP := Lib.hid P
  have HO := Lib.hid hok
  clear P hok
  go_enter Tryz.func49, Tryz.ntmps49
  go_wp2_with fail
  go_loopw [8] (fun s wr => ∃ k : Nat, k ≤ L.length ∧ s = .int .i64 k ∧ Hid (∀ (i : Nat) (a : Int), i < k → L[i]? = some a → p a = false) ∧ Below w.heap.size w wr) (fun s _ => L.length - (intOf s).toNat)
  case atStart => exact ⟨0, by omega, rfl, Lib.hid (fun i a hi _ => absurd hi (by omega)), Below.refl _ _⟩
  case round =>
    obtain ⟨k, hk, rfl, hn, Bl⟩ := hrel
    by_cases hkn : k < L.length
    · obtain ⟨b, off, rfl, hc⟩ := hA (by omega)
      obtain ⟨a, ha⟩ : ∃ a, L[k]? = some a := ⟨_, List.getElem?_eq_getElem hkn⟩
      have c0 := hc k a ha
      have c0 := cell_later Bl c0
      have hC := HP.out.calls a wr (HO.out a (List.mem_of_getElem? ha)) Bl
      obtain ⟨pa, hpa⟩ : ∃ pa, p a = pa := ⟨_, rfl⟩
      rw [hpa] at hC
      have HC := Lib.hid hC
      have HPA := Lib.hid hpa
      have HAA := Lib.hid ha
      have HBl := Lib.hid Bl
      have hs := Bl.size
      have hld : decide ((k : Int) < L.length) = true := by simp; omega
      clear hc hA hC hpa ha Bl
      go_wp2_with fail
      refine HC.out.mono ?_
      rintro e w1 ⟨rfl, B1⟩
      have HB1 := Lib.hid (below_then HBl.out hs B1)
      clear B1
      cases pa
      · go_wp2_with fail
        exact ⟨⟨k + 1, by omega, by go_num, Lib.hid (fun i x hi hx => by
          by_cases e : i = k
          · subst e; rw [HAA.out] at hx; cases hx; exact HPA.out
          · exact hn.out i x (by omega) hx), HB1.out⟩, by simp [intOf]; omega⟩
      · go_wp2_with fail
        go_ret
        refine ⟨ret_int ?_, HB1.out⟩
        have e : L[k] = a := by have := HAA.out; rw [List.getElem?_eq_getElem hkn] at this; exact Option.some.inj this
        exact (find_stop hkn hn.out (by rw [e]; exact HPA.out)).symm
    · obtain rfl : k = L.length := by omega
      go_wp2_with fail
      go_ret
      exact ⟨ret_int (find_none (fun i a ha => hn.out i a (List.getElem?_eq_some_iff.1 ha).1 ha)).symm, Bl⟩
set_option maxHeartbeats 1000000 in
theorem anyInts_any {w : World} {V : Value} {L : List Int} {lf : Nat} {bound : Array Value} {p : Int → Bool} {ok : Int → Prop} (h : Ints w V L) (P : Pred lf bound (fun x => .int .i64 x) p ok w) (hok : ∀ a ∈ L, ok a) (hl : L.length ≤ 1000000000000000) :
    Calls Tryz.prog 27 #[V, .func (.func lf) #[] bound] w fun e w' => e = .returned (.bool (L.any p)) ∧ Below w.heap.size w w' := by
  have HH := Lib.hid h
  have HP := Lib.hid P
  have HO := Lib.hid hok
  clear h P hok
  go_enter Tryz.func27, Tryz.ntmps27
  go_wp2_with fail
  refine (indexInts_any HH.out HP.out HO.out hl).mono ?_
  rintro e w1 ⟨rfl, B1⟩
  have HB1 := Lib.hid B1
  clear B1
  go_wp2_with fail
  go_ret
  exact ⟨ret_bool (findI_ge p L), HB1.out⟩
def farB (v : Int) : Bool := decide (v < -1000000) || decide (1000000 < v)
theorem enterF : ∀ (args : Array Value) (w : World), (callFunc 48 args).run Tryz.prog w = .ok (.enter 48 args) w := by
  intro args w; kernel_rfl
theorem far_any (v : Int) (w : World) : Calls Tryz.prog 48 #[.int .i64 v] w fun e w' => e = .returned (.bool (farB v)) ∧ Below w.heap.size w w' := by
  go_enter Tryz.func48, Tryz.ntmps48
  by_cases h : v < -1000000
  · go_wp2
    go_ret
    exact ⟨ret_bool (by simp [farB, h]), Below.refl _ _⟩
  · go_wp2
    go_ret
    exact ⟨ret_bool (by simp [farB]; omega), Below.refl _ _⟩
theorem predF (w : World) : Pred 48 #[] (fun x : Int => Value.int .i64 x) farB (fun _ => True) w :=
  ⟨enterF, fun a w' _ _ => by
    have e : (#[Value.int .i64 a] ++ #[] : Array Value) = #[Value.int .i64 a] := rfl
    rw [e]
    exact far_any a w'⟩
def at_ (xs : List Int) (i : Int) : Int := xs[i.toNat]?.getD 0
def fitA (xs : List Int) (a : Arc) : Bool := decide (at_ xs a.1 < at_ xs a.2.1)
def costL (xs : List Int) : List Arc → Int
  | [] => 0
  | a :: L => a.2.2 * (at_ xs a.2.1 - at_ xs a.1) + costL xs L
theorem costL_snoc (xs : List Int) (a : Arc) : ∀ L, costL xs (L ++ [a]) = costL xs L + a.2.2 * (at_ xs a.2.1 - at_ xs a.1)
  | [] => by simp [costL]
  | b :: L => by simp only [List.cons_append, costL]; rw [costL_snoc xs a L]; omega
/-- What Cost tells. -/
def costE (n : Int) (L : List Arc) (xs : List Int) : Int := if ordE n L = 0 then (if (xs.length : Int) = n ∧ xs.any farB = false then (if L.all (fitA xs) = true then 0 else 15) else 2) else ordE n L
def costV (n : Int) (L : List Arc) (xs : List Int) : Int := if costE n L xs = 0 then costL xs L else 0
theorem ordE_right {n : Int} {L : List Arc} (h : ordE n L = 0) : rightB n L = true := by
  unfold ordE at h
  split at h
  · assumption
  · cases h
theorem mul_bound {x d : Int} (h0 : 0 ≤ x) (h1 : x ≤ 1000000) (d0 : 0 ≤ d) (d1 : d ≤ 2000000) : 0 ≤ x * d ∧ x * d ≤ 2000000000000 := by
  refine ⟨Int.mul_nonneg h0 d0, ?_⟩
  have := Int.mul_le_mul h1 d1 d0 (by omega : (0 : Int) ≤ 1000000)
  omega
set_option maxRecDepth 100000 in
set_option maxHeartbeats 2000000 in
theorem cost_any {w : World} {V Vx : Value} {L : List Arc} {xs : List Int} (n : Int) (h : Arcs w V L) (hx : Ints w Vx xs) (hxl : xs.length ≤ 1000000000000000) :
    Calls Tryz.prog 26 #[.int .i64 n, V, Vx] w fun e w' => e = .returned (.tuple #[.int .i64 (costV n L xs), .int .i64 (costE n L xs)]) ∧ Below w.heap.size w w' := by
  have HH := Lib.hid h
  have HX := Lib.hid hx
  clear h hx
  obtain ⟨A, cap, rfl, -, -, hA⟩ := HH.out.at_
  obtain ⟨AX, capX, rfl, -, -, hAX⟩ := HX.out.at_
  have HA := Lib.hid hA
  have HAX := Lib.hid hAX
  clear hA hAX
  go_enter Tryz.func26, Tryz.ntmps26
  go_wp2_with fail
  refine (check_any _ HH.out).mono ?_
  rintro e w1 ⟨rfl, B1⟩
  have HB1 := Lib.hid B1
  have HX1 := Lib.hid (HX.out.later B1)
  clear B1
  by_cases h0 : ordE n L = 0
  · have hr := ordE_right h0
    obtain ⟨m, rfl, hm, hL, hG⟩ := right_gr hr
    have H0 := Lib.hid h0
    have HG := Lib.hid hG
    rw [h0]
    clear h0 hr hG
    by_cases hlen : (xs.length : Int) = m
    · have hlen2 : xs.length = m := by omega
      have hld : ((xs.length : Int) != (m : Int)) = false := by simp [hlen2]
      have HL2 := Lib.hid hlen2
      have HL1 := Lib.hid hlen
      have hxm : xs.length ≤ 4096 := by omega
      clear hlen hlen2
      go_wp2_with fail
      refine (anyInts_any HX1.out (predF _) (fun _ _ => trivial) hxl).mono ?_
      obtain ⟨fa, hfa⟩ : ∃ fa, xs.any farB = fa := ⟨_, rfl⟩
      have HFA := Lib.hid hfa
      rw [hfa]
      clear hfa
      rintro e w2 ⟨rfl, B2⟩
      have HB2 := Lib.hid (below_then HB1.out HB1.out.size B2)
      clear B2
      cases fa
      · have hxb : ∀ (i : Nat), i < m → ∃ v : Int, xs[i]? = some v ∧ -1000000 ≤ v ∧ v ≤ 1000000 := fun i hi => by
          have hi' : i < xs.length := by rw [HL2.out]; exact hi
          refine ⟨xs[i], List.getElem?_eq_getElem hi', ?_⟩
          have := List.any_eq_false.1 HFA.out xs[i] (List.getElem_mem hi')
          simp only [farB, Bool.not_eq_true, Bool.or_eq_false_iff, decide_eq_false_iff_not] at this
          omega
        have HXB := Lib.hid hxb
        clear hxb
        go_wp2_with fail
        go_loopw [9, 29] (fun sv s wr => ∃ k : Nat, k ≤ L.length ∧ s = .int .i64 k ∧ sv = .int .i64 (costL xs (L.take k)) ∧ 0 ≤ costL xs (L.take k) ∧ costL xs (L.take k) ≤ k * 2000000000000 ∧ Hid (∀ a ∈ L.take k, fitA xs a = true) ∧ Below w.heap.size w wr) (fun _ s _ => L.length - (intOf s).toNat)
        case atStart => exact ⟨0, by omega, rfl, rfl, by simp [costL], by simp [costL], Lib.hid (by simp), HB2.out⟩
        case round => as_aux_lemma =>
          obtain ⟨k, hk, rfl, rfl, hc0, hc1, hfit, Bl⟩ := hrel
          by_cases hkn : k < L.length
          · obtain ⟨b, off, rfl, hc⟩ := HA.out (by omega)
            obtain ⟨a, ha⟩ : ∃ a, L[k]? = some a := ⟨_, List.getElem?_eq_getElem hkn⟩
            obtain ⟨f, t, x, rfl, hf, ht, hx, -⟩ := HG.out k a ha
            obtain ⟨c0, c1, c2⟩ := hc k _ ha
            have c0 := cell_later Bl c0
            have c1 := cell_later Bl c1
            have c2 := cell_later Bl c2
            simp only at c0 c1 c2
            obtain ⟨xf, hxf, xf0, xf1⟩ := HXB.out f hf
            obtain ⟨xt, hxt, xt0, xt1⟩ := HXB.out t ht
            obtain ⟨bx, ox, rfl, hcx⟩ := HAX.out (by have := HL2.out; omega)
            have ifl : (f : Int) < (xs.length : Int) := by have := HL2.out; omega
            have itl : (t : Int) < (xs.length : Int) := by have := HL2.out; omega
            have if0 : (0 : Int) ≤ (f : Int) := by omega
            have it0 : (0 : Int) ≤ (t : Int) := by omega
            have BA : Below wr.heap.size wr (wr.alloc (.cells #[.int .i64 (f : Nat), .int .i64 (t : Nat), .int .i64 (x : Nat)] 40)) := (Below.refl _ _).alloc (Nat.le_refl _) _
            have g0 : (wr.alloc (.cells #[.int .i64 (f : Nat), .int .i64 (t : Nat), .int .i64 (x : Nat)] 40)).cell? ⟨wr.heap.size, 0, none⟩ = some (.int .i64 (f : Nat)) := (Cl.new rfl).cell
            have g1 : (wr.alloc (.cells #[.int .i64 (f : Nat), .int .i64 (t : Nat), .int .i64 (x : Nat)] 40)).cell? ⟨wr.heap.size, 1, none⟩ = some (.int .i64 (t : Nat)) := (Cl.new rfl).cell
            have g2 : (wr.alloc (.cells #[.int .i64 (f : Nat), .int .i64 (t : Nat), .int .i64 (x : Nat)] 40)).cell? ⟨wr.heap.size, 2, none⟩ = some (.int .i64 (x : Nat)) := (Cl.new rfl).cell
            have d0 := cell_later BA (cell_later Bl (hcx f xf hxf))
            have d1 := cell_later BA (cell_later Bl (hcx t xt hxt))
            have HBA := Lib.hid (below_then Bl Bl.size BA)
            have e1 : at_ xs (f : Nat) = xf := by unfold at_; simp [hxf]
            have e2 : at_ xs (t : Nat) = xt := by unfold at_; simp [hxt]
            have HT : Hid (L.take (k + 1) = L.take k ++ [((f : Int), (t : Int), (x : Int))]) := Lib.hid (by
              obtain ⟨h1, h2⟩ := List.getElem?_eq_some_iff.1 ha
              rw [List.take_succ_eq_append_getElem h1, h2])
            have HS : Hid (costL xs (L.take (k + 1)) = costL xs (L.take k) + (x : Int) * (xt - xf)) := Lib.hid (by
              rw [HT.out, costL_snoc]; simp only; rw [e1, e2])
            have HFT : Hid (fitA xs ((f : Int), (t : Int), (x : Int)) = decide (xf < xt)) := Lib.hid (by unfold fitA; simp only; rw [e1, e2])
            have HAA := Lib.hid ha
            have hkl : (k : Int) ≤ 16384 := by omega
            generalize hcg : costL xs (L.take k) = cs at *
            have HCG := Lib.hid hcg
            clear hc ha hcx e1 e2 hxf hxt Bl hcg BA
            by_cases hd : xt - xf < 1
            · have hdd : decide (xt - xf < 1) = true := by simp; omega
              go_wp2_with fail
              go_quiet (fail)
              go_wp2_with fail
              refine bodyPost_ret (v := .tuple #[.int .i64 0, .int .i64 15]) (by simp [results, Tryz.results26, go_sem]) rfl ?_
              have hE : costE m L xs = 15 := by
                unfold costE
                rw [if_pos H0.out, if_pos ⟨HL1.out, HFA.out⟩, if_neg]
                intro hall
                have := List.all_eq_true.1 hall _ (List.mem_of_getElem? HAA.out)
                rw [HFT.out] at this
                simp at this
                omega
              exact ⟨by unfold costV; rw [hE]; rfl, below_drewN HBA.out _⟩
            · have hdd : decide (xt - xf < 1) = false := by simp; omega
              obtain ⟨p0, p1⟩ := mul_bound (x := (x : Int)) (d := xt - xf) (by omega) (by omega) (by omega) (by omega)
              go_wp2_with fail
              go_quiet (fail)
              go_wp2_with fail
              refine ⟨⟨k + 1, by omega, by go_num, by rw [HS.out], by rw [HS.out]; omega, by rw [HS.out]; omega, Lib.hid (fun a ha => ?_), below_drewN HBA.out _⟩, by simp [intOf]; omega⟩
              rw [HT.out] at ha
              rcases List.mem_append.1 ha with ha | ha
              · exact hfit.out a ha
              · simp at ha
                subst ha
                rw [HFT.out]
                simp
                omega
          · obtain rfl : k = L.length := by omega
            rw [List.take_of_length_le (Nat.le_refl _)] at hfit hc0 hc1
            have hT : L.take L.length = L := List.take_of_length_le (Nat.le_refl _)
            have hE : costE m L xs = 0 := by
              unfold costE
              rw [if_pos H0.out, if_pos ⟨HL1.out, HFA.out⟩, if_pos (List.all_eq_true.2 hfit.out)]
            have hV : costV m L xs = costL xs L := by unfold costV; rw [if_pos hE]
            have HE := Lib.hid hE
            have HV := Lib.hid hV
            have HTT := Lib.hid hT
            clear hE hV hT
            go_wp2_with fail
            refine bodyPost_ret (v := .tuple #[.int .i64 (costL xs L), .int .i64 0]) (by simp [results, Tryz.results26, go_sem]) rfl ?_
            exact ⟨by rw [HV.out, HE.out], Bl⟩
      · have hE : Hid (costE m L xs = 2) := Lib.hid (by
          unfold costE
          rw [if_pos H0.out, if_neg (fun h => by have := h.2; rw [HFA.out] at this; cases this)])
        go_wp2_with fail
        refine bodyPost_ret (v := .tuple #[.int .i64 0, .int .i64 2]) (by simp [results, Tryz.results26, go_sem]) rfl ?_
        exact ⟨by unfold costV; rw [hE.out]; rfl, HB2.out⟩
    · have hld : ((xs.length : Int) != (m : Int)) = true := by simp; omega
      have hE : Hid (costE m L xs = 2) := Lib.hid (by
        unfold costE
        rw [if_pos H0.out, if_neg (fun h => hlen h.1)])
      clear hlen
      go_wp2_with fail
      refine bodyPost_ret (v := .tuple #[.int .i64 0, .int .i64 2]) (by simp [results, Tryz.results26, go_sem]) rfl ?_
      exact ⟨by unfold costV; rw [hE.out]; rfl, HB1.out⟩
  · have hE : Hid (costE n L xs = ordE n L) := Lib.hid (by unfold costE; rw [if_neg h0])
    have hV : Hid (costV n L xs = 0) := Lib.hid (by unfold costV; rw [hE.out, if_neg h0])
    have hne : (ordE n L != 0) = true := by simp [h0]
    generalize hoe : ordE n L = oe at *
    clear h0 hoe
    go_wp2_with fail
    refine bodyPost_ret (v := .tuple #[.int .i64 0, .int .i64 oe]) (by simp [results, Tryz.results26, go_sem]) rfl ?_
    exact ⟨by rw [hV.out, hE.out], HB1.out⟩
end Go.Proofs.YtjgloineooadoaaGreatDoor
