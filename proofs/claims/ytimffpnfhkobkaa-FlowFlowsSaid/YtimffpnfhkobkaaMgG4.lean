/- The order of a graph's nodes, whole; a graph checked. -/
import Derived.Test.YtimffpnfhkobkaaMgG3
import Derived.Test.YtimffpnfhkobkaaMgG2
import Derived.StillTailTactics
namespace Go.Proofs.Ytimffpnfhkobkaa
open Go.RowKit
/-- What Order tells: the error, and the nodes. -/
def ordE (n : Int) (L : List Arc) : Int := if rightB n L = true then (if (ordL (gOf L) n.toNat).length < n.toNat then 11 else 0) else 2
def ordR (n : Int) (L : List Arc) : List Nat := if ordE n L = 0 then ordL (gOf L) n.toNat else []
theorem ordE_range (n : Int) (L : List Arc) : ordE n L = 0 ∨ ordE n L = 2 ∨ ordE n L = 11 := by
  unfold ordE
  split
  · split
    · exact .inr (.inr rfl)
    · exact .inl rfl
  · exact .inr (.inl rfl)
def OrdW (w : World) (n : Int) (L : List Arc) (e : Ending) (w' : World) : Prop :=
  ∃ V, e = .returned (.tuple #[V, .int .i64 (ordE n L)]) ∧ Below w.heap.size w w' ∧ w'.ownsRow w.heap.size 3 1 V (ordR n L).length (flat encN (ordR n L))
set_option maxRecDepth 100000 in
set_option maxHeartbeats 1000000 in
theorem order_any {w : World} {V : Value} {L : List Arc} (n : Int) (h : Arcs w V L) :
    Calls Try.prog 14 #[.int .i64 n, V] w fun e w' => OrdW w n L e w' := by
  by_cases hr : rightB n L = true
  · refine (order_right n h hr).mono ?_
    rintro e w' ⟨V', er, rfl, B, h⟩
    rcases h with ⟨h1, h2, h3⟩ | ⟨h1, h2, h3⟩
    · subst h2 h3
      have e1 : ordE n L = 11 := by unfold ordE; rw [if_pos hr, if_pos h1]
      have e2 : ordR n L = [] := by unfold ordR; rw [e1]; rfl
      exact ⟨_, by rw [e1], B, by rw [e2]; exact World.ownsRow_nil _ _ _ _⟩
    · subst h3
      have e1 : ordE n L = 0 := by unfold ordE; rw [if_pos hr, if_neg (by omega)]
      have e2 : ordR n L = ordL (gOf L) n.toNat := by unfold ordR; rw [if_pos e1]
      exact ⟨_, by rw [e1], B, by rw [e2]; exact h2⟩
  · have e1 : ordE n L = 2 := by unfold ordE; rw [if_neg hr]
    have e2 : ordR n L = [] := by unfold ordR; rw [e1]; rfl
    have hrf : rightB n L = false := by simpa using hr
    have HR := Lib.hid hrf
    have HE1 := Lib.hid e1
    have HE2 := Lib.hid e2
    have HH := Lib.hid h
    clear h hr hrf e1 e2
    go_enter Try.func14, Try.ntmps14
    go_wp2_with fail
    refine (right_any _ HH.out).mono ?_
    rw [HR.out]
    rintro e w1 ⟨rfl, B1⟩
    have HB := Lib.hid B1
    clear B1
    go_wp2_with fail
    refine bodyPost_ret (v := .tuple #[.slice none 0 0, .int .i64 2]) (by simp [results, Try.results14, go_sem]) rfl ?_
    exact ⟨_, by rw [HE1.out], HB.out, by rw [HE2.out]; exact World.ownsRow_nil _ _ _ _⟩
set_option maxHeartbeats 1000000 in
theorem check_any {w : World} {V : Value} {L : List Arc} (n : Int) (h : Arcs w V L) :
    Calls Try.prog 17 #[.int .i64 n, V] w fun e w' => e = .returned (.int .i64 (ordE n L)) ∧ Below w.heap.size w w' := by
  have HH := Lib.hid h
  clear h
  go_enter Try.func17, Try.ntmps17
  go_wp2_with fail
  refine (order_any _ HH.out).mono ?_
  rintro e w1 ⟨V', rfl, B1, -⟩
  have HB := Lib.hid B1
  clear B1
  go_wp2_with fail
  go_ret
  exact ⟨rfl, HB.out⟩
end Go.Proofs.Ytimffpnfhkobkaa
/- A solver in memory: what is only read, what is written. -/
namespace Go.Proofs.Ytimffpnfhkobkaa
open Go.RowKit
/-- Where a solver lies: its struct, its rows; which blocks are only read. -/
structure Sv where
  n : Nat
  L : List Arc
  outs : Nat → List Nat
  ins : Nat → List Nat
  sb : Nat
  bl : Nat
  bf : Nat
  bx : Nat
  br : Nat
  bm : Nat
  bc : Nat
  AA : Option Addr
  cA : Nat
  bo : Nat
  bi : Nat
  R : Nat → Prop
def frL (L : List Arc) (i : Nat) : Nat := (L[i]?.getD (0, 0, 0)).1.toNat
def ttL (L : List Arc) (i : Nat) : Nat := (L[i]?.getD (0, 0, 0)).2.1.toNat
def wtL (L : List Arc) (i : Nat) : Int := (L[i]?.getD (0, 0, 0)).2.2
def gfL (n : Nat) (L : List Arc) : Gf := ⟨n, L.length, frL L, ttL L⟩
abbrev Sv.G (s : Sv) : Gf := gfL s.n s.L
/-- A graph that may be. -/
structure Okg (n : Nat) (L : List Arc) : Prop where
  n0 : 1 ≤ n
  n1 : n ≤ 4096
  m1 : L.length ≤ 16384
  arc : ∀ (i : Nat) (a : Arc), L[i]? = some a → ∃ f t x : Nat, a = ((f : Int), (t : Int), (x : Int)) ∧ f < n ∧ t < n ∧ x ≤ 1000000
theorem Okg.at_ {n : Nat} {L : List Arc} (h : Okg n L) {i : Nat} (hi : i < L.length) : L[i]? = some ((frL L i : Int), (ttL L i : Int), wtL L i) ∧ frL L i < n ∧ ttL L i < n ∧ 0 ≤ wtL L i ∧ wtL L i ≤ 1000000 := by
  have e : L[i]? = some L[i] := List.getElem?_eq_getElem hi
  obtain ⟨f, t, x, h1, h2, h3, h4⟩ := h.arc i _ e
  have e1 : frL L i = f := by unfold frL; rw [e, h1]; simp
  have e2 : ttL L i = t := by unfold ttL; rw [e, h1]; simp
  have e3 : wtL L i = x := by unfold wtL; rw [e, h1]; simp
  rw [e1, e2, e3, e, h1]
  exact ⟨rfl, h2, h3, by omega, by omega⟩
theorem Okg.g {n : Nat} {L : List Arc} (h : Okg n L) : (gfL n L).ok := ⟨fun _ hi => (h.at_ hi).2.1, fun _ hi => (h.at_ hi).2.2.1⟩
/-- Rows of arcs' numbers, one a node. -/
def RowsA (w : World) (R : Nat → Prop) (b n : Nat) (N : Nat → List Nat) : Prop :=
  ∀ v, v < n → ∃ A c, w.cell? ⟨b, v, none⟩ = some (.slice A (N v).length c) ∧ (0 < (N v).length → ∃ g off, A = some ⟨g, off, none⟩ ∧ R g ∧ ∀ j i, (N v)[j]? = some i → w.cell? ⟨g, off + j, none⟩ = some (.int .i64 (i : Nat)))
structure Sv.ro (s : Sv) (w : World) : Prop where
  lt : ∀ b, s.R b → b < w.heap.size
  rs : s.R s.sb
  ro : s.R s.bo
  ri : s.R s.bi
  top : w.heap[s.sb]? = some (.cells #[.slice s.AA s.L.length s.cA, .slice (some ⟨s.bo, 0, none⟩) s.n s.n, .slice (some ⟨s.bi, 0, none⟩) s.n s.n, .slice (some ⟨s.bl, 0, none⟩) s.n s.n, .slice (some ⟨s.bf, 0, none⟩) s.L.length s.L.length, .slice (some ⟨s.bx, 0, none⟩) s.n s.n, .slice (some ⟨s.br, 0, none⟩) s.n s.n, .slice (some ⟨s.bm, 0, none⟩) s.n s.n, .slice (some ⟨s.bc, 0, none⟩) s.n s.n] 83)
  arcs : 0 < s.L.length → ∃ b off, s.AA = some ⟨b, off, none⟩ ∧ s.R b ∧ ∀ i a, s.L[i]? = some a → w.cell? ⟨b, off + i * 3, none⟩ = some (.int .i64 a.1) ∧ w.cell? ⟨b, off + i * 3 + 1, none⟩ = some (.int .i64 a.2.1) ∧ w.cell? ⟨b, off + i * 3 + 2, none⟩ = some (.int .i64 a.2.2)
  out : RowsA w s.R s.bo s.n s.outs
  inn : RowsA w s.R s.bi s.n s.ins
/-- What never changes: apart from one another, and the rows tell the arcs. -/
structure Sv.ok (s : Sv) : Prop where
  g : Okg s.n s.L
  ap : [s.bl, s.bf, s.bx, s.br, s.bm, s.bc].Nodup
  rd : ∀ b, s.R b → b ∉ [s.bl, s.bf, s.bx, s.br, s.bm, s.bc]
  o1 : ∀ v, v < s.n → ∀ i ∈ s.outs v, i < s.L.length ∧ frL s.L i = v
  o2 : ∀ i, i < s.L.length → i ∈ s.outs (frL s.L i)
  o3 : ∀ v, v < s.n → (s.outs v).length ≤ s.L.length
  i1 : ∀ v, v < s.n → ∀ i ∈ s.ins v, i < s.L.length ∧ ttL s.L i = v
  i2 : ∀ i, i < s.L.length → i ∈ s.ins (ttL s.L i)
  i3 : ∀ v, v < s.n → (s.ins v).length ≤ s.L.length
def cameV (came : Nat → Stp) (j : Nat) : Value := if j % 2 = 0 then .int .i64 (came (j / 2)).1 else .bool (came (j / 2)).2
structure Sv.st (s : Sv) (w : World) (left fl x far : Nat → Int) (came : Nat → Stp) (cl : Nat → Bool) : Prop where
  ro : s.ro w
  left : w.rowIs s.bl 3 s.n (fun v => .int .i64 (left v))
  fl : w.rowIs s.bf 3 s.L.length (fun v => .int .i64 (fl v))
  x : w.rowIs s.bx 3 s.n (fun v => .int .i64 (x v))
  far : w.rowIs s.br 3 s.n (fun v => .int .i64 (far v))
  came : w.rowIs s.bm 108 (s.n * 2) (cameV came)
  cl : w.rowIs s.bc 4 s.n (fun v => .bool (cl v))
theorem cell_chg {w w' : World} {S : Nat → Prop} (c : Chg S w w') {a : Addr} {v : Value} (h : w.cell? a = some v) (hs : ¬ S a.block) : w'.cell? a = some v :=
  (World.cell?_of_block (c.block a.block (World.block_lt_of_cell? _ _ h) hs)).trans h
theorem RowsA.chg {w w' : World} {R : Nat → Prop} {b n : Nat} {N : Nat → List Nat} {S : Nat → Prop} (h : RowsA w R b n N) (c : Chg S w w') (hd : ∀ b, R b → ¬ S b) (hb : R b) : RowsA w' R b n N := by
  intro v hv
  obtain ⟨A, cp, h1, h2⟩ := h v hv
  refine ⟨A, cp, cell_chg c h1 (hd b hb), fun hl => ?_⟩
  obtain ⟨g, off, e, hg, hc⟩ := h2 hl
  exact ⟨g, off, e, hg, fun j i hj => cell_chg c (hc j i hj) (hd g hg)⟩
theorem Sv.ro.chg {s : Sv} {w w' : World} {S : Nat → Prop} (h : s.ro w) (c : Chg S w w') (hd : ∀ b, s.R b → ¬ S b) : s.ro w' := by
  refine ⟨fun b hb => Nat.lt_of_lt_of_le (h.lt b hb) c.size, h.rs, h.ro, h.ri, ?_, fun hl => ?_, h.out.chg c hd h.ro, h.inn.chg c hd h.ri⟩
  · rw [c.block _ (h.lt _ h.rs) (hd _ h.rs)]; exact h.top
  · obtain ⟨b, off, e, hb, hc⟩ := h.arcs hl
    exact ⟨b, off, e, hb, fun i a hi => ⟨cell_chg c (hc i a hi).1 (hd b hb), cell_chg c (hc i a hi).2.1 (hd b hb), cell_chg c (hc i a hi).2.2 (hd b hb)⟩⟩
theorem row_chg {w w' : World} {b t n : Nat} {f : Nat → Value} {S : Nat → Prop} (h : w.rowIs b t n f) (c : Chg S w w') (hb : ¬ S b) : w'.rowIs b t n f := h.of_block (c.block _ h.lt hb)
section
variable {s : Sv} {w w' : World} {left fl x far : Nat → Int} {came : Nat → Stp} {cl : Nat → Bool}
/-- A call that writes none of it. -/
theorem Sv.st.chg {S : Nat → Prop} (h : s.st w left fl x far came cl) (c : Chg S w w') (hd : ∀ b, (s.R b ∨ b ∈ [s.bl, s.bf, s.bx, s.br, s.bm, s.bc]) → ¬ S b) : s.st w' left fl x far came cl :=
  ⟨h.ro.chg c (fun b hb => hd b (.inl hb)), row_chg h.left c (hd _ (by simp)), row_chg h.fl c (hd _ (by simp)), row_chg h.x c (hd _ (by simp)), row_chg h.far c (hd _ (by simp)), row_chg h.came c (hd _ (by simp)), row_chg h.cl c (hd _ (by simp))⟩
theorem Sv.st.later (h : s.st w left fl x far came cl) (b : Below w.heap.size w w') : s.st w' left fl x far came cl := h.chg (chg_below b (fun _ => False)) (fun _ _ h => h)
theorem Sv.st.lt (h : s.st w left fl x far came cl) : ∀ b, (s.R b ∨ b ∈ [s.bl, s.bf, s.bx, s.br, s.bm, s.bc]) → b < w.heap.size := by
  intro b hb
  rcases hb with hb | hb
  · exact h.ro.lt b hb
  · simp only [List.mem_cons, List.not_mem_nil, or_false] at hb
    rcases hb with rfl | rfl | rfl | rfl | rfl | rfl
    · exact h.left.lt
    · exact h.fl.lt
    · exact h.x.lt
    · exact h.far.lt
    · exact h.came.lt
    · exact h.cl.lt
theorem chg_set (w : World) (p : Addr) (v : Value) : Chg (fun b => b = p.block) w (w.setCell p v) := (Chg.refl (fun b => b = p.block) w).setCell (p := p) (fun _ => rfl) v
theorem row_set_ne {b t n : Nat} {f : Nat → Value} (h : w.rowIs b t n f) {p : Addr} {v : Value} (hne : b ≠ p.block) : (w.setCell p v).rowIs b t n f := row_chg h (chg_set w p v) hne
/-- One cell of a row stored. -/
theorem row_upd {b t n : Nat} {F : Int → Value} {f : Nat → Int} (h : w.rowIs b t n (fun v => F (f v))) (i : Nat) (y : Int) : (w.setCell ⟨b, i, none⟩ (F y)).rowIs b t n (fun v => F (upd f i y v)) :=
  (h.set i (F y)).congr (fun v _ => by unfold upd; split <;> rfl)
theorem row_updB {b t n : Nat} {f : Nat → Bool} (h : w.rowIs b t n (fun v => .bool (f v))) (i : Nat) (y : Bool) : (w.setCell ⟨b, i, none⟩ (.bool y)).rowIs b t n (fun v => .bool (upd f i y v)) :=
  (h.set i (.bool y)).congr (fun v _ => by unfold upd; split <;> rfl)
theorem row_updS {b t n : Nat} {f : Nat → Stp} (h : w.rowIs b t n (cameV f)) (i : Nat) (y : Stp) : ((w.setCell ⟨b, i * 2, none⟩ (.int .i64 y.1)).setCell ⟨b, i * 2 + 1, none⟩ (.bool y.2)).rowIs b t n (cameV (upd f i y)) :=
  ((h.set (i * 2) (.int .i64 y.1)).set (i * 2 + 1) (.bool y.2)).congr (fun v _ => by
    unfold cameV upd
    by_cases e1 : v = i * 2 + 1
    · subst e1
      have h1 : (i * 2 + 1) % 2 = 1 := by omega
      have h2 : (i * 2 + 1) / 2 = i := by omega
      simp [h1, h2]
    · by_cases e2 : v = i * 2
      · subst e2
        have h1 : (i * 2) % 2 = 0 := by omega
        have h2 : (i * 2) / 2 = i := by omega
        simp [h1, h2]
      · have h2 : v / 2 ≠ i := by omega
        simp [e1, e2, h2])
theorem came_cells {b t n : Nat} (h : w.rowIs b t (n * 2) (cameV came)) {i : Nat} (hi : i < n) : w.cell? ⟨b, i * 2, none⟩ = some (.int .i64 (came i).1) ∧ w.cell? ⟨b, i * 2 + 1, none⟩ = some (.bool (came i).2) := by
  have h1 := h.cell (i := i * 2) (by omega)
  have h2 := h.cell (i := i * 2 + 1) (by omega)
  have e1 : (i * 2) % 2 = 0 := by omega
  have e2 : (i * 2) / 2 = i := by omega
  have e3 : (i * 2 + 1) % 2 = 1 := by omega
  have e4 : (i * 2 + 1) / 2 = i := by omega
  unfold cameV at h1 h2
  rw [e1, e2] at h1
  rw [e3, e4] at h2
  exact ⟨h1, h2⟩
end
end Go.Proofs.Ytimffpnfhkobkaa
/- What coordinates cost, or that they don't fit. -/
namespace Go.Proofs.Ytimffpnfhkobkaa
open Go.RowKit
set_option maxRecDepth 100000 in
set_option maxHeartbeats 1000000 in
theorem indexInts_any {w : World} {V : Value} {L : List Int} {lf : Nat} {bound : Array Value} {p : Int → Bool} {ok : Int → Prop} (h : Ints w V L) (P : Pred lf bound (fun x => .int .i64 x) p ok w) (hok : ∀ a ∈ L, ok a) (hl : L.length ≤ 1000000000000000) :
    Calls Try.prog 43 #[V, .func (.func lf) #[] bound] w fun e w' => e = .returned (.int .i64 (findI p L)) ∧ Below w.heap.size w w' := by
  obtain ⟨A, cap, rfl, h1, h2, hA⟩ := h.at_
  clear h
  have HE := P.enter
  have HP := Lib.hid P
  have HO := Lib.hid hok
  clear P hok
  go_enter Try.func43, Try.ntmps43
  go_wp2_with fail
  go_loopw [8] (fun s wr => ∃ k : Nat, k ≤ L.length ∧ s = .int .i64 k ∧ Hid (∀ (i : Nat) (a : Int), i < k → L[i]? = some a → p a = false) ∧ Below w.heap.size w wr) (fun s _ => L.length - (intOf s).toNat)
  case atStart => exact ⟨0, by omega, rfl, Lib.hid (fun i a hi _ => absurd hi (by omega)), Below.refl _ _⟩
  case round =>
    obtain ⟨k, hk, rfl, hn, Bl⟩ := hrel
    by_cases hkn : k < L.length
    · obtain ⟨b, off, rfl, hc⟩ := hA (by omega)
      obtain ⟨a, ha⟩ : ∃ a, L[k]? = some a := ⟨_, List.getElem?_eq_getElem hkn⟩
      have c0 := hc k a ha
      have c0 := cell_later Bl c0
      have hC := HP.out.calls a wr (HO.out a (List.mem_of_getElem? ha)) Bl
      obtain ⟨pa, hpa⟩ : ∃ pa, p a = pa := ⟨_, rfl⟩
      rw [hpa] at hC
      have HC := Lib.hid hC
      have HPA := Lib.hid hpa
      have HAA := Lib.hid ha
      have HBl := Lib.hid Bl
      have hs := Bl.size
      have hld : decide ((k : Int) < L.length) = true := by simp; omega
      clear hc hA hC hpa ha Bl
      go_wp2_with fail
      refine HC.out.mono ?_
      rintro e w1 ⟨rfl, B1⟩
      have HB1 := Lib.hid (below_then HBl.out hs B1)
      clear B1
      cases pa
      · go_wp2_with fail
        exact ⟨⟨k + 1, by omega, by go_num, Lib.hid (fun i x hi hx => by
          by_cases e : i = k
          · subst e; rw [HAA.out] at hx; cases hx; exact HPA.out
          · exact hn.out i x (by omega) hx), HB1.out⟩, by simp [intOf]; omega⟩
      · go_wp2_with fail
        go_ret
        refine ⟨ret_int ?_, HB1.out⟩
        have e : L[k] = a := by have := HAA.out; rw [List.getElem?_eq_getElem hkn] at this; exact Option.some.inj this
        exact (find_stop hkn hn.out (by rw [e]; exact HPA.out)).symm
    · obtain rfl : k = L.length := by omega
      go_wp2_with fail
      go_ret
      exact ⟨ret_int (find_none (fun i a ha => hn.out i a (List.getElem?_eq_some_iff.1 ha).1 ha)).symm, Bl⟩
set_option maxHeartbeats 1000000 in
theorem anyInts_any {w : World} {V : Value} {L : List Int} {lf : Nat} {bound : Array Value} {p : Int → Bool} {ok : Int → Prop} (h : Ints w V L) (P : Pred lf bound (fun x => .int .i64 x) p ok w) (hok : ∀ a ∈ L, ok a) (hl : L.length ≤ 1000000000000000) :
    Calls Try.prog 21 #[V, .func (.func lf) #[] bound] w fun e w' => e = .returned (.bool (L.any p)) ∧ Below w.heap.size w w' := by
  have HH := Lib.hid h
  have HP := Lib.hid P
  have HO := Lib.hid hok
  clear h P hok
  go_enter Try.func21, Try.ntmps21
  go_wp2_with fail
  refine (indexInts_any HH.out HP.out HO.out hl).mono ?_
  rintro e w1 ⟨rfl, B1⟩
  have HB1 := Lib.hid B1
  clear B1
  go_wp2_with fail
  go_ret
  exact ⟨ret_bool (findI_ge p L), HB1.out⟩
def farB (v : Int) : Bool := decide (v < -1000000) || decide (1000000 < v)
theorem enterF : ∀ (args : Array Value) (w : World), (callFunc 42 args).run Try.prog w = .ok (.enter 42 args) w := by
  intro args w; kernel_rfl
theorem far_any (v : Int) (w : World) : Calls Try.prog 42 #[.int .i64 v] w fun e w' => e = .returned (.bool (farB v)) ∧ Below w.heap.size w w' := by
  go_enter Try.func42, Try.ntmps42
  by_cases h : v < -1000000
  · go_wp2
    go_ret
    exact ⟨ret_bool (by simp [farB, h]), Below.refl _ _⟩
  · go_wp2
    go_ret
    exact ⟨ret_bool (by simp [farB]; omega), Below.refl _ _⟩
theorem predF (w : World) : Pred 42 #[] (fun x : Int => Value.int .i64 x) farB (fun _ => True) w :=
  ⟨enterF, fun a w' _ _ => by
    have e : (#[Value.int .i64 a] ++ #[] : Array Value) = #[Value.int .i64 a] := rfl
    rw [e]
    exact far_any a w'⟩
def at_ (xs : List Int) (i : Int) : Int := xs[i.toNat]?.getD 0
def fitA (xs : List Int) (a : Arc) : Bool := decide (at_ xs a.1 < at_ xs a.2.1)
def costL (xs : List Int) : List Arc → Int
  | [] => 0
  | a :: L => a.2.2 * (at_ xs a.2.1 - at_ xs a.1) + costL xs L
theorem costL_snoc (xs : List Int) (a : Arc) : ∀ L, costL xs (L ++ [a]) = costL xs L + a.2.2 * (at_ xs a.2.1 - at_ xs a.1)
  | [] => by simp [costL]
  | b :: L => by simp only [List.cons_append, costL]; rw [costL_snoc xs a L]; omega
/-- What Cost tells. -/
def costE (n : Int) (L : List Arc) (xs : List Int) : Int := if ordE n L = 0 then (if (xs.length : Int) = n ∧ xs.any farB = false then (if L.all (fitA xs) = true then 0 else 15) else 2) else ordE n L
def costV (n : Int) (L : List Arc) (xs : List Int) : Int := if costE n L xs = 0 then costL xs L else 0
theorem ordE_right {n : Int} {L : List Arc} (h : ordE n L = 0) : rightB n L = true := by
  unfold ordE at h
  split at h
  · assumption
  · cases h
theorem mul_bound {x d : Int} (h0 : 0 ≤ x) (h1 : x ≤ 1000000) (d0 : 0 ≤ d) (d1 : d ≤ 2000000) : 0 ≤ x * d ∧ x * d ≤ 2000000000000 := by
  refine ⟨Int.mul_nonneg h0 d0, ?_⟩
  have := Int.mul_le_mul h1 d1 d0 (by omega : (0 : Int) ≤ 1000000)
  omega
set_option maxRecDepth 100000 in
set_option maxHeartbeats 2000000 in
theorem cost_any {w : World} {V Vx : Value} {L : List Arc} {xs : List Int} (n : Int) (h : Arcs w V L) (hx : Ints w Vx xs) (hxl : xs.length ≤ 1000000000000000) :
    Calls Try.prog 20 #[.int .i64 n, V, Vx] w fun e w' => e = .returned (.tuple #[.int .i64 (costV n L xs), .int .i64 (costE n L xs)]) ∧ Below w.heap.size w w' := by
  have HH := Lib.hid h
  have HX := Lib.hid hx
  clear h hx
  obtain ⟨A, cap, rfl, -, -, hA⟩ := HH.out.at_
  obtain ⟨AX, capX, rfl, -, -, hAX⟩ := HX.out.at_
  have HA := Lib.hid hA
  have HAX := Lib.hid hAX
  clear hA hAX
  go_enter Try.func20, Try.ntmps20
  go_wp2_with fail
  refine (check_any _ HH.out).mono ?_
  rintro e w1 ⟨rfl, B1⟩
  have HB1 := Lib.hid B1
  have HX1 := Lib.hid (HX.out.later B1)
  clear B1
  by_cases h0 : ordE n L = 0
  · have hr := ordE_right h0
    obtain ⟨m, rfl, hm, hL, hG⟩ := right_gr hr
    have H0 := Lib.hid h0
    have HG := Lib.hid hG
    rw [h0]
    clear h0 hr hG
    by_cases hlen : (xs.length : Int) = m
    · have hlen2 : xs.length = m := by omega
      have hld : ((xs.length : Int) != (m : Int)) = false := by simp [hlen2]
      have HL2 := Lib.hid hlen2
      have HL1 := Lib.hid hlen
      have hxm : xs.length ≤ 4096 := by omega
      clear hlen hlen2
      go_wp2_with fail
      refine (anyInts_any HX1.out (predF _) (fun _ _ => trivial) hxl).mono ?_
      obtain ⟨fa, hfa⟩ : ∃ fa, xs.any farB = fa := ⟨_, rfl⟩
      have HFA := Lib.hid hfa
      rw [hfa]
      clear hfa
      rintro e w2 ⟨rfl, B2⟩
      have HB2 := Lib.hid (below_then HB1.out HB1.out.size B2)
      clear B2
      cases fa
      · have hxb : ∀ (i : Nat), i < m → ∃ v : Int, xs[i]? = some v ∧ -1000000 ≤ v ∧ v ≤ 1000000 := fun i hi => by
          have hi' : i < xs.length := by rw [HL2.out]; exact hi
          refine ⟨xs[i], List.getElem?_eq_getElem hi', ?_⟩
          have := List.any_eq_false.1 HFA.out xs[i] (List.getElem_mem hi')
          simp only [farB, Bool.not_eq_true, Bool.or_eq_false_iff, decide_eq_false_iff_not] at this
          omega
        have HXB := Lib.hid hxb
        clear hxb
        go_wp2_with fail
        go_loopw [9, 29] (fun sv s wr => ∃ k : Nat, k ≤ L.length ∧ s = .int .i64 k ∧ sv = .int .i64 (costL xs (L.take k)) ∧ 0 ≤ costL xs (L.take k) ∧ costL xs (L.take k) ≤ k * 2000000000000 ∧ Hid (∀ a ∈ L.take k, fitA xs a = true) ∧ Below w.heap.size w wr) (fun _ s _ => L.length - (intOf s).toNat)
        case atStart => exact ⟨0, by omega, rfl, rfl, by simp [costL], by simp [costL], Lib.hid (by simp), HB2.out⟩
        case round => as_aux_lemma =>
          obtain ⟨k, hk, rfl, rfl, hc0, hc1, hfit, Bl⟩ := hrel
          by_cases hkn : k < L.length
          · obtain ⟨b, off, rfl, hc⟩ := HA.out (by omega)
            obtain ⟨a, ha⟩ : ∃ a, L[k]? = some a := ⟨_, List.getElem?_eq_getElem hkn⟩
            obtain ⟨f, t, x, rfl, hf, ht, hx, -⟩ := HG.out k a ha
            obtain ⟨c0, c1, c2⟩ := hc k _ ha
            have c0 := cell_later Bl c0
            have c1 := cell_later Bl c1
            have c2 := cell_later Bl c2
            simp only at c0 c1 c2
            obtain ⟨xf, hxf, xf0, xf1⟩ := HXB.out f hf
            obtain ⟨xt, hxt, xt0, xt1⟩ := HXB.out t ht
            obtain ⟨bx, ox, rfl, hcx⟩ := HAX.out (by have := HL2.out; omega)
            have ifl : (f : Int) < (xs.length : Int) := by have := HL2.out; omega
            have itl : (t : Int) < (xs.length : Int) := by have := HL2.out; omega
            have if0 : (0 : Int) ≤ (f : Int) := by omega
            have it0 : (0 : Int) ≤ (t : Int) := by omega
            have BA : Below wr.heap.size wr (wr.alloc (.cells #[.int .i64 (f : Nat), .int .i64 (t : Nat), .int .i64 (x : Nat)] 52)) := (Below.refl _ _).alloc (Nat.le_refl _) _
            have g0 : (wr.alloc (.cells #[.int .i64 (f : Nat), .int .i64 (t : Nat), .int .i64 (x : Nat)] 52)).cell? ⟨wr.heap.size, 0, none⟩ = some (.int .i64 (f : Nat)) := (Cl.new rfl).cell
            have g1 : (wr.alloc (.cells #[.int .i64 (f : Nat), .int .i64 (t : Nat), .int .i64 (x : Nat)] 52)).cell? ⟨wr.heap.size, 1, none⟩ = some (.int .i64 (t : Nat)) := (Cl.new rfl).cell
            have g2 : (wr.alloc (.cells #[.int .i64 (f : Nat), .int .i64 (t : Nat), .int .i64 (x : Nat)] 52)).cell? ⟨wr.heap.size, 2, none⟩ = some (.int .i64 (x : Nat)) := (Cl.new rfl).cell
            have d0 := cell_later BA (cell_later Bl (hcx f xf hxf))
            have d1 := cell_later BA (cell_later Bl (hcx t xt hxt))
            have HBA := Lib.hid (below_then Bl Bl.size BA)
            have e1 : at_ xs (f : Nat) = xf := by unfold at_; simp [hxf]
            have e2 : at_ xs (t : Nat) = xt := by unfold at_; simp [hxt]
            have HT : Hid (L.take (k + 1) = L.take k ++ [((f : Int), (t : Int), (x : Int))]) := Lib.hid (by
              obtain ⟨h1, h2⟩ := List.getElem?_eq_some_iff.1 ha
              rw [List.take_succ_eq_append_getElem h1, h2])
            have HS : Hid (costL xs (L.take (k + 1)) = costL xs (L.take k) + (x : Int) * (xt - xf)) := Lib.hid (by
              rw [HT.out, costL_snoc]; simp only; rw [e1, e2])
            have HFT : Hid (fitA xs ((f : Int), (t : Int), (x : Int)) = decide (xf < xt)) := Lib.hid (by unfold fitA; simp only; rw [e1, e2])
            have HAA := Lib.hid ha
            have hkl : (k : Int) ≤ 16384 := by omega
            generalize hcg : costL xs (L.take k) = cs at *
            have HCG := Lib.hid hcg
            clear hc ha hcx e1 e2 hxf hxt Bl hcg BA
            by_cases hd : xt - xf < 1
            · have hdd : decide (xt - xf < 1) = true := by simp; omega
              go_wp2_with fail
              go_quiet (fail)
              go_wp2_with fail
              refine bodyPost_ret (v := .tuple #[.int .i64 0, .int .i64 15]) (by simp [results, Try.results20, go_sem]) rfl ?_
              have hE : costE m L xs = 15 := by
                unfold costE
                rw [if_pos H0.out, if_pos ⟨HL1.out, HFA.out⟩, if_neg]
                intro hall
                have := List.all_eq_true.1 hall _ (List.mem_of_getElem? HAA.out)
                rw [HFT.out] at this
                simp at this
                omega
              exact ⟨by unfold costV; rw [hE]; rfl, below_drewN HBA.out _⟩
            · have hdd : decide (xt - xf < 1) = false := by simp; omega
              obtain ⟨p0, p1⟩ := mul_bound (x := (x : Int)) (d := xt - xf) (by omega) (by omega) (by omega) (by omega)
              go_wp2_with fail
              go_quiet (fail)
              go_wp2_with fail
              refine ⟨⟨k + 1, by omega, by go_num, by rw [HS.out], by rw [HS.out]; omega, by rw [HS.out]; omega, Lib.hid (fun a ha => ?_), below_drewN HBA.out _⟩, by simp [intOf]; omega⟩
              rw [HT.out] at ha
              rcases List.mem_append.1 ha with ha | ha
              · exact hfit.out a ha
              · simp at ha
                subst ha
                rw [HFT.out]
                simp
                omega
          · obtain rfl : k = L.length := by omega
            rw [List.take_of_length_le (Nat.le_refl _)] at hfit hc0 hc1
            have hT : L.take L.length = L := List.take_of_length_le (Nat.le_refl _)
            have hE : costE m L xs = 0 := by
              unfold costE
              rw [if_pos H0.out, if_pos ⟨HL1.out, HFA.out⟩, if_pos (List.all_eq_true.2 hfit.out)]
            have hV : costV m L xs = costL xs L := by unfold costV; rw [if_pos hE]
            have HE := Lib.hid hE
            have HV := Lib.hid hV
            have HTT := Lib.hid hT
            clear hE hV hT
            go_wp2_with fail
            refine bodyPost_ret (v := .tuple #[.int .i64 (costL xs L), .int .i64 0]) (by simp [results, Try.results20, go_sem]) rfl ?_
            exact ⟨by rw [HV.out, HE.out], Bl⟩
      · have hE : Hid (costE m L xs = 2) := Lib.hid (by
          unfold costE
          rw [if_pos H0.out, if_neg (fun h => by have := h.2; rw [HFA.out] at this; cases this)])
        go_wp2_with fail
        refine bodyPost_ret (v := .tuple #[.int .i64 0, .int .i64 2]) (by simp [results, Try.results20, go_sem]) rfl ?_
        exact ⟨by unfold costV; rw [hE.out]; rfl, HB2.out⟩
    · have hld : ((xs.length : Int) != (m : Int)) = true := by simp; omega
      have hE : Hid (costE m L xs = 2) := Lib.hid (by
        unfold costE
        rw [if_pos H0.out, if_neg (fun h => hlen h.1)])
      clear hlen
      go_wp2_with fail
      refine bodyPost_ret (v := .tuple #[.int .i64 0, .int .i64 2]) (by simp [results, Try.results20, go_sem]) rfl ?_
      exact ⟨by unfold costV; rw [hE.out]; rfl, HB1.out⟩
  · have hE : Hid (costE n L xs = ordE n L) := Lib.hid (by unfold costE; rw [if_neg h0])
    have hV : Hid (costV n L xs = 0) := Lib.hid (by unfold costV; rw [hE.out, if_neg h0])
    have hne : (ordE n L != 0) = true := by simp [h0]
    generalize hoe : ordE n L = oe at *
    clear h0 hoe
    go_wp2_with fail
    refine bodyPost_ret (v := .tuple #[.int .i64 0, .int .i64 oe]) (by simp [results, Try.results20, go_sem]) rfl ?_
    exact ⟨by rw [hV.out, hE.out], HB1.out⟩
end Go.Proofs.Ytimffpnfhkobkaa
/- What each node supplies. -/
namespace Go.Proofs.Ytimffpnfhkobkaa
open Go.RowKit
theorem nf_bd {G : Gf} {g : Nat → Int} {B : Int} (v : Nat) : ∀ m : Nat, (∀ i, i < m → 0 ≤ g i ∧ g i ≤ B) → -(m * B) ≤ nf G g v m ∧ nf G g v m ≤ m * B
  | 0, _ => by simp [nf]
  | m + 1, h => by
    obtain ⟨h1, h2⟩ := nf_bd (G := G) (g := g) (B := B) v m (fun i hi => h i (by omega))
    obtain ⟨h3, h4⟩ := h m (by omega)
    have e : ((m + 1 : Nat) : Int) * B = m * B + B := by push_cast; rw [Int.add_mul, Int.one_mul]
    rw [e]
    simp only [nf, ind]
    split <;> split <;> omega
/-- A right graph of some nodes. -/
theorem okg_of {n : Nat} {L : List Arc} (h : rightB n L = true) (hn : 1 ≤ n) : Okg n L := by
  obtain ⟨m, e, hm, hL, hG⟩ := right_gr h
  have : n = m := by omega
  subst this
  refine ⟨hn, hm, hL, fun i a hi => ?_⟩
  obtain ⟨f, t, x, h1, h2, h3, h4, _⟩ := hG i a hi
  exact ⟨f, t, x, h1, h2, h3, h4⟩
section
variable {w : World} {V : Value} {L : List Arc}
set_option maxRecDepth 100000 in
set_option maxHeartbeats 2000000 in
theorem supply_any (n : Nat) (h : Arcs w V L) (k : Okg n L) (he : ordE n L ≠ 2) :
    Calls Try.prog 32 #[.int .i64 (n : Int), V] w fun e w' => ∃ b, e = .returned (.slice (some ⟨b, 0, none⟩) n n) ∧ w.heap.size ≤ b ∧ w'.rowIs b 3 n (fun v => .int .i64 (nf (gfL n L) (wtL L) v L.length)) ∧ Below w.heap.size w w' := by
  have hn0 := k.n0
  have hn1 := k.n1
  have hm1 := k.m1
  have HK := Lib.hid k
  have HH := Lib.hid h
  obtain ⟨A, cap, rfl, -, -, hA⟩ := h.at_
  have HA := Lib.hid hA
  have hmk2 := run_make_row' (P := Try.prog) 26 3 (.int .i64 0) 8 Try.underlying26 info_int rfl .i64 .i64 n (by omega) (by omega)
  have hne : (ordE n L == 2) = false := by simp; exact he
  clear h hA k he
  go_enter Try.func32, Try.ntmps32
  go_wp2_with fail
  refine (check_any _ HH.out).mono ?_
  rintro e w0 ⟨rfl, B0⟩
  have HB0 := Lib.hid B0
  clear B0
  go_wp2_with fail
  clear hmk2
  have R0 : (w0.alloc (.cells (madeCells #[.int .i64 0] n) 3)).rowIs w0.heap.size 3 n (fun v => .int .i64 (nf (gfL n L) (wtL L) v 0)) := (World.rowIs_made w0 (.int .i64 0) n 3).congr (fun v _ => by simp [nf])
  have HR0 := Lib.hid R0
  clear R0
  go_loopw [16] (fun q wr => ∃ i : Nat, i ≤ L.length ∧ q = .int .i64 i ∧ wr.rowIs w0.heap.size 3 n (fun v => .int .i64 (nf (gfL n L) (wtL L) v i)) ∧ Below w0.heap.size w0 wr) (fun q _ => L.length - (intOf q).toNat)
  case atStart => exact ⟨0, by omega, rfl, HR0.out, (Below.refl _ _).alloc (Nat.le_refl _) _⟩
  case round =>
    obtain ⟨i, hi, rfl, R, B⟩ := hrel
    obtain ⟨wo, rfl⟩ : ∃ q : World, q = wr := ⟨_, rfl⟩
    have HR := Lib.hid R
    have HB := Lib.hid B
    have hwo := B.size
    have hrl := R.lt
    clear R B
    by_cases hil : i < L.length
    · have hd : decide ((i : Int) < L.length) = true := by simp; omega
      obtain ⟨ba, off, rfl, hc⟩ := HA.out (by omega)
      obtain ⟨hat, hf, ht, hw0, hw1⟩ := HK.out.at_ hil
      obtain ⟨c0, c1, c2⟩ := hc i _ hat
      have c0 := cell_later HB.out (cell_later HB0.out c0)
      have c1 := cell_later HB.out (cell_later HB0.out c1)
      have c2 := cell_later HB.out (cell_later HB0.out c2)
      have HNF : Hid (∀ v, nf (gfL n L) (wtL L) v (i + 1) = nf (gfL n L) (wtL L) v i + ind (frL L i = v) (wtL L i) - ind (ttL L i = v) (wtL L i)) := Lib.hid (fun v => rfl)
      have HBD : Hid (∀ v, -20000000000 ≤ nf (gfL n L) (wtL L) v i ∧ nf (gfL n L) (wtL L) v i ≤ 20000000000) := Lib.hid (fun v => by
        have := nf_bd (G := gfL n L) (g := wtL L) (B := 1000000) v i (fun q hq => by have := HK.out.at_ (i := q) (by omega); omega)
        omega)
      generalize frL L i = f at *
      generalize ttL L i = t at *
      generalize wtL L i = x at *
      obtain ⟨F, hF⟩ : ∃ F : Nat → Int, (fun v => nf (gfL n L) (wtL L) v i) = F := ⟨_, rfl⟩
      have hFv : ∀ v, nf (gfL n L) (wtL L) v i = F v := fun v => by rw [← hF]
      have HR' : Hid (wo.rowIs w0.heap.size 3 n (fun v => .int .i64 (F v))) := Lib.hid (HR.out.congr (fun v _ => by rw [hFv]))
      have HNF' : Hid (∀ v, nf (gfL n L) (wtL L) v (i + 1) = F v + ind (f = v) x - ind (t = v) x) := Lib.hid (fun v => by rw [HNF.out, hFv])
      have bF := HBD.out f
      have bT := HBD.out t
      rw [hFv] at bF bT
      clear HNF HBD HR hF hFv hat hc
      simp only at c0 c1 c2
      obtain ⟨wA, hwA⟩ : ∃ wA, wo.alloc (.cells #[.int .i64 (f : Nat), .int .i64 (t : Nat), .int .i64 x] 52) = wA := ⟨_, rfl⟩
      have BA : Below wo.heap.size wo wA := by rw [← hwA]; exact (Below.refl _ _).alloc (Nat.le_refl _) _
      have hG : wA.heap[wo.heap.size]? = some (.cells #[.int .i64 (f : Nat), .int .i64 (t : Nat), .int .i64 x] 52) := by rw [← hwA]; exact heap_at rfl
      have g0 : wA.cell? ⟨wo.heap.size, 0, none⟩ = some (.int .i64 (f : Nat)) := (Cl.of_block hG (j := 0) rfl).cell
      have g2 : wA.cell? ⟨wo.heap.size, 2, none⟩ = some (.int .i64 x) := (Cl.of_block hG (j := 2) rfl).cell
      have RA := HR'.out.of_block (BA.block _ hrl)
      have q0 := RA.cell hf
      have i1 : (0 : Int) ≤ (i : Int) := by omega
      have i2 : (i : Int) < (L.length : Int) := by omega
      have i3 : (0 : Int) ≤ (f : Int) := by omega
      have i4 : (f : Int) < (n : Int) := by omega
      have i5 : (0 : Int) ≤ (t : Int) := by omega
      have i6 : (t : Int) < (n : Int) := by omega
      have e1 : IntKind.i64.wrap (F f + x) = F f + x := IntWalk.i64_in _ (by omega)
      have HBA := Lib.hid (HB.out.trans (BA.mono hwo))
      have HG := Lib.hid hG
      have HRA := Lib.hid RA
      have hwA2 := HBA.out.size
      clear hG BA RA HR'
      go_upto_region 7 with fail
      clear hwA c0 c1 c2
      go_still_tail 9, (by kernel_rfl)
      change wpList _ _ _ _ _ wA.drew
      have BD : Below wA.heap.size wA wA.drew := (Below.refl _ _).drew
      generalize wA.drew = wd at *
      have fA := (HRA.out.of_block (BD.block _ HRA.out.lt))
      have f1 := fA.frozen f
      have f2 := fA.cell hf
      have HRD := Lib.hid fA
      have HBD := Lib.hid (HBA.out.trans (BD.mono hwA2))
      have HGD := Lib.hid (block_later BD HG.out)
      clear BD fA g0 g2 q0
      obtain ⟨ws, hws⟩ : ∃ ws, wd.setCell ⟨w0.heap.size, f, none⟩ (.int .i64 (F f + x)) = ws := ⟨_, rfl⟩
      have cs : Chg (fun b => b = w0.heap.size) wd ws := by rw [← hws]; exact chg_set _ ⟨w0.heap.size, f, none⟩ _
      have RS : ws.rowIs w0.heap.size 3 n (fun v => .int .i64 (upd F f (F f + x) v)) := by rw [← hws]; exact row_upd (F := fun z => .int .i64 z) HRD.out f (F f + x)
      have hGs : ws.heap[wo.heap.size]? = some (.cells #[.int .i64 (f : Nat), .int .i64 (t : Nat), .int .i64 x] 52) := (cs.block _ (Array.getElem?_eq_some_iff.1 HGD.out).1 (fun e => by omega)).trans HGD.out
      have g1 : ws.cell? ⟨wo.heap.size, 1, none⟩ = some (.int .i64 (t : Nat)) := (Cl.of_block hGs (j := 1) rfl).cell
      have g2 : ws.cell? ⟨wo.heap.size, 2, none⟩ = some (.int .i64 x) := (Cl.of_block hGs (j := 2) rfl).cell
      have q1 := RS.cell ht
      have bU : -40000000000 ≤ upd F f (F f + x) t ∧ upd F f (F f + x) t ≤ 40000000000 := by unfold upd; split <;> omega
      have HRS := Lib.hid RS
      have HBS : Hid (Below w0.heap.size w0 ws) := Lib.hid (by rw [← hws]; exact HBD.out.setCell (p := ⟨w0.heap.size, f, none⟩) (Nat.le_refl _) _)
      obtain ⟨y, hy⟩ : ∃ y, upd F f (F f + x) t = y := ⟨_, rfl⟩
      have HY := Lib.hid hy
      rw [hy] at q1 bU
      have e2 : IntKind.i64.wrap (y - x) = y - x := IntWalk.i64_in _ (by omega)
      clear RS hGs cs hy
      go_upto_region 8 with fail
      clear hws f1 f2
      go_still_tail 9, (by kernel_rfl)
      change wpList _ _ _ _ _ ws.drew
      have BE : Below ws.heap.size ws ws.drew := (Below.refl _ _).drew
      generalize ws.drew = we at *
      have fE := (HRS.out.of_block (BE.block _ HRS.out.lt))
      have f3 := fE.frozen t
      have f4 := fE.cell ht
      have HRE := Lib.hid fE
      have HBE := Lib.hid (HBS.out.trans (BE.mono HBS.out.size))
      clear BE fE g1 g2 q1
      go_wp2_with fail
      refine ⟨⟨i + 1, by omega, by go_num, ?_, HBE.out.setCell (p := ⟨w0.heap.size, t, none⟩) (Nat.le_refl _) _⟩, by simp [intOf]; omega⟩
      refine (row_upd (F := fun z => .int .i64 z) HRE.out t (y - x)).congr (fun v _ => ?_)
      rw [HNF'.out v, ← HY.out]
      congr 1
      unfold upd ind
      by_cases h1 : v = t
      · subst h1
        by_cases h2 : v = f
        · subst h2; simp
        · simp [h2, Ne.symm h2]
      · by_cases h2 : v = f
        · subst h2; simp [h1, Ne.symm h1]
        · simp [h1, h2, Ne.symm h1, Ne.symm h2]
    · obtain rfl : i = L.length := by omega
      have hd : decide ((L.length : Int) < L.length) = false := by simp
      go_wp2_with fail
      go_ret
      exact ⟨_, rfl, HB0.out.size, HR.out, HB0.out.trans (HB.out.mono HB0.out.size)⟩
set_option maxHeartbeats 1000000 in
theorem supply_err (n : Int) (h : Arcs w V L) (he : ordE n L = 2) : Calls Try.prog 32 #[.int .i64 n, V] w fun e w' => e = .returned (.slice none 0 0) ∧ Below w.heap.size w w' := by
  have HH := Lib.hid h
  have HE := Lib.hid he
  obtain ⟨A, cap, rfl, -, -, -⟩ := h.at_
  clear h he
  go_enter Try.func32, Try.ntmps32
  go_wp2_with fail
  refine (check_any _ HH.out).mono ?_
  rw [HE.out]
  rintro e w0 ⟨rfl, B0⟩
  have HB0 := Lib.hid B0
  clear B0
  go_wp2_with fail
  go_ret
  exact ⟨rfl, HB0.out⟩
end
end Go.Proofs.Ytimffpnfhkobkaa
