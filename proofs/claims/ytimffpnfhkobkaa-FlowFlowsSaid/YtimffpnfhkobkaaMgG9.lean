/- The slack of an arc; where a step leads back to; coordinates turned. -/
import Derived.Test.YtimffpnfhkobkaaMgG4
import Derived.Deep.QuietTactic
import Derived.BigQuiet
import Derived.Test.YtimffpnfhkobkaaMgG0
import Derived.BigRegion
import Derived.Deep.RegionHeld3
import Derived.Deep.DeepCutAuto
import Derived.StillTailTactics
import Derived.Deep.RegionWith
import Derived.Deep.RegionLaw
import Derived.Deep.LoopGhost
import Derived.Laws.EntriesVeiled
namespace Go.Proofs.Ytimffpnfhkobkaa
open Go.RowKit
section
variable {s : Sv} {w : World} {left fl x far : Nat → Int} {came : Nat → Stp} {cl : Nat → Bool}
/-- The cells of a solver that a walk reads. -/
theorem Sv.ro.cells (h : s.ro w) : w.cell? ⟨s.sb, 0, none⟩ = some (.slice s.AA s.L.length s.cA) ∧ w.cell? ⟨s.sb, 1, none⟩ = some (.slice (some ⟨s.bo, 0, none⟩) s.n s.n) ∧ w.cell? ⟨s.sb, 2, none⟩ = some (.slice (some ⟨s.bi, 0, none⟩) s.n s.n) ∧ w.cell? ⟨s.sb, 3, none⟩ = some (.slice (some ⟨s.bl, 0, none⟩) s.n s.n) ∧ w.cell? ⟨s.sb, 4, none⟩ = some (.slice (some ⟨s.bf, 0, none⟩) s.L.length s.L.length) ∧
    w.cell? ⟨s.sb, 5, none⟩ = some (.slice (some ⟨s.bx, 0, none⟩) s.n s.n) ∧ w.cell? ⟨s.sb, 6, none⟩ = some (.slice (some ⟨s.br, 0, none⟩) s.n s.n) ∧ w.cell? ⟨s.sb, 7, none⟩ = some (.slice (some ⟨s.bm, 0, none⟩) s.n s.n) ∧ w.cell? ⟨s.sb, 8, none⟩ = some (.slice (some ⟨s.bc, 0, none⟩) s.n s.n) :=
  ⟨(Cl.of_block h.top (j := 0) rfl).cell, (Cl.of_block h.top (j := 1) rfl).cell, (Cl.of_block h.top (j := 2) rfl).cell, (Cl.of_block h.top (j := 3) rfl).cell, (Cl.of_block h.top (j := 4) rfl).cell, (Cl.of_block h.top (j := 5) rfl).cell, (Cl.of_block h.top (j := 6) rfl).cell, (Cl.of_block h.top (j := 7) rfl).cell, (Cl.of_block h.top (j := 8) rfl).cell⟩
theorem Sv.arc_at (h : s.ro w) (k : s.ok) {i : Nat} (hi : i < s.L.length) : ∃ b off, s.AA = some ⟨b, off, none⟩ ∧ w.cell? ⟨b, off + i * 3, none⟩ = some (.int .i64 (frL s.L i : Nat)) ∧ w.cell? ⟨b, off + i * 3 + 1, none⟩ = some (.int .i64 (ttL s.L i : Nat)) ∧ frL s.L i < s.n ∧ ttL s.L i < s.n := by
  obtain ⟨b, off, e, _, hc⟩ := h.arcs (by omega)
  obtain ⟨h1, h2, h3, _⟩ := k.g.at_ hi
  obtain ⟨c0, c1, _⟩ := hc i _ h1
  exact ⟨b, off, e, c0, c1, h2, h3⟩
set_option maxRecDepth 100000 in
set_option maxHeartbeats 1000000 in
theorem slack_any (h : s.st w left fl x far came cl) (k : s.ok) (hx : ∀ v, v < s.n → -1000000000000000 ≤ x v ∧ x v ≤ 1000000000000000) (i : Nat) (hi : i < s.L.length) :
    Calls Try.prog 63 #[.pointer (some ⟨s.sb, 0, none⟩), .int .i64 (i : Int)] w fun e w' => e = .returned (.int .i64 (slk s.G x i)) ∧ Below w.heap.size w w' := by
  obtain ⟨b, off, hAA, c0, c1, hf, ht⟩ := Sv.arc_at h.ro k hi
  obtain ⟨d0, -, -, -, -, d5, -⟩ := h.ro.cells
  have q0 := h.x.cell hf
  have q1 := h.x.cell ht
  have b0 := hx _ hf
  have b1 := hx _ ht
  have hE : Hid (slk s.G x i = x (ttL s.L i) - x (frL s.L i) - 1) := Lib.hid rfl
  have hn1 := k.g.n1
  have hm1 := k.g.m1
  rw [hAA] at d0
  generalize frL s.L i = f at *
  generalize ttL s.L i = t at *
  generalize x f = xf at *
  generalize x t = xt at *
  have i1 : (0 : Int) ≤ (i : Int) := by omega
  have i2 : (i : Int) < (s.L.length : Int) := by omega
  have i3 : (0 : Int) ≤ (f : Int) := by omega
  have i4 : (f : Int) < (s.n : Int) := by omega
  have i5 : (0 : Int) ≤ (t : Int) := by omega
  have i6 : (t : Int) < (s.n : Int) := by omega
  have e1 : IntKind.i64.wrap (xt - xf) = xt - xf := IntWalk.i64_in _ (by omega)
  have e2 : IntKind.i64.wrap (xt - xf - 1) = xt - xf - 1 := IntWalk.i64_in _ (by omega)
  clear hAA h k hx
  go_enter Try.func63, Try.ntmps63
  go_wp2_with fail
  go_quiet (fail)
  go_wp2_with fail
  go_ret
  exact ⟨ret_int hE.out.symm, below_drewN (Below.refl _ _) _⟩
set_option maxRecDepth 100000 in
set_option maxHeartbeats 1000000 in
theorem back_any (h : s.ro w) (k : s.ok) (y : Bool) (i : Nat) (hi : i < s.L.length) :
    Calls Try.prog 64 #[.pointer (some ⟨s.sb, 0, none⟩), .agg #[.int .i64 (i : Int), .bool y]] w fun e w' => e = .returned (.int .i64 (prv s.G ((i : Int), y) : Nat)) ∧ Below w.heap.size w w' := by
  obtain ⟨b, off, hAA, c0, c1, hf, ht⟩ := Sv.arc_at h k hi
  obtain ⟨d0, -⟩ := h.cells
  have hE : Hid (prv s.G ((i : Int), y) = if y = true then ttL s.L i else frL s.L i) := Lib.hid rfl
  rw [hAA] at d0
  generalize frL s.L i = f at *
  generalize ttL s.L i = t at *
  have i1 : (0 : Int) ≤ (i : Int) := by omega
  have i2 : (i : Int) < (s.L.length : Int) := by omega
  have hm1 := k.g.m1
  clear hAA h k
  obtain ⟨wA, hwA⟩ : ∃ wA, w.alloc (.cells #[.int .i64 (i : Int), .bool y] 108) = wA := ⟨_, rfl⟩
  have BA : Below w.heap.size w wA := by rw [← hwA]; exact (Below.refl _ _).alloc (Nat.le_refl _) _
  have g0 : wA.cell? ⟨w.heap.size, 0, none⟩ = some (.int .i64 (i : Int)) := by rw [← hwA]; exact (Cl.new rfl).cell
  have g1 : wA.cell? ⟨w.heap.size, 1, none⟩ = some (.bool y) := by rw [← hwA]; exact (Cl.new rfl).cell
  have d0 := cell_later BA d0
  have c0 := cell_later BA c0
  have c1 := cell_later BA c1
  have HB := Lib.hid BA
  clear BA
  cases y
  · go_enter Try.func64, Try.ntmps64
    go_wp2_with fail
    go_quiet (fail)
    go_wp2_with fail
    go_ret
    exact ⟨ret_int (by rw [hE.out]; rfl), below_drewN HB.out _⟩
  · go_enter Try.func64, Try.ntmps64
    go_wp2_with fail
    go_quiet (fail)
    go_wp2_with fail
    go_ret
    exact ⟨ret_int (by rw [hE.out]; rfl), below_drewN HB.out _⟩
def turnX (x far : Nat → Int) (cl : Nat → Bool) (D : Int) (k v : Nat) : Int := if v < k then x v - ddv far cl D v else x v
theorem turnX_step (x far : Nat → Int) (cl : Nat → Bool) (D : Int) (k : Nat) : upd (turnX x far cl D k) k (x k - ddv far cl D k) = turnX x far cl D (k + 1) := by
  funext v
  unfold upd turnX
  by_cases e : v = k
  · subst e; simp
  · rw [if_neg e]
    by_cases h : v < k
    · rw [if_pos h, if_pos (by omega)]
    · rw [if_neg h, if_neg (by omega)]
set_option maxRecDepth 100000 in
set_option maxHeartbeats 1000000 in
theorem turn_any (D : Int) (h : s.st w left fl x far came cl) (k : s.ok) (hx : ∀ v, v < s.n → -1000000000000000 ≤ x v ∧ x v ≤ 1000000000000000) (hD : 0 ≤ D ∧ D ≤ 1000000) (hc : ∀ v, v < s.n → cl v = true → 0 ≤ far v ∧ far v ≤ D) :
    Calls Try.prog 47 #[.pointer (some ⟨s.sb, 0, none⟩), .int .i64 D] w fun e w' => e = .returned (.tuple #[]) ∧ s.st w' left fl (fun v => x v - ddv far cl D v) far came cl ∧ Chg (fun b => b = s.bx) w w' := by
  obtain ⟨d0, -, -, -, -, d5, d6, -, d8⟩ := h.ro.cells
  have hn1 := k.g.n1
  have HX := Lib.hid hx
  have HC := Lib.hid hc
  have HS := Lib.hid h
  have HK := Lib.hid k
  have hrx : ¬ s.R s.bx := fun q => k.rd _ q (by simp)
  have hap := k.ap
  simp only [List.nodup_cons, List.mem_cons, List.not_mem_nil, or_false, not_or] at hap
  have HAP := Lib.hid hap
  clear hx hc h k hap
  go_enter Try.func47, Try.ntmps47
  go_wp2_with fail
  clear d0 d5 d6 d8
  go_loopw [11] (fun q wr => ∃ k : Nat, k ≤ s.n ∧ q = .int .i64 k ∧ s.st wr left fl (turnX x far cl D k) far came cl ∧ Chg (fun b => b = s.bx) w wr) (fun q _ => s.n - (intOf q).toNat)
  case atStart => exact ⟨0, by omega, rfl, (by
    have e : turnX x far cl D 0 = x := by funext v; simp [turnX]
    rw [e]; exact HS.out), Chg.refl _ _⟩
  case round =>
    obtain ⟨k, hk, rfl, S, C⟩ := hrel
    by_cases hkn : k < s.n
    · have hd : decide ((k : Int) < s.n) = true := by simp; omega
      obtain ⟨-, -, -, -, -, d5, d6, -, d8⟩ := S.ro.cells
      have q0 := S.x.cell hkn
      have q1 := S.far.cell hkn
      have q2 := S.cl.cell hkn
      have q3 := S.x.frozen k
      have hxk : turnX x far cl D k k = x k := by simp [turnX]
      rw [hxk] at q0
      have b0 := HX.out k hkn
      have i1 : (0 : Int) ≤ (k : Int) := by omega
      have i2 : (k : Int) < (s.n : Int) := by omega
      have HSS := Lib.hid S
      have HCC := Lib.hid C
      clear S C hxk
      obtain ⟨ap1, ap2, ap3, ap4, ap5, -⟩ := HAP.out
      have fin : ∀ d : Int, d = ddv far cl D k → ∀ w2 : World, w2 = wr.setCell ⟨s.bx, k, none⟩ (.int .i64 (x k - d)) → s.st w2 left fl (turnX x far cl D (k + 1)) far came cl ∧ Chg (fun b => b = s.bx) w w2 := by
        rintro d rfl w2 rfl
        have c := chg_set wr ⟨s.bx, k, none⟩ (.int .i64 (x k - ddv far cl D k))
        refine ⟨⟨HSS.out.ro.chg c (fun b hb e => by subst e; exact hrx hb), row_set_ne HSS.out.left (Ne.symm ?_), row_set_ne HSS.out.fl ?_, ?_, row_set_ne HSS.out.far ?_, row_set_ne HSS.out.came ?_, row_set_ne HSS.out.cl ?_⟩, HCC.out.trans c (fun b _ h => h)⟩
        · exact fun e => ap1.2.1 e.symm
        · exact ap2.1
        · have := row_upd (F := fun z => .int .i64 z) HSS.out.x k (x k - ddv far cl D k)
          rw [turnX_step] at this
          exact this
        · exact fun e => ap3.1 e.symm
        · exact fun e => ap3.2.1 e.symm
        · exact fun e => ap3.2.2 e.symm
      have HF := Lib.hid fin
      clear fin
      obtain ⟨c, hcc⟩ : ∃ c, cl k = c := ⟨_, rfl⟩
      have HCL := Lib.hid (HC.out k hkn)
      have HDD : Hid (ddv far cl D k = if c = true then far k else D) := Lib.hid (by unfold ddv; rw [hcc])
      rw [hcc] at q2 HCL
      clear hcc ap1 ap2 ap3 ap4 ap5
      cases c
      · go_wp2_with fail
        obtain ⟨S2, C2⟩ := HF.out D (by rw [HDD.out]; rfl) _ rfl
        exact ⟨⟨k + 1, by omega, by go_num, S2, C2⟩, by simp [intOf]; omega⟩
      · obtain ⟨f0, f1⟩ := HCL.out rfl
        have hmin : min (far k) D = far k := by omega
        go_wp2_with fail
        obtain ⟨S2, C2⟩ := HF.out (far k) (by rw [HDD.out]; rfl) _ rfl
        exact ⟨⟨k + 1, by omega, by go_num, S2, C2⟩, by simp [intOf]; omega⟩
    · obtain rfl : k = s.n := by omega
      have hd : decide ((s.n : Int) < s.n) = false := by simp
      go_wp2_with fail
      go_end0
      refine ⟨rfl, ?_, C⟩
      have e : ∀ v, v < s.n → turnX x far cl D s.n v = x v - ddv far cl D v := fun v hv => by unfold turnX; rw [if_pos hv]
      exact ⟨S.ro, S.left, S.fl, S.x.congr (fun v hv => by rw [e v hv]), S.far, S.came, S.cl⟩
end
end Go.Proofs.Ytimffpnfhkobkaa
/- The heap's functions at one element type, what each call does: how many, which comes ahead, an exchange. No condition but that the heap is one. -/
namespace Go.Proofs.Ytimffpnfhkobkaa.HRch
open Go.RowKit
abbrev El := Int × Int
def enc (a : El × Int) : List Value := [.int .i64 a.1.1, .int .i64 a.1.2, .int .i64 a.2]
theorem enc_length (a : El × Int) : (enc a).length = 3 := rfl
abbrev Rep (w : World) (hb : Nat) (F V : Value) (t : Int) (base : Nat) (l : List (El × Int)) : Prop := HRep 117 123 3 enc w hb F V t base l
/-- What a call of what is less does. -/
structure Less (lf : Nat) (lt : El → El → Bool) : Prop where
  enter : ∀ (args : Array Value) (w : World), (callFunc lf args).run Try.prog w = .ok (.enter lf args) w
  calls : ∀ (a b : El) (w : World), Calls Try.prog lf #[.agg #[.int .i64 a.1, .int .i64 a.2], .agg #[.int .i64 b.1, .int .i64 b.2]] w fun e w' => e = .returned (.bool (lt a b)) ∧ Below w.heap.size w w'

set_option maxHeartbeats 400000 in
theorem len_any {w : World} {hb : Nat} {F V : Value} {t : Int} {base : Nat} {l : List (El × Int)} (H : Rep w hb F V t base l) :
    Calls Try.prog 82 #[.pointer (some ⟨hb, 0, none⟩)] w fun e w' => e = .returned (.int .i64 (l.length : Int)) ∧ w = w' := by
  have h1 : ∃ A cap, V = .slice A l.length cap := by
    rcases H.row.2 with ⟨h, h0⟩ | ⟨g, cap, cur, h, _⟩
    · exact ⟨none, 0, by rw [h, h0]⟩
    · exact ⟨_, cap, h⟩
  obtain ⟨A, cap, rfl⟩ := h1
  have c1 := (Cl.of_block H.blk (j := 1) (v := .slice A l.length cap) rfl).cell
  go_enter Try.func82, Try.ntmps82
  go_wp2
  go_ret
  exact ⟨rfl, rfl⟩
set_option maxHeartbeats 400000 in
theorem len_nil (w : World) : Calls Try.prog 82 #[.pointer none] w fun e w' => e = .returned (.int .i64 0) ∧ w = w' := by
  go_enter Try.func82, Try.ntmps82
  go_wp2
  go_ret
  exact ⟨rfl, rfl⟩

theorem two_blocks (w : World) (X Y : Obj) : Below w.heap.size w ((w.alloc X).alloc Y).drew ∧ ((w.alloc X).alloc Y).drew.heap[w.heap.size]? = some X ∧ ((w.alloc X).alloc Y).drew.heap[w.heap.size + 1]? = some Y :=
  ⟨(((Below.refl _ _).alloc (Nat.le_refl _) _).alloc (by simp) _).drew, (Below.heap_alloc _ _ _ (by simp)).trans (heap_at rfl), heap_at (by simp)⟩
set_option maxRecDepth 100000 in
set_option maxHeartbeats 1000000 in
theorem ahead_any {lf : Nat} {lt : El → El → Bool} (hless : Less lf lt) {w : World} {hb : Nat} {V : Value} {t : Int} {base : Nat} {l : List (El × Int)}
    (H : Rep w hb (.func (.func lf) #[] #[]) V t base l) (i k : Int) (i0 : 0 ≤ i) (i1 : i < l.length) (k0 : 0 ≤ k) (k1 : k < l.length) :
    Calls Try.prog 83 #[.pointer (some ⟨hb, 0, none⟩), .int .i64 i, .int .i64 k] w fun e w' => e = .returned (.bool (ahd lt l[i.toNat]! l[k.toNat]!)) ∧ Below w.heap.size w w' := by
  obtain ⟨g, cap, rfl, hg, hgl, hne⟩ := H.slice (by omega)
  obtain ⟨a, ha⟩ : ∃ a, l[i.toNat]? = some a := ⟨_, List.getElem?_eq_getElem (by omega)⟩
  obtain ⟨b, hb'⟩ : ∃ b, l[k.toNat]? = some b := ⟨_, List.getElem?_eq_getElem (by omega)⟩
  have HR : Hid (ahd lt l[i.toNat]! l[k.toNat]! = ahd lt a b) := by unfold Hid; simp [getElem!_def, ha, hb']
  have cF := (Cl.of_block H.blk (j := 0) (v := .func (.func lf) #[] #[]) rfl).cell
  have cV := (Cl.of_block H.blk (j := 1) (v := .slice (some ⟨g, 0, none⟩) l.length cap) rfl).cell
  have ca0 := (H.item enc_length rfl ha (r := 0) (by omega) (v := .int .i64 a.1.1) rfl).cell
  rw [Nat.add_zero] at ca0
  have ca1 := (H.item enc_length rfl ha (r := 1) (by omega) (v := .int .i64 a.1.2) rfl).cell
  have ca2 := (H.item enc_length rfl ha (r := 2) (by omega) (v := .int .i64 a.2) rfl).cell
  have cb0 := (H.item enc_length rfl hb' (r := 0) (by omega) (v := .int .i64 b.1.1) rfl).cell
  rw [Nat.add_zero] at cb0
  have cb1 := (H.item enc_length rfl hb' (r := 1) (by omega) (v := .int .i64 b.1.2) rfl).cell
  have cb2 := (H.item enc_length rfl hb' (r := 2) (by omega) (v := .int .i64 b.2) rfl).cell
  have z1 := H.lt
  have z2 := hgl
  have z3 : hb < w.heap.size + 1 := by omega
  have z4 : g < w.heap.size + 1 := by omega
  have HL := Lib.hid hless
  clear H hless ha hb'
  go_enter Try.func83, Try.ntmps83
  go_upto_region 1 with fail
  go_cut [7, 8] (fun p q wx => ∃ b1 b2 : Nat, p = .pointer (some ⟨b1, 0, none⟩) ∧ q = .pointer (some ⟨b2, 0, none⟩) ∧ Below w.heap.size w wx ∧ wx.heap[b1]? = some (.cells #[.int .i64 a.1.1, .int .i64 a.1.2, .int .i64 a.2] 123) ∧ wx.heap[b2]? = some (.cells #[.int .i64 b.1.1, .int .i64 b.1.2, .int .i64 b.2] 123))
  case first =>
    have T1 := two_blocks w (.cells #[.int .i64 a.1.1, .int .i64 a.1.2, .int .i64 a.2] 123) (.cells #[.int .i64 b.1.1, .int .i64 b.1.2, .int .i64 b.2] 123)
    have T2 := two_blocks w (.cells #[.int .i64 b.1.1, .int .i64 b.1.2, .int .i64 b.2] 123) (.cells #[.int .i64 a.1.1, .int .i64 a.1.2, .int .i64 a.2] 123)
    have T1' := Lib.hid T1
    have T2' := Lib.hid T2
    clear T1 T2
    go_region
    · go_wp2_with fail
      go_meet
      exact ⟨_, _, rfl, rfl, T1'.out.1, T1'.out.2.1, T1'.out.2.2⟩
    · go_wp2_with fail
      go_meet
      exact ⟨_, _, rfl, rfl, T2'.out.1, T2'.out.2.2, T2'.out.2.1⟩
  case rest =>
    rename World => wA
    obtain ⟨b1, b2, rfl, rfl, hw, h1, h2⟩ := hcut
    have HW := Lib.hid hw
    have H1 := Lib.hid h1
    have H2 := Lib.hid h2
    have cF' := cell_later hw cF
    have da0 := (Cl.of_block h1 (j := 0) (v := .int .i64 a.1.1) rfl).cell
    have da1 := (Cl.of_block h1 (j := 1) (v := .int .i64 a.1.2) rfl).cell
    have da2 := (Cl.of_block h1 (j := 2) (v := .int .i64 a.2) rfl).cell
    have db0 := (Cl.of_block h2 (j := 0) (v := .int .i64 b.1.1) rfl).cell
    have db1 := (Cl.of_block h2 (j := 1) (v := .int .i64 b.1.2) rfl).cell
    have db2 := (Cl.of_block h2 (j := 2) (v := .int .i64 b.2) rfl).cell
    clear ca0 cV cF hw h1 h2
    go_upto_region 2 with fail
    go_cut [31] (fun r wx => r = .bool (lt a.1 b.1) ∧ Below wA.heap.size wA wx)
    case first =>
      have HE := HL.out.enter
      go_still_tail 8, (by kernel_rfl)
      change wpList _ _ _ _ _ wA.drew
      generalize hwd : wA.drew = w2
      have HD := Lib.hid hwd
      clear hwd da0 db0 cF'
      go_wp2_with fail
      refine (HL.out.calls a.1 b.1 _).mono ?_
      rintro e w' ⟨rfl, hbw⟩
      go_wp2_with fail
      go_meet
      exact ⟨rfl, by rw [← HD.out] at hbw; exact (Below.refl _ _).drew.trans hbw⟩
    case rest =>
      rename World => wB
      obtain ⟨rfl, hw1⟩ := hcut
      have cF2 := cell_later hw1 cF'
      have g1 := block_later hw1 H1.out
      have g2 := block_later hw1 H2.out
      have HB := Lib.hid (below_then HW.out HW.out.size hw1)
      obtain ⟨x1, hx1⟩ : ∃ x, lt a.1 b.1 = x := ⟨_, rfl⟩
      rw [hx1]
      have HX := Lib.hid hx1
      clear hx1 ca1 ca2 cb0 cb1 cb2 da0 db0
      cases x1
      · obtain ⟨x2, hx2⟩ : ∃ x, lt b.1 a.1 = x := ⟨_, rfl⟩
        have HX2 := Lib.hid hx2
        clear hx2
        have ea0 := (Cl.of_block g1 (j := 0) (v := .int .i64 a.1.1) rfl).cell
        have ea1 := (Cl.of_block g1 (j := 1) (v := .int .i64 a.1.2) rfl).cell
        have ea2 := (Cl.of_block g1 (j := 2) (v := .int .i64 a.2) rfl).cell
        have eb0 := (Cl.of_block g2 (j := 0) (v := .int .i64 b.1.1) rfl).cell
        have eb1 := (Cl.of_block g2 (j := 1) (v := .int .i64 b.1.2) rfl).cell
        have eb2 := (Cl.of_block g2 (j := 2) (v := .int .i64 b.2) rfl).cell
        have hB := HB.out.size
        have f0 := grow_cell cF2
        have fea0 := grow_cell ea0
        have fea1 := grow_cell ea1
        have fea2 := grow_cell ea2
        have feb0 := grow_cell eb0
        have feb1 := grow_cell eb1
        have feb2 := grow_cell eb2
        have HF : Hid (ahd lt l[i.toNat]! l[k.toNat]! = (!x2 && decide (a.2 < b.2))) := by show _ = _; rw [HR.out]; simp [ahd, HX.out, HX2.out]
        have HC : Hid (∀ W : World, Calls Try.prog lf #[.agg #[.int .i64 b.1.1, .int .i64 b.1.2], .agg #[.int .i64 a.1.1, .int .i64 a.1.2]] W fun e w' => e = .returned (.bool x2) ∧ Below W.heap.size W w') := by rw [← HX2.out]; exact fun W => HL.out.calls b.1 a.1 W
        have HE := HL.out.enter
        go_upto_region 4 with fail
        clear ea0 eb0 cF2 hw1 g1 g2 HX2
        cases x2
        all_goals
          refine wp_region_grow (by kernel_rfl) (by kernel_rfl) ?_
          repeat (quiet_step (exact grow_calls (HC.out _)))
          refine wpQuiet_nil ?_
          rintro _ ⟨X, rfl⟩
          go_wp2_with fail
          go_ret
          exact ⟨ret_bool (by rw [HF.out]; simp), below_then HB.out hB (grow_below _ _)⟩
      · go_wp2_with fail
        go_ret
        exact ⟨ret_bool (by rw [HR.out]; simp [ahd, HX.out]), HB.out⟩
end Go.Proofs.Ytimffpnfhkobkaa.HRch
/- The heap's functions at one element type, what each call does: an exchange of two items, an item that sinks. -/
namespace Go.Proofs.Ytimffpnfhkobkaa.HRch
open Go.RowKit
set_option maxRecDepth 100000 in
set_option maxHeartbeats 1000000 in
theorem swap_any {w : World} {hb : Nat} {F V : Value} {t : Int} {base : Nat} {l : List (El × Int)}
    (H : Rep w hb F V t base l) (i k : Int) (i0 : 0 ≤ i) (i1 : i < l.length) (k0 : 0 ≤ k) (k1 : k < l.length) :
    Calls Try.prog 75 #[.pointer (some ⟨hb, 0, none⟩), .int .i64 i, .int .i64 k] w fun e w' => e = .returned (.tuple #[]) ∧ Rep w' hb F V t base (swp l i.toNat k.toNat) ∧ Chg (fun b => V.ownBlock = some b) w w' := by
  obtain ⟨g, cap, rfl, hg, hgl, hne⟩ := H.slice (by omega)
  obtain ⟨a, ha⟩ : ∃ a, l[i.toNat]? = some a := ⟨_, List.getElem?_eq_getElem (by omega)⟩
  obtain ⟨b, hb'⟩ : ∃ b, l[k.toNat]? = some b := ⟨_, List.getElem?_eq_getElem (by omega)⟩
  have cV := (Cl.of_block H.blk (j := 1) (v := .slice (some ⟨g, 0, none⟩) l.length cap) rfl).cell
  have ca0 := H.item enc_length rfl ha (r := 0) (by omega) (v := .int .i64 a.1.1) rfl
  rw [Nat.add_zero] at ca0
  obtain ⟨ca0c, ca0f⟩ := ca0
  have ca1 := H.item enc_length rfl ha (r := 1) (by omega) (v := .int .i64 a.1.2) rfl
  obtain ⟨ca1c, ca1f⟩ := ca1
  have ca2 := H.item enc_length rfl ha (r := 2) (by omega) (v := .int .i64 a.2) rfl
  obtain ⟨ca2c, ca2f⟩ := ca2
  have cb0 := H.item enc_length rfl hb' (r := 0) (by omega) (v := .int .i64 b.1.1) rfl
  rw [Nat.add_zero] at cb0
  obtain ⟨cb0c, cb0f⟩ := cb0
  have cb1 := H.item enc_length rfl hb' (r := 1) (by omega) (v := .int .i64 b.1.2) rfl
  obtain ⟨cb1c, cb1f⟩ := cb1
  have cb2 := H.item enc_length rfl hb' (r := 2) (by omega) (v := .int .i64 b.2) rfl
  obtain ⟨cb2c, cb2f⟩ := cb2
  have HH := Lib.hid H
  have HA := Lib.hid ha
  have HB := Lib.hid hb'
  have hne' : hb ≠ g := Ne.symm hne
  clear H ha hb'
  obtain ⟨u00, hu00⟩ := cell?_setCell_some (w := w) (p := ⟨g, i.toNat * 3, none⟩) (x := .int .i64 b.1.1) (q := ⟨g, k.toNat * 3, none⟩) cb0c
  obtain ⟨u10, hu10⟩ := cell?_setCell_some (w := w) (p := ⟨g, i.toNat * 3, none⟩) (x := .int .i64 b.1.1) (q := ⟨g, k.toNat * 3 + 1, none⟩) cb1c
  obtain ⟨u11, hu11⟩ := cell?_setCell_some (w := (w.setCell ⟨g, i.toNat * 3, none⟩ (.int .i64 b.1.1))) (p := ⟨g, i.toNat * 3 + 1, none⟩) (x := .int .i64 b.1.2) (q := ⟨g, k.toNat * 3 + 1, none⟩) hu10
  clear hu10
  obtain ⟨u20, hu20⟩ := cell?_setCell_some (w := w) (p := ⟨g, i.toNat * 3, none⟩) (x := .int .i64 b.1.1) (q := ⟨g, k.toNat * 3 + 2, none⟩) cb2c
  obtain ⟨u21, hu21⟩ := cell?_setCell_some (w := (w.setCell ⟨g, i.toNat * 3, none⟩ (.int .i64 b.1.1))) (p := ⟨g, i.toNat * 3 + 1, none⟩) (x := .int .i64 b.1.2) (q := ⟨g, k.toNat * 3 + 2, none⟩) hu20
  obtain ⟨u22, hu22⟩ := cell?_setCell_some (w := ((w.setCell ⟨g, i.toNat * 3, none⟩ (.int .i64 b.1.1)).setCell ⟨g, i.toNat * 3 + 1, none⟩ (.int .i64 b.1.2))) (p := ⟨g, i.toNat * 3 + 2, none⟩) (x := .int .i64 b.2) (q := ⟨g, k.toNat * 3 + 2, none⟩) hu21
  clear hu20
  clear hu21
  go_enter Try.func75, Try.ntmps75
  go_region
  go_end0
  have hi : i.toNat < l.length := by omega
  have hk : k.toNat < l.length := by omega
  have S1 := HH.out.store enc_length rfl i.toNat b hi
  have S2 := S1.1.store enc_length (by rw [List.length_set]) k.toNat a (by rw [List.length_set]; exact hk)
  have es : swp l i.toNat k.toNat = (l.set i.toNat b).set k.toNat a := by simp [swp, getElem!_def, HA.out, HB.out]
  rw [es]
  refine ⟨rfl, HRep.later S2.1 (Below.refl _ _).drew, (S1.2.trans S2.2 (fun _ _ h => h)).drew⟩

theorem ahead_nat {lf : Nat} {lt : El → El → Bool} (hless : Less lf lt) {w : World} {hb : Nat} {V : Value} {t : Int} {base : Nat} {l : List (El × Int)}
    (H : Rep w hb (.func (.func lf) #[] #[]) V t base l) (i k : Nat) (i' k' : Int) (hi : i' = i) (hk : k' = k) (i1 : i < l.length) (k1 : k < l.length) :
    Calls Try.prog 83 #[.pointer (some ⟨hb, 0, none⟩), .int .i64 i', .int .i64 k'] w fun e w' => e = .returned (.bool (ahd lt l[i]! l[k]!)) ∧ Below w.heap.size w w' := by
  subst hi hk
  exact ahead_any hless H i k (by omega) (by omega) (by omega) (by omega)
theorem swap_nat {w : World} {hb : Nat} {F V : Value} {t : Int} {base : Nat} {l : List (El × Int)}
    (H : Rep w hb F V t base l) (i k : Nat) (i' k' : Int) (hi : i' = i) (hk : k' = k) (i1 : i < l.length) (k1 : k < l.length) :
    Calls Try.prog 75 #[.pointer (some ⟨hb, 0, none⟩), .int .i64 i', .int .i64 k'] w fun e w' => e = .returned (.tuple #[]) ∧ Rep w' hb F V t base (swp l i k) ∧ Chg (fun b => V.ownBlock = some b) w w' := by
  subst hi hk
  exact swap_any H i k (by omega) (by omega) (by omega) (by omega)
set_option maxRecDepth 100000 in
set_option maxHeartbeats 1000000 in
theorem sink_any {lf : Nat} {lt : El → El → Bool} (hless : Less lf lt) {w : World} {hb : Nat} {V : Value} {t : Int} {base : Nat} {l : List (El × Int)}
    (H : Rep w hb (.func (.func lf) #[] #[]) V t base l) (hn : l.length ≤ 9000000000000) :
    Calls Try.prog 76 #[.pointer (some ⟨hb, 0, none⟩)] w fun e w' => e = .returned (.tuple #[]) ∧ Rep w' hb (.func (.func lf) #[] #[]) V t base (down lt l.length l 0) ∧ Chg (fun b => V.ownBlock = some b) w w' := by
  obtain ⟨A, cap, rfl⟩ : ∃ A cap, V = .slice A l.length cap := by
    rcases H.row.2 with ⟨h, h0⟩ | ⟨g, cap, cur, h, _⟩
    · exact ⟨none, 0, by rw [h, h0]⟩
    · exact ⟨_, cap, h⟩
  generalize hN : l.length = n at hn
  have HN := Lib.hid hN
  have HL := Lib.hid hless
  clear hN hless
  go_enter Try.func76, Try.ntmps76
  go_wp2_with fail
  go_loopg [2] n (fun f s wr => ∃ (i : Nat) (m : List (El × Int)), s = .int .i64 i ∧ Hid (m.length = n) ∧ i ≤ n ∧ n ≤ i + f ∧ Rep wr hb (.func (.func lf) #[] #[]) (.slice A n cap) t base m ∧ Chg (fun b => (Value.slice A n cap).ownBlock = some b) w wr ∧ Hid (down lt n l 0 = down lt f m i))
  case atStart => exact ⟨0, l, rfl, HN, by omega, by omega, by have h := H; rw [HN.out] at h; exact h, Chg.refl _ _, rfl⟩
  case round =>
    obtain ⟨i, m, rfl, hm, him, hgk, HM, hch, HD⟩ := hrel
    have cV := (Cl.of_block HM.blk (j := 1) (v := .slice A n cap) rfl).cell
    have HC := Lib.hid hch
    have HM' := Lib.hid HM
    clear hch HM
    by_cases c1 : 2 * i + 1 < n
    · have hb1 : ∃ x, ahd lt m[2 * i + 2]! m[2 * i + 1]! = x := ⟨_, rfl⟩
      by_cases c2 : 2 * i + 2 < n
      · obtain ⟨b1, hb1⟩ := hb1
        have HB1 := Lib.hid hb1
        clear hb1
        cases b1
        · have hc : Hid (child lt m i = 2 * i + 1) := by show _ = _; unfold child; rw [if_neg (by rw [HB1.out]; simp)]
          go_wp2_with fail
          refine (ahead_nat HL.out HM'.out (2 * i + 2) (2 * i + 1) _ _ (by omega) (by omega) (by rw [hm.out]; omega) (by rw [hm.out]; omega)).mono ?_
          rw [HB1.out]
          rintro e w1 ⟨rfl, hw1⟩
          have HM1 := Lib.hid (HM'.out.later hw1)
          have HC1 := Lib.hid (HC.out.trans (chg_below hw1 (fun b => (Value.slice A n cap).ownBlock = some b)) (fun _ _ h => h))
          clear hw1
          go_wp2_with fail
          obtain ⟨b2, hb2⟩ : ∃ x, ahd lt m[2 * i + 1]! m[i]! = x := ⟨_, rfl⟩
          have HB2 := Lib.hid hb2
          clear hb2
          refine (ahead_nat HL.out HM1.out (2 * i + 1) i _ _ (by omega) (by omega) (by rw [hm.out]; omega) (by rw [hm.out]; omega)).mono ?_
          rw [HB2.out]
          rintro e w2 ⟨rfl, hw2⟩
          have HM2 := Lib.hid (HM1.out.later hw2)
          have HC2 := Lib.hid (HC1.out.trans (chg_below hw2 (fun b => (Value.slice A n cap).ownBlock = some b)) (fun _ _ h => h))
          clear hw2
          cases b2
          · have hs : Hid (down lt gk m i = m) := down_stop (by rw [hc.out, HB2.out]; simp)
            go_wp2_with fail
            (try simp only [Exit.inBlock, Exit.then])
            refine bodyPost_ret (results_none rfl _ _ _) rfl ?_
            exact ⟨rfl, by rw [HD.out, hs.out]; exact HM2.out, HC2.out⟩
          · have hs : Hid (down lt gk m i = down lt (gk - 1) (swp m i (2 * i + 1)) (2 * i + 1)) := down_go (by rw [hm.out]; exact hgk) hc.out (by rw [hm.out]; exact c1) HB2.out
            go_wp2_with fail
            refine (swap_nat HM2.out i (2 * i + 1) _ _ (by omega) (by omega) (by rw [hm.out]; omega) (by rw [hm.out]; omega)).mono ?_
            rintro e w3 ⟨rfl, hw3, hc3⟩
            have HM3 := Lib.hid hw3
            have HC3 := Lib.hid (HC2.out.trans hc3 (fun _ _ h => h))
            clear hw3 hc3
            go_wp2_with fail
            go_roundg (gk - 1)
            case measure => omega
            case rel => exact ⟨2 * i + 1, swp m i (2 * i + 1), by go_num, by rw [swp_length]; exact hm, by omega, by omega, HM3.out, HC3.out, HD.out.trans hs.out⟩
        · have hc : Hid (child lt m i = 2 * i + 2) := by show _ = _; unfold child; rw [if_pos ⟨by rw [hm.out]; exact c2, HB1.out⟩]
          go_wp2_with fail
          refine (ahead_nat HL.out HM'.out (2 * i + 2) (2 * i + 1) _ _ (by omega) (by omega) (by rw [hm.out]; omega) (by rw [hm.out]; omega)).mono ?_
          rw [HB1.out]
          rintro e w1 ⟨rfl, hw1⟩
          have HM1 := Lib.hid (HM'.out.later hw1)
          have HC1 := Lib.hid (HC.out.trans (chg_below hw1 (fun b => (Value.slice A n cap).ownBlock = some b)) (fun _ _ h => h))
          clear hw1
          go_wp2_with fail
          obtain ⟨b2, hb2⟩ : ∃ x, ahd lt m[2 * i + 2]! m[i]! = x := ⟨_, rfl⟩
          have HB2 := Lib.hid hb2
          clear hb2
          refine (ahead_nat HL.out HM1.out (2 * i + 2) i _ _ (by omega) (by omega) (by rw [hm.out]; omega) (by rw [hm.out]; omega)).mono ?_
          rw [HB2.out]
          rintro e w2 ⟨rfl, hw2⟩
          have HM2 := Lib.hid (HM1.out.later hw2)
          have HC2 := Lib.hid (HC1.out.trans (chg_below hw2 (fun b => (Value.slice A n cap).ownBlock = some b)) (fun _ _ h => h))
          clear hw2
          cases b2
          · have hs : Hid (down lt gk m i = m) := down_stop (by rw [hc.out, HB2.out]; simp)
            go_wp2_with fail
            (try simp only [Exit.inBlock, Exit.then])
            refine bodyPost_ret (results_none rfl _ _ _) rfl ?_
            exact ⟨rfl, by rw [HD.out, hs.out]; exact HM2.out, HC2.out⟩
          · have hs : Hid (down lt gk m i = down lt (gk - 1) (swp m i (2 * i + 2)) (2 * i + 2)) := down_go (by rw [hm.out]; exact hgk) hc.out (by rw [hm.out]; exact c1) HB2.out
            go_wp2_with fail
            refine (swap_nat HM2.out i (2 * i + 2) _ _ (by omega) (by omega) (by rw [hm.out]; omega) (by rw [hm.out]; omega)).mono ?_
            rintro e w3 ⟨rfl, hw3, hc3⟩
            have HM3 := Lib.hid hw3
            have HC3 := Lib.hid (HC2.out.trans hc3 (fun _ _ h => h))
            clear hw3 hc3
            go_wp2_with fail
            go_roundg (gk - 1)
            case measure => omega
            case rel => exact ⟨2 * i + 2, swp m i (2 * i + 2), by go_num, by rw [swp_length]; exact hm, by omega, by omega, HM3.out, HC3.out, HD.out.trans hs.out⟩
      · have hc : Hid (child lt m i = 2 * i + 1) := by show _ = _; unfold child; rw [if_neg (by rw [hm.out]; omega)]
        have c2' : ¬ (2 * (i : Int) + 2 < (n : Int)) := by omega
        clear hb1
        go_wp2_with fail
        obtain ⟨b2, hb2⟩ : ∃ x, ahd lt m[2 * i + 1]! m[i]! = x := ⟨_, rfl⟩
        have HB2 := Lib.hid hb2
        clear hb2
        refine (ahead_nat HL.out HM'.out (2 * i + 1) i _ _ (by omega) (by omega) (by rw [hm.out]; omega) (by rw [hm.out]; omega)).mono ?_
        rw [HB2.out]
        rintro e w2 ⟨rfl, hw2⟩
        have HM2 := Lib.hid (HM'.out.later hw2)
        have HC2 := Lib.hid (HC.out.trans (chg_below hw2 (fun b => (Value.slice A n cap).ownBlock = some b)) (fun _ _ h => h))
        clear hw2
        cases b2
        · have hs : Hid (down lt gk m i = m) := down_stop (by rw [hc.out, HB2.out]; simp)
          go_wp2_with fail
          (try simp only [Exit.inBlock, Exit.then])
          refine bodyPost_ret (results_none rfl _ _ _) rfl ?_
          exact ⟨rfl, by rw [HD.out, hs.out]; exact HM2.out, HC2.out⟩
        · have hs : Hid (down lt gk m i = down lt (gk - 1) (swp m i (2 * i + 1)) (2 * i + 1)) := down_go (by rw [hm.out]; exact hgk) hc.out (by rw [hm.out]; exact c1) HB2.out
          go_wp2_with fail
          refine (swap_nat HM2.out i (2 * i + 1) _ _ (by omega) (by omega) (by rw [hm.out]; omega) (by rw [hm.out]; omega)).mono ?_
          rintro e w3 ⟨rfl, hw3, hc3⟩
          have HM3 := Lib.hid hw3
          have HC3 := Lib.hid (HC2.out.trans hc3 (fun _ _ h => h))
          clear hw3 hc3
          go_wp2_with fail
          go_roundg (gk - 1)
          case measure => omega
          case rel => exact ⟨2 * i + 1, swp m i (2 * i + 1), by go_num, by rw [swp_length]; exact hm, by omega, by omega, HM3.out, HC3.out, HD.out.trans hs.out⟩
    · have hs : Hid (down lt gk m i = m) := down_stop (by rw [hm.out]; omega)
      have c1' : ¬ (2 * (i : Int) + 1 < (n : Int)) := by omega
      go_wp2_with fail
      (try simp only [Exit.inBlock, Exit.then])
      refine bodyPost_ret (results_none rfl _ _ _) rfl ?_
      exact ⟨rfl, by rw [HD.out, hs.out]; exact HM'.out, HC.out⟩
end Go.Proofs.Ytimffpnfhkobkaa.HRch
/- The heap's functions at one element type, what each call does: a new one, the top, a pop. -/
namespace Go.Proofs.Ytimffpnfhkobkaa.HRch
open Go.RowKit
set_option maxRecDepth 100000 in
set_option maxHeartbeats 1000000 in
theorem new_any (lf : Nat) (w : World) : Calls Try.prog 72 #[.func (.func lf) #[] #[]] w fun e w' => e = .returned (.pointer (some ⟨w.heap.size, 0, none⟩)) ∧ w' = w.alloc (.cells #[.func (.func lf) #[] #[], .slice none 0 0, .int .i64 0] 117) := by
  go_enter Try.func72, Try.ntmps72
  go_wp2
  go_ret
  exact ⟨rfl, rfl⟩
theorem new_rep (F : Value) (w : World) (base : Nat) : Rep (w.alloc (.cells #[F, .slice none 0 0, .int .i64 0] 117)) w.heap.size F (.slice none 0 0) 0 base [] :=
  ⟨heap_at rfl, World.ownsRow_nil _ _ _ _, by simp [Value.ownBlock]⟩
set_option maxRecDepth 100000 in
set_option maxHeartbeats 1000000 in
theorem top_some {w : World} {hb : Nat} {F V : Value} {t : Int} {base : Nat} {a : El × Int} {l : List (El × Int)} (H : Rep w hb F V t base (a :: l)) :
    Calls Try.prog 74 #[.pointer (some ⟨hb, 0, none⟩)] w fun e w' => e = .returned (.tuple #[.agg #[.int .i64 a.1.1, .int .i64 a.1.2], .bool true]) ∧ Below w.heap.size w w' := by
  obtain ⟨g, cap, rfl, hg, hgl, hne⟩ := H.slice (by simp)
  have cV := (Cl.of_block H.blk (j := 1) (v := .slice (some ⟨g, 0, none⟩) (l.length + 1) cap) rfl).cell
  have ca0 : w.cell? ⟨g, 0, none⟩ = some (.int .i64 a.1.1) := by simpa using (H.item enc_length rfl (j := 0) (a := a) rfl (r := 0) (by omega) (v := .int .i64 a.1.1) rfl).cell
  have ca1 : w.cell? ⟨g, 1, none⟩ = some (.int .i64 a.1.2) := by simpa using (H.item enc_length rfl (j := 0) (a := a) rfl (r := 1) (by omega) (v := .int .i64 a.1.2) rfl).cell
  have ca2 : w.cell? ⟨g, 2, none⟩ = some (.int .i64 a.2) := by simpa using (H.item enc_length rfl (j := 0) (a := a) rfl (r := 2) (by omega) (v := .int .i64 a.2) rfl).cell
  have z1 := H.lt
  have hn : ((l.length : Int) + 1 == 0) = false := by simp; omega
  have HH := Lib.hid H
  clear H
  go_enter Try.func74, Try.ntmps74
  go_wp2_with fail
  refine (len_any (HH.out.later ((Below.refl _ _).alloc (Nat.le_refl _) _))).mono ?_
  rintro e w' ⟨rfl, rfl⟩
  go_wp2_with fail
  exact bodyPost_ret (v := .tuple #[.agg #[.int .i64 a.1.1, .int .i64 a.1.2], .bool true]) (by simp [results, Try.results74, go_sem]) rfl ⟨rfl, (Below.refl _ _).alloc (Nat.le_refl _) _⟩
set_option maxRecDepth 100000 in
set_option maxHeartbeats 1000000 in
theorem top_none {w : World} {hb : Nat} {F V : Value} {t : Int} {base : Nat} (H : Rep w hb F V t base []) :
    Calls Try.prog 74 #[.pointer (some ⟨hb, 0, none⟩)] w fun e w' => e = .returned (.tuple #[.agg #[.int .i64 0, .int .i64 0], .bool false]) ∧ Below w.heap.size w w' := by
  have HH := Lib.hid H
  clear H
  go_enter Try.func74, Try.ntmps74
  go_wp2_with fail
  refine (len_any (HH.out.later ((Below.refl _ _).alloc (Nat.le_refl _) _))).mono ?_
  rintro e w' ⟨rfl, rfl⟩
  go_wp2_with fail
  exact bodyPost_ret (v := .tuple #[.agg #[.int .i64 0, .int .i64 0], .bool false]) (by simp [results, Try.results74, go_sem]) rfl ⟨rfl, ((Below.refl _ _).alloc (Nat.le_refl _) _).alloc (by simp) _⟩
set_option maxRecDepth 100000 in
set_option maxHeartbeats 1000000 in
theorem top_nil (w : World) : Calls Try.prog 74 #[.pointer none] w fun e w' => e = .returned (.tuple #[.agg #[.int .i64 0, .int .i64 0], .bool false]) ∧ Below w.heap.size w w' := by
  go_enter Try.func74, Try.ntmps74
  go_wp2_with fail
  refine (len_nil _).mono ?_
  rintro e w' ⟨rfl, rfl⟩
  go_wp2_with fail
  exact bodyPost_ret (v := .tuple #[.agg #[.int .i64 0, .int .i64 0], .bool false]) (by simp [results, Try.results74, go_sem]) rfl ⟨rfl, ((Below.refl _ _).alloc (Nat.le_refl _) _).alloc (by simp) _⟩
end Go.Proofs.Ytimffpnfhkobkaa.HRch
/- The heap's functions at one element type, what each call does: a pop of the least one. -/
namespace Go.Proofs.Ytimffpnfhkobkaa.HRch
open Go.RowKit
theorem Cl_chg {w w' : World} {a : Addr} {v : Value} {S : Nat → Prop} (h : Cl w a v) (hc : Chg S w w') (hs : ¬ S a.block) : Cl w' a v := by
  have hl := World.block_lt_of_cell? w a h.cell
  have hb := hc.block a.block hl hs
  exact ⟨(World.cell?_of_block hb).trans h.cell, (World.frozen?_of_block hb).trans h.free⟩
set_option maxRecDepth 100000 in
set_option maxHeartbeats 1000000 in
theorem pop_some {lf : Nat} {lt : El → El → Bool} (hless : Less lf lt) {w : World} {hb : Nat} {V : Value} {t : Int} {base : Nat} {a : El × Int} {r : List (El × Int)}
    (H : Rep w hb (.func (.func lf) #[] #[]) V t base (a :: r)) (hn : r.length + 1 ≤ 9000000000000) :
    Calls Try.prog 61 #[.pointer (some ⟨hb, 0, none⟩)] w fun e w' => e = .returned (.tuple #[.agg #[.int .i64 a.1.1, .int .i64 a.1.2], .bool true]) ∧ (∃ V', V'.ownBlock = V.ownBlock ∧ Rep w' hb (.func (.func lf) #[] #[]) V' t base (popL lt (a :: r))) ∧ Chg (fun b => b = hb ∨ V.ownBlock = some b) w w' := by
  obtain ⟨g, cap, rfl, hg, hgl, hne⟩ := H.slice (by simp)
  have hcap : r.length + 1 ≤ cap := by
    rcases H.row.2 with ⟨h0, _⟩ | ⟨g', cap', cur, hv, _, _, h, _⟩
    · cases h0
    · cases hv; exact h
  have HP : Hid (popL lt (a :: r) = down lt ((swp (a :: r) 0 r.length).take r.length).length ((swp (a :: r) 0 r.length).take r.length) 0) := by
    show _ = _
    simp [popL, swp_length]
  have z0 := H.lt
  have HH := Lib.hid H
  have HL := Lib.hid hless
  clear H hless
  go_enter Try.func61, Try.ntmps61
  go_wp2_with fail
  refine (top_some (HH.out.later ((Below.refl _ _).alloc (Nat.le_refl _) _))).mono ?_
  rintro e w1 ⟨rfl, hb1⟩
  have hB : Below w.heap.size w w1 := ((Below.refl _ _).alloc (Nat.le_refl _) _).trans (hb1.mono (by simp))
  have y0 : w.heap.size < w1.heap.size := by have := hb1.size; simp at this; omega
  have y1 : w.heap.size < w1.heap.size + 1 := by omega
  have R0 : ∃ u v : Value, Cl w1 ⟨w.heap.size, 0, none⟩ u ∧ Cl w1 ⟨w.heap.size, 1, none⟩ v := ⟨_, _, (Cl.new (w := w) (c := #[.int .i64 0, .int .i64 0]) (t := 102) (j := 0) (v := .int .i64 0) rfl).later hb1, (Cl.new (w := w) (c := #[.int .i64 0, .int .i64 0]) (t := 102) (j := 1) (v := .int .i64 0) rfl).later hb1⟩
  obtain ⟨u0, u1, R0, R1⟩ := R0
  have HH1 := Lib.hid (HH.out.later hB)
  have HB := Lib.hid hB
  have hs := hB.size
  have cV1 := (Cl.of_block HH1.out.blk (j := 1) (v := .slice (some ⟨g, 0, none⟩) (r.length + 1) cap) rfl).cell
  have z1 : hb < w1.heap.size := by omega
  have z2 : g < w1.heap.size := by omega
  clear hb1 hB
  go_wp2_with fail
  have HH2 := Lib.hid (HH1.out.later ((Below.refl _ _).alloc (Nat.le_refl _) (.cells #[.int .i64 a.1.1, .int .i64 a.1.2] 102)))
  have C2 : Chg (fun b => b = hb ∨ g = b) w (w1.alloc (.cells #[.int .i64 a.1.1, .int .i64 a.1.2] 102)) := chg_below (HB.out.alloc HB.out.size _) _
  have R0 := R0.alloc (.cells #[.int .i64 a.1.1, .int .i64 a.1.2] 102)
  have R1 := R1.alloc (.cells #[.int .i64 a.1.1, .int .i64 a.1.2] 102)
  have Q0 := Cl.new (w := w1) (c := #[.int .i64 a.1.1, .int .i64 a.1.2]) (t := 102) (j := 0) (v := .int .i64 a.1.1) rfl
  have Q1 := Cl.new (w := w1) (c := #[.int .i64 a.1.1, .int .i64 a.1.2]) (t := 102) (j := 1) (v := .int .i64 a.1.2) rfl
  refine (swap_nat HH2.out 0 r.length _ _ rfl (by omega) (by simp) (by simp)).mono ?_
  rintro e w2 ⟨rfl, hr2, hc2⟩
  have C3 := Lib.hid (C2.trans hc2 (fun b _ h => .inr (by simpa [Value.ownBlock] using h)))
  have HH3 := Lib.hid hr2
  have R0 := Cl_chg R0 hc2 (by simp [Value.ownBlock]; omega)
  have R1 := Cl_chg R1 hc2 (by simp [Value.ownBlock]; omega)
  have Q0 := Cl_chg Q0 hc2 (by simp [Value.ownBlock]; omega)
  have Q1 := Cl_chg Q1 hc2 (by simp [Value.ownBlock]; omega)
  obtain ⟨cV2, fV2⟩ := Cl.of_block HH3.out.blk (j := 1) (v := .slice (some ⟨g, 0, none⟩) (r.length + 1) cap) rfl
  clear hr2 hc2 cV1 C2
  go_wp2_with fail
  have S := HH3.out.shrink enc_length (by rw [swp_length]) r.length (by rw [swp_length]; simp)
  have C4 := Lib.hid (C3.out.setCell (p := ⟨hb, 1, none⟩) (fun _ => .inl rfl) (.slice (some ⟨g, 0, none⟩) r.length cap))
  have st : ∀ {ad : Addr} {v : Value}, Cl w2 ad v → ad.block ≠ hb → Cl (w2.setCell ⟨hb, 1, none⟩ (.slice (some ⟨g, 0, none⟩) r.length cap)) ad v := fun h e => Cl_chg h ((Chg.refl (fun b => b = hb) w2).setCell (fun _ => rfl) _) e
  have R0 := st R0 (by simp; omega)
  have R1 := st R1 (by simp; omega)
  have Q0 := st Q0 (by simp; omega)
  have Q1 := st Q1 (by simp; omega)
  have SL := sink_any HL.out (l := (swp (a :: r) 0 r.length).take r.length) (w := w2.setCell ⟨hb, 1, none⟩ (.slice (some ⟨g, 0, none⟩) r.length cap)) S (by rw [List.length_take, swp_length]; omega)
  refine SL.mono ?_
  rintro e w3 ⟨rfl, hr3, hc3⟩
  obtain ⟨R0c, R0f⟩ := Cl_chg R0 hc3 (by simp [Value.ownBlock]; omega)
  obtain ⟨R1c, R1f⟩ := Cl_chg R1 hc3 (by simp [Value.ownBlock]; omega)
  obtain ⟨Q0c, Q0f⟩ := Cl_chg Q0 hc3 (by simp [Value.ownBlock]; omega)
  obtain ⟨Q1c, Q1f⟩ := Cl_chg Q1 hc3 (by simp [Value.ownBlock]; omega)
  have C5 := Lib.hid (C4.out.trans hc3 (fun b _ h => .inr (by simpa [Value.ownBlock] using h)))
  rw [← HP.out] at hr3
  have HH4 := Lib.hid hr3
  clear hr3 hc3 cV2 fV2 S SL
  go_wp2_with fail
  have e1 : ∀ (X : World), Rep X hb (.func (.func lf) #[] #[]) (.slice (some ⟨g, 0, none⟩) r.length cap) t base (popL lt (a :: r)) → ∀ (j : Nat) (u : Value), Rep (X.setCell ⟨w.heap.size, j, none⟩ u) hb (.func (.func lf) #[] #[]) (.slice (some ⟨g, 0, none⟩) r.length cap) t base (popL lt (a :: r)) := fun X h j u => h.chg ((Chg.refl (fun b => b = w.heap.size) X).setCell (fun _ => rfl) _) (by omega) (by simp [Value.ownBlock]; omega)
  refine bodyPost_ret (v := .tuple #[.agg #[.int .i64 a.1.1, .int .i64 a.1.2], .bool true]) (by simp [results, Try.results61, go_sem, R0c, R1c]) rfl ⟨rfl, ⟨.slice (some ⟨g, 0, none⟩) r.length cap, rfl, e1 _ (e1 _ HH4.out _ _) _ _⟩, ?_⟩
  exact ((C5.out.setCell (p := ⟨w.heap.size, 0, none⟩) (fun h => absurd h (Nat.lt_irrefl _)) _).setCell (p := ⟨w.heap.size, 1, none⟩) (fun h => absurd h (Nat.lt_irrefl _)) _).mono (fun k _ h => h.imp id (fun e => congrArg some e))

set_option maxRecDepth 100000 in
set_option maxHeartbeats 1000000 in
theorem pop_none {w : World} {hb : Nat} {F V : Value} {t : Int} {base : Nat} (H : Rep w hb F V t base []) :
    Calls Try.prog 61 #[.pointer (some ⟨hb, 0, none⟩)] w fun e w' => e = .returned (.tuple #[.agg #[.int .i64 0, .int .i64 0], .bool false]) ∧ Below w.heap.size w w' := by
  have HH := Lib.hid H
  clear H
  go_enter Try.func61, Try.ntmps61
  go_wp2_with fail
  refine (top_none (HH.out.later ((Below.refl _ _).alloc (Nat.le_refl _) _))).mono ?_
  rintro e w1 ⟨rfl, hb1⟩
  have hB : Below w.heap.size w w1 := ((Below.refl _ _).alloc (Nat.le_refl _) _).trans (hb1.mono (by simp))
  have y0 : w.heap.size < w1.heap.size := by have := hb1.size; simp at this; omega
  have R0 := (Cl.new (w := w) (c := #[.int .i64 0, .int .i64 0]) (t := 102) (j := 0) (v := .int .i64 0) rfl).later hb1
  have R1 := (Cl.new (w := w) (c := #[.int .i64 0, .int .i64 0]) (t := 102) (j := 1) (v := .int .i64 0) rfl).later hb1
  obtain ⟨R0c, R0f⟩ := R0
  obtain ⟨R1c, R1f⟩ := R1
  have HB := Lib.hid hB
  clear hb1 hB
  go_wp2_with fail
  refine bodyPost_ret (v := .tuple #[.agg #[.int .i64 0, .int .i64 0], .bool false]) (by simp [results, Try.results61, go_sem, y0, R0c, R1c]) rfl ⟨rfl, ?_⟩
  exact ((HB.out.setCell (p := ⟨w.heap.size, 0, none⟩) (Nat.le_refl _) _).setCell (p := ⟨w.heap.size, 1, none⟩) (Nat.le_refl _) _).alloc (by have := HB.out.size; simpa [World.setCell] using this) _

set_option maxRecDepth 100000 in
set_option maxHeartbeats 1000000 in
theorem pop_nil (w : World) :
    Calls Try.prog 61 #[.pointer none] w fun e w' => e = .returned (.tuple #[.agg #[.int .i64 0, .int .i64 0], .bool false]) ∧ Below w.heap.size w w' := by
  go_enter Try.func61, Try.ntmps61
  go_wp2_with fail
  refine (top_nil _).mono ?_
  rintro e w1 ⟨rfl, hb1⟩
  have hB : Below w.heap.size w w1 := ((Below.refl _ _).alloc (Nat.le_refl _) _).trans (hb1.mono (by simp))
  have y0 : w.heap.size < w1.heap.size := by have := hb1.size; simp at this; omega
  have R0 := (Cl.new (w := w) (c := #[.int .i64 0, .int .i64 0]) (t := 102) (j := 0) (v := .int .i64 0) rfl).later hb1
  have R1 := (Cl.new (w := w) (c := #[.int .i64 0, .int .i64 0]) (t := 102) (j := 1) (v := .int .i64 0) rfl).later hb1
  obtain ⟨R0c, R0f⟩ := R0
  obtain ⟨R1c, R1f⟩ := R1
  have HB := Lib.hid hB
  clear hb1 hB
  go_wp2_with fail
  refine bodyPost_ret (v := .tuple #[.agg #[.int .i64 0, .int .i64 0], .bool false]) (by simp [results, Try.results61, go_sem, y0, R0c, R1c]) rfl ⟨rfl, ?_⟩
  exact ((HB.out.setCell (p := ⟨w.heap.size, 0, none⟩) (Nat.le_refl _) _).setCell (p := ⟨w.heap.size, 1, none⟩) (Nat.le_refl _) _).alloc (by have := HB.out.size; simpa [World.setCell] using this) _
end Go.Proofs.Ytimffpnfhkobkaa.HRch
/- The heap's functions at one element type, what each call does: a push. -/
namespace Go.Proofs.Ytimffpnfhkobkaa.HRch
open Go.RowKit
theorem info_item : (Try.prog.info? 123).map (fun i => (i.zero, i.size, i.bytes)) = some (some (.agg #[.int .i64 0, .int .i64 0, .int .i64 0]), 3, 24) := by kernel_rfl
/-- Behind an append the struct still holds its old row. -/
theorem after_append {wA wx w' : World} {hb : Nat} {F V : Value} {t : Int} {base : Nat} {l : List (El × Int)} (H : Rep wA hb F V t base l) (hx : Below wA.heap.size wA wx) (hg : wx.grownBy w' V.ownBlock) :
    w'.heap[hb]? = some (.cells #[F, V, .int .i64 t] 117) := by
  have h1 := (hx.block hb H.lt).trans H.blk
  rw [hg.block hb (Array.getElem?_eq_some_iff.1 h1).1 (fun e => H.ne e.symm)]
  exact h1
/-- The row stored back. -/
theorem push_row {wA wx w' : World} {hb g cap : Nat} {F V : Value} {t : Int} {base : Nat} {l : List (El × Int)} {x : El × Int} (H : Rep wA hb F V t base l) (hx : Below wA.heap.size wA wx) (hg : wx.grownBy w' V.ownBlock)
    (hown : w'.ownsRow base 123 3 (.slice (some ⟨g, 0, none⟩) (l.length + 1) cap) (l.length + 1) (flat enc l ++ enc x)) (hat : V.ownBlock = some g ∨ wA.heap.size ≤ g) :
    Rep (w'.setCell ⟨hb, 1, none⟩ (.slice (some ⟨g, 0, none⟩) (l.length + 1) cap)) hb F (.slice (some ⟨g, 0, none⟩) (l.length + 1) cap) t base (l ++ [x]) ∧
      Chg (fun b => b = hb ∨ V.ownBlock = some b) wA (w'.setCell ⟨hb, 1, none⟩ (.slice (some ⟨g, 0, none⟩) (l.length + 1) cap)) := by
  have hb2 := after_append H hx hg
  have hlt := H.lt
  have hne : g ≠ hb := by
    rcases hat with h | h
    · exact fun e => H.ne (by rw [h, e])
    · omega
  refine ⟨⟨heap_setCell_same w' hb 1 _ _ _ hb2, ?_, fun e => hne (by cases e; rfl)⟩, ?_⟩
  · rw [List.length_append, flat_append]
    have : flat enc [x] = enc x := by simp [flat]
    rw [this]
    refine ⟨hown.1, ?_⟩
    rcases hown.2 with ⟨h0, _⟩ | ⟨g', cap', cur, hv, hg', hh, r⟩
    · cases h0
    · cases hv
      exact .inr ⟨g, cap, cur, rfl, hg', by rw [Below.heap_setCell _ _ _ _ hne]; exact hh, r⟩
  · refine Chg.setCell ?_ (fun _ => .inl rfl) _
    exact (chg_below hx _).trans (Chg.of_grown hg (S := fun b => V.ownBlock = some b) (fun k e => e)) (fun b _ h => .inr h)
set_option maxRecDepth 100000 in
set_option maxHeartbeats 1000000 in
theorem push_any {lf : Nat} {lt : El → El → Bool} (hless : Less lf lt) {w : World} {hb : Nat} {V : Value} {t : Int} {base : Nat} {x : El} {l : List (El × Int)}
    (H : Rep w hb (.func (.func lf) #[] #[]) V t base l) (hn : l.length ≤ 1000000000) (ht0 : 0 ≤ t) (ht : t ≤ 1000000000) (hbase : base ≤ w.heap.size) :
    Calls Try.prog 77 #[.pointer (some ⟨hb, 0, none⟩), .agg #[.int .i64 x.1, .int .i64 x.2]] w fun e w' => e = .returned (.tuple #[]) ∧ (∃ V', (V'.ownBlock = V.ownBlock ∨ ∃ k, V'.ownBlock = some k ∧ w.heap.size ≤ k) ∧ Rep w' hb (.func (.func lf) #[] #[]) V' (t + 1) base (pushL lt l x (t + 1))) ∧ Chg (fun b => b = hb ∨ V.ownBlock = some b) w w' := by
  obtain ⟨A, cap, rfl⟩ : ∃ A cap, V = .slice A l.length cap := by
    rcases H.row.2 with ⟨h, h0⟩ | ⟨g, cap, cur, h, _⟩
    · exact ⟨none, 0, by rw [h, h0]⟩
    · exact ⟨_, cap, h⟩
  have z0 := H.lt
  obtain ⟨cT, fT⟩ := Cl.of_block H.blk (j := 2) (v := .int .i64 t) rfl
  have HH := Lib.hid H
  have HL := Lib.hid hless
  clear H hless
  go_enter Try.func77, Try.ntmps77
  go_upto_region 3 with fail
  have hW : ∃ wA : World, wA = (w.setCell ⟨hb, 2, none⟩ (.int .i64 (t + 1))).alloc (.cells #[.int .i64 x.1, .int .i64 x.2] 102) := ⟨_, rfl⟩
  obtain ⟨wA, hwA⟩ := hW
  rw [← hwA]
  have RS : Rep (w.setCell ⟨hb, 2, none⟩ (.int .i64 (t + 1))) hb (.func (.func lf) #[] #[]) (.slice A l.length cap) (t + 1) base l := by
    have h2 : HRep 117 123 3 enc w hb (.func (.func lf) #[] #[]) (.slice A l.length cap) t base l := HH.out
    refine ⟨heap_setCell_same _ hb 2 _ _ _ h2.blk, ?_, h2.ne⟩
    refine ⟨h2.row.1, ?_⟩
    rcases h2.row.2 with h0 | ⟨g', cap', cur, hv, hg', hh, r⟩
    · exact .inl h0
    · cases hv
      exact .inr ⟨g', cap, cur, rfl, hg', by rw [Below.heap_setCell _ _ _ _ (fun e => h2.ne (by rw [e]; rfl))]; exact hh, r⟩
  have CS : Chg (fun b => b = hb ∨ (Value.slice A l.length cap).ownBlock = some b) w (w.setCell ⟨hb, 2, none⟩ (.int .i64 (t + 1))) := (Chg.refl _ w).setCell (fun _ => .inl rfl) _
  have RA : Rep wA hb (.func (.func lf) #[] #[]) (.slice A l.length cap) (t + 1) base l := by rw [hwA]; exact RS.later ((Below.refl _ _).alloc (Nat.le_refl _) _)
  have CA : Chg (fun b => b = hb ∨ (Value.slice A l.length cap).ownBlock = some b) w wA := by rw [hwA]; exact CS.trans (chg_below ((Below.refl _ _).alloc (Nat.le_refl _) _) (fun b => b = hb ∨ (Value.slice A l.length cap).ownBlock = some b)) (fun _ _ h => h)
  have es : (w.setCell ⟨hb, 2, none⟩ (.int .i64 (t + 1))).heap.size = w.heap.size := by simp [World.setCell]
  have X0 : wA.cell? ⟨w.heap.size, 0, none⟩ = some (.int .i64 x.1) := by rw [hwA, ← es]; exact (Cl.new (j := 0) (v := .int .i64 x.1) rfl).cell
  have X1 : wA.cell? ⟨w.heap.size, 1, none⟩ = some (.int .i64 x.2) := by rw [hwA, ← es]; exact (Cl.new (j := 1) (v := .int .i64 x.2) rfl).cell
  have sA := CA.size
  obtain ⟨cV, fV⟩ := Cl.of_block RA.blk (j := 1) (v := .slice A l.length cap) rfl
  have cT' := (Cl.of_block RA.blk (j := 2) (v := .int .i64 (t + 1)) rfl).cell
  have zA : hb < wA.heap.size := by omega
  have zX : w.heap.size < wA.heap.size := World.block_lt_of_cell? _ _ X0
  have HA := Lib.hid RA
  have HC := Lib.hid CA
  clear hwA RA CA RS CS cT fT
  go_cut [] (fun wx => ∃ (g cap' : Nat), ((Value.slice A l.length cap).ownBlock = some g ∨ w.heap.size ≤ g) ∧ Rep wx hb (.func (.func lf) #[] #[]) (.slice (some ⟨g, 0, none⟩) (l.length + 1) cap') (t + 1) base (l ++ [(x, t + 1)]) ∧ Chg (fun b => b = hb ∨ (Value.slice A l.length cap).ownBlock = some b) w wx)
  case first =>
    obtain ⟨i0, hi, hz0, hz1, hz2⟩ := info_parts info_item
    have hbA : base ≤ wA.heap.size := by omega
    go_region_law (first | (refine step_append_lies _ rfl (.tmp 18) (.tmp 25) 115 rfl base 123 i0 (.agg #[.int .i64 0, .int .i64 0, .int .i64 0]) 3 24 Try.underlying115 hi hz0 hz1 hz2 rfl (by decide) (.slice A l.length cap) l.length (flat enc l) (by rfl) (HRep.row (HRep.later HA.out ((Below.refl _ _).alloc (Nat.le_refl _) _).drew)) ⟨wA.heap.size, 0, none⟩ 1 1 (enc (x, t + 1)) (by rfl) rfl (World.news_of_block (heap_at rfl)) (by intro u hu; simp [enc] at hu; rcases hu with rfl | rfl | rfl <;> rfl) (by omega) (by simp only [maxLen]; omega) (by omega) (by simp; omega) _ rfl ?_; intro g cap' w' hown hgrow hat hlt; have hblk := after_append HA.out ((Below.refl _ _).alloc (Nat.le_refl _) _).drew hgrow; obtain ⟨k1, k2⟩ := Cl.of_block hblk (j := 1) (v := .slice A l.length cap) rfl))
    all_goals
      go_wp2_with fail
      go_meet
      have hat' : (Value.slice A l.length cap).ownBlock = some g ∨ wA.heap.size ≤ g := hat.imp id (fun e => by rw [e]; show wA.heap.size ≤ (wA.alloc _).heap.size; rw [World.size_alloc]; omega)
      have PR := push_row HA.out ((Below.refl _ _).alloc (Nat.le_refl _) _).drew hgrow hown hat'
      exact ⟨g, cap', hat'.imp id (fun e => by omega), PR.1, HC.out.trans PR.2 (fun _ _ h => h)⟩
  case rest =>
    rename World => wB
    obtain ⟨g, cap', hg, RB, CB⟩ := hcut
    obtain ⟨cV2, fV2⟩ := Cl.of_block RB.blk (j := 1) (v := .slice (some ⟨g, 0, none⟩) (l.length + 1) cap') rfl
    have HB := Lib.hid RB
    have HCB := Lib.hid CB
    have HG := Lib.hid hg
    have HN : Hid ((l ++ [(x, t + 1)]).length = l.length + 1) := by show _ = _; simp
    have HPu : Hid (pushL lt l x (t + 1) = up lt l.length (l ++ [(x, t + 1)]) l.length) := rfl
    generalize hm0 : l ++ [(x, t + 1)] = m0 at HB HN HPu
    clear RB CB hg cV fV cT' hm0
    go_wp2_with fail
    go_loopg [4] l.length (fun f s wr => ∃ (i : Nat) (m : List (El × Int)), s = .int .i64 i ∧ Hid (m.length = l.length + 1) ∧ i ≤ l.length ∧ i ≤ f ∧ Rep wr hb (.func (.func lf) #[] #[]) (.slice (some ⟨g, 0, none⟩) (l.length + 1) cap') (t + 1) base m ∧ Chg (fun b => b = hb ∨ (Value.slice A l.length cap).ownBlock = some b) w wr ∧ Hid (pushL lt l x (t + 1) = up lt f m i))
    case atStart => exact ⟨l.length, m0, rfl, HN, Nat.le_refl _, Nat.le_refl _, HB.out, HCB.out, HPu⟩
    case round =>
      obtain ⟨i, m, rfl, hm, hil, hif, hrep, hch, HU⟩ := hrel
      have HR := Lib.hid hrep
      have HCR := Lib.hid hch
      clear hrep hch
      by_cases hi : 0 < i
      · have hi' : (0 : Int) < i := by omega
        obtain ⟨b1, hb1⟩ : ∃ b, ahd lt m[i]! m[(i - 1) / 2]! = b := ⟨_, rfl⟩
        have HB1 := Lib.hid hb1
        clear hb1
        go_wp2_with fail
        refine (ahead_nat HL.out HR.out i ((i - 1) / 2) _ _ (by omega) (by omega) (by rw [hm.out]; omega) (by rw [hm.out]; omega)).mono ?_
        rw [HB1.out]
        rintro e w1 ⟨rfl, hw1⟩
        have HR1 := Lib.hid (HR.out.later hw1)
        have HC1 := Lib.hid (HCR.out.trans (chg_below hw1 (fun b => b = hb ∨ (Value.slice A l.length cap).ownBlock = some b)) (fun _ _ h => h))
        clear hw1
        cases b1
        · have hs : Hid (up lt gk m i = m) := up_stop (by rw [HB1.out]; simp)
          go_wp2_with fail
          (try simp only [Exit.inBlock, Exit.then])
          refine bodyPost_end (results_none rfl _ _ _) rfl ?_
          exact ⟨rfl, ⟨.slice (some ⟨g, 0, none⟩) (l.length + 1) cap', HG.out.imp (fun h => h.symm) (fun h => ⟨g, rfl, h⟩), by rw [HU.out, hs.out]; exact HR1.out⟩, HC1.out⟩
        · have hs : Hid (up lt gk m i = up lt (gk - 1) (swp m i ((i - 1) / 2)) ((i - 1) / 2)) := up_go hif hi HB1.out
          go_wp2_with fail
          refine (swap_nat HR1.out i ((i - 1) / 2) _ _ (by omega) (by omega) (by rw [hm.out]; omega) (by rw [hm.out]; omega)).mono ?_
          rintro e w2 ⟨rfl, hw2, hc2⟩
          have HR2 := Lib.hid hw2
          have HC2 := Lib.hid (HC1.out.trans hc2 (fun b hb' h => by
            rcases HG.out with h' | h'
            · exact .inr (h'.trans h)
            · have e : g = b := by simpa [Value.ownBlock] using h
              omega))
          clear hw2 hc2
          go_wp2_with fail
          go_roundg (gk - 1)
          case measure => omega
          case rel => exact ⟨(i - 1) / 2, swp m i ((i - 1) / 2), congrArg (Value.int .i64) (by omega), by rw [swp_length]; exact hm, by omega, by omega, HR2.out, HC2.out, HU.out.trans hs.out⟩
      · obtain rfl : i = 0 := by omega
        have hs : Hid (up lt gk m 0 = m) := up_stop (by simp)
        go_wp2_with fail
        (try simp only [Exit.inBlock, Exit.then])
        refine bodyPost_end (results_none rfl _ _ _) rfl ?_
        exact ⟨rfl, ⟨.slice (some ⟨g, 0, none⟩) (l.length + 1) cap', HG.out.imp (fun h => h.symm) (fun h => ⟨g, rfl, h⟩), by rw [HU.out, hs.out]; exact HR.out⟩, HCR.out⟩

set_option maxHeartbeats 1000000 in
theorem push_nil (x : El) (w : World) : Calls Try.prog 77 #[.pointer none, .agg #[.int .i64 x.1, .int .i64 x.2]] w fun e w' => e = .returned (.tuple #[]) ∧ Below w.heap.size w w' := by
  go_enter Try.func77, Try.ntmps77
  go_wp2
  exact bodyPost_ret (results_none rfl _ _ _) rfl ⟨rfl, (Below.refl w.heap.size w).alloc (Nat.le_refl _) (.cells #[.int .i64 x.1, .int .i64 x.2] 102)⟩
end Go.Proofs.Ytimffpnfhkobkaa.HRch
