/- The row of the law HeapLeast: it returns true at every input, and its arguments read afterwards as before. No condition beyond the row's own. -/
import Derived.Test.YtmnfefebbadflaaRows
import Derived.Test.YtmnfefebbadflaaLLeast
import Derived.WalkKit
import Derived.ProofKit
import Derived.OpenShut
import Derived.ShutString
import Derived.ChangeOld
import Derived.Below
import Derived.SizedLaws
import Derived.Lib.SmallJoins
import Derived.Deep.Slices
import Derived.Deep.Strs
namespace Go.Proofs.Ytmnfefebbadflaa.heapLeast
open Go.ChangeShapes Go.WideShapes Go.ChangeAt Go.RowKit Go.Joins
open Go.ChangeMaps (open_string shut_string)
set_option linter.unusedVariables false
theorem own : ownKnob Try.prog.godebug = none := by kernel_rfl
theorem laidOut : laidOutB Try.prog = true := by kernel_rfl
set_option maxRecDepth 100000 in
theorem lifted (os : Os) (started : os.Started) (H : Type) (enc : TypeId × Value → H) :
    ReturnsInHanded {} Try.checked os 4 .any (Rows.heapLeastSpec.pre6 enc Try.prog Try.f4 Rows.heapLeastRow.domain false) (Rows.heapLeastSpec.post enc Try.prog Try.f4 false true false false) := by
  refine returnsInHanded_of_change_sized (C := Try.checked) own started (by kernel_rfl) Try.func4
    (ChangeSpec.witness6 (enc := enc) (C := Try.checked) false ⟨#[], #[.slice none 0 0], []⟩ 8 (by kernel_rfl) (by kernel_rfl) (by kernel_rfl) (by kernel_rfl)) ?_
  intro W base args ds gs before hval0 hW hcnd hsz0 _
  have hsz : (DataW.weightsEach Try.prog (Try.f4.params.toList ++ Rows.heapLeastSpec.plain.varTypes Try.prog) (ds ++ gs)).all (· ≤ reachBytes) = true := hsz0
  have hval : ∀ (j : Nat) t v, Try.f4.params[j]? = some t → args[j]? = some v → Value.okWide Try.prog W .any base t v := hval0
  have hW' := hW
  obtain ⟨p, q, hA0, hV, rfl, hfz, hnd⟩ := hW
  have hA : DataW.TrodAll enc Try.prog W 0 (fun _ => true) true Try.f4.params.toList args.toList ds p := hA0
  rw [Try.params4] at hA hval hsz
  obtain ⟨v0, vs0, d0, ds0, p0, q0, hargs, rfl, rfl, h0, r0⟩ := trodAll_cons hA
  obtain ⟨rfl, rfl, rfl⟩ := trodAll_nil r0
  obtain rfl : args = #[v0] := by cases args; simp_all
  obtain ⟨rfl, rfl⟩ := trodVars_none hV
  have k0 := h0
  have lt0 : ∀ x ∈ p0, x.block < W.heap.size := by obtain ⟨m, hm⟩ := k0; exact DataW.trod_lt m _ _ _ hm
  obtain ⟨fl0, hf0⟩ := id h0
  have oA0 : ∃ A len cap, v0 = .slice A len cap ∧ len ≤ cap ∧ cap ≤ 140737488351232 ∧ (A = none → len = 0 ∧ cap = 0) ∧ (0 < len → ∃ b off, A = some ⟨b, off, none⟩ ∧ ∀ i, i < len → ∃ d k m : Int, 0 ≤ d ∧ d ≤ 255 ∧ -128 ≤ k ∧ k ≤ 127 ∧ -128 ≤ m ∧ m ≤ 127 ∧ W.cell? ⟨b, off + i * 3, none⟩ = some (.int .u8 d) ∧ W.cell? ⟨b, off + i * 3 + 1, none⟩ = some (.int .i8 k) ∧ W.cell? ⟨b, off + i * 3 + 2, none⟩ = some (.int .i8 m)) := by
    obtain ⟨A, len, cap, rfl⟩ := okWide_slice Try.underlying22 (hval 0 22 v0 rfl rfl)
    have hf := hf0
    rcases Deep.open_slice Try.underlying22 hf with ⟨h0, hd⟩ | ⟨a, ln, cp, M, n, D, Pl, h0, hb, hl, hm, hmm, hx, hc⟩
    · cases h0; exact ⟨none, 0, 0, rfl, by omega, by omega, by simp, by simp⟩
    · cases h0
      have hlm : len ≤ M := by rw [hmm]; split <;> omega
      have z := sized_slice hsz (j := 0) (t := 22) (e := 31) (elems := (List.range len).map D) (spare := (List.range (M - len)).map fun j => D (len + j)) rfl (by rw [← (Prod.mk.inj hx).1]; rfl) Try.underlying22
      rw [List.length_map, List.length_map, List.length_range, List.length_range] at z
      have hbo : Try.prog.bytesOf 31 = 3 := by kernel_rfl
      have hco : Try.prog.cellsOf 31 = 3 := by kernel_rfl
      rw [hbo] at z
      have hmc : M = cap := by simpa using hmm
      have hrb : reachBytes ≤ 140737488351232 := by decide
      rw [hco] at hc
      refine ⟨some a, len, cap, rfl, hl, by omega, by simp, fun hpos => ?_⟩
      have key : ∀ i, i < len → ∃ d k m : Int, 0 ≤ d ∧ d ≤ 255 ∧ -128 ≤ k ∧ k ≤ 127 ∧ -128 ≤ m ∧ m ≤ 127 ∧ W.cell? (a.add (i * 3)) = some (.int .u8 d) ∧ W.cell? ((a.add (i * 3)).add 1) = some (.int .i8 k) ∧ W.cell? ((a.add (i * 3)).add 2) = some (.int .i8 m) := by
        intro i hi
        obtain ⟨cs, h1, h2⟩ := hc i (by omega)
        obtain ⟨_, hlen, hcell⟩ := World.cells?_some h1
        obtain ⟨y0, y1, y2, n', _, _, t0, t1, t2⟩ := Deep.trod_struct3 Try.underlying31 h2
        match cs, hlen with
        | [c0, c1, c2], _ =>
          have e0 := hcell 0 (by omega)
          have e1 := hcell 1 (by omega)
          have e2 := hcell 2 (by omega)
          obtain ⟨d, nd, _, wd⟩ := DataW.trod_int Try.underlying5 t0
          obtain ⟨k, nk, _, wk⟩ := DataW.trod_int Try.underlying29 t1
          obtain ⟨j, nj, _, wj⟩ := DataW.trod_int Try.underlying29 t2
          have s5 : Try.prog.cellsOf 5 = 1 := by kernel_rfl
          have s6 : Try.prog.cellsOf 29 = 1 := by kernel_rfl
          have nd' : c0 = .int .u8 d := by simpa [s5] using nd
          have nk' : c1 = .int .i8 k := by simpa [s6] using nk
          have nj' : c2 = .int .i8 j := by simpa [s6] using nj
          subst nd'; subst nk'; subst nj'
          obtain ⟨b1, b2⟩ := bounds_u8 wd
          obtain ⟨b3, b4⟩ := bounds_i8 wk
          obtain ⟨b5, b6⟩ := bounds_i8 wj
          exact ⟨d, k, j, b1, b2, b3, b4, b5, b6, by simpa [Addr.add] using e0, by simpa using e1, by simpa using e2⟩
      obtain ⟨b, off, sp⟩ := a
      have hsp : sp = none := by
        obtain ⟨_, _, _, _, _, _, _, _, _, g, _⟩ := key 0 hpos
        exact World.cell?_spot g
      subst hsp
      have ad : ∀ n, Addr.add ⟨b, off, none⟩ n = ⟨b, off + n, none⟩ := by intro n; unfold Addr.add; split <;> simp_all
      simp only [ad] at key
      exact ⟨b, off, rfl, key⟩
  obtain ⟨A0, l0, c0, rfl, x0, y0, z0, s0⟩ := oA0
  clear hf0
  clear hA0 hval0 hsz0 hsz
  refine (least_walk A0 l0 c0 W x0 y0 s0 z0).mono fun e W' ⟨he, bel⟩ => ?_
  subst he
  exact ⟨_, rfl, _, _, _, [], _, [], hW', trodAll_mk1 (shut_bool Try.underlying4 _), (trodAll_cons_mk (Below.trod laidOut (by kernel_rfl) (of_decide_eq_true (by kernel_rfl)) k0 bel lt0) trodAll_mk0), rfl, bel.frame _, fun h => by cases h⟩
theorem over : Rows.heapLeastRow.holds Try.pinned (OpenSpec.ofChange Rows.heapLeastSpec) :=
  OpenClaim.holds_of_wide 4 Try.f4 rfl rfl rfl rfl rfl rfl rfl ⟨rfl, rfl, rfl, rfl, rfl⟩ rfl rfl rfl rfl rfl (by kernel_rfl) Try.func4 (by kernel_rfl)
    (of_decide_eq_true (by kernel_rfl)) (by unfold Func.isWrapper; first | (rw [if_pos (by decide +kernel)]; kernel_rfl) | (rw [if_neg (by decide +kernel)]; exact ⟨rfl, rfl⟩))
    (fun os started H enc _ => lifted os started H enc)
theorem proved : Rows.HeapLeastSaid := over
#print axioms proved
end Go.Proofs.Ytmnfefebbadflaa.heapLeast

