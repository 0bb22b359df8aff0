/- slices.Clone of arcs, of numbers. -/
import Derived.Test.YtimffpnfhkobkaaShelf
import Derived.Test.YtimffpnfhkobkaaMgF14
import Derived.Test.YtimffpnfhkobkaaMgF15
import Derived.Test.YtimffpnfhkobkaaMgF13
namespace Go.Proofs.Ytimffpnfhkobkaa
open Go.RowKit Go.Shelf
def laysCloneArc_ren : Go.Shelf.Ren := ⟨fun | 41 => 34 | n => n, fun | 22 => 22 | 23 => 52 | 4 => 4 | n => n, fun | n => n⟩
theorem laysCloneArc : Go.Proofs.SlLaysE0.n41 Try.prog laysCloneArc_ren := {
  mixed := by kernel_rfl
  f41 := ⟨Try.f34.name, by decide, Try.func34.trans (congrArg some (by kernel_rfl))⟩
  t4 := Try.underlying4
  a4 := Try.isAgg4
  z4 := Try.sizeOf4
  v4 := Try.zeroValue4
  t22 := Try.underlying22
  a22 := Try.isAgg22
  z22 := Try.sizeOf22
  v22 := Try.zeroValue22 }
theorem news_sl {α : Type} {sz : Nat} {enc : α → List Value} (he : ∀ a, (enc a).length = sz) {w : World} {L : List α} {b off : Nat} (hc : ∀ i a, L[i]? = some a → ∀ r v, (enc a)[r]? = some v → w.cell? ⟨b, off + i * sz + r, none⟩ = some v) : ∀ j u, (flat enc L)[j]? = some u → w.cell? ⟨b, off + j, none⟩ = some u := by
  intro j u hu
  have hl := (List.getElem?_eq_some_iff.1 hu).1
  rw [flat_length he] at hl
  have hs : 0 < sz := by
    rcases Nat.eq_zero_or_pos sz with h | h
    · rw [h, Nat.mul_zero] at hl; omega
    · exact h
  have hi : j / sz < L.length := by
    rw [Nat.div_lt_iff_lt_mul hs]; exact hl
  have hr : j % sz < sz := Nat.mod_lt _ hs
  have e : j / sz * sz + j % sz = j := by rw [Nat.mul_comm]; exact Nat.div_add_mod j sz
  have h1 := flat_get he L (j / sz) (j % sz) hr _ (List.getElem?_eq_getElem hi)
  rw [e, hu] at h1
  have := hc (j / sz) _ (List.getElem?_eq_getElem hi) (j % sz) u h1.symm
  rwa [Nat.add_assoc, e] at this
section
variable {w : World} {V : Value}
theorem cloneA_own {L : List Arc} {B : Nat} (h : w.ownsRow B 52 3 V L.length (flat encA L)) (hl : L.length ≤ 1000000) : Calls Try.prog 34 #[V] w fun e w' => ∃ V', e = .returned V' ∧ w'.ownsRow w.heap.size 52 3 V' L.length (flat encA L) ∧ Below w.heap.size w w' := by
  obtain ⟨i0, hi0, hz0, hz1, hz2⟩ := info_parts info_arcM
  have fl : (flat encA L).length = L.length * 3 := flat_length encA_length L
  have one : ∀ u ∈ flat encA L, u.oneCell' = true := fun u hu => by
    obtain ⟨x, -, hx⟩ := List.mem_flatMap.1 hu
    simp [encA] at hx
    rcases hx with rfl | rfl | rfl <;> rfl
  rcases h.2 with ⟨rfl, h0⟩ | ⟨g, cap, cur, rfl, hg, hh, hle, r⟩
  · have h0' : L.length = 0 := h0
    have : L = [] := List.length_eq_zero_iff.1 h0'
    subst this
    refine (AnyE.slices_Clone_nil laysCloneArc 0 0 w).mono ?_
    rintro e w' ⟨rfl, rfl⟩
    exact ⟨_, rfl, ⟨rfl, .inl ⟨rfl, rfl⟩⟩, Below.refl _ _⟩
  · refine (AnyE.slices_Clone laysCloneArc i0 _ 3 24 hi0 hz0 hz1 hz2 rfl (by decide) (fun w => Try.sizeOf52 w) g 0 L.length cap (flat encA L) w fl (by simp only [maxLen]; omega) (by omega) (fun j u hu => ?_) one).mono ?_
    · have hj := (List.getElem?_eq_some_iff.1 hu).1
      rw [fl] at hj
      rw [Nat.zero_add, h.cellAt j hj]
      exact hu
    · rintro e w' ⟨v', rfl, h1, -, h2⟩
      exact ⟨v', rfl, h1, h2⟩
theorem cloneI_any {xs : List Int} (h : Ints w V xs) (hl : xs.length ≤ 1000000) : Calls Try.prog 35 #[V] w fun e w' => ∃ V', e = .returned V' ∧ w'.ownsRow w.heap.size 3 1 V' xs.length (flat encI xs) ∧ Below w.heap.size w w' := by
  obtain ⟨A, cap, rfl, -, hn, hA⟩ := h.at_
  by_cases h0 : 0 < xs.length
  · obtain ⟨b, off, rfl, hc⟩ := hA h0
    refine (Try.slices_Clone_int b off xs.length cap xs w (Nat.le_refl _) (by omega) (fun j hj => ?_)).mono ?_
    · rw [hc j _ (List.getElem?_eq_getElem hj)]
      simp [hj]
    · rintro e w' ⟨v', rfl, h1, -, h2⟩
      rw [List.take_of_length_le (Nat.le_refl _), ← flat_encI] at h1
      exact ⟨v', rfl, h1, h2⟩
  · have h0' : xs.length = 0 := by omega
    have : xs = [] := List.length_eq_zero_iff.1 h0'
    subst this
    cases A with
    | none =>
      refine (Try.slices_Clone_int_nil 0 cap w).mono ?_
      rintro e w' ⟨rfl, rfl⟩
      exact ⟨_, rfl, ⟨rfl, .inl ⟨rfl, rfl⟩⟩, Below.refl _ _⟩
    | some a =>
      refine (Try.slices_Clone_int_zero a cap w).mono ?_
      rintro e w' ⟨v', rfl, h1, -, h2⟩
      exact ⟨v', rfl, h1, h2⟩
end
end Go.Proofs.Ytimffpnfhkobkaa
/- A region that draws its order: two operations that may come up in either order, then what follows. No program in sight. -/
namespace Go.Proofs.Ytimffpnfhkobkaa
section
variable {P : Program} {md : Region.Mode} {ops : Array Oper} {Q : Exit → Act → World → Prop} {A : World → Prop}
theorem wpHv_skip {S : World → Prop} {K : Act → Prop} {k : Nat × Bool} {ks : List (Nat × Bool)} {a : Act} {o : Oper} (ho : ops[k.1]? = some o) (hw : Region.wanted o (yielded ops a.tmps) = false) (h : wpHv P ops A S K ks (a.put o.dst undef)) : wpHv P ops A S K (k :: ks) a := ⟨o, undef, ho, .inr ⟨hw, rfl⟩, h⟩
theorem wpV_two {i j fuel : Nat} {listed : Array Bool} {a : Act} {w : World} {oi oj : Oper} (hr : Region.ready md ops listed = [i, j]) (hri : Region.ready md ops (listed.setIfInBounds i true) = [j]) (hrj : Region.ready md ops (listed.setIfInBounds j true) = [i]) (hi : ops[i]? = some oi) (hj : ops[j]? = some oj) (hij : i ≠ j) (F : Value → Value → World → Prop)
    (hput : ∀ v v', (a.put oj.dst v').put oi.dst v = (a.put oi.dst v).put oj.dst v')
    (h1 : ∀ K' : Act → World → Prop, Shut (∀ v a' w', a' = a.put oi.dst v → A w' → (∀ K'' : Act → World → Prop, Shut (∀ v' a'' w'', a'' = a'.put oj.dst v' → A w'' → F v v' w'' → K'' a'' w'') → if Region.wanted oj (yielded ops a'.tmps) = true then Oper.wp P oj a' w' K'' Q else K'' (a'.put oj.dst undef) w') → K' a' w') → if Region.wanted oi (yielded ops a.tmps) = true then Oper.wp P oi a w K' Q else K' (a.put oi.dst undef) w)
    (h2 : ∀ K' : Act → World → Prop, Shut (∀ v' a' w', a' = a.put oj.dst v' → A w' → (∀ K'' : Act → World → Prop, Shut (∀ v a'' w'', a'' = a'.put oi.dst v → A w'' → F v v' w'' → K'' a'' w'') → if Region.wanted oi (yielded ops a'.tmps) = true then Oper.wp P oi a' w' K'' Q else K'' (a'.put oi.dst undef) w') → K' a' w') → if Region.wanted oj (yielded ops a.tmps) = true then Oper.wp P oj a w K' Q else K' (a.put oj.dst undef) w)
    (h : ∀ v v' w', A w' → F v v' w' → wpV P md ops Q A (fun _ => True) [] fuel ((listed.setIfInBounds i true).setIfInBounds j true) ((a.put oi.dst v).put oj.dst v') w') : wpV P md ops Q A (fun _ => True) [] (fuel + 2) listed a w := by
  refine ⟨fun h0 => (by rw [hr] at h0; cases h0), fun k hk => ?_⟩
  rw [hr] at hk
  have hk' : k = i ∨ k = j := by simpa using hk
  rcases hk' with rfl | rfl
  · refine wpOp_step hi (fun K' hK => h1 K' (fun v a' w' e hA hin => hK a' w' ⟨⟨hA, fun _ _ => trivial⟩, ?_⟩))
    subst e
    exact wpV_one hri hj (fun K'' hK2 => hin K'' (fun v' a'' w'' e hA2 hF => hK2 a'' w'' ⟨hA2, fun _ _ => trivial⟩ (by subst e; exact h v v' w'' hA2 hF)))
  · refine wpOp_step hj (fun K' hK => h2 K' (fun v' a' w' e hA hin => hK a' w' ⟨⟨hA, fun _ _ => trivial⟩, ?_⟩))
    subst e
    exact wpV_one hrj hi (fun K'' hK2 => hin K'' (fun v a'' w'' e hA2 hF => hK2 a'' w'' ⟨hA2, fun _ _ => trivial⟩ (by
      subst e
      rw [hput, Array.setIfInBounds_comm _ _ (Ne.symm hij)]
      exact h v v' w'' hA2 hF)))
end
end Go.Proofs.Ytimffpnfhkobkaa
/- Arguments opened: slices as lists, graphs as plain data. -/
namespace Go.Proofs.Ytimffpnfhkobkaa
open Go.RowKit
section
variable {H : Type} {enc : TypeId × Value → H} {W : World} {base : Nat} {A : Option Addr} {len cap : Nat}
theorem byte_of {n : Int} (h : (Lit.int .u8 n).wf = true) : ∃ m : Nat, n = m ∧ m < 256 := by
  simp [Lit.wf, IntKind.min, IntKind.max, IntKind.signed, IntKind.bits] at h
  exact ⟨n.toNat, by omega, by omega⟩
theorem int_of {n : Int} (h : (Lit.int .i64 n).wf = true) : -9223372036854775808 ≤ n ∧ n ≤ 9223372036854775807 := by
  simp [Lit.wf, IntKind.min, IntKind.max, IntKind.signed, IntKind.bits] at h
  exact ⟨h.1, by omega⟩
/-- A slice that is read, as a list. -/
theorem Rd.sl {P : Program} {t e : TypeId} {α : Type} (encα : α → List Value) (ok : α → Prop) (d : α) (R : Rd enc P W base (fun _ => true) true t [.slice A len cap]) (ht : P.underlying t = some (.slice e)) {sz by_ : Nat} (hs : P.cellsOf e = sz) (hb : P.bytesOf e = by_) {k : Nat} {ps : List (Nat × TypeId)} (hl : leaves P k e = some ps) (hps : ∃ q, (0, q) ∈ ps)
    (el : ∀ cell : Nat → Option Value, (∀ p ∈ ps, ∃ c, cell p.1 = some c ∧ Rd enc P W base (fun _ => true) true p.2 [c]) → ∃ a : α, ok a ∧ ∀ r v, (encα a)[r]? = some v → cell r = some v) :
    ∃ L : List α, len = L.length ∧ (∀ a ∈ L, ok a) ∧ Sl sz encα W (.slice A len cap) L ∧ len * by_ ≤ 140737488351232 ∧ cap * by_ ≤ 140737488351232 := by
  obtain ⟨A', len', cap', e, h1, h2, h5, h3, h4⟩ := R.slice ht hs hb hl hps
  cases e
  have h2' := h2 rfl
  by_cases h0 : 0 < len
  · obtain ⟨b, off, rfl, _, hc⟩ := h4 h0
    have key : ∀ i, i < len → ∃ a : α, ok a ∧ ∀ r v, (encα a)[r]? = some v → W.cell? ⟨b, off + i * sz + r, none⟩ = some v := fun i hi => el (fun r => W.cell? ⟨b, off + i * sz + r, none⟩) (hc i hi)
    haveI : Inhabited α := ⟨d⟩
    obtain ⟨p, hp⟩ := Deep.choose_lt key
    have hll : ((List.range len).map p).length = len := by simp
    refine ⟨(List.range len).map p, by simp, fun a ha => ?_, ⟨_, cap, by rw [hll], by rw [hll]; exact h1, (fun h => by cases h), fun _ => ⟨b, off, rfl, fun i a ha r v hv => ?_⟩⟩, h5, h2'⟩
    · obtain ⟨i, hi, rfl⟩ := List.mem_map.1 ha
      exact (hp i (List.mem_range.1 hi)).1
    · rw [List.getElem?_map] at ha
      by_cases hin : i < len
      · rw [List.getElem?_range hin] at ha
        simp at ha
        subst ha
        exact (hp i hin).2 r v hv
      · rw [List.getElem?_eq_none (by simp; omega)] at ha
        simp at ha
  · have e0 : len = 0 := by omega
    subst e0
    refine ⟨[], rfl, by simp, ⟨A, cap, rfl, by simp, (fun h => ⟨rfl, (h3 h).2⟩), fun h => by simp at h⟩, h5, h2'⟩
theorem Rd.ints (R : Rd enc Try.prog W base (fun _ => true) true 26 [.slice A len cap]) : ∃ L : List Int, len = L.length ∧ (∀ a ∈ L, -9223372036854775808 ≤ a ∧ a ≤ 9223372036854775807) ∧ Ints W (.slice A len cap) L ∧ L.length ≤ 17592186043904 := by
  obtain ⟨L, h1, h2, h3, h4, _⟩ := Rd.sl encI (fun a => -9223372036854775808 ≤ a ∧ a ≤ 9223372036854775807) 0 R Try.underlying26 (sz := 1) (by_ := 8) (by kernel_rfl) (by kernel_rfl) (k := 3) (ps := [(0, 3)]) (by kernel_rfl) ⟨3, by simp⟩ (fun cell hc => by
    obtain ⟨c, e0, r0⟩ := hc (0, 3) (by simp)
    obtain ⟨n, k0, w0⟩ := r0.int Try.underlying3
    cases k0
    refine ⟨n, int_of w0, fun r v hv => ?_⟩
    match r, hv with
    | 0, hv => simp [encI] at hv; subst hv; exact e0)
  exact ⟨L, h1, h2, h3, by omega⟩
theorem Rd.arcs (R : Rd enc Try.prog W base (fun _ => true) true 22 [.slice A len cap]) : ∃ L : List Arc, len = L.length ∧ Arcs W (.slice A len cap) L ∧ L.length ≤ 5864062014634 ∧ ∀ a ∈ L, (-9223372036854775808 ≤ a.1 ∧ a.1 ≤ 9223372036854775807) ∧ (-9223372036854775808 ≤ a.2.1 ∧ a.2.1 ≤ 9223372036854775807) ∧ (-9223372036854775808 ≤ a.2.2 ∧ a.2.2 ≤ 9223372036854775807) := by
  obtain ⟨L, h1, h2, h3, h4, _⟩ := Rd.sl encA (fun a => (-9223372036854775808 ≤ a.1 ∧ a.1 ≤ 9223372036854775807) ∧ (-9223372036854775808 ≤ a.2.1 ∧ a.2.1 ≤ 9223372036854775807) ∧ (-9223372036854775808 ≤ a.2.2 ∧ a.2.2 ≤ 9223372036854775807)) (0, 0, 0) R Try.underlying22 (sz := 3) (by_ := 24) (by kernel_rfl) (by kernel_rfl) (k := 3) (ps := [(0, 3), (1, 3), (2, 3)]) (by kernel_rfl) ⟨3, by simp⟩ (fun cell hc => by
    obtain ⟨c, e0, r0⟩ := hc (0, 3) (by simp)
    obtain ⟨n0, k0, w0⟩ := r0.int Try.underlying3
    cases k0
    obtain ⟨c, e1, r1⟩ := hc (1, 3) (by simp)
    obtain ⟨n1, k1, w1⟩ := r1.int Try.underlying3
    cases k1
    obtain ⟨c, e2, r2⟩ := hc (2, 3) (by simp)
    obtain ⟨n2, k2, w2⟩ := r2.int Try.underlying3
    cases k2
    refine ⟨(n0, n1, n2), ⟨int_of w0, int_of w1, int_of w2⟩, fun r v hv => ?_⟩
    match r, hv with
    | 0, hv => simp [encA] at hv; subst hv; exact e0
    | 1, hv => simp [encA] at hv; subst hv; exact e1
    | 2, hv => simp [encA] at hv; subst hv; exact e2)
  exact ⟨L, h1, h3, by omega, h2⟩
theorem Rd.tris (R : Rd enc Try.prog W base (fun _ => true) true 36 [.slice A len cap]) : ∃ T : List Tri, len = T.length ∧ Tris W (.slice A len cap) T ∧ Small T ∧ T.length ≤ 1000000000000000 := by
  obtain ⟨L, h1, h2, h3, h4, _⟩ := Rd.sl encT (fun t => t.1 ≤ 255 ∧ t.2.1 ≤ 255 ∧ t.2.2 ≤ 255) (0, 0, 0) R Try.underlying36 (sz := 3) (by_ := 3) (by kernel_rfl) (by kernel_rfl) (k := 3) (ps := [(0, 5), (1, 5), (2, 5)]) (by kernel_rfl) ⟨5, by simp⟩ (fun cell hc => by
    obtain ⟨c, e0, r0⟩ := hc (0, 5) (by simp)
    obtain ⟨n0, k0, w0⟩ := r0.int Try.underlying5
    cases k0
    obtain ⟨c, e1, r1⟩ := hc (1, 5) (by simp)
    obtain ⟨n1, k1, w1⟩ := r1.int Try.underlying5
    cases k1
    obtain ⟨c, e2, r2⟩ := hc (2, 5) (by simp)
    obtain ⟨n2, k2, w2⟩ := r2.int Try.underlying5
    cases k2
    obtain ⟨m0, rfl, l0⟩ := byte_of w0
    obtain ⟨m1, rfl, l1⟩ := byte_of w1
    obtain ⟨m2, rfl, l2⟩ := byte_of w2
    refine ⟨(m0, m1, m2), ⟨by simp only; omega, by simp only; omega, by simp only; omega⟩, fun r v hv => ?_⟩
    match r, hv with
    | 0, hv => simp [encT] at hv; subst hv; exact e0
    | 1, hv => simp [encT] at hv; subst hv; exact e1
    | 2, hv => simp [encT] at hv; subst hv; exact e2)
  exact ⟨L, h1, h3, h2, by omega⟩
/-- A graph as plain data, by value. -/
theorem Rd.raw {cs : Array Value} (hs : cs.size = Try.prog.cellsOf 38) (R : Rd enc Try.prog W base (fun _ => true) true 38 cs.toList) :
    ∃ (N : Nat) (V : Value) (T : List Tri), cs = #[.int .u8 (N : Int), V] ∧ N ≤ 255 ∧ Tris W V T ∧ Small T ∧ T.length ≤ 1000000000000000 := by
  have hc2 : Try.prog.cellsOf 38 = 2 := by kernel_rfl
  obtain ⟨c0, e0, r0⟩ := Rd.cells (ps := [(0, 5), (1, 36)]) 3 R (by kernel_rfl) (0, 5) (by simp)
  obtain ⟨c1, e1, r1⟩ := Rd.cells (ps := [(0, 5), (1, 36)]) 3 R (by kernel_rfl) (1, 36) (by simp)
  obtain ⟨n0, k0, w0⟩ := r0.int Try.underlying5
  cases k0
  obtain ⟨m0, rfl, l0⟩ := byte_of w0
  obtain ⟨A, len, cap, rfl, _⟩ := r1.slice (sz := 3) (by_ := 3) Try.underlying36 (by kernel_rfl) (by kernel_rfl) (k := 3) (ps := [(0, 5), (1, 5), (2, 5)]) (by kernel_rfl) ⟨5, by simp⟩
  obtain ⟨T, hl, h1, h2, h3⟩ := Rd.tris r1
  refine ⟨m0, _, T, ?_, by omega, h1, h2, h3⟩
  rw [hc2] at hs
  apply Array.ext
  · simpa using hs
  · intro i hi _
    have : i = 0 ∨ i = 1 := by omega
    rcases this with rfl | rfl
    · simpa [Array.getElem?_toList, hi] using e0
    · simpa [Array.getElem?_toList, hi] using e1
end
end Go.Proofs.Ytimffpnfhkobkaa
/- Arguments opened: two bytes, three bytes, by value. -/
namespace Go.Proofs.Ytimffpnfhkobkaa
open Go.RowKit
section
variable {H : Type} {enc : TypeId × Value → H} {W : World} {base : Nat}
theorem Rd.two {cs : Array Value} (hs : cs.size = Try.prog.cellsOf 63) (R : Rd enc Try.prog W base (fun _ => true) true 63 cs.toList) :
    ∃ a b : Nat, a ≤ 255 ∧ b ≤ 255 ∧ cs = #[.int .u8 (a : Nat), .int .u8 (b : Nat)] := by
  have hc2 : Try.prog.cellsOf 63 = 2 := by kernel_rfl
  have hs2 : cs.size = 2 := by rw [hs, hc2]
  obtain ⟨c0, e0, r0⟩ := R.cells (ps := [(0, 5), (1, 5)]) 3 (by kernel_rfl) (0, 5) (by simp)
  obtain ⟨c1, e1, r1⟩ := R.cells (ps := [(0, 5), (1, 5)]) 3 (by kernel_rfl) (1, 5) (by simp)
  obtain ⟨n0, k0, w0⟩ := r0.int Try.underlying5
  obtain ⟨n1, k1, w1⟩ := r1.int Try.underlying5
  obtain ⟨m0, rfl, l0⟩ := byte_of w0
  obtain ⟨m1, rfl, l1⟩ := byte_of w1
  cases k0; cases k1
  obtain ⟨l⟩ := cs
  match l, hs2 with
  | [x, y], _ =>
    simp at e0 e1
    subst e0 e1
    exact ⟨m0, m1, by omega, by omega, rfl⟩
theorem Rd.three {cs : Array Value} (hs : cs.size = Try.prog.cellsOf 69) (R : Rd enc Try.prog W base (fun _ => true) true 69 cs.toList) :
    ∃ a b c : Nat, a ≤ 255 ∧ b ≤ 255 ∧ c ≤ 255 ∧ cs = #[.int .u8 (a : Nat), .int .u8 (b : Nat), .int .u8 (c : Nat)] := by
  have hc2 : Try.prog.cellsOf 69 = 3 := by kernel_rfl
  have hs2 : cs.size = 3 := by rw [hs, hc2]
  obtain ⟨c0, e0, r0⟩ := R.cells (ps := [(0, 5), (1, 5), (2, 5)]) 3 (by kernel_rfl) (0, 5) (by simp)
  obtain ⟨c1, e1, r1⟩ := R.cells (ps := [(0, 5), (1, 5), (2, 5)]) 3 (by kernel_rfl) (1, 5) (by simp)
  obtain ⟨c2, e2, r2⟩ := R.cells (ps := [(0, 5), (1, 5), (2, 5)]) 3 (by kernel_rfl) (2, 5) (by simp)
  obtain ⟨n0, k0, w0⟩ := r0.int Try.underlying5
  obtain ⟨n1, k1, w1⟩ := r1.int Try.underlying5
  obtain ⟨n2, k2, w2⟩ := r2.int Try.underlying5
  obtain ⟨m0, rfl, l0⟩ := byte_of w0
  obtain ⟨m1, rfl, l1⟩ := byte_of w1
  obtain ⟨m2, rfl, l2⟩ := byte_of w2
  cases k0; cases k1; cases k2
  obtain ⟨l⟩ := cs
  match l, hs2 with
  | [x, y, z], _ =>
    simp at e0 e1 e2
    subst e0 e1 e2
    exact ⟨m0, m1, m2, by omega, by omega, by omega, rfl⟩
end
end Go.Proofs.Ytimffpnfhkobkaa
