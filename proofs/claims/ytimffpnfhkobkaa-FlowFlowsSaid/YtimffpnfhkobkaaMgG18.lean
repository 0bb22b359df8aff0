/- slices.Clone of arcs, of numbers. -/
import Derived.Test.YtimffpnfhkobkaaShelf
import Derived.Test.YtimffpnfhkobkaaMgG14
import Derived.Test.YtimffpnfhkobkaaMgG15
import Derived.Test.YtimffpnfhkobkaaMgG13
namespace Go.Proofs.Ytimffpnfhkobkaa
open Go.RowKit Go.Shelf
def laysCloneArc_ren : Go.Shelf.Ren := ⟨fun | 41 => 34 | n => n, fun | 22 => 22 | 23 => 52 | 4 => 4 | n => n, fun | n => n⟩
theorem laysCloneArc : Go.Proofs.SlLaysE0.n41 Try.prog laysCloneArc_ren := {
  mixed := by kernel_rfl
  f41 := ⟨Try.f34.name, by decide, Try.func34.trans (congrArg some (by kernel_rfl))⟩
  t4 := Try.underlying4
  a4 := Try.isAgg4
  z4 := Try.sizeOf4
  v4 := Try.zeroValue4
  t22 := Try.underlying22
  a22 := Try.isAgg22
  z22 := Try.sizeOf22
  v22 := Try.zeroValue22 }
theorem news_sl {α : Type} {sz : Nat} {enc : α → List Value} (he : ∀ a, (enc a).length = sz) {w : World} {L : List α} {b off : Nat} (hc : ∀ i a, L[i]? = some a → ∀ r v, (enc a)[r]? = some v → w.cell? ⟨b, off + i * sz + r, none⟩ = some v) : ∀ j u, (flat enc L)[j]? = some u → w.cell? ⟨b, off + j, none⟩ = some u := by
  intro j u hu
  have hl := (List.getElem?_eq_some_iff.1 hu).1
  rw [flat_length he] at hl
  have hs : 0 < sz := by
    rcases Nat.eq_zero_or_pos sz with h | h
    · rw [h, Nat.mul_zero] at hl; omega
    · exact h
  have hi : j / sz < L.length := by
    rw [Nat.div_lt_iff_lt_mul hs]; exact hl
  have hr : j % sz < sz := Nat.mod_lt _ hs
  have e : j / sz * sz + j % sz = j := by rw [Nat.mul_comm]; exact Nat.div_add_mod j sz
  have h1 := flat_get he L (j / sz) (j % sz) hr _ (List.getElem?_eq_getElem hi)
  rw [e, hu] at h1
  have := hc (j / sz) _ (List.getElem?_eq_getElem hi) (j % sz) u h1.symm
  rwa [Nat.add_assoc, e] at this
section
variable {w : World} {V : Value}
theorem cloneA_own {L : List Arc} {B : Nat} (h : w.ownsRow B 52 3 V L.length (flat encA L)) (hl : L.length ≤ 1000000) : Calls Try.prog 34 #[V] w fun e w' => ∃ V', e = .returned V' ∧ w'.ownsRow w.heap.size 52 3 V' L.length (flat encA L) ∧ Below w.heap.size w w' := by
  obtain ⟨i0, hi0, hz0, hz1, hz2⟩ := info_parts info_arcM
  have fl : (flat encA L).length = L.length * 3 := flat_length encA_length L
  have one : ∀ u ∈ flat encA L, u.oneCell' = true := fun u hu => by
    obtain ⟨x, -, hx⟩ := List.mem_flatMap.1 hu
    simp [encA] at hx
    rcases hx with rfl | rfl | rfl <;> rfl
  rcases h.2 with ⟨rfl, h0⟩ | ⟨g, cap, cur, rfl, hg, hh, hle, r⟩
  · have h0' : L.length = 0 := h0
    have : L = [] := List.length_eq_zero_iff.1 h0'
    subst this
    refine (AnyE.slices_Clone_nil laysCloneArc 0 0 w).mono ?_
    rintro e w' ⟨rfl, rfl⟩
    exact ⟨_, rfl, ⟨rfl, .inl ⟨rfl, rfl⟩⟩, Below.refl _ _⟩
  · refine (AnyE.slices_Clone laysCloneArc i0 _ 3 24 hi0 hz0 hz1 hz2 rfl (by decide) (fun w => Try.sizeOf52 w) g 0 L.length cap (flat encA L) w fl (by simp only [maxLen]; omega) (by omega) (fun j u hu => ?_) one).mono ?_
    · have hj := (List.getElem?_eq_some_iff.1 hu).1
      rw [fl] at hj
      rw [Nat.zero_add, h.cellAt j hj]
      exact hu
    · rintro e w' ⟨v', rfl, h1, -, h2⟩
      exact ⟨v', rfl, h1, h2⟩
theorem cloneI_any {xs : List Int} (h : Ints w V xs) (hl : xs.length ≤ 1000000) : Calls Try.prog 35 #[V] w fun e w' => ∃ V', e = .returned V' ∧ w'.ownsRow w.heap.size 3 1 V' xs.length (flat encI xs) ∧ Below w.heap.size w w' := by
  obtain ⟨A, cap, rfl, -, hn, hA⟩ := h.at_
  by_cases h0 : 0 < xs.length
  · obtain ⟨b, off, rfl, hc⟩ := hA h0
    refine (Try.slices_Clone_int b off xs.length cap xs w (Nat.le_refl _) (by omega) (fun j hj => ?_)).mono ?_
    · rw [hc j _ (List.getElem?_eq_getElem hj)]
      simp [hj]
    · rintro e w' ⟨v', rfl, h1, -, h2⟩
      rw [List.take_of_length_le (Nat.le_refl _), ← flat_encI] at h1
      exact ⟨v', rfl, h1, h2⟩
  · have h0' : xs.length = 0 := by omega
    have : xs = [] := List.length_eq_zero_iff.1 h0'
    subst this
    cases A with
    | none =>
      refine (Try.slices_Clone_int_nil 0 cap w).mono ?_
      rintro e w' ⟨rfl, rfl⟩
      exact ⟨_, rfl, ⟨rfl, .inl ⟨rfl, rfl⟩⟩, Below.refl _ _⟩
    | some a =>
      refine (Try.slices_Clone_int_zero a cap w).mono ?_
      rintro e w' ⟨v', rfl, h1, -, h2⟩
      exact ⟨v', rfl, h1, h2⟩
end
end Go.Proofs.Ytimffpnfhkobkaa
/- A region that draws its order: two operations that may come up in either order, then what follows. No program in sight. -/
namespace Go.Proofs.Ytimffpnfhkobkaa
section
variable {P : Program} {md : Region.Mode} {ops : Array Oper} {Q : Exit → Act → World → Prop} {A : World → Prop}
theorem wpHv_skip {S : World → Prop} {K : Act → Prop} {k : Nat × Bool} {ks : List (Nat × Bool)} {a : Act} {o : Oper} (ho : ops[k.1]? = some o) (hw : Region.wanted o (yielded ops a.tmps) = false) (h : wpHv P ops A S K ks (a.put o.dst undef)) : wpHv P ops A S K (k :: ks) a := ⟨o, undef, ho, .inr ⟨hw, rfl⟩, h⟩
theorem wpV_two {i j fuel : Nat} {listed : Array Bool} {a : Act} {w : World} {oi oj : Oper} (hr : Region.ready md ops listed = [i, j]) (hri : Region.ready md ops (listed.setIfInBounds i true) = [j]) (hrj : Region.ready md ops (listed.setIfInBounds j true) = [i]) (hi : ops[i]? = some oi) (hj : ops[j]? = some oj) (hij : i ≠ j) (F : Value → Value → World → Prop)
    (hput : ∀ v v', (a.put oj.dst v').put oi.dst v = (a.put oi.dst v).put oj.dst v')
    (h1 : ∀ K' : Act → World → Prop, Shut (∀ v a' w', a' = a.put oi.dst v → A w' → (∀ K'' : Act → World → Prop, Shut (∀ v' a'' w'', a'' = a'.put oj.dst v' → A w'' → F v v' w'' → K'' a'' w'') → if Region.wanted oj (yielded ops a'.tmps) = true then Oper.wp P oj a' w' K'' Q else K'' (a'.put oj.dst undef) w') → K' a' w') → if Region.wanted oi (yielded ops a.tmps) = true then Oper.wp P oi a w K' Q else K' (a.put oi.dst undef) w)
    (h2 : ∀ K' : Act → World → Prop, Shut (∀ v' a' w', a' = a.put oj.dst v' → A w' → (∀ K'' : Act → World → Prop, Shut (∀ v a'' w'', a'' = a'.put oi.dst v → A w'' → F v v' w'' → K'' a'' w'') → if Region.wanted oi (yielded ops a'.tmps) = true then Oper.wp P oi a' w' K'' Q else K'' (a'.put oi.dst undef) w') → K' a' w') → if Region.wanted oj (yielded ops a.tmps) = true then Oper.wp P oj a w K' Q else K' (a.put oj.dst undef) w)
    (h : ∀ v v' w', A w' → F v v' w' → wpV P md ops Q A (fun _ => True) [] fuel ((listed.setIfInBounds i true).setIfInBounds j true) ((a.put oi.dst v).put oj.dst v') w') : wpV P md ops Q A (fun _ => True) [] (fuel + 2) listed a w := by
  refine ⟨fun h0 => (by rw [hr] at h0; cases h0), fun k hk => ?_⟩
  rw [hr] at hk
  have hk' : k = i ∨ k = j := by simpa using hk
  rcases hk' with rfl | rfl
  · refine wpOp_step hi (fun K' hK => h1 K' (fun v a' w' e hA hin => hK a' w' ⟨⟨hA, fun _ _ => trivial⟩, ?_⟩))
    subst e
    exact wpV_one hri hj (fun K'' hK2 => hin K'' (fun v' a'' w'' e hA2 hF => hK2 a'' w'' ⟨hA2, fun _ _ => trivial⟩ (by subst e; exact h v v' w'' hA2 hF)))
  · refine wpOp_step hj (fun K' hK => h2 K' (fun v' a' w' e hA hin => hK a' w' ⟨⟨hA, fun _ _ => trivial⟩, ?_⟩))
    subst e
    exact wpV_one hrj hi (fun K'' hK2 => hin K'' (fun v a'' w'' e hA2 hF => hK2 a'' w'' ⟨hA2, fun _ _ => trivial⟩ (by
      subst e
      rw [hput, Array.setIfInBounds_comm _ _ (Ne.symm hij)]
      exact h v v' w'' hA2 hF)))
end
end Go.Proofs.Ytimffpnfhkobkaa
/- Arguments opened: slices as lists, graphs as plain data. -/
namespace Go.Proofs.Ytimffpnfhkobkaa
open Go.RowKit
section
variable {H : Type} {enc : TypeId × Value → H} {W : World} {base : Nat} {A : Option Addr} {len cap : Nat}
theorem byte_of {n : Int} (h : (Lit.int .u8 n).wf = true) : ∃ m : Nat, n = m ∧ m < 256 := by
  simp [Lit.wf, IntKind.min, IntKind.max, IntKind.signed, IntKind.bits] at h
  exact ⟨n.toNat, by omega, by omega⟩
theorem int_of {n : Int} (h : (Lit.int .i64 n).wf = true) : -9223372036854775808 ≤ n ∧ n ≤ 9223372036854775807 := by
  simp [Lit.wf, IntKind.min, IntKind.max, IntKind.signed, IntKind.bits] at h
  exact ⟨h.1, by omega⟩
/-- A slice that is read, as a list. -/
theorem Rd.sl {P : Program} {t e : TypeId} {α : Type} (encα : α → List Value) (ok : α → Prop) (d : α) (R : Rd enc P W base (fun _ => true) true t [.slice A len cap]) (ht : P.underlying t = some (.slice e)) {sz by_ : Nat} (hs : P.cellsOf e = sz) (hb : P.bytesOf e = by_) {k : Nat} {ps : List (Nat × TypeId)} (hl : leaves P k e = some ps) (hps : ∃ q, (0, q) ∈ ps)
    (el : ∀ cell : Nat → Option Value, (∀ p ∈ ps, ∃ c, cell p.1 = some c ∧ Rd enc P W base (fun _ => true) true p.2 [c]) → ∃ a : α, ok a ∧ ∀ r v, (encα a)[r]? = some v → cell r = some v) :
    ∃ L : List α, len = L.length ∧ (∀ a ∈ L, ok a) ∧ Sl sz encα W (.slice A len cap) L ∧ len * by_ ≤ 140737488351232 ∧ cap * by_ ≤ 140737488351232 := by
  obtain ⟨A', len', cap', e, h1, h2, h5, h3, h4⟩ := R.slice ht hs hb hl hps
  cases e
  have h2' := h2 rfl
  by_cases h0 : 0 < len
  · obtain ⟨b, off, rfl, _, hc⟩ := h4 h0
    have key : ∀ i, i < len → ∃ a : α, ok a ∧ ∀ r v, (encα a)[r]? = some v → W.cell? ⟨b, off + i * sz + r, none⟩ = some v := fun i hi => el (fun r => W.cell? ⟨b, off + i * sz + r, none⟩) (hc i hi)
    haveI : Inhabited α := ⟨d⟩
    obtain ⟨p, hp⟩ := Deep.choose_lt key
    have hll : ((List.range len).map p).length = len := by simp
    refine ⟨(List.range len).map p, by simp, fun a ha => ?_, ⟨_, cap, by rw [hll], by rw [hll]; exact h1, (fun h => by cases h), fun _ => ⟨b, off, rfl, fun i a ha r v hv => ?_⟩⟩, h5, h2'⟩
    · obtain ⟨i, hi, rfl⟩ := List.mem_map.1 ha
      exact (hp i (List.mem_range.1 hi)).1
    · rw [List.getElem?_map] at ha
      by_cases hin : i < len
      · rw [List.getElem?_range hin] at ha
        simp at ha
        subst ha
        exact (hp i hin).2 r v hv
      · rw [List.getElem?_eq_none (by simp; omega)] at ha
        simp at ha
  · have e0 : len = 0 := by omega
    subst e0
    refine ⟨[], rfl, by simp, ⟨A, cap, rfl, by simp, (fun h => ⟨rfl, (h3 h).2⟩), fun h => by simp at h⟩, h5, h2'⟩
theorem Rd.ints (R : Rd enc Try.prog W base (fun _ => true) true 26 [.slice A len cap]) : ∃ L : List Int, len = L.length ∧ (∀ a ∈ L, -9223372036854775808 ≤ a ∧ a ≤ 9223372036854775807) ∧ Ints W (.slice A len cap) L ∧ L.length ≤ 17592186043904 := by
  obtain ⟨L, h1, h2, h3, h4, _⟩ := Rd.sl encI (fun a => -9223372036854775808 ≤ a ∧ a ≤ 9223372036854775807) 0 R Try.underlying26 (sz := 1) (by_ := 8) (by kernel_rfl) (by kernel_rfl) (k := 3) (ps := [(0, 3)]) (by kernel_rfl) ⟨3, by simp⟩ (fun cell hc => by
    obtain ⟨c, e0, r0⟩ := hc (0, 3) (by simp)
    obtain ⟨n, k0, w0⟩ := r0.int Try.underlying3
    cases k0
    refine ⟨n, int_of w0, fun r v hv => ?_⟩
    match r, hv with
    | 0, hv => simp [encI] at hv; subst hv; exact e0)
  exact ⟨L, h1, h2, h3, by omega⟩
theorem Rd.arcs (R : Rd enc Try.prog W base (fun _ => true) true 22 [.slice A len cap]) : ∃ L : List Arc, len = L.length ∧ Arcs W (.slice A len cap) L ∧ L.length ≤ 5864062014634 ∧ ∀ a ∈ L, (-9223372036854775808 ≤ a.1 ∧ a.1 ≤ 9223372036854775807) ∧ (-9223372036854775808 ≤ a.2.1 ∧ a.2.1 ≤ 9223372036854775807) ∧ (-9223372036854775808 ≤ a.2.2 ∧ a.2.2 ≤ 9223372036854775807) := by
  obtain ⟨L, h1, h2, h3, h4, _⟩ := Rd.sl encA (fun a => (-9223372036854775808 ≤ a.1 ∧ a.1 ≤ 9223372036854775807) ∧ (-9223372036854775808 ≤ a.2.1 ∧ a.2.1 ≤ 9223372036854775807) ∧ (-9223372036854775808 ≤ a.2.2 ∧ a.2.2 ≤ 9223372036854775807)) (0, 0, 0) R Try.underlying22 (sz := 3) (by_ := 24) (by kernel_rfl) (by kernel_rfl) (k := 3) (ps := [(0, 3), (1, 3), (2, 3)]) (by kernel_rfl) ⟨3, by simp⟩ (fun cell hc => by
    obtain ⟨c, e0, r0⟩ := hc (0, 3) (by simp)
    obtain ⟨n0, k0, w0⟩ := r0.int Try.underlying3
    cases k0
    obtain ⟨c, e1, r1⟩ := hc (1, 3) (by simp)
    obtain ⟨n1, k1, w1⟩ := r1.int Try.underlying3
    cases k1
    obtain ⟨c, e2, r2⟩ := hc (2, 3) (by simp)
    obtain ⟨n2, k2, w2⟩ := r2.int Try.underlying3
    cases k2
    refine ⟨(n0, n1, n2), ⟨int_of w0, int_of w1, int_of w2⟩, fun r v hv => ?_⟩
    match r, hv with
    | 0, hv => simp [encA] at hv; subst hv; exact e0
    | 1, hv => simp [encA] at hv; subst hv; exact e1
    | 2, hv => simp [encA] at hv; subst hv; exact e2)
  exact ⟨L, h1, h3, by omega, h2⟩
theorem Rd.tris (R : Rd enc Try.prog W base (fun _ => true) true 36 [.slice A len cap]) : ∃ T : List Tri, len = T.length ∧ Tris W (.slice A len cap) T ∧ Small T ∧ T.length ≤ 1000000000000000 := by
  obtain ⟨L, h1, h2, h3, h4, _⟩ := Rd.sl encT (fun t => t.1 ≤ 255 ∧ t.2.1 ≤ 255 ∧ t.2.2 ≤ 255) (0, 0, 0) R Try.underlying36 (sz := 3) (by_ := 3) (by kernel_rfl) (by kernel_rfl) (k := 3) (ps := [(0, 5), (1, 5), (2, 5)]) (by kernel_rfl) ⟨5, by simp⟩ (fun cell hc => by
    obtain ⟨c, e0, r0⟩ := hc (0, 5) (by simp)
    obtain ⟨n0, k0, w0⟩ := r0.int Try.underlying5
    cases k0
    obtain ⟨c, e1, r1⟩ := hc (1, 5) (by simp)
    obtain ⟨n1, k1, w1⟩ := r1.int Try.underlying5
    cases k1
    obtain ⟨c, e2, r2⟩ := hc (2, 5) (by simp)
    obtain ⟨n2, k2, w2⟩ := r2.int Try.underlying5
    cases k2
    obtain ⟨m0, rfl, l0⟩ := byte_of w0
    obtain ⟨m1, rfl, l1⟩ := byte_of w1
    obtain ⟨m2, rfl, l2⟩ := byte_of w2
    refine ⟨(m0, m1, m2), ⟨by simp only; omega, by simp only; omega, by simp only; omega⟩, fun r v hv => ?_⟩
    match r, hv with
    | 0, hv => simp [encT] at hv; subst hv; exact e0
    | 1, hv => simp [encT] at hv; subst hv; exact e1
    | 2, hv => simp [encT] at hv; subst hv; exact e2)
  exact ⟨L, h1, h3, h2, by omega⟩
/-- A graph as plain data, by value. -/
theorem Rd.raw {cs : Array Value} (hs : cs.size = Try.prog.cellsOf 38) (R : Rd enc Try.prog W base (fun _ => true) true 38 cs.toList) :
    ∃ (N : Nat) (V : Value) (T : List Tri), cs = #[.int .u8 (N : Int), V] ∧ N ≤ 255 ∧ Tris W V T ∧ Small T ∧ T.length ≤ 1000000000000000 := by
  have hc2 : Try.prog.cellsOf 38 = 2 := by kernel_rfl
  obtain ⟨c0, e0, r0⟩ := Rd.cells (ps := [(0, 5), (1, 36)]) 3 R (by kernel_rfl) (0, 5) (by simp)
  obtain ⟨c1, e1, r1⟩ := Rd.cells (ps := [(0, 5), (1, 36)]) 3 R (by kernel_rfl) (1, 36) (by simp)
  obtain ⟨n0, k0, w0⟩ := r0.int Try.underlying5
  cases k0
  obtain ⟨m0, rfl, l0⟩ := byte_of w0
  obtain ⟨A, len, cap, rfl, _⟩ := r1.slice (sz := 3) (by_ := 3) Try.underlying36 (by kernel_rfl) (by kernel_rfl) (k := 3) (ps := [(0, 5), (1, 5), (2, 5)]) (by kernel_rfl) ⟨5, by simp⟩
  obtain ⟨T, hl, h1, h2, h3⟩ := Rd.tris r1
  refine ⟨m0, _, T, ?_, by omega, h1, h2, h3⟩
  rw [hc2] at hs
  apply Array.ext
  · simpa using hs
  · intro i hi _
    have : i = 0 ∨ i = 1 := by omega
    rcases this with rfl | rfl
    · simpa [Array.getElem?_toList, hi] using e0
    · simpa [Array.getElem?_toList, hi] using e1
end
end Go.Proofs.Ytimffpnfhkobkaa
/- Arguments opened: two bytes, three bytes, by value. -/
namespace Go.Proofs.Ytimffpnfhkobkaa
open Go.RowKit
section
variable {H : Type} {enc : TypeId × Value → H} {W : World} {base : Nat}
theorem Rd.two {cs : Array Value} (hs : cs.size = Try.prog.cellsOf 63) (R : Rd enc Try.prog W base (fun _ => true) true 63 cs.toList) :
    ∃ a b : Nat, a ≤ 255 ∧ b ≤ 255 ∧ cs = #[.int .u8 (a : Nat), .int .u8 (b : Nat)] := by
  have hc2 : Try.prog.cellsOf 63 = 2 := by kernel_rfl
  have hs2 : cs.size = 2 := by rw [hs, hc2]
  obtain ⟨c0, e0, r0⟩ := R.cells (ps := [(0, 5), (1, 5)]) 3 (by kernel_rfl) (0, 5) (by simp)
  obtain ⟨c1, e1, r1⟩ := R.cells (ps := [(0, 5), (1, 5)]) 3 (by kernel_rfl) (1, 5) (by simp)
  obtain ⟨n0, k0, w0⟩ := r0.int Try.underlying5
  obtain ⟨n1, k1, w1⟩ := r1.int Try.underlying5
  obtain ⟨m0, rfl, l0⟩ := byte_of w0
  obtain ⟨m1, rfl, l1⟩ := byte_of w1
  cases k0; cases k1
  obtain ⟨l⟩ := cs
  match l, hs2 with
  | [x, y], _ =>
    simp at e0 e1
    subst e0 e1
    exact ⟨m0, m1, by omega, by omega, rfl⟩
theorem Rd.three {cs : Array Value} (hs : cs.size = Try.prog.cellsOf 69) (R : Rd enc Try.prog W base (fun _ => true) true 69 cs.toList) :
    ∃ a b c : Nat, a ≤ 255 ∧ b ≤ 255 ∧ c ≤ 255 ∧ cs = #[.int .u8 (a : Nat), .int .u8 (b : Nat), .int .u8 (c : Nat)] := by
  have hc2 : Try.prog.cellsOf 69 = 3 := by kernel_rfl
  have hs2 : cs.size = 3 := by rw [hs, hc2]
  obtain ⟨c0, e0, r0⟩ := R.cells (ps := [(0, 5), (1, 5), (2, 5)]) 3 (by kernel_rfl) (0, 5) (by simp)
  obtain ⟨c1, e1, r1⟩ := R.cells (ps := [(0, 5), (1, 5), (2, 5)]) 3 (by kernel_rfl) (1, 5) (by simp)
  obtain ⟨c2, e2, r2⟩ := R.cells (ps := [(0, 5), (1, 5), (2, 5)]) 3 (by kernel_rfl) (2, 5) (by simp)
  obtain ⟨n0, k0, w0⟩ := r0.int Try.underlying5
  obtain ⟨n1, k1, w1⟩ := r1.int Try.underlying5
  obtain ⟨n2, k2, w2⟩ := r2.int Try.underlying5
  obtain ⟨m0, rfl, l0⟩ := byte_of w0
  obtain ⟨m1, rfl, l1⟩ := byte_of w1
  obtain ⟨m2, rfl, l2⟩ := byte_of w2
  cases k0; cases k1; cases k2
  obtain ⟨l⟩ := cs
  match l, hs2 with
  | [x, y, z], _ =>
    simp at e0 e1 e2
    subst e0 e1 e2
    exact ⟨m0, m1, m2, by omega, by omega, by omega, rfl⟩
end
end Go.Proofs.Ytimffpnfhkobkaa
/- A row of numbers of one's own, perhaps with room behind it. No program in sight. -/
namespace Go.Proofs.Ytimffpnfhkobkaa
open Go.RowKit
def LRow (w : World) (b n : Nat) (F : Nat → Int) : Prop := ∃ (cap : Nat) (G : Nat → Value), n ≤ cap ∧ w.rowIs b 3 cap G ∧ ∀ j, j < n → G j = .int .i64 (F j)
section
variable {w w' : World} {b n : Nat} {F : Nat → Int}
theorem LRow.lt (h : LRow w b n F) : b < w.heap.size := by obtain ⟨_, _, _, h, _⟩ := h; exact h.lt
theorem LRow.cell (h : LRow w b n F) {j : Nat} (hj : j < n) : w.cell? ⟨b, j, none⟩ = some (.int .i64 (F j)) := by
  obtain ⟨cap, G, hn, h, hG⟩ := h
  rw [h.cell (by omega), hG j hj]
theorem LRow.frozen (h : LRow w b n F) (j : Nat) : w.frozen? ⟨b, j, none⟩ = false := by
  obtain ⟨cap, G, hn, h, hG⟩ := h
  exact h.frozen j
theorem LRow.of_block (h : LRow w b n F) (e : w'.heap[b]? = w.heap[b]?) : LRow w' b n F := by
  obtain ⟨cap, G, hn, h, hG⟩ := h
  exact ⟨cap, G, hn, h.of_block e, hG⟩
theorem LRow.later (h : LRow w b n F) (B : Below w.heap.size w w') : LRow w' b n F := h.of_block (B.block _ h.lt)
theorem LRow.congr {F' : Nat → Int} (h : LRow w b n F) (e : ∀ j, j < n → F j = F' j) : LRow w b n F' := by
  obtain ⟨cap, G, hn, h, hG⟩ := h
  exact ⟨cap, G, hn, h, fun j hj => by rw [hG j hj, e j hj]⟩
theorem LRow.set (h : LRow w b n F) (i : Nat) (y : Int) : LRow (w.setCell ⟨b, i, none⟩ (.int .i64 y)) b n (upd F i y) := by
  obtain ⟨cap, G, hn, h, hG⟩ := h
  exact ⟨cap, _, hn, h.set i (.int .i64 y), fun j hj => by
    unfold upd
    by_cases e : j = i
    · rw [if_pos e, if_pos e]
    · rw [if_neg e, if_neg e]; exact hG j hj⟩
theorem LRow.ints (h : LRow w b n F) {c : Nat} (hc : n ≤ c) : Ints w (.slice (some ⟨b, 0, none⟩) n c) ((List.range n).map F) := by
  refine ⟨some ⟨b, 0, none⟩, c, by simp, by simpa using hc, (fun h => by cases h), fun hl => ⟨b, 0, rfl, fun i a hi r v hv => ?_⟩⟩
  rw [List.getElem?_map] at hi
  by_cases hin : i < n
  · rw [List.getElem?_range hin] at hi
    simp at hi
    subst hi
    have hr : r = 0 := by have := (List.getElem?_eq_some_iff.1 hv).1; simp [encI] at this; exact this
    subst hr
    have : v = .int .i64 (F i) := by simpa [encI] using hv.symm
    subst this
    rw [Nat.zero_add, Nat.mul_one, Nat.add_zero]
    exact h.cell hin
  · rw [List.getElem?_eq_none (by simp; omega)] at hi
    simp at hi
theorem LRow.of_row (h : w.rowIs b 3 n (fun v => .int .i64 (F v))) : LRow w b n F := ⟨n, _, Nat.le_refl _, h, fun _ _ => rfl⟩
/-- What a clone is. -/
theorem LRow.of_own {B : Nat} {V : Value} {zs : List Int} (h : w.ownsRow B 3 1 V zs.length (flat encI zs)) (hz : 0 < zs.length) : ∃ (g c : Nat), V = .slice (some ⟨g, 0, none⟩) zs.length c ∧ zs.length ≤ c ∧ B ≤ g ∧ LRow w g zs.length (ff zs) := by
  rcases h.2 with ⟨hV, h0⟩ | ⟨g, cap, cur, hV, hg, hh, hle, r1, r2, r3⟩
  · have h0' : zs.length = 0 := h0
    omega
  · have hk : ∀ j, j < zs.length → cur[j]? = some (.int .i64 (ff zs j)) := fun j hj => by
      have h2 : w.cell? ⟨g, j, none⟩ = some (.int .i64 (ff zs j)) := by
        rw [hV] at h
        rw [h.cellAt j (by omega), flat_encI]
        unfold ff
        simp [hj]
      unfold World.cell? at h2
      rw [hh] at h2
      simpa using h2
    refine ⟨g, cap, hV, hle, hg, cur.size, fun j => (cur[j]?).getD default, ?_, ⟨cur, hh, rfl, fun i hi => by simp [hi]⟩, fun j hj => ?_⟩
    · have := (Array.getElem?_eq_some_iff.1 (hk (zs.length - 1) (by omega))).1
      omega
    · simp [hk j hj]
theorem range_ff (zs : List Int) : (List.range zs.length).map (ff zs) = zs := by
  apply List.ext_getElem
  · simp
  · intro i h1 h2
    simp [ff, h2]
end
/-- Raised, arc by arc, round by round: what holds. -/
def Rai (L : List Arc) (F : Nat → Int) (k j : Nat) : Prop := (∀ i, i < L.length → ttL L i < k → F (frL L i) + 1 ≤ F (ttL L i)) ∧ ∀ i, i < j → i < L.length → ttL L i = k → F (frL L i) + 1 ≤ F (ttL L i)
theorem Rai.step {L : List Arc} {F : Nat → Int} {k j : Nat} (h : Rai L F k j) (up : ∀ i, i < L.length → frL L i < ttL L i) (hj : j < L.length) : Rai L (upd F (ttL L j) (max (F (ttL L j)) (F (frL L j) + 1))) k (j + 1) := by
  have uj := up j hj
  by_cases h1 : ttL L j < k
  · have h2 := h.1 j hj h1
    have e : upd F (ttL L j) (max (F (ttL L j)) (F (frL L j) + 1)) = F := by
      funext v
      unfold upd
      split
      · rename_i e; rw [e]; omega
      · rfl
    rw [e]
    exact ⟨h.1, fun i hi hl ht => by
      by_cases e2 : i = j
      · subst e2; omega
      · exact h.2 i (by omega) hl ht⟩
  · refine ⟨fun i hl ht => ?_, fun i hi hl ht => ?_⟩
    · have ui := up i hl
      have e1 : ¬ frL L i = ttL L j := by omega
      have e2 : ¬ ttL L i = ttL L j := by omega
      unfold upd
      rw [if_neg e1, if_neg e2]
      exact h.1 i hl ht
    · have ui := up i hl
      have e1 : ¬ frL L i = ttL L j := by omega
      unfold upd
      rw [if_neg e1]
      by_cases e2 : i = j
      · subst e2; rw [if_pos rfl]; omega
      · have h3 := h.2 i (by omega) hl ht
        split
        · rename_i e3; rw [e3] at h3; omega
        · exact h3
theorem Rai.next {L : List Arc} {F : Nat → Int} {k : Nat} (h : Rai L F k L.length) : Rai L F (k + 1) 0 :=
  ⟨fun i hl ht => by
    by_cases e : ttL L i = k
    · exact h.2 i hl hl e
    · exact h.1 i hl (by omega), fun i hi => by omega⟩
theorem Rai.fit {n : Nat} {L : List Arc} {F : Nat → Int} (k : Okg n L) (h : Rai L F n 0) : L.all (fitA ((List.range n).map F)) = true := by
  rw [List.all_eq_true]
  intro a ha
  obtain ⟨i, hi⟩ := List.getElem?_of_mem ha
  have hil := (List.getElem?_eq_some_iff.1 hi).1
  obtain ⟨e, h1, h2, -⟩ := k.at_ hil
  rw [e] at hi
  cases hi
  unfold fitA
  simp only [decide_eq_true_eq]
  rw [at_row F h1, at_row F h2]
  have := h.1 i hil h2
  omega
end Go.Proofs.Ytimffpnfhkobkaa
/- A row of arcs of one's own that is stored into; weights stretched; a graph made longer. No program in sight. -/
namespace Go.Proofs.Ytimffpnfhkobkaa
open Go.RowKit
def ARow (w : World) (b m : Nat) (Z : Nat → Int) : Prop := ∃ (cap : Nat) (G : Nat → Value), m * 3 ≤ cap ∧ w.rowIs b 52 cap G ∧ ∀ j, j < m * 3 → G j = .int .i64 (Z j)
def zA (L : List Arc) (j : Nat) : Int := if j % 3 = 0 then (L[j / 3]?.getD (0, 0, 0)).1 else if j % 3 = 1 then (L[j / 3]?.getD (0, 0, 0)).2.1 else (L[j / 3]?.getD (0, 0, 0)).2.2
theorem zA_at (L : List Arc) (i : Nat) : zA L (i * 3) = (L[i]?.getD (0, 0, 0)).1 ∧ zA L (i * 3 + 1) = (L[i]?.getD (0, 0, 0)).2.1 ∧ zA L (i * 3 + 2) = (L[i]?.getD (0, 0, 0)).2.2 := by
  have e0 : i * 3 % 3 = 0 := by omega
  have e1 : (i * 3 + 1) % 3 = 1 := by omega
  have e2 : (i * 3 + 2) % 3 = 2 := by omega
  have d0 : i * 3 / 3 = i := by omega
  have d1 : (i * 3 + 1) / 3 = i := by omega
  have d2 : (i * 3 + 2) / 3 = i := by omega
  unfold zA
  rw [e0, e1, e2, d0, d1, d2]
  simp
section
variable {w w' : World} {b m : Nat} {Z : Nat → Int}
theorem ARow.lt (h : ARow w b m Z) : b < w.heap.size := by obtain ⟨_, _, _, h, _⟩ := h; exact h.lt
theorem ARow.cell (h : ARow w b m Z) {j : Nat} (hj : j < m * 3) : w.cell? ⟨b, j, none⟩ = some (.int .i64 (Z j)) := by
  obtain ⟨cap, G, hn, h, hG⟩ := h
  rw [h.cell (by omega), hG j hj]
theorem ARow.frozen (h : ARow w b m Z) (j : Nat) : w.frozen? ⟨b, j, none⟩ = false := by
  obtain ⟨cap, G, hn, h, hG⟩ := h
  exact h.frozen j
theorem ARow.later (h : ARow w b m Z) (B : Below w.heap.size w w') : ARow w' b m Z := by
  have hl := h.lt
  obtain ⟨cap, G, hn, h, hG⟩ := h
  exact ⟨cap, G, hn, h.of_block (B.block _ hl), hG⟩
theorem ARow.congr {Z' : Nat → Int} (h : ARow w b m Z) (e : ∀ j, j < m * 3 → Z j = Z' j) : ARow w b m Z' := by
  obtain ⟨cap, G, hn, h, hG⟩ := h
  exact ⟨cap, G, hn, h, fun j hj => by rw [hG j hj, e j hj]⟩
theorem ARow.set (h : ARow w b m Z) (i : Nat) (y : Int) : ARow (w.setCell ⟨b, i, none⟩ (.int .i64 y)) b m (upd Z i y) := by
  obtain ⟨cap, G, hn, h, hG⟩ := h
  exact ⟨cap, _, hn, h.set i (.int .i64 y), fun j hj => by
    unfold upd
    by_cases e : j = i
    · rw [if_pos e, if_pos e]
    · rw [if_neg e, if_neg e]; exact hG j hj⟩
theorem ARow.arcs (h : ARow w b m Z) {L : List Arc} {c : Nat} (hL : L.length = m) (hc : m ≤ c) (e : ∀ j, j < m * 3 → Z j = zA L j) : Arcs w (.slice (some ⟨b, 0, none⟩) m c) L := by
  subst hL
  refine ⟨some ⟨b, 0, none⟩, c, rfl, hc, (fun h => by cases h), fun hl => ⟨b, 0, rfl, fun i a hi r v hv => ?_⟩⟩
  have hil := (List.getElem?_eq_some_iff.1 hi).1
  obtain ⟨z0, z1, z2⟩ := zA_at L i
  rw [hi] at z0 z1 z2
  simp only [Option.getD_some] at z0 z1 z2
  rw [Nat.zero_add]
  match r, hv with
  | 0, hv => simp [encA] at hv; subst hv; rw [Nat.add_zero, h.cell (by omega), e _ (by omega), z0]
  | 1, hv => simp [encA] at hv; subst hv; rw [h.cell (by omega), e _ (by omega), z1]
  | 2, hv => simp [encA] at hv; subst hv; rw [h.cell (by omega), e _ (by omega), z2]
/-- What a clone is. -/
theorem ARow.of_own {B : Nat} {V : Value} {L : List Arc} (h : w.ownsRow B 52 3 V L.length (flat encA L)) (hz : 0 < L.length) : ∃ (g c : Nat), V = .slice (some ⟨g, 0, none⟩) L.length c ∧ L.length ≤ c ∧ B ≤ g ∧ ARow w g L.length (zA L) := by
  rcases h.2 with ⟨hV, h0⟩ | ⟨g, cap, cur, hV, hg, hh, hle, r1, r2, r3⟩
  · have h0' : L.length = 0 := h0
    omega
  · have hk : ∀ j, j < L.length * 3 → cur[j]? = some (.int .i64 (zA L j)) := fun j hj => by
      have h2 : w.cell? ⟨g, j, none⟩ = some (.int .i64 (zA L j)) := by
        rw [hV] at h
        have hi : j / 3 < L.length := by omega
        have ej : j / 3 * 3 + j % 3 = j := by omega
        have e0 := flat_get encA_length L (j / 3) (j % 3) (by omega) _ (List.getElem?_eq_getElem hi)
        rw [ej] at e0
        rw [h.cellAt j hj, e0]
        have h3 : j % 3 = 0 ∨ j % 3 = 1 ∨ j % 3 = 2 := by omega
        rcases h3 with h3 | h3 | h3 <;> simp [zA, h3, encA, hi]
      unfold World.cell? at h2
      rw [hh] at h2
      simpa using h2
    refine ⟨g, cap, hV, hle, hg, cur.size, fun j => (cur[j]?).getD default, ?_, ⟨cur, hh, rfl, fun i hi => by simp [hi]⟩, fun j hj => ?_⟩
    · have := (Array.getElem?_eq_some_iff.1 (hk (L.length * 3 - 1) (by omega))).1
      omega
    · simp [hk j hj]
end
/-- All weights so many times as great. -/
def bigL (K : Int) (L : List Arc) : List Arc := L.map fun a => (a.1, a.2.1, a.2.2 * K)
def zK (K : Int) (L : List Arc) (k j : Nat) : Int := if j / 3 < k ∧ j % 3 = 2 then zA L j * K else zA L j
theorem zK_zero (K : Int) (L : List Arc) : zK K L 0 = zA L := by funext j; unfold zK; rw [if_neg (by omega)]
theorem zK_step (K : Int) (L : List Arc) (k j : Nat) : upd (zK K L k) (k * 3 + 2) (zA L (k * 3 + 2) * K) j = zK K L (k + 1) j := by
  unfold upd zK
  by_cases e : j = k * 3 + 2
  · subst e
    rw [if_pos rfl, if_pos (by omega)]
  · rw [if_neg e]
    by_cases h : j / 3 < k ∧ j % 3 = 2
    · rw [if_pos h, if_pos (by omega)]
    · rw [if_neg h, if_neg (by omega)]
theorem zK_at (K : Int) (L : List Arc) (k : Nat) : zK K L k (k * 3 + 2) = zA L (k * 3 + 2) := by unfold zK; rw [if_neg (by omega)]
theorem zK_end (K : Int) (L : List Arc) (j : Nat) (hj : j < L.length * 3) : zK K L L.length j = zA (bigL K L) j := by
  have hi : j / 3 < L.length := by omega
  have e : (bigL K L)[j / 3]? = some (L[j / 3].1, L[j / 3].2.1, L[j / 3].2.2 * K) := by simp [bigL, hi]
  have e2 : L[j / 3]? = some L[j / 3] := List.getElem?_eq_getElem hi
  unfold zK zA
  rw [e, e2]
  by_cases h2 : j % 3 = 2
  · rw [if_pos ⟨hi, h2⟩]
    simp [h2]
  · rw [if_neg (fun h => h2 h.2)]
    by_cases h0 : j % 3 = 0
    · simp [h0]
    · have h1 : j % 3 = 1 := by omega
      simp [h1]
theorem right_of {n : Nat} {L : List Arc} (hn : n ≤ 4096) (hl : L.length ≤ 16384) (h : ∀ a ∈ L, ∃ f t x : Nat, a = ((f : Int), (t : Int), (x : Int)) ∧ f < n ∧ t < n ∧ x ≤ 1000000) : rightB n L = true := by
  have hb : L.any (badA n) = false := by
    rw [List.any_eq_false]
    intro a ha
    obtain ⟨f, t, x, rfl, h1, h2, h3⟩ := h a ha
    simp only [badA, Bool.or_eq_true, decide_eq_true_eq, not_or]
    omega
  simp only [rightB, Bool.and_eq_true, decide_eq_true_eq, Bool.not_eq_true']
  exact ⟨⟨⟨by omega, by omega⟩, hl⟩, hb⟩
theorem bigL_right {n : Nat} {L : List Arc} {K : Nat} (k : Okg n L) (hw : ∀ a ∈ L, a.2.2 ≤ 7) (hK : K ≤ 9) : rightB n (bigL K L) = true := by
  refine right_of k.n1 (by simp [bigL]; exact k.m1) (fun a ha => ?_)
  obtain ⟨b, hb, rfl⟩ := List.mem_map.1 ha
  obtain ⟨i, hi⟩ := List.getElem?_of_mem hb
  obtain ⟨f, t, x, rfl, h1, h2, h3⟩ := k.arc i b hi
  have hx : (x : Int) ≤ 7 := hw _ hb
  have hm : x * K ≤ 7 * 9 := Nat.mul_le_mul (by omega) hK
  exact ⟨f, t, x * K, by simp, h1, h2, by omega⟩
theorem bigL_fit (K : Int) (L : List Arc) (l : List Int) : (bigL K L).all (fitA l) = L.all (fitA l) := by
  unfold bigL
  rw [List.all_map]
  rfl
theorem bigL_cost (K : Int) (l : List Int) : ∀ L : List Arc, costL l (bigL K L) = K * costL l L
  | [] => by simp [bigL, costL]
  | a :: L => by
    have h := bigL_cost K l L
    show a.2.2 * K * (at_ l a.2.1 - at_ l a.1) + costL l (bigL K L) = K * (a.2.2 * (at_ l a.2.1 - at_ l a.1) + costL l L)
    rw [h, Int.mul_add, Int.mul_comm a.2.2 K, Int.mul_assoc]
/-- Both are the least: so many times as great. -/
theorem big_same {n : Nat} {L : List Arc} {K : Nat} {xs fs ys gs : List Int} {ways ways2 : Nat} (k : Okg n L) (k2 : Okg n (bigL K L)) (S : Sol n L xs fs ways) (S2 : Sol n (bigL K L) ys gs ways2) : costL ys (bigL K L) = K * costL xs L := by
  have h1 := S2.best k2 (ys := xs) (by rw [bigL_fit]; exact S.fit)
  have h2 := S.best k (ys := ys) (by rw [← bigL_fit K]; exact S2.fit)
  rw [bigL_cost, bigL_cost] at h1
  rw [bigL_cost]
  have h3 := Int.mul_le_mul_of_nonneg_left h2 (show (0 : Int) ≤ (K : Int) by omega)
  omega
/-- One arc more. -/
theorem more_cost {L : List Arc} {a : Arc} {l : List Int} (hw : 0 ≤ a.2.2) (hf : (L ++ [a]).all (fitA l) = true) : L.all (fitA l) = true ∧ costL l L ≤ costL l (L ++ [a]) := by
  rw [List.all_append, Bool.and_eq_true] at hf
  refine ⟨hf.1, ?_⟩
  rw [costL_snoc]
  have h := hf.2
  simp only [List.all_cons, List.all_nil, Bool.and_true, fitA, decide_eq_true_eq] at h
  have := Int.mul_nonneg hw (show 0 ≤ at_ l a.2.1 - at_ l a.1 by omega)
  omega
end Go.Proofs.Ytimffpnfhkobkaa
/- Small words for the flow laws. No program in sight. -/
namespace Go.Proofs.Ytimffpnfhkobkaa
open Go.RowKit
/-- A struct of three cells. -/
def R3 (b : Nat) (v0 v1 v2 : Value) (w : World) : Prop := w.cell? ⟨b, 0, none⟩ = some v0 ∧ w.cell? ⟨b, 1, none⟩ = some v1 ∧ w.cell? ⟨b, 2, none⟩ = some v2
theorem R3.later {b : Nat} {v0 v1 v2 : Value} {w w' : World} (h : R3 b v0 v1 v2 w) (B : Below w.heap.size w w') : R3 b v0 v1 v2 w' := ⟨cell_later B h.1, cell_later B h.2.1, cell_later B h.2.2⟩
theorem R3.of_alloc (w : World) (v0 v1 v2 : Value) (t : TypeId) : R3 w.heap.size v0 v1 v2 (w.alloc (.cells #[v0, v1, v2] t)).drew :=
  ⟨(Cl.of_block (heap_at rfl) (j := 0) rfl).cell, (Cl.of_block (heap_at rfl) (j := 1) rfl).cell, (Cl.of_block (heap_at rfl) (j := 2) rfl).cell⟩
def R2 (b : Nat) (v0 v1 : Value) (w : World) : Prop := w.cell? ⟨b, 0, none⟩ = some v0 ∧ w.cell? ⟨b, 1, none⟩ = some v1
theorem R2.later {b : Nat} {v0 v1 : Value} {w w' : World} (h : R2 b v0 v1 w) (B : Below w.heap.size w w') : R2 b v0 v1 w' := ⟨cell_later B h.1, cell_later B h.2⟩
theorem R2.below {b n : Nat} {v0 v1 : Value} {w w' : World} (h : R2 b v0 v1 w) (B : Below n w w') (hb : b < n) : R2 b v0 v1 w' := ⟨(World.cell?_of_block (B.block b hb)).trans h.1, (World.cell?_of_block (B.block b hb)).trans h.2⟩
theorem okg_w {n : Nat} {L : List Arc} (k : Okg n L) : ∀ a ∈ L, 0 ≤ a.2.2 ∧ a.2.2 ≤ 1000000 := fun a ha => by
  obtain ⟨i, hi⟩ := List.getElem?_of_mem ha
  obtain ⟨f, t, x, rfl, h1, h2, h3⟩ := k.arc i a hi
  exact ⟨by show (0 : Int) ≤ x; omega, by show (x : Int) ≤ 1000000; omega⟩
theorem sol_lo {n : Nat} {L : List Arc} {xs fs : List Int} {ways : Nat} (S : Sol n L xs fs ways) (hn : n ≤ 4096) : ∀ v ∈ xs, -1000000 ≤ v ∧ v ≤ 1000000 := fun v hv => by
  have := S.lo v hv
  omega
theorem sol_small {n : Nat} {L : List Arc} {xs fs : List Int} {ways : Nat} (S : Sol n L xs fs ways) : ∀ y ∈ fs, -2000000000000 ≤ y ∧ y ≤ 2000000000000 := fun y hy => by
  obtain ⟨i, hi⟩ := List.getElem?_of_mem hy
  have h1 := S.nn i (by rw [← S.lf]; exact (List.getElem?_eq_some_iff.1 hi).1)
  unfold ff at h1
  rw [hi] at h1
  simp at h1
  omega
end Go.Proofs.Ytimffpnfhkobkaa
