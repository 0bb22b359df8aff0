/- What can be read, opened to its cells, whatever its type: numbers, strings, structs, arrays, slices of them. No program in sight. -/
import Derived.WalkKit
import Derived.OpenShut
import Derived.ShutString
import Derived.SizedLaws
import Derived.Deep.Slices
import Derived.Deep.Strs
namespace Go.Proofs.Ytmnfefebbadflaa
open Go.ChangeShapes Go.WideShapes
section
variable {H : Type} {enc : TypeId × Value → H} {P : Program} {w : World} {base : Nat} {sp : Nat → Bool} {held : Bool}
/-- Cells read at a type, and all in them takes no more memory than there is. -/
def Rd (enc : TypeId × Value → H) (P : Program) (w : World) (base : Nat) (sp : Nat → Bool) (held : Bool) (t : TypeId) (cs : List Value) : Prop :=
  ∃ n x, DataW.trod enc P w base sp held n t cs = some x ∧ ∀ k ∈ x.1.weights P t, k ≤ reachBytes
theorem Rd.int {t : TypeId} {k : IntKind} {cs : List Value} (h : Rd enc P w base sp held t cs) (ht : P.underlying t = some (.int k)) : ∃ n, cs = [.int k n] ∧ (Lit.int k n).wf = true := by
  obtain ⟨n, x, h, _⟩ := h
  obtain ⟨m, rfl, _, hw⟩ := DataW.trod_int ht h
  exact ⟨m, rfl, hw⟩
theorem Rd.bool {t : TypeId} {cs : List Value} (h : Rd enc P w base sp held t cs) (ht : P.underlying t = some .bool) : ∃ b, cs = [.bool b] := by
  obtain ⟨n, x, h, _⟩ := h
  obtain ⟨m, rfl, _⟩ := DataW.trod_bool ht h
  exact ⟨m, rfl⟩
theorem Rd.string {t : TypeId} {cs : List Value} (h : Rd enc P w base sp held t cs) (ht : P.underlying t = some .string) : ∃ s : ByteArray, cs = [.string s] ∧ s.size ≤ 140737488351232 := by
  obtain ⟨n, x, h, hk⟩ := h
  obtain ⟨m, rfl, rfl, _⟩ := DataW.trod_string ht h
  refine ⟨m, rfl, ?_⟩
  have := hk m.data.toList.length (by simp [DataW.weights])
  have e : m.data.toList.length = m.size := by rw [Array.length_toList]; rfl
  have hrb : reachBytes ≤ 140737488351232 := by decide
  omega
/-- The types of a type's cells: where each begins. -/
def leaves (P : Program) : Nat → TypeId → Option (List (Nat × TypeId))
  | 0, _ => none
  | k + 1, t => match P.underlying t with
    | some (.struct fs) => (fs.toList.mapM fun f => (leaves P k f.type).map fun l => l.map fun p => (f.offset + p.1, p.2)).map List.flatten
    | some (.array n e) => (leaves P k e).map fun l => (List.range n).flatMap fun i => l.map fun p => (i * P.cellsOf e + p.1, p.2)
    | some (.int _) => some [(0, t)]
    | some .bool => some [(0, t)]
    | some .string => some [(0, t)]
    | some (.slice _) => some [(0, t)]
    | _ => none
theorem weightsAll_mem {e : TypeId} : ∀ {ds : List (DataW H)} {d : DataW H}, d ∈ ds → ∀ k ∈ d.weights P e, k ∈ DataW.weightsAll P e ds
  | [], d, h, k, _ => by cases h
  | d0 :: r, d, h, k, hk => by
    simp only [DataW.weightsAll, List.mem_append]
    rcases List.mem_cons.1 h with rfl | h
    · exact .inl hk
    · exact .inr (weightsAll_mem h k hk)
theorem mapM_get {α β : Type} {f : α → Option β} : ∀ {l : List α} {r : List β}, l.mapM f = some r → ∀ y ∈ r, ∃ (i : Nat) (x : α), l[i]? = some x ∧ f x = some y
  | [], r, h, y, hy => by simp at h; subst h; cases hy
  | a :: l, r, h, y, hy => by
    simp only [List.mapM_cons, Option.bind_eq_bind, Option.bind_eq_some_iff, Option.pure_def, Option.some.injEq] at h
    obtain ⟨b, hb, r', hr', rfl⟩ := h
    rcases List.mem_cons.1 hy with rfl | hy
    · exact ⟨0, a, rfl, hb⟩
    · obtain ⟨i, x, hi, hx⟩ := mapM_get hr' y hy
      exact ⟨i + 1, x, by simpa using hi, hx⟩
theorem one_at {c : Value} : ([c] : List Value)[0]? = some c := rfl
theorem Rd.cells : ∀ (k : Nat) {t : TypeId} {ps : List (Nat × TypeId)} {cs : List Value}, Rd enc P w base sp held t cs → leaves P k t = some ps → ∀ p ∈ ps, ∃ c, cs[p.1]? = some c ∧ Rd enc P w base sp held p.2 [c]
  | 0, t, ps, cs, _, hl => by simp [leaves] at hl
  | k + 1, t, ps, cs, h, hl => by
    have sub : ∀ {o sz q : Nat} {c : Value} {t' : TypeId}, ((cs.drop o).take sz)[q]? = some c → Rd enc P w base sp held t' [c] → ∃ c, cs[o + q]? = some c ∧ Rd enc P w base sp held t' [c] := by
      intro o sz q c t' h1 h2
      refine ⟨c, ?_, h2⟩
      rw [List.getElem?_take] at h1
      split at h1
      · rw [List.getElem?_drop] at h1; exact h1
      · cases h1
    unfold leaves at hl
    split at hl
    · rename_i fs hu
      obtain ⟨n, x, hx, hk⟩ := h
      obtain ⟨xs, m, rfl, rfl, hcl, hxl, hf⟩ := DataW.trod_struct hu hx
      obtain ⟨r, hr, rfl⟩ := Option.map_eq_some_iff.1 hl
      intro p hp
      obtain ⟨l, hl1, hp⟩ := List.mem_flatten.1 hp
      obtain ⟨i, f, hi, hfi⟩ := mapM_get hr l hl1
      obtain ⟨l', hl', rfl⟩ := Option.map_eq_some_iff.1 hfi
      obtain ⟨q, hq, rfl⟩ := List.mem_map.1 hp
      have hia : fs[i]? = some f := by simpa using hi
      have hlt : i < xs.length := by rw [hxl]; exact (Array.getElem?_eq_some_iff.1 hia).1
      have hr1 := hf i f hia
      rw [List.getElem?_eq_getElem hlt] at hr1
      have R : Rd enc P w base sp held f.type ((cs.drop f.offset).take (P.cellsOf f.type)) := ⟨m, _, hr1, fun j hj => hk j (by
        simp only [DataW.weights, hu]
        refine DataW.weights_mem_each (j := i) (t := f.type) (d := xs[i].1) (by simp [hia]) (by simp [List.getElem?_eq_getElem hlt]) j hj)⟩
      obtain ⟨c, h1, h2⟩ := Rd.cells k R hl' q hq
      exact sub h1 h2
    · rename_i n e hu
      obtain ⟨n', x, hx, hk⟩ := h
      obtain ⟨xs, m, rfl, rfl, hcl, hxl, hf⟩ := DataW.trod_array hu hx
      obtain ⟨l', hl', rfl⟩ := Option.map_eq_some_iff.1 hl
      intro p hp
      obtain ⟨i, hi, hp⟩ := List.mem_flatMap.1 hp
      have hi' : i < n := by simpa using hi
      obtain ⟨q, hq, rfl⟩ := List.mem_map.1 hp
      have hlt : i < xs.length := by omega
      have hr1 := hf i hi'
      rw [List.getElem?_eq_getElem hlt] at hr1
      have R : Rd enc P w base sp held e ((cs.drop (i * P.cellsOf e)).take (P.cellsOf e)) := ⟨m, _, hr1, fun j hj => hk j (by
        simp only [DataW.weights, hu]
        exact weightsAll_mem (d := xs[i].1) (List.mem_map.2 ⟨_, List.getElem_mem hlt, rfl⟩) j hj)⟩
      obtain ⟨c, h1, h2⟩ := Rd.cells k R hl' q hq
      exact sub h1 h2
    · rename_i q hu
      intro p hp
      cases hl
      simp only [List.mem_singleton] at hp
      subst hp
      obtain ⟨m, rfl, _⟩ := h.int hu
      exact ⟨_, one_at, h⟩
    · rename_i hu
      intro p hp
      cases hl
      simp only [List.mem_singleton] at hp
      subst hp
      obtain ⟨m, rfl⟩ := h.bool hu
      exact ⟨_, one_at, h⟩
    · rename_i hu
      intro p hp
      cases hl
      simp only [List.mem_singleton] at hp
      subst hp
      obtain ⟨m, rfl, _⟩ := h.string hu
      exact ⟨_, one_at, h⟩
    · rename_i e hu
      intro p hp
      cases hl
      simp only [List.mem_singleton] at hp
      subst hp
      obtain ⟨n, x, hx, hk⟩ := id h
      rcases DataW.trod_slice hu hx with ⟨rfl, _⟩ | ⟨a, len, cap, _, _, _, _, rfl, _⟩
      · exact ⟨_, one_at, h⟩
      · exact ⟨_, one_at, h⟩
    · cases hl
/-- A slice: each of its elements' cells, by the element's leaves. -/
theorem Rd.slice {t e : TypeId} {v : Value} (h : Rd enc P w base sp held t [v]) (ht : P.underlying t = some (.slice e)) {sz by_ : Nat} (hs : P.cellsOf e = sz) (hb : P.bytesOf e = by_) {k : Nat} {ps : List (Nat × TypeId)} (hl : Proofs.Ytmnfefebbadflaa.leaves P k e = some ps) (hps : ∃ q, (0, q) ∈ ps) :
    ∃ A len cap, v = .slice A len cap ∧ len ≤ cap ∧ (sp = (fun _ => true) → cap * by_ ≤ 140737488351232) ∧ len * by_ ≤ 140737488351232 ∧ (A = none → len = 0 ∧ cap = 0) ∧
      (0 < len → ∃ b off, A = some ⟨b, off, none⟩ ∧ b < w.heap.size ∧ ∀ i, i < len → ∀ p ∈ ps, ∃ c, w.cell? ⟨b, off + i * sz + p.1, none⟩ = some c ∧ Rd enc P w base sp held p.2 [c]) := by
  obtain ⟨n, x, hx, hk⟩ := h
  have hrb : reachBytes ≤ 140737488351232 := by decide
  rcases Deep.open_slice ht hx with ⟨h0, _⟩ | ⟨a, len, cap, M, n', D, Pl, h0, hbb, hle, hm, hmm, rfl, hc⟩
  · cases h0
    exact ⟨none, 0, 0, rfl, by omega, by omega, by omega, by simp, by omega⟩
  · cases h0
    have hlM : len ≤ M := by rw [hmm]; split <;> omega
    have hz := hk ((((List.range len).map D).length + ((List.range (M - len)).map fun j => D (len + j)).length) * P.bytesOf e) (by simp only [DataW.weights, ht]; exact List.mem_cons_self)
    rw [List.length_map, List.length_map, List.length_range, List.length_range, hb, show len + (M - len) = M by omega] at hz
    have hle2 : len * by_ ≤ M * by_ := Nat.mul_le_mul_right _ hlM
    refine ⟨some a, len, cap, rfl, hle, fun hsp => ?_, by omega, by simp, fun hpos => ?_⟩
    · have : M = cap := by rw [hmm, hsp]; simp
      subst this; omega
    have key : ∀ i, i < len → ∀ p ∈ ps, ∃ c, w.cell? ((a.add (i * sz)).add p.1) = some c ∧ Rd enc P w base sp held p.2 [c] := by
      intro i hi p hp
      obtain ⟨cs, h1, h2⟩ := hc i (by omega)
      obtain ⟨_, hlen, hcell⟩ := World.cells?_some h1
      have R : Rd enc P w base sp held e cs := ⟨n', _, h2, fun j hj => hk j (by
        simp only [DataW.weights, ht, List.mem_cons, List.mem_append]
        exact .inr (.inl (weightsAll_mem (d := D i) (List.mem_map.2 ⟨i, by simpa using hi, rfl⟩) j hj)))⟩
      obtain ⟨c, h3, h4⟩ := Rd.cells k R hl p hp
      have hpl : p.1 < cs.length := (List.getElem?_eq_some_iff.1 h3).1
      have h5 := hcell p.1 (by omega)
      rw [hs] at h5
      exact ⟨c, by rw [h5]; exact h3, h4⟩
    obtain ⟨b, off, spot⟩ := a
    have hsp : spot = none := by
      obtain ⟨q, hq⟩ := hps
      obtain ⟨c, h1, _⟩ := key 0 hpos _ hq
      have := World.cell?_spot h1
      simpa [Addr.add] using this
    subst hsp
    have ad : ∀ o n, Addr.add ⟨b, o, none⟩ n = ⟨b, o + n, none⟩ := by intro o n; unfold Addr.add; split <;> simp_all
    simp only [ad] at key
    refine ⟨b, off, rfl, ?_, key⟩
    obtain ⟨q, hq⟩ := hps
    obtain ⟨c, h1, _⟩ := key 0 hpos _ hq
    exact World.block_lt_of_cell? _ _ h1
theorem okWide_arr {w : World} {r : Reach} {base : Nat} {t : TypeId} {v : Value} {n : Nat} {e : TypeId} (ht : P.underlying t = some (.array n e)) (h : Value.okWide P w r base t v) : ∃ cs, v = .agg cs ∧ cs.size = P.cellsOf t := by
  simp only [Value.okWide, ht] at h
  obtain ⟨cs, h1, h2, _⟩ := h
  exact ⟨cs, h1, h2⟩
/-- An argument that is read, with its weights. -/
theorem Rd.of_args {ts : List TypeId} {ds : List (DataW H)} {j : Nat} {t : TypeId} {cs : Array Value} {d : DataW H} {p : List MemPlace} (hsz : (DataW.weightsEach P ts ds).all (· ≤ reachBytes) = true) (ht : ts[j]? = some t) (hd : ds[j]? = some d)
    (h : ∃ n, DataW.trod enc P w base sp held n t cs.toList = some (d, p)) : Rd enc P w base sp held t cs.toList := by
  obtain ⟨n, h⟩ := h
  exact ⟨n, _, h, fun k hk => by simpa using List.all_eq_true.1 hsz _ (DataW.weights_mem_each ht hd k hk)⟩
theorem Rd.of_arg {ts : List TypeId} {ds : List (DataW H)} {j : Nat} {t : TypeId} {v : Value} {d : DataW H} {p : List MemPlace} (hsz : (DataW.weightsEach P ts ds).all (· ≤ reachBytes) = true) (ht : ts[j]? = some t) (hd : ds[j]? = some d)
    (h : ∃ n, DataW.trod enc P w base sp held n t [v] = some (d, p)) : Rd enc P w base sp held t [v] := by
  obtain ⟨n, h⟩ := h
  exact ⟨n, _, h, fun k hk => by simpa using List.all_eq_true.1 hsz _ (DataW.weights_mem_each ht hd k hk)⟩
end
end Go.Proofs.Ytmnfefebbadflaa
