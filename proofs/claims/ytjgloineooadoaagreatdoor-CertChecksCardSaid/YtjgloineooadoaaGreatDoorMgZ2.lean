/- Numbers as words: cert.words, slices.Concat of slices of strings. -/
import Derived.Test.YtjgloineooadoaaGreatDoorMgZ0
import Derived.Test.YtjgloineooadoaaGreatDoorShelf
import Derived.Shelf.Spec.SlicesGrow
import Derived.Laws.AppendOwnNone
import Derived.Lib.CountLaws
namespace Go.Proofs.YtjgloineooadoaaGreatDoor
open Go.RowKit
def encS (s : ByteArray) : List Value := [.string s]
theorem encS_length (s : ByteArray) : (encS s).length = 1 := rfl
abbrev Strs (w : World) (V : Value) (L : List ByteArray) : Prop := Sl 1 encS w V L
theorem info_str : (Tryz.prog.info? 9).map (fun i => (i.zero, i.size, i.bytes)) = some (some (.string ByteArray.empty), 1, 16) := by kernel_rfl
/-- What Itoa tells of a number, in each world that comes behind W. -/
def ItW (W : World) (S : Int → ByteArray) (v : Int) : Prop := ∀ w', Below W.heap.size W w' → Calls Tryz.prog 70 #[.int .i64 v] w' fun e w'' => e = .returned (.string (S v)) ∧ Below w'.heap.size w' w''
theorem take_map_succ {α β : Type} (f : α → β) {xs : List α} {i : Nat} (h : i < xs.length) : (xs.take (i + 1)).map f = (xs.take i).map f ++ [f xs[i]] := by
  rw [List.take_succ_eq_append_getElem h, List.map_append]; rfl
set_option maxRecDepth 100000 in
set_option maxHeartbeats 1000000 in
theorem words_any {w : World} {V : Value} {xs : List Int} {S : Int → ByteArray} (h : Ints w V xs) (hl : xs.length ≤ 1000000000) (It : ∀ v ∈ xs, ItW w S v) :
    Calls Tryz.prog 47 #[V] w fun e w' => ∃ V', e = .returned V' ∧ w'.ownsRow w.heap.size 9 1 V' xs.length (flat encS (xs.map S)) ∧ Below w.heap.size w w' := by
  obtain ⟨A, cap, rfl, -, -, hA⟩ := h.at_
  have HA := Lib.hid hA
  have HI := Lib.hid It
  obtain ⟨i0, hi0, hz0, hz1, hz2⟩ := info_parts info_str
  clear h hA It
  go_enter Tryz.func47, Tryz.ntmps47
  go_wp2_with fail
  go_loopw [3, 8] (fun Vl q wr => ∃ i : Nat, i ≤ xs.length ∧ q = .int .i64 i ∧ wr.ownsRow w.heap.size 9 1 Vl i (flat encS ((xs.take i).map S)) ∧ Below w.heap.size w wr) (fun _ q _ => xs.length - (intOf q).toNat)
  case atStart => exact ⟨0, by omega, rfl, World.ownsRow_nil _ _ _ _, Below.refl _ _⟩
  case round =>
    obtain ⟨i, hi, rfl, R, B⟩ := hrel
    obtain ⟨wo, rfl⟩ : ∃ x : World, x = wr := ⟨_, rfl⟩
    obtain ⟨AV, cV, hVl, -⟩ := own_shape R
    subst hVl
    have HR := Lib.hid R
    have HB := Lib.hid B
    have hwo := B.size
    clear R B
    by_cases hil : i < xs.length
    · have hd : decide ((i : Int) < xs.length) = true := by simp; omega
      obtain ⟨ba, off, rfl, hc⟩ := HA.out (by omega)
      have c0 := cell_later HB.out (hc i _ (List.getElem?_eq_getElem hil))
      have HC := Lib.hid (HI.out _ (List.getElem_mem hil) wo HB.out)
      have HST := Lib.hid (take_map_succ S hil)
      have i1 : (0 : Int) ≤ (i : Int) := by omega
      have i2 : (i : Int) < (xs.length : Int) := by omega
      clear hc
      generalize xs[i] = x at *
      go_wp2_with fail
      refine HC.out.mono ?_
      rintro e w2 ⟨rfl, B2⟩
      have HR2 := Lib.hid (own_later HR.out B2)
      have HB2 := Lib.hid (HB.out.trans (B2.mono hwo))
      have hw2 := B2.size
      clear B2
      go_wp2_with (refine wpList_append_lies _ rfl (.tmp 12) (.tmp 15) 93 rfl w.heap.size 9 i0 (.string ByteArray.empty) 1 16 Tryz.underlying93 hi0 hz0 hz1 hz2 rfl (by decide) (.slice AV i cV) i (flat encS ((xs.take i).map S)) rfl (own_later HR2.out ((Below.refl _ _).alloc (Nat.le_refl _) _)) ⟨w2.heap.size, 0, none⟩ 1 1 (encS (S x)) rfl rfl (World.news_of_block (heap_at rfl)) (by intro u hu; simp [encS] at hu; subst hu; rfl) (by omega) (by simp only [maxLen]; omega) (by omega) (by simp; omega) _ rfl ?_; intro g cq w3 hown hgrow hat hlt)
      have HB4 := (HB2.out.trans (((Below.refl w2.heap.size w2).alloc (Nat.le_refl _) _).mono HB2.out.size)).grown hgrow (by simp; omega) (fun q hq => own_ge HR2.out hq)
      refine ⟨⟨i + 1, by omega, by go_num, ?_, HB4⟩, by simp [intOf]; omega⟩
      rw [HST.out, flat_append]
      simpa [flat] using hown
    · have e : i = xs.length := by omega
      subst e
      have hd : decide ((xs.length : Int) < xs.length) = false := by simp
      have RB := HR.out
      rw [List.take_of_length_le (Nat.le_refl _)] at RB
      have HRB := Lib.hid RB
      clear RB HR
      go_wp2_with fail
      go_ret
      exact ⟨_, rfl, HRB.out, HB.out⟩
end Go.Proofs.YtjgloineooadoaaGreatDoor
/- cert.numbers of words that all spell numbers. -/
namespace Go.Proofs.YtjgloineooadoaaGreatDoor
open Go.RowKit
/-- What Atoi tells of a word that spells a number, in each world that comes behind W. -/
def AtW (W : World) (S : Int → ByteArray) (v : Int) : Prop := ∀ w', Below W.heap.size W w' → Calls Tryz.prog 69 #[.string (S v)] w' fun e w'' => e = .returned (.tuple #[.int .i64 v, .nilIface]) ∧ Below w'.heap.size w' w''
theorem Strs.at_ {w : World} {V : Value} {L : List ByteArray} (h : Strs w V L) : ∃ A cap, V = .slice A L.length cap ∧ L.length ≤ cap ∧ (A = none → L.length = 0 ∧ cap = 0) ∧
    (0 < L.length → ∃ b off, A = some ⟨b, off, none⟩ ∧ ∀ i x, L[i]? = some x → w.cell? ⟨b, off + i, none⟩ = some (.string x)) := by
  obtain ⟨A, cap, e, h1, h2, h⟩ := h
  refine ⟨A, cap, e, h1, h2, fun hl => ?_⟩
  obtain ⟨b, off, e2, hc⟩ := h hl
  refine ⟨b, off, e2, fun i x hi => ?_⟩
  have := hc i x hi 0 (.string x) rfl
  rwa [Nat.mul_one, Nat.add_zero] at this
theorem info_intN : (Tryz.prog.info? 3).map (fun i => (i.zero, i.size, i.bytes)) = some (some (.int .i64 0), 1, 8) := by kernel_rfl
theorem take_succI {xs : List Int} {i : Nat} (h : i < xs.length) : xs.take (i + 1) = xs.take i ++ [xs[i]] := List.take_succ_eq_append_getElem h
set_option maxRecDepth 100000 in
set_option maxHeartbeats 1000000 in
theorem numbers_ok {w : World} {V : Value} {xs : List Int} {S : Int → ByteArray} (h : Strs w V (xs.map S)) (hl : xs.length ≤ 1000000000) (It : ∀ v ∈ xs, ItW w S v) (At : ∀ v ∈ xs, AtW w S v) :
    Calls Tryz.prog 44 #[V] w fun e w' => ∃ V', e = .returned (.tuple #[V', .bool true]) ∧ w'.ownsRow w.heap.size 3 1 V' xs.length (flat encI xs) ∧ Below w.heap.size w w' := by
  obtain ⟨A, cap, rfl, -, -, hA⟩ := h.at_
  have hml : (xs.map S).length = xs.length := by simp
  rw [hml] at hA
  rw [hml]
  have HA := Lib.hid hA
  have HI := Lib.hid It
  have HT := Lib.hid At
  obtain ⟨i0, hi0, hz0, hz1, hz2⟩ := info_parts info_intN
  clear h hA It At hml
  go_enter Tryz.func44, Tryz.ntmps44
  go_wp2_with fail
  go_loopw [4, 11] (fun Vl q wr => ∃ i : Nat, i ≤ xs.length ∧ q = .int .i64 i ∧ wr.ownsRow w.heap.size 3 1 Vl i (flat encI (xs.take i)) ∧ Below w.heap.size w wr) (fun _ q _ => xs.length - (intOf q).toNat)
  case atStart => exact ⟨0, by omega, rfl, World.ownsRow_nil _ _ _ _, Below.refl _ _⟩
  case round =>
    obtain ⟨i, hi, rfl, R, B⟩ := hrel
    obtain ⟨wo, rfl⟩ : ∃ x : World, x = wr := ⟨_, rfl⟩
    obtain ⟨AV, cV, hVl, -⟩ := own_shape R
    subst hVl
    have HR := Lib.hid R
    have HB := Lib.hid B
    have hwo := B.size
    clear R B
    by_cases hil : i < xs.length
    · have hd : decide ((i : Int) < xs.length) = true := by simp; omega
      obtain ⟨ba, off, rfl, hc⟩ := HA.out (by omega)
      have c0 := cell_later HB.out (hc i (S xs[i]) (by simp [hil]))
      have HC := Lib.hid (HT.out _ (List.getElem_mem hil) wo HB.out)
      have HIt := Lib.hid (HI.out _ (List.getElem_mem hil))
      have HST := Lib.hid (take_succI hil)
      have i1 : (0 : Int) ≤ (i : Int) := by omega
      have i2 : (i : Int) < (xs.length : Int) := by omega
      clear hc
      generalize xs[i] = x at *
      obtain ⟨s, hs⟩ : ∃ s, S x = s := ⟨_, rfl⟩
      have HSS := Lib.hid hs
      rw [hs] at c0
      clear hs
      go_wp2_with fail
      have hC := HC.out
      rw [HSS.out] at hC
      refine hC.mono ?_
      clear hC
      rintro e w2 ⟨rfl, B2⟩
      have HR2 := Lib.hid (own_later HR.out B2)
      have HB2 := Lib.hid (HB.out.trans (B2.mono hwo))
      clear B2
      go_wp2_with fail
      have hI := HIt.out w2 HB2.out
      rw [HSS.out] at hI
      refine hI.mono ?_
      clear hI
      rintro e w4 ⟨rfl, B4⟩
      have HR4 := Lib.hid (own_later HR2.out B4)
      have HB4 := Lib.hid (HB2.out.trans (B4.mono HB2.out.size))
      have hw4 := HB4.out.size
      clear B4
      go_wp2_with (refine wpList_append_lies _ rfl (.tmp 28) (.tmp 30) 29 rfl w.heap.size 3 i0 (.int .i64 0) 1 8 Tryz.underlying29 hi0 hz0 hz1 hz2 rfl (by decide) (.slice AV i cV) i (flat encI (xs.take i)) rfl (own_later HR4.out ((Below.refl _ _).alloc (Nat.le_refl _) _)) ⟨w4.heap.size, 0, none⟩ 1 1 (encI x) rfl rfl (World.news_of_block (heap_at rfl)) (by intro u hu; simp [encI] at hu; subst hu; rfl) (by omega) (by simp only [maxLen]; omega) (by omega) (by simp; omega) _ rfl ?_; intro g cq w3 hown hgrow hat hlt)
      have HB5 := (HB4.out.trans (((Below.refl w4.heap.size w4).alloc (Nat.le_refl _) _).mono HB4.out.size)).grown hgrow (by simp; omega) (fun q hq => own_ge HR4.out hq)
      refine ⟨⟨i + 1, by omega, by go_num, ?_, HB5⟩, by simp [intOf]; omega⟩
      rw [HST.out, flat_append]
      simpa [flat] using hown
    · have e : i = xs.length := by omega
      subst e
      have hd : decide ((xs.length : Int) < xs.length) = false := by simp
      have RB := HR.out
      rw [List.take_of_length_le (Nat.le_refl _)] at RB
      have HRB := Lib.hid RB
      clear RB HR
      go_wp2_with fail
      go_ret2
      exact ⟨_, rfl, HRB.out, HB.out⟩
end Go.Proofs.YtjgloineooadoaaGreatDoor
/- slices.Concat, of strings and of numbers; slices.Grow of nil. -/
namespace Go.Proofs.YtjgloineooadoaaGreatDoor
open Go.RowKit Go.Shelf
/-- A piece: a slice, its cells; nil, if it has none. -/
def Pc {α : Type} (enc : α → List Value) (w : World) (V : Value) (L : List α) : Prop := (V = .slice none 0 0 ∧ L = []) ∨ ∃ (ad : Addr) (c : Nat), V = .slice (some ad) L.length c ∧ ∀ j u, (flat enc L)[j]? = some u → w.cell? (ad.add j) = some u
theorem Pc.shape {α : Type} {enc : α → List Value} {w : World} {V : Value} {L : List α} (h : Pc enc w V L) : ∃ A c, V = .slice A L.length c := by
  rcases h with ⟨rfl, rfl⟩ | ⟨ad, c, rfl, -⟩
  · exact ⟨_, _, rfl⟩
  · exact ⟨_, _, rfl⟩
theorem Pc.later {α : Type} {enc : α → List Value} {w w' : World} {V : Value} {L : List α} (h : Pc enc w V L) (B : Below w.heap.size w w') : Pc enc w' V L := by
  rcases h with h | ⟨ad, c, e, h⟩
  · exact .inl h
  · exact .inr ⟨ad, c, e, fun j u hu => cell_later B (h j u hu)⟩
theorem Pc.of_own {α : Type} {enc : α → List Value} (he : ∀ a, (enc a).length = 1) {w : World} {B E : Nat} {V : Value} {L : List α} (h : w.ownsRow B E 1 V L.length (flat enc L)) : Pc enc w V L := by
  rcases h.2 with ⟨hV, h0⟩ | ⟨g, cap, cur, rfl, hg, hh, hle, r⟩
  · have h0' : L.length = 0 := h0
    exact .inl ⟨hV, List.length_eq_zero_iff.1 h0'⟩
  · refine .inr ⟨⟨g, 0, none⟩, cap, rfl, fun j u hu => ?_⟩
    have hj := (List.getElem?_eq_some_iff.1 hu).1
    rw [flat_length he] at hj
    have ad : (⟨g, 0, none⟩ : Addr).add j = ⟨g, j, none⟩ := by unfold Addr.add; split <;> simp_all
    rw [ad, h.cellAt j hj]
    exact hu
theorem Pc.lit {α : Type} {enc : α → List Value} {w : World} {b E : Nat} {cs : Array Value} {L : List α} {n c : Nat} (hb : w.heap[b]? = some (.cells cs E)) (hcs : cs.toList = flat enc L) (hn : n = L.length) : Pc enc w (.slice (some ⟨b, 0, none⟩) n c) L := by
  subst hn
  refine .inr ⟨⟨b, 0, none⟩, c, rfl, fun j u hu => ?_⟩
  have ad : (⟨b, 0, none⟩ : Addr).add j = ⟨b, j, none⟩ := by unfold Addr.add; split <;> simp_all
  rw [ad]
  unfold World.cell?
  rw [hb]
  rw [← hcs] at hu
  simpa using hu
theorem Pc.of_ints {w : World} {V : Value} {xs : List Int} (h : Ints w V xs) : Pc encI w V xs := by
  obtain ⟨A, cap, rfl, -, hn, hA⟩ := h.at_
  cases A with
  | none =>
    obtain ⟨h1, rfl⟩ := hn rfl
    have : xs = [] := List.length_eq_zero_iff.1 h1
    subst this
    exact .inl ⟨rfl, rfl⟩
  | some ad =>
    refine .inr ⟨ad, cap, rfl, fun j u hu => ?_⟩
    have hj := (List.getElem?_eq_some_iff.1 hu).1
    rw [flat_length encI_length] at hj
    obtain ⟨b, off, e, hc⟩ := hA (by omega)
    cases e
    have ad : (⟨b, off, none⟩ : Addr).add j = ⟨b, off + j, none⟩ := by unfold Addr.add; split <;> simp_all
    rw [ad, hc j _ (List.getElem?_eq_getElem (by omega))]
    rw [flat_encI] at hu
    simp only [List.getElem?_map] at hu
    rw [List.getElem?_eq_getElem (by omega)] at hu
    simpa using hu
def lenAll {α : Type} : List (List α) → Nat
  | [] => 0
  | l :: r => l.length + lenAll r
theorem lenAll_take {α : Type} : ∀ (Ls : List (List α)) (i : Nat) (h : i < Ls.length), lenAll (Ls.take (i + 1)) = lenAll (Ls.take i) + Ls[i].length
  | [], i, h => by simp at h
  | l :: r, 0, _ => by simp [lenAll]
  | l :: r, i + 1, h => by
    have := lenAll_take r i (by simpa using h)
    simp only [List.take_succ_cons, lenAll, List.getElem_cons_succ] at *
    omega
theorem lenAll_le {α : Type} : ∀ (Ls : List (List α)) (i : Nat), lenAll (Ls.take i) ≤ lenAll Ls
  | [], i => by simp
  | l :: r, 0 => by simp [lenAll]
  | l :: r, i + 1 => by have := lenAll_le r i; simp only [List.take_succ_cons, lenAll]; omega
theorem lenAll_flat {α : Type} : ∀ (Ls : List (List α)), Ls.flatten.length = lenAll Ls
  | [] => rfl
  | l :: r => by simp [lenAll, lenAll_flat r]
theorem flattenTake {α : Type} (Ls : List (List α)) (i : Nat) (h : i < Ls.length) : (Ls.take (i + 1)).flatten = (Ls.take i).flatten ++ Ls[i] := by
  rw [List.take_succ_eq_append_getElem h, List.flatten_append]; simp
theorem laysGrowS_ok : Lays8.n4 Tryz.prog ⟨fun | 4 => 74 | n => n, fun | 0 => 0 | 3 => 3 | 4 => 4 | 9 => 9 | 20 => 20 | 22 => 93 | 25 => 9 | n => n, fun | n => n⟩ := {
  mixed := by kernel_rfl
  f4 := ⟨Tryz.f74.name, by decide, Tryz.func74.trans (congrArg some (by kernel_rfl))⟩
  t0 := Tryz.underlying0
  a0 := Tryz.isAgg0
  z0 := Tryz.sizeOf0
  v0 := Tryz.zeroValue0
  t3 := Tryz.underlying3
  a3 := Tryz.isAgg3
  z3 := Tryz.sizeOf3
  v3 := Tryz.zeroValue3
  t4 := Tryz.underlying4
  a4 := Tryz.isAgg4
  z4 := Tryz.sizeOf4
  v4 := Tryz.zeroValue4
  t9 := Tryz.underlying9
  a9 := Tryz.isAgg9
  z9 := Tryz.sizeOf9
  v9 := Tryz.zeroValue9
  t20 := Tryz.underlying20
  a20 := Tryz.isAgg20
  z20 := Tryz.sizeOf20
  v20 := Tryz.zeroValue20
  t22 := Tryz.underlying93
  a22 := Tryz.isAgg93
  z22 := Tryz.sizeOf93
  v22 := Tryz.zeroValue93 }
theorem growS_nil (n : Nat) (hn : n ≤ 1000000000) (w : World) : Calls Tryz.prog 74 #[.slice none 0 0, .int .i64 (n : Int)] w fun e w' => ∃ V, e = .returned V ∧ w'.ownsRow w.heap.size 9 1 V 0 [] ∧ Below w.heap.size w w' := by
  obtain ⟨i0, hi0, hz0, hz1, hz2⟩ := info_parts info_str
  by_cases h0 : n = 0
  · subst h0
    refine (Any8.slices_Grow_room laysGrowS_ok none 0 0 0 w (Nat.le_refl _) (by decide) (by decide) (by decide)).mono ?_
    rintro e w' ⟨rfl, rfl⟩
    exact ⟨_, rfl, ⟨rfl, .inl ⟨rfl, rfl⟩⟩, Below.refl _ _⟩
  · refine (Any8.slices_Grow_grow laysGrowS_ok i0 _ hi0 hz0 (by omega) none 0 0 n [] w (Nat.le_refl _) (by omega) (by rw [hz2]; omega) (by omega) (by simp) (fun _ => rfl) (fun a h => by cases h)).mono ?_
    rintro e w' ⟨rfl, rfl⟩
    have g1 := grownCap_ge w (0 + n) 0 9
    have g2 := grownCap_le_maxLen w (0 + n) 0 9 (by simp only [maxLen]; omega)
    refine ⟨_, rfl, ?_, (Below.refl _ _).drew.alloc (Nat.le_refl _) _⟩
    refine World.ownsRow_made (base := w.heap.size) (e := 9) (size := 1) w.drew _ _ (Nat.le_refl _) g2 ?_
    simp only [Array.size_append, size_zeroCells, List.size_toArray, List.length_nil]
    have e1 : (.string ByteArray.empty : Value).cells.size = 1 := rfl
    rw [e1]
    show 0 + (0 + n - 0) * 1 + (grownCap w (0 + n) 0 _ - (0 + n)) * 1 = grownCap w (0 + n) 0 _ * 1
    have g1' : 0 + n ≤ grownCap w (0 + n) 0 (9) := g1
    omega
set_option maxRecDepth 100000 in
set_option maxHeartbeats 1000000 in
theorem concatS_any {w : World} {b n c : Nat} {Ls : List (List ByteArray)} (hn : n = Ls.length) (hLl : Ls.length ≤ 1000000000) (hl : lenAll Ls ≤ 1000000000) (hc : ∀ i (h : i < Ls.length), ∃ V, w.cell? ⟨b, i, none⟩ = some V ∧ Pc encS w V Ls[i]) :
    Calls Tryz.prog 46 #[.slice (some ⟨b, 0, none⟩) n c] w fun e w' => ∃ V', e = .returned V' ∧ w'.ownsRow w.heap.size 9 1 V' (lenAll Ls) (flat encS Ls.flatten) ∧ Below w.heap.size w w' := by
  subst hn
  have HC := Lib.hid hc
  have HLE := Lib.hid (lenAll_le Ls)
  obtain ⟨i0, hi0, hz0, hz1, hz2⟩ := info_parts info_str
  clear hc
  go_enter Tryz.func46, Tryz.ntmps46
  go_wp2_with fail
  go_loopw [3, 11] (fun s q wr => ∃ i : Nat, i ≤ Ls.length ∧ q = .int .i64 i ∧ s = .int .i64 (lenAll (Ls.take i) : Int) ∧ wr = w) (fun _ q _ => Ls.length - (intOf q).toNat)
  case atStart => exact ⟨0, by omega, rfl, by simp [lenAll], rfl⟩
  case round =>
    obtain ⟨i, hi, rfl, rfl, hwr⟩ := hrel
    subst hwr
    obtain ⟨wo, rfl⟩ : ∃ q : World, q = wr := ⟨_, rfl⟩
    by_cases hil : i < Ls.length
    · have hd : decide ((i : Int) < Ls.length) = true := by simp; omega
      obtain ⟨V, c0, hP⟩ := HC.out i hil
      obtain ⟨A, cp, rfl⟩ := hP.shape
      clear hP
      have HS := Lib.hid (lenAll_take Ls i hil)
      have h1 := HLE.out i
      have h2 := HLE.out (i + 1)
      rw [HS.out] at h2
      generalize lenAll (Ls.take i) = s at *
      generalize hm : Ls[i].length = m at *
      have HM := Lib.hid hm
      have i1 : (0 : Int) ≤ (i : Int) := by omega
      have i2 : (i : Int) < (Ls.length : Int) := by omega
      have e1 : IntKind.i64.wrap ((s : Int) + (m : Int)) = (s : Int) + m := IntWalk.i64_in _ (by omega)
      have e2 : decide ((s : Int) + (m : Int) < 0) = false := by simp; omega
      clear hm
      go_wp2_with fail
      exact ⟨⟨i + 1, by omega, by go_num, by rw [HS.out]; first | (simp; done) | (congr 1; omega), trivial⟩, by simp [intOf]; omega⟩
    · have e : i = Ls.length := by omega
      subst e
      have hd : decide ((Ls.length : Int) < Ls.length) = false := by simp
      rw [List.take_of_length_le (Nat.le_refl _)]
      go_wp2_with fail
      refine (growS_nil (lenAll Ls) hl _).mono ?_
      rintro e w2 ⟨V2, rfl, R2, B2⟩
      obtain ⟨A2, c2, rfl, -⟩ := own_shape R2
      have HR2 := Lib.hid R2
      have HB2 := Lib.hid B2
      clear R2 B2
      go_wp2_with fail
      go_loopw [6, 27] (fun Vl q wr => ∃ i : Nat, i ≤ Ls.length ∧ q = .int .i64 i ∧ wr.ownsRow wo.heap.size 9 1 Vl (lenAll (Ls.take i)) (flat encS (Ls.take i).flatten) ∧ Below wo.heap.size wo wr) (fun _ q _ => Ls.length - (intOf q).toNat)
      case atStart => exact ⟨0, by omega, rfl, by simpa [lenAll, flat] using HR2.out, HB2.out⟩
      case round =>
        clear HR2 HB2
        obtain ⟨i, hi, rfl, R, B⟩ := hrel
        obtain ⟨wp, rfl⟩ : ∃ x : World, x = wr := ⟨_, rfl⟩
        obtain ⟨AV, cV, hVl, -⟩ := own_shape R
        subst hVl
        have HR := Lib.hid R
        have HB := Lib.hid B
        have hwp := B.size
        clear R B
        by_cases hil : i < Ls.length
        · have hd2 : decide ((i : Int) < Ls.length) = true := by simp; omega
          obtain ⟨V, c0, hP⟩ := HC.out i hil
          have c0 := cell_later HB.out c0
          have HS := Lib.hid (lenAll_take Ls i hil)
          have HFT := Lib.hid (flattenTake Ls i hil)
          have h2 := HLE.out (i + 1)
          rw [HS.out] at h2
          have HF := Lib.hid (flat_length encS_length Ls[i])
          have i1 : (0 : Int) ≤ (i : Int) := by omega
          have i2 : (i : Int) < (Ls.length : Int) := by omega
          rcases hP.later HB.out with ⟨hVe, hnil⟩ | ⟨ad, cp, hVe, hPc⟩
          · subst hVe
            have HO : Hid (wp.ownsRow wo.heap.size 9 1 (.slice AV (lenAll (Ls.take i)) cV) (lenAll (Ls.take (i + 1))) (flat encS (Ls.take (i + 1)).flatten)) := Lib.hid (by rw [HS.out, HFT.out, hnil]; simpa using HR.out)
            clear hP hnil HF HS HFT
            go_wp2_with (at_builtin; refine wpList_append_own_none rfl (.tmp 31) (.tmp 32) 93 rfl wo.heap.size 9 i0 1 Tryz.underlying93 hi0 _ _ _ rfl HR.out rfl ?_)
            exact ⟨⟨i + 1, by omega, by go_num, HO.out, HB.out⟩, by simp [intOf]; omega⟩
          · subst hVe
            have HP := Lib.hid hPc
            clear hP hPc
            generalize Ls[i] = l at *
            have P1 : Hid (∀ u ∈ flat encS l, u.oneCell' = true) := Lib.hid (fun u hu => by
              obtain ⟨x, -, hx⟩ := List.mem_flatMap.1 hu
              simp [encS] at hx
              subst hx
              rfl)
            have P2 : lenAll (Ls.take i) + l.length ≤ maxLen := by simp only [maxLen]; omega
            have P3 : (lenAll (Ls.take i) + l.length) * 16 ≤ 140737488355328 := by omega
            have HX := Lib.hid P2
            clear P2
            go_wp2_with (at_builtin; refine wpList_append_own _ rfl (.tmp 31) (.tmp 32) 93 rfl wo.heap.size 9 i0 (.string ByteArray.empty) 1 16 Tryz.underlying93 hi0 hz0 hz1 hz2 rfl (by decide) _ _ _ rfl HR.out _ _ _ _ rfl ?c1 ?c2 P1.out HX.out P3 hwp ?cn)
            case c1 => first | exact HF.out | (rw [HF.out, Nat.mul_one])
            case c2 => exact HP.out
            case cn =>
              intro V3 w3 hown hgrow hnil
              have HB4 := HB.out.grown hgrow hwp (fun q hq => own_ge HR.out hq)
              have HO : Hid (w3.ownsRow wo.heap.size 9 1 V3 (lenAll (Ls.take (i + 1))) (flat encS (Ls.take (i + 1)).flatten)) := Lib.hid (by rw [HS.out, HFT.out, flat_append]; exact hown)
              clear hown hgrow hnil
              go_wp2_with fail
              exact ⟨⟨i + 1, by omega, by go_num, HO.out, HB4⟩, by simp [intOf]; omega⟩
        · have e : i = Ls.length := by omega
          subst e
          have hd2 : decide ((Ls.length : Int) < Ls.length) = false := by simp
          have ET : Ls.take Ls.length = Ls := List.take_of_length_le (Nat.le_refl _)
          have RB := HR.out
          rw [ET] at RB
          have HRB := Lib.hid RB
          clear RB HR
          rw [ET]
          go_wp2_with fail
          go_ret
          exact ⟨_, rfl, HRB.out, HB.out⟩
theorem laysGrowI_ok : Lays8.n4 Tryz.prog ⟨fun | 4 => 30 | n => n, fun | 0 => 0 | 3 => 3 | 4 => 4 | 9 => 9 | 20 => 20 | 22 => 29 | 25 => 3 | n => n, fun | n => n⟩ := {
  mixed := by kernel_rfl
  f4 := ⟨Tryz.f30.name, by decide, Tryz.func30.trans (congrArg some (by kernel_rfl))⟩
  t0 := Tryz.underlying0
  a0 := Tryz.isAgg0
  z0 := Tryz.sizeOf0
  v0 := Tryz.zeroValue0
  t3 := Tryz.underlying3
  a3 := Tryz.isAgg3
  z3 := Tryz.sizeOf3
  v3 := Tryz.zeroValue3
  t4 := Tryz.underlying4
  a4 := Tryz.isAgg4
  z4 := Tryz.sizeOf4
  v4 := Tryz.zeroValue4
  t9 := Tryz.underlying9
  a9 := Tryz.isAgg9
  z9 := Tryz.sizeOf9
  v9 := Tryz.zeroValue9
  t20 := Tryz.underlying20
  a20 := Tryz.isAgg20
  z20 := Tryz.sizeOf20
  v20 := Tryz.zeroValue20
  t22 := Tryz.underlying29
  a22 := Tryz.isAgg29
  z22 := Tryz.sizeOf29
  v22 := Tryz.zeroValue29 }
theorem growI_nil (n : Nat) (hn : n ≤ 1000000000) (w : World) : Calls Tryz.prog 30 #[.slice none 0 0, .int .i64 (n : Int)] w fun e w' => ∃ V, e = .returned V ∧ w'.ownsRow w.heap.size 3 1 V 0 [] ∧ Below w.heap.size w w' := by
  obtain ⟨i0, hi0, hz0, hz1, hz2⟩ := info_parts info_intN
  by_cases h0 : n = 0
  · subst h0
    refine (Any8.slices_Grow_room laysGrowI_ok none 0 0 0 w (Nat.le_refl _) (by decide) (by decide) (by decide)).mono ?_
    rintro e w' ⟨rfl, rfl⟩
    exact ⟨_, rfl, ⟨rfl, .inl ⟨rfl, rfl⟩⟩, Below.refl _ _⟩
  · refine (Any8.slices_Grow_grow laysGrowI_ok i0 _ hi0 hz0 (by omega) none 0 0 n [] w (Nat.le_refl _) (by omega) (by rw [hz2]; omega) (by omega) (by simp) (fun _ => rfl) (fun a h => by cases h)).mono ?_
    rintro e w' ⟨rfl, rfl⟩
    have g1 := grownCap_ge w (0 + n) 0 3
    have g2 := grownCap_le_maxLen w (0 + n) 0 3 (by simp only [maxLen]; omega)
    refine ⟨_, rfl, ?_, (Below.refl _ _).drew.alloc (Nat.le_refl _) _⟩
    refine World.ownsRow_made (base := w.heap.size) (e := 3) (size := 1) w.drew _ _ (Nat.le_refl _) g2 ?_
    simp only [Array.size_append, size_zeroCells, List.size_toArray, List.length_nil]
    have e1 : (.int .i64 0 : Value).cells.size = 1 := rfl
    rw [e1]
    show 0 + (0 + n - 0) * 1 + (grownCap w (0 + n) 0 _ - (0 + n)) * 1 = grownCap w (0 + n) 0 _ * 1
    have g1' : 0 + n ≤ grownCap w (0 + n) 0 (3) := g1
    omega
set_option maxRecDepth 100000 in
set_option maxHeartbeats 1000000 in
theorem concatI_any {w : World} {b n c : Nat} {Ls : List (List Int)} (hn : n = Ls.length) (hLl : Ls.length ≤ 1000000000) (hl : lenAll Ls ≤ 1000000000) (hc : ∀ i (h : i < Ls.length), ∃ V, w.cell? ⟨b, i, none⟩ = some V ∧ Pc encI w V Ls[i]) :
    Calls Tryz.prog 13 #[.slice (some ⟨b, 0, none⟩) n c] w fun e w' => ∃ V', e = .returned V' ∧ w'.ownsRow w.heap.size 3 1 V' (lenAll Ls) (flat encI Ls.flatten) ∧ Below w.heap.size w w' := by
  subst hn
  have HC := Lib.hid hc
  have HLE := Lib.hid (lenAll_le Ls)
  obtain ⟨i0, hi0, hz0, hz1, hz2⟩ := info_parts info_intN
  clear hc
  go_enter Tryz.func13, Tryz.ntmps13
  go_wp2_with fail
  go_loopw [3, 11] (fun s q wr => ∃ i : Nat, i ≤ Ls.length ∧ q = .int .i64 i ∧ s = .int .i64 (lenAll (Ls.take i) : Int) ∧ wr = w) (fun _ q _ => Ls.length - (intOf q).toNat)
  case atStart => exact ⟨0, by omega, rfl, by simp [lenAll], rfl⟩
  case round =>
    obtain ⟨i, hi, rfl, rfl, hwr⟩ := hrel
    subst hwr
    obtain ⟨wo, rfl⟩ : ∃ q : World, q = wr := ⟨_, rfl⟩
    by_cases hil : i < Ls.length
    · have hd : decide ((i : Int) < Ls.length) = true := by simp; omega
      obtain ⟨V, c0, hP⟩ := HC.out i hil
      obtain ⟨A, cp, rfl⟩ := hP.shape
      clear hP
      have HS := Lib.hid (lenAll_take Ls i hil)
      have h1 := HLE.out i
      have h2 := HLE.out (i + 1)
      rw [HS.out] at h2
      generalize lenAll (Ls.take i) = s at *
      generalize hm : Ls[i].length = m at *
      have HM := Lib.hid hm
      have i1 : (0 : Int) ≤ (i : Int) := by omega
      have i2 : (i : Int) < (Ls.length : Int) := by omega
      have e1 : IntKind.i64.wrap ((s : Int) + (m : Int)) = (s : Int) + m := IntWalk.i64_in _ (by omega)
      have e2 : decide ((s : Int) + (m : Int) < 0) = false := by simp; omega
      clear hm
      go_wp2_with fail
      exact ⟨⟨i + 1, by omega, by go_num, by rw [HS.out]; first | (simp; done) | (congr 1; omega), trivial⟩, by simp [intOf]; omega⟩
    · have e : i = Ls.length := by omega
      subst e
      have hd : decide ((Ls.length : Int) < Ls.length) = false := by simp
      rw [List.take_of_length_le (Nat.le_refl _)]
      go_wp2_with fail
      refine (growI_nil (lenAll Ls) hl _).mono ?_
      rintro e w2 ⟨V2, rfl, R2, B2⟩
      obtain ⟨A2, c2, rfl, -⟩ := own_shape R2
      have HR2 := Lib.hid R2
      have HB2 := Lib.hid B2
      clear R2 B2
      go_wp2_with fail
      go_loopw [6, 27] (fun Vl q wr => ∃ i : Nat, i ≤ Ls.length ∧ q = .int .i64 i ∧ wr.ownsRow wo.heap.size 3 1 Vl (lenAll (Ls.take i)) (flat encI (Ls.take i).flatten) ∧ Below wo.heap.size wo wr) (fun _ q _ => Ls.length - (intOf q).toNat)
      case atStart => exact ⟨0, by omega, rfl, by simpa [lenAll, flat] using HR2.out, HB2.out⟩
      case round =>
        clear HR2 HB2
        obtain ⟨i, hi, rfl, R, B⟩ := hrel
        obtain ⟨wp, rfl⟩ : ∃ x : World, x = wr := ⟨_, rfl⟩
        obtain ⟨AV, cV, hVl, -⟩ := own_shape R
        subst hVl
        have HR := Lib.hid R
        have HB := Lib.hid B
        have hwp := B.size
        clear R B
        by_cases hil : i < Ls.length
        · have hd2 : decide ((i : Int) < Ls.length) = true := by simp; omega
          obtain ⟨V, c0, hP⟩ := HC.out i hil
          have c0 := cell_later HB.out c0
          have HS := Lib.hid (lenAll_take Ls i hil)
          have HFT := Lib.hid (flattenTake Ls i hil)
          have h2 := HLE.out (i + 1)
          rw [HS.out] at h2
          have HF := Lib.hid (flat_length encI_length Ls[i])
          have i1 : (0 : Int) ≤ (i : Int) := by omega
          have i2 : (i : Int) < (Ls.length : Int) := by omega
          rcases hP.later HB.out with ⟨hVe, hnil⟩ | ⟨ad, cp, hVe, hPc⟩
          · subst hVe
            have HO : Hid (wp.ownsRow wo.heap.size 3 1 (.slice AV (lenAll (Ls.take i)) cV) (lenAll (Ls.take (i + 1))) (flat encI (Ls.take (i + 1)).flatten)) := Lib.hid (by rw [HS.out, HFT.out, hnil]; simpa using HR.out)
            clear hP hnil HF HS HFT
            go_wp2_with (at_builtin; refine wpList_append_own_none rfl (.tmp 31) (.tmp 32) 29 rfl wo.heap.size 3 i0 1 Tryz.underlying29 hi0 _ _ _ rfl HR.out rfl ?_)
            exact ⟨⟨i + 1, by omega, by go_num, HO.out, HB.out⟩, by simp [intOf]; omega⟩
          · subst hVe
            have HP := Lib.hid hPc
            clear hP hPc
            generalize Ls[i] = l at *
            have P1 : Hid (∀ u ∈ flat encI l, u.oneCell' = true) := Lib.hid (fun u hu => by
              obtain ⟨x, -, hx⟩ := List.mem_flatMap.1 hu
              simp [encI] at hx
              subst hx
              rfl)
            have P2 : lenAll (Ls.take i) + l.length ≤ maxLen := by simp only [maxLen]; omega
            have P3 : (lenAll (Ls.take i) + l.length) * 8 ≤ 140737488355328 := by omega
            have HX := Lib.hid P2
            clear P2
            go_wp2_with (at_builtin; refine wpList_append_own _ rfl (.tmp 31) (.tmp 32) 29 rfl wo.heap.size 3 i0 (.int .i64 0) 1 8 Tryz.underlying29 hi0 hz0 hz1 hz2 rfl (by decide) _ _ _ rfl HR.out _ _ _ _ rfl ?c1 ?c2 P1.out HX.out P3 hwp ?cn)
            case c1 => first | exact HF.out | (rw [HF.out, Nat.mul_one])
            case c2 => exact HP.out
            case cn =>
              intro V3 w3 hown hgrow hnil
              have HB4 := HB.out.grown hgrow hwp (fun q hq => own_ge HR.out hq)
              have HO : Hid (w3.ownsRow wo.heap.size 3 1 V3 (lenAll (Ls.take (i + 1))) (flat encI (Ls.take (i + 1)).flatten)) := Lib.hid (by rw [HS.out, HFT.out, flat_append]; exact hown)
              clear hown hgrow hnil
              go_wp2_with fail
              exact ⟨⟨i + 1, by omega, by go_num, HO.out, HB4⟩, by simp [intOf]; omega⟩
        · have e : i = Ls.length := by omega
          subst e
          have hd2 : decide ((Ls.length : Int) < Ls.length) = false := by simp
          have ET : Ls.take Ls.length = Ls := List.take_of_length_le (Nat.le_refl _)
          have RB := HR.out
          rw [ET] at RB
          have HRB := Lib.hid RB
          clear RB HR
          rw [ET]
          go_wp2_with fail
          go_ret
          exact ⟨_, rfl, HRB.out, HB.out⟩
end Go.Proofs.YtjgloineooadoaaGreatDoor
/- cert.Print. -/
namespace Go.Proofs.YtjgloineooadoaaGreatDoor
open Go.RowKit Go.Shelf
def bX : ByteArray := ⟨#[120]⟩
def bF : ByteArray := ⟨#[102]⟩
def bSp : ByteArray := ⟨#[32]⟩
def wordsOf (S : Int → ByteArray) (xs fs : List Int) : List ByteArray := [bX] ++ xs.map S ++ [bF] ++ fs.map S
theorem cell_lt {w : World} {b o : Nat} {v : Value} (h : w.cell? ⟨b, o, none⟩ = some v) : b < w.heap.size := by
  unfold World.cell? at h
  cases hb : w.heap[b]? with
  | none => simp [hb] at h
  | some x => exact (Array.getElem?_eq_some_iff.1 hb).1
set_option maxRecDepth 100000 in
set_option maxHeartbeats 1000000 in
theorem print_any {w : World} {X F : Value} {xs fs : List Int} {S : Int → ByteArray} (hX : Ints w X xs) (hF : Ints w F fs) (hxl : xs.length ≤ 100000000) (hfl : fs.length ≤ 100000000) (ItX : ∀ v ∈ xs, ItW w S v) (ItF : ∀ v ∈ fs, ItW w S v)
    {L : List ByteArray} (hLw : L = wordsOf S xs fs) (hJ : (Lib.join (L.map (·.data.toList)) bSp.data.toList).length ≤ 140737488355328) {out : ByteArray} (ho : out = ⟨(Lib.join (L.map (·.data.toList)) bSp.data.toList).toArray⟩) :
    Calls Tryz.prog 24 #[X, F] w fun e w' => e = .returned (.string out) ∧ Below w.heap.size w w' := by
  have HO := Lib.hid ho
  have HLW := Lib.hid hLw
  have HX := Lib.hid hX
  have HF := Lib.hid hF
  have HIX := Lib.hid ItX
  have HIF := Lib.hid ItF
  have HJ := Lib.hid hJ
  clear hX hF ItX ItF hJ ho hLw
  go_enter Tryz.func24, Tryz.ntmps24
  go_wp2_with fail
  obtain ⟨wA, hwA⟩ : ∃ x, x = w.alloc (.cells #[.string ⟨#[120]⟩] 9) := ⟨_, rfl⟩
  rw [← hwA]
  have BA : Below w.heap.size w wA := by rw [hwA]; exact (Below.refl _ _).alloc (Nat.le_refl _) _
  have HPa : Hid (Pc encS wA (.slice (some ⟨w.heap.size, 0, none⟩) 1 1) [bX]) := Lib.hid (Pc.lit (by rw [hwA]; exact heap_at rfl) rfl rfl)
  have HB := Lib.hid BA
  clear hwA BA
  refine (words_any (HX.out.later HB.out) (by omega) (fun v hv w' b => HIX.out v hv w' (HB.out.trans (b.mono HB.out.size)))).mono ?_
  rintro e w2 ⟨V1, rfl, R1, B1⟩
  obtain ⟨A1, c1, hV1, -⟩ := own_shape R1
  subst hV1
  have HPb : Hid (Pc encS w2 (.slice A1 xs.length c1) (xs.map S)) := Lib.hid (Pc.of_own encS_length (by simpa using R1))
  have HPa2 := Lib.hid (HPa.out.later B1)
  have HB2 := Lib.hid (HB.out.trans (B1.mono HB.out.size))
  clear R1 B1 HPa HB
  go_wp2_with fail
  obtain ⟨wC, hwC⟩ : ∃ x, x = w2.alloc (.cells #[.string ⟨#[102]⟩] 9) := ⟨_, rfl⟩
  rw [← hwC]
  have BC : Below w2.heap.size w2 wC := by rw [hwC]; exact (Below.refl _ _).alloc (Nat.le_refl _) _
  have HPc : Hid (Pc encS wC (.slice (some ⟨w2.heap.size, 0, none⟩) 1 1) [bF]) := Lib.hid (Pc.lit (by rw [hwC]; exact heap_at rfl) rfl rfl)
  have HPa3 := Lib.hid (HPa2.out.later BC)
  have HPb3 := Lib.hid (HPb.out.later BC)
  have HB3 := Lib.hid (HB2.out.trans (BC.mono HB2.out.size))
  clear hwC BC HPa2 HPb HB2
  refine (words_any (HF.out.later HB3.out) (by omega) (fun v hv w' b => HIF.out v hv w' (HB3.out.trans (b.mono HB3.out.size)))).mono ?_
  rintro e w4 ⟨V2, rfl, R2, B2⟩
  obtain ⟨A2, c2, hV2, -⟩ := own_shape R2
  subst hV2
  have HPd : Hid (Pc encS w4 (.slice A2 fs.length c2) (fs.map S)) := Lib.hid (Pc.of_own encS_length (by simpa using R2))
  have HPa4 := Lib.hid (HPa3.out.later B2)
  have HPb4 := Lib.hid (HPb3.out.later B2)
  have HPc4 := Lib.hid (HPc.out.later B2)
  have HB4 := Lib.hid (HB3.out.trans (B2.mono HB3.out.size))
  clear R2 B2 HPa3 HPb3 HPc HB3
  go_wp2_with fail
  generalize hV1 : (Value.slice A1 xs.length c1) = V1 at *
  generalize hV2 : (Value.slice A2 fs.length c2) = V2 at *
  clear hV1 hV2
  generalize hP1 : (Value.slice (some ⟨w.heap.size, 0, none⟩) 1 1) = P1 at *
  generalize hP3 : (Value.slice (some ⟨w2.heap.size, 0, none⟩) 1 1) = P3 at *
  obtain ⟨wE, hwE⟩ : ∃ x, x = w4.alloc (.cells #[P1, V1, P3, V2] 93) := ⟨_, rfl⟩
  rw [← hwE]
  have hE : wE.heap[w4.heap.size]? = some (.cells #[P1, V1, P3, V2] 93) := by rw [hwE]; exact heap_at rfl
  have BE : Below w4.heap.size w4 wE := by rw [hwE]; exact (Below.refl _ _).alloc (Nat.le_refl _) _
  have HB5 := Lib.hid (HB4.out.trans (BE.mono HB4.out.size))
  have HA5 := Lib.hid (HPa4.out.later BE)
  have HB5' := Lib.hid (HPb4.out.later BE)
  have HC5 := Lib.hid (HPc4.out.later BE)
  have HD5 := Lib.hid (HPd.out.later BE)
  clear hwE BE HPa4 HPb4 HPc4 HPd HB4
  refine (concatS_any (Ls := [[bX], xs.map S, [bF], fs.map S]) rfl (by simp) (by simp [lenAll]; omega) ?_).mono ?_
  · intro i hi
    have hi4 : i < 4 := hi
    match i, hi4 with
    | 0, _ => exact ⟨P1, by simp [World.cell?, hE], HA5.out⟩
    | 1, _ => exact ⟨V1, by simp [World.cell?, hE], HB5'.out⟩
    | 2, _ => exact ⟨P3, by simp [World.cell?, hE], HC5.out⟩
    | 3, _ => exact ⟨V2, by simp [World.cell?, hE], HD5.out⟩
  rintro e w6 ⟨V6, rfl, R6, B6⟩
  have HB6 := Lib.hid (HB5.out.trans (B6.mono HB5.out.size))
  clear B6 hE HA5 HB5' HC5 HD5 HB5
  have hL : [[bX], xs.map S, [bF], fs.map S].flatten = L := by rw [HLW.out]; simp [wordsOf]
  have hlen : lenAll [[bX], xs.map S, [bF], fs.map S] = L.length := by rw [← hL, lenAll_flat]
  rw [hL, hlen] at R6
  have HS : Strs w6 V6 L := Sl.of_own encS_length R6
  obtain ⟨A6, c6, rfl, h6c, -, h6⟩ := HS.at_
  have hw0 : 0 < L.length := by rw [HLW.out]; simp [wordsOf]
  have hwl : L.length = xs.length + fs.length + 2 := by rw [HLW.out]; simp [wordsOf]; omega
  obtain ⟨b6, o6, rfl, hc6⟩ := h6 hw0
  have hb6 : b6 < w6.heap.size := cell_lt (hc6 0 _ (List.getElem?_eq_getElem hw0))
  have HJN : Hid (Calls Tryz.prog 45 #[.slice (some ⟨b6, o6, none⟩) L.length c6, .string bSp] w6 fun e w' => e = .returned (.string out) ∧ Below w6.heap.size w6 w') := Lib.hid (by rw [HO.out]; exact Tryz.strings_Join b6 o6 c6 L bSp w6 (fun j x hj => hc6 j x hj) hb6 (by omega) h6c HJ.out)
  clear R6 HS h6 hc6 hL hlen hwl hw0 HO HLW
  go_wp2_with fail
  refine HJN.out.mono ?_
  rintro e w7 ⟨rfl, B7⟩
  have HB7 := Lib.hid (HB6.out.trans (B7.mono HB6.out.size))
  clear B7 HB6 HJN HJ
  go_wp2_with fail
  go_ret
  exact ⟨rfl, HB7.out⟩
end Go.Proofs.YtjgloineooadoaaGreatDoor
/- cert.Parse of the text that the waking reads. -/
namespace Go.Proofs.YtjgloineooadoaaGreatDoor
open Go.RowKit Go.Shelf
def b0 : ByteArray := ⟨#[48]⟩
def b1 : ByteArray := ⟨#[49]⟩
def b3 : ByteArray := ⟨#[51]⟩
def pT : ByteArray := ⟨#[120, 32, 48, 32, 49, 32, 102, 32, 51]⟩
/-- A number's text. -/
def Sx (n : Int) : ByteArray := ⟨(Lib.itoa n).toArray⟩
theorem Sx0 : Sx 0 = b0 := by first | kernel_rfl | (unfold Sx Lib.itoa b0; rw [if_neg (by decide)]; unfold Lib.decDigits; simp; done)
theorem Sx1 : Sx 1 = b1 := by first | kernel_rfl | (unfold Sx Lib.itoa b1; rw [if_neg (by decide)]; unfold Lib.decDigits; simp; done)
theorem Sx3 : Sx 3 = b3 := by first | kernel_rfl | (unfold Sx Lib.itoa b3; rw [if_neg (by decide)]; unfold Lib.decDigits; simp; done)
theorem cnt_pT : Lib.countB pT bSp = 4 := by decide
theorem spl_pT : Lib.splitB bSp 0 4 pT = [bX, b0, b1, bF, b3] := by decide
theorem at0 : Lib.atoi b0.data.toList = some 0 := by decide
theorem at1 : Lib.atoi b1.data.toList = some 1 := by decide
theorem at3 : Lib.atoi b3.data.toList = some 3 := by decide
theorem it_small (W : World) (i : Nat) (hi : i < 100) (v : Int) (hv : v = i) : ItW W Sx v := by
  subst hv
  intro w' _
  refine (Tryz.strconv_Itoa_small i hi w').mono ?_
  rintro e w'' ⟨rfl, rfl⟩
  refine ⟨?_, Below.refl _ _⟩
  unfold Sx Lib.itoa
  rw [if_neg (by omega)]
  rfl
theorem at_small (W : World) (v : Int) (hs : (Sx v).size ≤ 18) (h : Lib.atoi (Sx v).data.toList = some v) : AtW W Sx v := by
  intro w' _
  refine (Tryz.strconv_Atoi (Sx v) v hs h w').mono ?_
  rintro e w'' ⟨rfl, t, rfl⟩
  exact ⟨rfl, Lib.bytesWorld_below _ _ _⟩
theorem It013 (W : World) : ItW W Sx 0 ∧ ItW W Sx 1 ∧ ItW W Sx 3 := ⟨it_small W 0 (by decide) 0 rfl, it_small W 1 (by decide) 1 rfl, it_small W 3 (by decide) 3 rfl⟩
theorem At013 (W : World) : AtW W Sx 0 ∧ AtW W Sx 1 ∧ AtW W Sx 3 := ⟨at_small W 0 (by rw [Sx0]; decide) (by rw [Sx0]; exact at0), at_small W 1 (by rw [Sx1]; decide) (by rw [Sx1]; exact at1), at_small W 3 (by rw [Sx3]; decide) (by rw [Sx3]; exact at3)⟩
theorem idx_pT : Lib.idxOfS ([bX, b0, b1, bF, b3].take 5) bF = 3 := by decide
theorem lit_strs {w : World} {g : Nat} {L : List ByteArray} {cs : Array Value} (h : w.heap[g]? = some (.cells cs 9)) (hcs : cs = (L.map Value.string).toArray) : ∀ j x, L[j]? = some x → w.cell? ⟨g, j, none⟩ = some (.string x) := by
  intro j x hj
  subst hcs
  simp [World.cell?, h, hj]
/-- A part of a row of strings. -/
theorem part_strs {w : World} {g n c o : Nat} {L M : List ByteArray} (h : ∀ j x, L[j]? = some x → w.cell? ⟨g, j, none⟩ = some (.string x)) (hM : ∀ j, M[j]? = if j < n then L[o + j]? else none) (hn : n = M.length) (hc : n ≤ c) : Strs w (.slice (some ⟨g, o, none⟩) n c) M := by
  subst hn
  refine ⟨some ⟨g, o, none⟩, c, rfl, hc, (fun h => by cases h), fun _ => ⟨g, o, rfl, fun i x hi r v hv => ?_⟩⟩
  have hr : r = 0 := by have := (List.getElem?_eq_some_iff.1 hv).1; simp [encS] at this; omega
  subst hr
  have hv : Value.string x = v := by simpa [encS] using hv
  subst hv
  have hlt := (List.getElem?_eq_some_iff.1 hi).1
  have := hM i
  rw [if_pos hlt, hi] at this
  have h2 := h (o + i) x this.symm
  simpa using h2
set_option maxRecDepth 100000 in
set_option maxHeartbeats 1000000 in
theorem parse_wakes {w : World} {m : Int} (hm : w.cell? ⟨0, 0, none⟩ = some (.int .i64 m)) :
    Calls Tryz.prog 23 #[.string pT] w fun e w' => ∃ VX VF, e = .returned (.tuple #[VX, VF, .int .i64 0]) ∧ Ints w' VX [0, 1] ∧ Ints w' VF [3] ∧ Below w.heap.size w w' := by
  have HM := Lib.hid hm
  clear hm
  go_enter Tryz.func23, Tryz.ntmps23
  have e1 : decide ((pT.size : Int) > 1048576) = false := by decide
  go_wp2_with fail
  refine (Tryz.strings_Split pT bSp m w (by decide) HM.out (by decide)).mono ?_
  rintro e wS ⟨rfl, hwS⟩
  rw [cnt_pT, spl_pT] at hwS
  rw [cnt_pT]
  have hS : wS.heap[w.heap.size]? = some (.cells ([bX, b0, b1, bF, b3].map Value.string).toArray 9) := by rw [hwS]; exact heap_at rfl
  have BS : Below w.heap.size w wS := by rw [hwS]; exact (Below.refl _ _).alloc (Nat.le_refl _) _
  have HC := Lib.hid (lit_strs hS rfl)
  have HB := Lib.hid BS
  clear hwS hS BS HM e1
  generalize hg : w.heap.size = g at *
  have HG := Lib.hid hg
  clear hg
  go_wp2_with fail
  refine (Tryz.slices_Index_string g 0 5 5 [bX, b0, b1, bF, b3] bF wS (by decide) (by decide) (fun j hj => ?_)).mono ?_
  · rw [Nat.zero_add]
    refine HC.out j _ ?_
    rw [List.getD_eq_getElem?_getD, List.getElem?_eq_getElem hj]
    rfl
  rintro e w2 ⟨rfl, hw2⟩
  subst hw2
  rw [idx_pT]
  have c0 : w2.cell? ⟨g, 0, none⟩ = some (.string ⟨#[120]⟩) := HC.out 0 bX rfl
  have HX : Hid (Strs w2 (.slice (some ⟨g, 1, none⟩) 2 4) [b0, b1]) := Lib.hid (part_strs HC.out (by intro j; match j with | 0 => rfl | 1 => rfl | n + 2 => rw [if_neg (by omega)]; rfl) rfl (by decide))
  have HF : Hid (Strs w2 (.slice (some ⟨g, 4, none⟩) 1 1) [b3]) := Lib.hid (part_strs HC.out (by intro j; match j with | 0 => rfl | n + 1 => rw [if_neg (by omega)]; rfl) rfl (by decide))
  clear HC
  go_wp2_with fail
  have m01 : ([0, 1] : List Int).map Sx = [b0, b1] := by simp [Sx0, Sx1]
  have m3 : ([3] : List Int).map Sx = [b3] := by simp [Sx3]
  refine (numbers_ok (w := w2) (xs := [0, 1]) (S := Sx) (by rw [m01]; exact HX.out) (by decide) (by intro v hv; simp at hv; rcases hv with rfl | rfl; exact (It013 _).1; exact (It013 _).2.1) (by intro v hv; simp at hv; rcases hv with rfl | rfl; exact (At013 _).1; exact (At013 _).2.1)).mono ?_
  rintro e w3 ⟨V1, rfl, R1, B1⟩
  have HIX : Hid (Ints w3 V1 [0, 1]) := Lib.hid (Sl.of_own encI_length R1)
  have HF3 := Lib.hid (HF.out.later B1)
  have HB3 := Lib.hid (HB.out.trans (B1.mono (by rw [← HG.out]; exact HB.out.size)))
  clear R1 B1 HX HF HB m01
  go_wp2_with fail
  refine (numbers_ok (w := w3) (xs := [3]) (S := Sx) (by rw [m3]; exact HF3.out) (by decide) (by intro v hv; simp at hv; subst hv; exact (It013 _).2.2) (by intro v hv; simp at hv; subst hv; exact (At013 _).2.2)).mono ?_
  rintro e w4 ⟨V2, rfl, R2, B2⟩
  have HIF : Hid (Ints w4 V2 [3]) := Lib.hid (Sl.of_own encI_length R2)
  have HIX4 := Lib.hid (HIX.out.later B2)
  have HB4 := Lib.hid (HB3.out.trans (B2.mono (by rw [← HG.out]; exact HB3.out.size)))
  clear R2 B2 HIX HF3 HB3 m3
  go_wp2_with fail
  go_ret3
  exact ⟨_, _, rfl, HIX4.out, HIF.out, by rw [HG.out]; exact HB4.out⟩
end Go.Proofs.YtjgloineooadoaaGreatDoor
/- Several rows of one's own, each in a block of its own: one grows. No program in sight. -/
namespace Go.Proofs.YtjgloineooadoaaGreatDoor
open Go.RowKit
structure RS (w : World) (base E sz m : Nat) (VV : Nat → Value) (K : Nat → Nat) (X : Nat → List Value) : Prop where
  rows : ∀ j, j < m → w.ownsRow base E sz (VV j) (K j) (X j)
  apart : ∀ u v, u < m → v < m → u ≠ v → ∀ g, (VV u).ownBlock = some g → (VV v).ownBlock ≠ some g
def upd {α : Type} (f : Nat → α) (j : Nat) (x : α) : Nat → α := fun i => if i = j then x else f i
theorem RS.later {w w' : World} {base E sz m : Nat} {VV : Nat → Value} {K : Nat → Nat} {X : Nat → List Value} (h : RS w base E sz m VV K X) (b : Below w.heap.size w w') : RS w' base E sz m VV K X :=
  ⟨fun j hj => own_later (h.rows j hj) b, h.apart⟩
theorem RS.push {wx w' : World} {base E sz m : Nat} {VV : Nat → Value} {K : Nat → Nat} {X : Nat → List Value} (h : RS wx base E sz m VV K X) (j : Nat) (hj : j < m) {q cq k' : Nat} {ys : List Value}
    (hown : w'.ownsRow base E sz (.slice (some ⟨q, 0, none⟩) k' cq) k' ys) (hg : wx.grownBy w' (VV j).ownBlock) (hat : (VV j).ownBlock = some q ∨ wx.heap.size ≤ q) :
    RS w' base E sz m (upd VV j (.slice (some ⟨q, 0, none⟩) k' cq)) (upd K j k') (upd X j ys) := by
  refine ⟨fun v hv => ?_, fun u v hu hv hne g hgu hgv => ?_⟩
  · unfold upd
    by_cases e : v = j
    · rw [if_pos e, if_pos e, if_pos e]; exact hown
    · rw [if_neg e, if_neg e, if_neg e]
      refine row_typ (h.rows v hv) (fun b cur hc hb => ?_)
      exact hg.block b (Array.getElem?_eq_some_iff.1 hc).1 (fun e' => h.apart v j hv hj e b hb e'.symm)
  · unfold upd at hgu hgv
    have fresh : ∀ x, x < m → x ≠ j → (VV x).ownBlock = some q → False := fun x hx hxj hq => by
      rcases hat with h' | h'
      · exact h.apart x j hx hj hxj q hq h'
      · have := own_lt (h.rows x hx) hq; omega
    by_cases e1 : u = j
    · by_cases e2 : v = j
      · omega
      · rw [if_pos e1] at hgu
        rw [if_neg e2] at hgv
        have : q = g := by simpa [Value.ownBlock] using hgu
        subst this
        exact fresh v hv e2 hgv
    · rw [if_neg e1] at hgu
      by_cases e2 : v = j
      · rw [if_pos e2] at hgv
        have : q = g := by simpa [Value.ownBlock] using hgv
        subst this
        exact fresh u hu e1 hgu
      · rw [if_neg e2] at hgv
        exact h.apart u v hu hv hne g hgu hgv
def four {α : Type} (a b c d : α) : Nat → α := fun j => if j = 0 then a else if j = 1 then b else if j = 2 then c else d
theorem upd0 {α : Type} (a b c d x : α) : upd (four a b c d) 0 x = four x b c d := by
  funext j; unfold upd four; by_cases h : j = 0 <;> simp [h]
theorem upd1 {α : Type} (a b c d x : α) : upd (four a b c d) 1 x = four a x c d := by
  funext j; unfold upd four; by_cases h : j = 1 <;> simp [h]
theorem upd2 {α : Type} (a b c d x : α) : upd (four a b c d) 2 x = four a b x d := by
  funext j; unfold upd four; by_cases h : j = 2 <;> simp [h]
/-- Four rows, one after another grown. -/
theorem RS.congr4 {w : World} {base E sz : Nat} {V W : Nat → Value} {K J : Nat → Nat} {X Y : Nat → List Value} (h : RS w base E sz 4 V K X)
    (v0 : V 0 = W 0) (v1 : V 1 = W 1) (v2 : V 2 = W 2) (v3 : V 3 = W 3) (k0 : K 0 = J 0 ∧ X 0 = Y 0) (k1 : K 1 = J 1 ∧ X 1 = Y 1) (k2 : K 2 = J 2 ∧ X 2 = Y 2) (k3 : K 3 = J 3 ∧ X 3 = Y 3) : RS w base E sz 4 W J Y := by
  have e : ∀ j, j < 4 → V j = W j ∧ K j = J j ∧ X j = Y j := by
    intro j hj
    have : j = 0 ∨ j = 1 ∨ j = 2 ∨ j = 3 := by omega
    rcases this with rfl | rfl | rfl | rfl
    · exact ⟨v0, k0⟩
    · exact ⟨v1, k1⟩
    · exact ⟨v2, k2⟩
    · exact ⟨v3, k3⟩
  refine ⟨fun j hj => ?_, fun u v hu hv hne g hgu => ?_⟩
  · obtain ⟨e1, e2, e3⟩ := e j hj
    rw [← e1, ← e2, ← e3]
    exact h.rows j hj
  · rw [← (e u hu).1] at hgu
    rw [← (e v hv).1]
    exact h.apart u v hu hv hne g hgu
end Go.Proofs.YtjgloineooadoaaGreatDoor
/- Flows and coordinates: sums over nodes and arcs. No program in sight. -/
namespace Go.Proofs.YtjgloineooadoaaGreatDoor
def sumN (f : Nat → Int) : Nat → Int
  | 0 => 0
  | n + 1 => sumN f n + f n
theorem sumN_congr {f g : Nat → Int} : ∀ {n : Nat}, (∀ v, v < n → f v = g v) → sumN f n = sumN g n
  | 0, _ => rfl
  | n + 1, h => by simp only [sumN]; rw [sumN_congr (fun v hv => h v (by omega)), h n (by omega)]
theorem sumN_zero {f : Nat → Int} : ∀ {n : Nat}, (∀ v, v < n → f v = 0) → sumN f n = 0
  | 0, _ => rfl
  | n + 1, h => by simp only [sumN]; rw [sumN_zero (fun v hv => h v (by omega)), h n (by omega)]; rfl
theorem sumN_add (f g : Nat → Int) : ∀ n, sumN (fun v => f v + g v) n = sumN f n + sumN g n
  | 0 => rfl
  | n + 1 => by simp only [sumN]; rw [sumN_add f g n]; omega
theorem sumN_sub (f g : Nat → Int) : ∀ n, sumN (fun v => f v - g v) n = sumN f n - sumN g n
  | 0 => rfl
  | n + 1 => by simp only [sumN]; rw [sumN_sub f g n]; omega
theorem sumN_neg (f : Nat → Int) : ∀ n, sumN (fun v => -f v) n = -sumN f n
  | 0 => rfl
  | n + 1 => by simp only [sumN]; rw [sumN_neg f n]; omega
theorem sumN_le {f g : Nat → Int} : ∀ {n : Nat}, (∀ v, v < n → f v ≤ g v) → sumN f n ≤ sumN g n
  | 0, _ => Int.le_refl _
  | n + 1, h => by
    simp only [sumN]
    have := sumN_le (n := n) (fun v hv => h v (by omega))
    have := h n (by omega)
    omega
theorem sumN_nonneg {f : Nat → Int} {n : Nat} (h : ∀ v, v < n → 0 ≤ f v) : 0 ≤ sumN f n := by
  have := sumN_le (f := fun _ => 0) (g := f) (n := n) h
  rwa [sumN_zero (fun _ _ => rfl)] at this
theorem sumN_one (f : Nat → Int) {a : Nat} : ∀ {n : Nat}, a < n → (∀ v, v < n → v ≠ a → f v = 0) → sumN f n = f a
  | 0, h, _ => absurd h (by omega)
  | n + 1, h, hz => by
    simp only [sumN]
    by_cases e : a = n
    · subst e
      rw [sumN_zero (fun v hv => hz v (by omega) (by omega))]; omega
    · rw [sumN_one f (show a < n by omega) (fun v hv hne => hz v (by omega) hne), hz n (by omega) (by omega)]; omega
theorem sumN_upd (f : Nat → Int) (a : Nat) (x : Int) {n : Nat} (h : a < n) : sumN (upd f a x) n = sumN f n + (x - f a) := by
  have h1 := sumN_sub (upd f a x) f n
  have h2 := sumN_one (fun v => upd f a x v - f v) h (fun v _ hne => by simp [upd, hne])
  simp only [upd, if_true] at h2
  simp only [upd] at h1
  have e : sumN (upd f a x) n = sumN (fun v => if v = a then x else f v) n := rfl
  rw [e]
  omega
theorem sumN_pos {f : Nat → Int} : ∀ {n : Nat}, (∀ v, v < n → 0 ≤ f v) → sumN f n ≤ 0 → ∀ v, v < n → f v = 0
  | 0, _, _, v, hv => absurd hv (by omega)
  | n + 1, h, hs, v, hv => by
    simp only [sumN] at hs
    have h1 := sumN_nonneg (n := n) (fun v hv => h v (by omega))
    have h2 := h n (by omega)
    by_cases e : v = n
    · subst e; omega
    · exact sumN_pos (n := n) (fun v hv => h v (by omega)) (by omega) v (by omega)
theorem sumN_snoc_le {f : Nat → Int} {B : Int} : ∀ {n : Nat}, (∀ v, v < n → f v ≤ B) → sumN f n ≤ n * B
  | 0, _ => by simp [sumN]
  | n + 1, h => by
    simp only [sumN]
    have h1 := sumN_snoc_le (n := n) (fun v hv => h v (by omega))
    have h2 := h n (by omega)
    have e : ((n + 1 : Nat) : Int) * B = n * B + B := by rw [Int.natCast_add, Int.add_mul]; simp
    omega
/-- A graph: how many nodes, arcs; from where, to where. -/
structure Gf where
  n : Nat
  m : Nat
  fr : Nat → Nat
  tt : Nat → Nat
structure Gf.ok (G : Gf) : Prop where
  f : ∀ i, i < G.m → G.fr i < G.n
  t : ∀ i, i < G.m → G.tt i < G.n
def ind (p : Prop) [Decidable p] (k : Int) : Int := if p then k else 0
/-- What goes out of a node more than comes in. -/
def nf (G : Gf) (g : Nat → Int) (v : Nat) : Nat → Int
  | 0 => 0
  | m + 1 => nf G g v m + ind (G.fr m = v) (g m) - ind (G.tt m = v) (g m)
theorem nf_congr {G : Gf} {g h : Nat → Int} {v : Nat} : ∀ {m : Nat}, (∀ i, i < m → g i = h i) → nf G g v m = nf G h v m
  | 0, _ => rfl
  | m + 1, e => by simp only [nf]; rw [nf_congr (fun i hi => e i (by omega)), e m (by omega)]
theorem nf_upd {G : Gf} {g : Nat → Int} {v : Nat} {a : Nat} {k : Int} : ∀ {m : Nat}, a < m → nf G (upd g a (g a + k)) v m = nf G g v m + ind (G.fr a = v) k - ind (G.tt a = v) k
  | 0, h => absurd h (by omega)
  | m + 1, h => by
    simp only [nf]
    by_cases e : a = m
    · subst e
      rw [nf_congr (g := upd g a (g a + k)) (h := g) (fun i hi => by simp [upd]; omega)]
      have e2 : upd g a (g a + k) a = g a + k := by simp [upd]
      rw [e2]
      unfold ind
      split <;> split <;> omega
    · rw [nf_upd (m := m) (by omega)]
      have e2 : upd g a (g a + k) m = g m := by simp [upd]; omega
      rw [e2]
      omega
/-- Summed over nodes with weights: what the arcs make of it. -/
def arcS (G : Gf) (g : Nat → Int) (X : Nat → Int) : Nat → Int := sumN fun i => g i * (X (G.fr i) - X (G.tt i))
theorem sum_nf {G : Gf} (g X : Nat → Int) : ∀ m, (∀ i, i < m → G.fr i < G.n ∧ G.tt i < G.n) → sumN (fun v => X v * nf G g v m) G.n = arcS G g X m
  | 0, _ => by simp only [nf, arcS, sumN]; exact sumN_zero (fun v _ => by simp)
  | m + 1, h => by
    have ih := sum_nf g X m (fun i hi => h i (by omega))
    obtain ⟨h1, h2⟩ := h m (by omega)
    have e1 : sumN (fun v => X v * ind (G.fr m = v) (g m)) G.n = X (G.fr m) * g m := by
      rw [sumN_one _ h1 (fun v _ hne => by simp [ind, Ne.symm hne])]; simp [ind]
    have e2 : sumN (fun v => X v * ind (G.tt m = v) (g m)) G.n = X (G.tt m) * g m := by
      rw [sumN_one _ h2 (fun v _ hne => by simp [ind, Ne.symm hne])]; simp [ind]
    have e3 : sumN (fun v => X v * nf G g v (m + 1)) G.n = sumN (fun v => (X v * nf G g v m + X v * ind (G.fr m = v) (g m)) - X v * ind (G.tt m = v) (g m)) G.n :=
      sumN_congr (fun v _ => by simp only [nf]; rw [Int.mul_sub, Int.mul_add])
    rw [e3, sumN_sub (fun v => X v * nf G g v m + X v * ind (G.fr m = v) (g m)) (fun v => X v * ind (G.tt m = v) (g m)), sumN_add (fun v => X v * nf G g v m) (fun v => X v * ind (G.fr m = v) (g m)), ih, e1, e2]
    simp only [arcS, sumN]
    rw [Int.mul_sub, Int.mul_comm (X (G.fr m)), Int.mul_comm (X (G.tt m))]
    omega
/-- The same balance at every node: the same sum. -/
theorem arcS_same {G : Gf} (hG : G.ok) {g h : Nat → Int} (e : ∀ v, v < G.n → nf G g v G.m = nf G h v G.m) (X : Nat → Int) : arcS G g X G.m = arcS G h X G.m := by
  rw [← sum_nf g X G.m (fun i hi => ⟨hG.f i hi, hG.t i hi⟩), ← sum_nf h X G.m (fun i hi => ⟨hG.f i hi, hG.t i hi⟩)]
  exact sumN_congr (fun v hv => by rw [e v hv])
/-- No one is left: what is left anywhere could still go somewhere. -/
theorem none_left {G : Gf} (hG : G.ok) {w fl left : Nat → Int} {cl : Nat → Bool} (hw : ∀ i, i < G.m → 0 ≤ w i) (hf : ∀ i, i < G.m → 0 ≤ fl i)
    (hb : ∀ v, v < G.n → left v = nf G w v G.m - nf G fl v G.m) (ho : ∀ i, i < G.m → cl (G.fr i) = true → cl (G.tt i) = true) (hi : ∀ i, i < G.m → 0 < fl i → cl (G.tt i) = true → cl (G.fr i) = true)
    (hp : ∀ v, v < G.n → 0 < left v → cl v = true) (hn : ∀ v, v < G.n → cl v = true → 0 ≤ left v) : ∀ v, v < G.n → left v = 0 := by
  let X : Nat → Int := fun v => if cl v = true then 1 else 0
  have h1 : sumN (fun v => X v * left v) G.n = arcS G w X G.m - arcS G fl X G.m := by
    rw [← sum_nf w X G.m (fun i hi => ⟨hG.f i hi, hG.t i hi⟩), ← sum_nf fl X G.m (fun i hi => ⟨hG.f i hi, hG.t i hi⟩), ← sumN_sub]
    exact sumN_congr (fun v hv => by rw [hb v hv, Int.mul_sub])
  have h2 : arcS G fl X G.m = 0 := sumN_zero (fun i hi' => by
    have a := hf i hi'
    by_cases z : 0 < fl i
    · have o1 := ho i hi'
      have o2 := hi i hi' z
      have : X (G.fr i) - X (G.tt i) = 0 := by
        show (if cl (G.fr i) = true then (1 : Int) else 0) - (if cl (G.tt i) = true then 1 else 0) = 0
        by_cases c1 : cl (G.fr i) = true
        · rw [if_pos c1, if_pos (o1 c1)]; rfl
        · rw [if_neg c1, if_neg (fun c2 => c1 (o2 c2))]; rfl
      rw [this]; simp
    · have : fl i = 0 := by omega
      rw [this]; simp)
  have h3 : arcS G w X G.m ≤ 0 := by
    have := sumN_le (f := fun i => w i * (X (G.fr i) - X (G.tt i))) (g := fun _ => 0) (n := G.m) (fun i hi' => by
      have o1 := ho i hi'
      have : X (G.fr i) - X (G.tt i) ≤ 0 := by
        show (if cl (G.fr i) = true then (1 : Int) else 0) - (if cl (G.tt i) = true then 1 else 0) ≤ 0
        by_cases c1 : cl (G.fr i) = true
        · rw [if_pos c1, if_pos (o1 c1)]; decide
        · rw [if_neg c1]; split <;> decide
      exact Int.mul_nonpos_of_nonneg_of_nonpos (hw i hi') this)
    rwa [sumN_zero (fun _ _ => rfl)] at this
  have h4 : ∀ v, v < G.n → X v * left v = 0 := sumN_pos (fun v hv => by
    show 0 ≤ (if cl v = true then (1 : Int) else 0) * left v
    split
    · have := hn v hv (by assumption); omega
    · simp) (by omega)
  have h5 : ∀ v, v < G.n → left v ≤ 0 := fun v hv => by
    by_cases h : 0 < left v
    · have h6 := h4 v hv
      have h7 : X v = 1 := if_pos (hp v hv h)
      rw [h7] at h6
      omega
    · omega
  have h6 : sumN left G.n = 0 := by
    have a1 := sum_nf (G := G) w (fun _ => 1) G.m (fun i hi => ⟨hG.f i hi, hG.t i hi⟩)
    have a2 := sum_nf (G := G) fl (fun _ => 1) G.m (fun i hi => ⟨hG.f i hi, hG.t i hi⟩)
    have z : ∀ g : Nat → Int, arcS G g (fun _ => 1) G.m = 0 := fun g => sumN_zero (fun i _ => by simp)
    rw [z] at a1 a2
    have : sumN left G.n = sumN (fun v => 1 * nf G w v G.m - 1 * nf G fl v G.m) G.n := sumN_congr (fun v hv => by rw [hb v hv]; omega)
    rw [this, sumN_sub, a1, a2]
    rfl
  intro v hv
  have := sumN_pos (f := fun v => -left v) (n := G.n) (fun v hv => by have := h5 v hv; omega) (by rw [sumN_neg]; omega) v hv
  omega
end Go.Proofs.YtjgloineooadoaaGreatDoor
