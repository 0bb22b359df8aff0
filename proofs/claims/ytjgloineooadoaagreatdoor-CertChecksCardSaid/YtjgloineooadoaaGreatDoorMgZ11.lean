/- The graph that plain data make. -/
import Derived.Test.YtjgloineooadoaaGreatDoorMgZ10
namespace Go.Proofs.YtjgloineooadoaaGreatDoor
open Go.RowKit
abbrev Tri := Nat × Nat × Nat
def encT (t : Tri) : List Value := [.int .u8 (t.1 : Nat), .int .u8 (t.2.1 : Nat), .int .u8 (t.2.2 : Nat)]
theorem encT_length (t : Tri) : (encT t).length = 3 := rfl
def Small (T : List Tri) : Prop := ∀ t ∈ T, t.1 ≤ 255 ∧ t.2.1 ≤ 255 ∧ t.2.2 ≤ 255
abbrev Tris (w : World) (V : Value) (T : List Tri) : Prop := Sl 3 encT w V T
def mkA (n : Nat) (t : Tri) : List Arc := if t.1 % n = t.2.1 % n then [] else [((min (t.1 % n) (t.2.1 % n) : Nat), (max (t.1 % n) (t.2.1 % n) : Nat), (t.2.2 % 8 : Nat))]
def mkL (n : Nat) (T : List Tri) : List Arc := T.flatMap (mkA n)
def mkN (N most : Nat) : Nat := 1 + N % most
def makeL (N most : Nat) (T : List Tri) : List Arc := mkL (mkN N most) (T.take 40)
theorem mkL_take {n : Nat} {T : List Tri} {i : Nat} {t : Tri} (h : T[i]? = some t) : mkL n (T.take (i + 1)) = mkL n (T.take i) ++ mkA n t := by
  obtain ⟨h1, h2⟩ := List.getElem?_eq_some_iff.1 h
  rw [List.take_succ_eq_append_getElem h1, h2]
  simp [mkL]
theorem mkL_length (n : Nat) (T : List Tri) : (mkL n T).length ≤ T.length := by
  induction T with
  | nil => simp [mkL]
  | cons t T ih =>
    simp only [mkL, List.flatMap_cons, List.length_append, List.length_cons] at *
    have : (mkA n t).length ≤ 1 := by unfold mkA; split <;> simp
    omega
theorem Tris.at_ {w : World} {V : Value} {T : List Tri} (h : Tris w V T) : ∃ A cap, V = .slice A T.length cap ∧ T.length ≤ cap ∧
    (0 < T.length → ∃ b off, A = some ⟨b, off, none⟩ ∧ ∀ i t, T[i]? = some t → w.cell? ⟨b, off + i * 3, none⟩ = some (.int .u8 (t.1 : Nat)) ∧ w.cell? ⟨b, off + i * 3 + 1, none⟩ = some (.int .u8 (t.2.1 : Nat)) ∧ w.cell? ⟨b, off + i * 3 + 2, none⟩ = some (.int .u8 (t.2.2 : Nat))) := by
  obtain ⟨A, cap, e, h1, h2, h⟩ := h
  refine ⟨A, cap, e, h1, fun hl => ?_⟩
  obtain ⟨b, off, e2, hc⟩ := h hl
  exact ⟨b, off, e2, fun i t hi => ⟨hc i t hi 0 _ rfl, hc i t hi 1 _ rfl, hc i t hi 2 _ rfl⟩⟩
theorem info_arcM : (Tryz.prog.info? 40).map (fun i => (i.zero, i.size, i.bytes)) = some (some (.agg #[.int .i64 0, .int .i64 0, .int .i64 0]), 3, 24) := by kernel_rfl
set_option maxRecDepth 100000 in
set_option maxHeartbeats 2000000 in
theorem make_any {w : World} {V : Value} {T : List Tri} (N most : Nat) (hN : N ≤ 255) (hm : 0 < most) (hm2 : most ≤ 1000) (h : Tris w V T) (hs : Small T) (hl : T.length ≤ 1000000000000000) :
    Calls Tryz.prog 7 #[.agg #[.int .u8 (N : Int), V], .int .i64 (most : Int)] w fun e w' => ∃ V', e = .returned (.tuple #[.int .i64 (mkN N most : Nat), V']) ∧ w'.ownsRow (w.heap.size + 1) 40 3 V' (makeL N most T).length (flat encA (makeL N most T)) ∧ Below w.heap.size w w' := by
  have HH := Lib.hid h
  have HS := Lib.hid hs
  obtain ⟨A, cap, rfl, -, hA⟩ := h.at_
  have HA := Lib.hid hA
  clear h hA hs
  have en : (N : Int).tmod (most : Int) = ((N % most : Nat) : Int) := by rw [Int.tmod_eq_emod_of_nonneg (by omega)]; rfl
  have hnm : N % most < most := Nat.mod_lt _ hm
  have hmz : (most : Int) ≠ 0 := by omega
  obtain ⟨r, hr⟩ : ∃ r, N % most = r := ⟨_, rfl⟩
  rw [hr] at en hnm
  have HN : Hid (mkN N most = 1 + r) := Lib.hid (by unfold mkN; rw [hr])
  clear hr
  go_enter Tryz.func7, Tryz.ntmps7
  go_wp2_with fail
  obtain ⟨w0, hw0⟩ : ∃ w0, w.alloc (.cells #[.int .u8 (N : Int), .slice A T.length cap] 24) = w0 := ⟨_, rfl⟩
  rw [hw0]
  have hs0 : w0.heap.size = w.heap.size + 1 := by rw [← hw0]; simp
  have HB0 : Hid (Below w.heap.size w w0) := Lib.hid (by rw [← hw0]; exact (Below.refl _ _).alloc (Nat.le_refl _) _)
  have HX : Hid (w0.heap[w.heap.size]? = some (.cells #[.int .u8 (N : Int), .slice A T.length cap] 24)) := Lib.hid (by rw [← hw0]; exact heap_at rfl)
  have HT : Hid (0 < T.length → ∃ b off, A = some ⟨b, off, none⟩ ∧ ∀ i t, T[i]? = some t → w0.cell? ⟨b, off + i * 3, none⟩ = some (.int .u8 (t.1 : Nat)) ∧ w0.cell? ⟨b, off + i * 3 + 1, none⟩ = some (.int .u8 (t.2.1 : Nat)) ∧ w0.cell? ⟨b, off + i * 3 + 2, none⟩ = some (.int .u8 (t.2.2 : Nat))) := Lib.hid (fun hp => by
    obtain ⟨b, off, e, hc⟩ := HA.out hp
    exact ⟨b, off, e, fun i t hi => ⟨cell_later HB0.out (hc i t hi).1, cell_later HB0.out (hc i t hi).2.1, cell_later HB0.out (hc i t hi).2.2⟩⟩)
  clear hw0 HA HH en hmz
  obtain ⟨n, hn⟩ : ∃ n : Nat, 1 + r = n := ⟨_, rfl⟩
  have hni : (1 : Int) + (r : Int) = (n : Int) := by omega
  go_loopw [7, 8] (fun Vl q wr => ∃ i : Nat, i ≤ T.length ∧ i ≤ 40 ∧ q = .int .i64 i ∧ wr.ownsRow (w.heap.size + 1) 40 3 Vl (mkL n (T.take i)).length (flat encA (mkL n (T.take i))) ∧ Below w0.heap.size w0 wr) (fun _ q _ => T.length - (intOf q).toNat)
  case atStart => exact ⟨0, by omega, by omega, rfl, World.ownsRow_nil _ _ _ _, Below.refl _ _⟩
  case round => as_aux_lemma =>
    obtain ⟨i, hi, hi4, rfl, R, B⟩ := hrel
    obtain ⟨Vl, rfl⟩ : ∃ x : Value, x = u7 := ⟨_, rfl⟩
    obtain ⟨wo, rfl⟩ : ∃ x : World, x = wr := ⟨_, rfl⟩
    obtain ⟨AV, cV, rfl, -⟩ := own_shape R
    have HR := Lib.hid R
    have HB := Lib.hid B
    have hX := (HB.out.block w.heap.size (by omega)).trans HX.out
    have cX : wo.cell? ⟨w.heap.size, 1, none⟩ = some (.slice A T.length cap) := (Cl.of_block hX (j := 1) rfl).cell
    clear R B hX
    by_cases hil : i < T.length ∧ i < 40
    · have hd1 : decide ((i : Int) < T.length) = true := by simp; omega
      have hd2 : decide ((i : Int) < 40) = true := by simp; omega
      obtain ⟨b, off, rfl, hc⟩ := HT.out (by omega)
      obtain ⟨t, ht⟩ : ∃ t, T[i]? = some t := ⟨_, List.getElem?_eq_getElem hil.1⟩
      have HStep := Lib.hid (mkL_take (n := n) ht)
      have hsm := HS.out t (List.mem_of_getElem? ht)
      obtain ⟨c0, c1, c2⟩ := hc i t ht
      have c0 := cell_later HB.out c0
      have c1 := cell_later HB.out c1
      have c2 := cell_later HB.out c2
      obtain ⟨a, b2, c⟩ := t
      simp only at c0 c1 c2 hsm
      have i1 : (0 : Int) ≤ (i : Int) := by omega
      have i2 : (i : Int) < (T.length : Int) := by omega
      clear hc ht
      have ea : (a : Int) % (n : Int) = ((a % n : Nat) : Int) := rfl
      have eb : (b2 : Int) % (n : Int) = ((b2 % n : Nat) : Int) := rfl
      have ec : (c : Int) % 8 = ((c % 8 : Nat) : Int) := rfl
      have hna : a % n < n := Nat.mod_lt _ (by omega)
      have hnb : b2 % n < n := Nat.mod_lt _ (by omega)
      obtain ⟨x, hx⟩ : ∃ x, a % n = x := ⟨_, rfl⟩
      obtain ⟨y, hy⟩ : ∃ y, b2 % n = y := ⟨_, rfl⟩
      obtain ⟨z, hz⟩ : ∃ z, c % 8 = z := ⟨_, rfl⟩
      rw [hx] at ea hna
      rw [hy] at eb hnb
      rw [hz] at ec
      have hz8 : z < 8 := by rw [← hz]; exact Nat.mod_lt _ (by omega)
      have HM : Hid (mkA n (a, b2, c) = if x = y then [] else [(((min x y : Nat) : Int), ((max x y : Nat) : Int), ((z : Nat) : Int))]) := Lib.hid (by unfold mkA; simp only [hx, hy, hz])
      clear hx hy hz
      rcases Nat.lt_trichotomy x y with hxy | hxy | hxy
      · have d1 : decide ((y : Int) < (x : Int)) = false := by simp; omega
        have d2 : decide ((x : Int) < (y : Int)) = true := by simp; omega
        have HM1 : Hid (mkA n (a, b2, c) = [((x : Int), (y : Int), (z : Int))]) := Lib.hid (by rw [HM.out, if_neg (by omega), Nat.min_eq_left (by omega), Nat.max_eq_right (by omega)])
        obtain ⟨i0, hi0, hz0, hz1, hz2⟩ := info_parts info_arcM
        have hTl : (mkL n (T.take i)).length ≤ 40 := by have := mkL_length n (T.take i); rw [List.length_take] at this; omega
        go_wp2_with (refine wpList_append_lies _ rfl (.tmp 56) (.tmp 68) 26 rfl (w.heap.size + 1) 40 i0 (.agg #[.int .i64 0, .int .i64 0, .int .i64 0]) 3 24 Tryz.underlying26 hi0 hz0 hz1 hz2 rfl (by decide) (.slice AV (mkL n (T.take i)).length cV) (mkL n (T.take i)).length (flat encA (mkL n (T.take i))) rfl (own_later HR.out ((Below.refl _ _).alloc (Nat.le_refl _) _)) ⟨wo.heap.size, 0, none⟩ 1 1 (encA ((x : Int), (y : Int), (z : Int))) rfl rfl (World.news_of_block (heap_at rfl)) (by intro u hu; simp [encA] at hu; rcases hu with rfl | rfl | rfl <;> rfl) (by omega) (by simp only [maxLen]; omega) (by omega) (by have := HB.out.size; simp; omega) _ rfl ?_; intro g cq w3 hown hgrow hat hlt)
        have HB4 := (HB.out.alloc HB.out.size (.cells (flat encA [((x : Int), (y : Int), (z : Int))]).toArray 40)).grown hgrow (by have := HB.out.size; simp; omega) (fun q hq => by have := own_ge HR.out hq; omega)
        refine ⟨⟨i + 1, by omega, by omega, by go_num, ?_, by rw [hs0] at HB4; exact HB4⟩, by simp [intOf]; omega⟩
        rw [HStep.out, HM1.out, flat_append, List.length_append]
        simpa [flat] using hown
      · have d1 : decide ((y : Int) < (x : Int)) = false := by simp; omega
        have d2 : decide ((x : Int) < (y : Int)) = false := by simp; omega
        have HM0 := Lib.hid (HM.out.trans (if_pos hxy))
        go_wp2_with fail
        refine ⟨⟨i + 1, by omega, by omega, by go_num, ?_, HB.out⟩, by simp [intOf]; omega⟩
        rw [HStep.out, HM0.out, List.append_nil]
        exact HR.out
      · have d1 : decide ((y : Int) < (x : Int)) = true := by simp; omega
        have HM1 : Hid (mkA n (a, b2, c) = [((y : Int), (x : Int), (z : Int))]) := Lib.hid (by rw [HM.out, if_neg (by omega), Nat.min_eq_right (by omega), Nat.max_eq_left (by omega)])
        obtain ⟨i0, hi0, hz0, hz1, hz2⟩ := info_parts info_arcM
        have hTl : (mkL n (T.take i)).length ≤ 40 := by have := mkL_length n (T.take i); rw [List.length_take] at this; omega
        go_wp2_with (refine wpList_append_lies _ rfl (.tmp 56) (.tmp 68) 26 rfl (w.heap.size + 1) 40 i0 (.agg #[.int .i64 0, .int .i64 0, .int .i64 0]) 3 24 Tryz.underlying26 hi0 hz0 hz1 hz2 rfl (by decide) (.slice AV (mkL n (T.take i)).length cV) (mkL n (T.take i)).length (flat encA (mkL n (T.take i))) rfl (own_later HR.out ((Below.refl _ _).alloc (Nat.le_refl _) _)) ⟨wo.heap.size, 0, none⟩ 1 1 (encA ((y : Int), (x : Int), (z : Int))) rfl rfl (World.news_of_block (heap_at rfl)) (by intro u hu; simp [encA] at hu; rcases hu with rfl | rfl | rfl <;> rfl) (by omega) (by simp only [maxLen]; omega) (by omega) (by have := HB.out.size; simp; omega) _ rfl ?_; intro g cq w3 hown hgrow hat hlt)
        have HB4 := (HB.out.alloc HB.out.size (.cells (flat encA [((y : Int), (x : Int), (z : Int))]).toArray 40)).grown hgrow (by have := HB.out.size; simp; omega) (fun q hq => by have := own_ge HR.out hq; omega)
        refine ⟨⟨i + 1, by omega, by omega, by go_num, ?_, by rw [hs0] at HB4; exact HB4⟩, by simp [intOf]; omega⟩
        rw [HStep.out, HM1.out, flat_append, List.length_append]
        simpa [flat] using hown
    · have HE : Hid (makeL N most T = mkL n (T.take i)) := Lib.hid (by
        unfold makeL
        rw [HN.out, hn]
        congr 1
        by_cases h : i < T.length
        · have : i = 40 := by omega
          rw [this]
        · rw [List.take_of_length_le (by omega), List.take_of_length_le (by omega)])
      have HN2 : Hid ((mkN N most : Nat) = n) := Lib.hid (by rw [HN.out, hn])
      by_cases h : i < T.length
      · have hd1 : decide ((i : Int) < T.length) = true := by simp; omega
        have hd2 : decide ((i : Int) < 40) = false := by simp; omega
        go_wp2_with fail
        refine bodyPost_ret (v := .tuple #[.int .i64 (n : Int), .slice AV (mkL n (T.take i)).length cV]) (by simp [results, Tryz.results7, go_sem, hni]) rfl ?_
        exact ⟨_, by rw [HN2.out], by rw [HE.out]; exact HR.out, HB0.out.trans (HB.out.mono (by omega))⟩
      · have hd1 : decide ((i : Int) < T.length) = false := by simp; omega
        go_wp2_with fail
        refine bodyPost_ret (v := .tuple #[.int .i64 (n : Int), .slice AV (mkL n (T.take i)).length cV]) (by simp [results, Tryz.results7, go_sem, hni]) rfl ?_
        exact ⟨_, by rw [HN2.out], by rw [HE.out]; exact HR.out, HB0.out.trans (HB.out.mono (by omega))⟩
#print axioms make_any
end Go.Proofs.YtjgloineooadoaaGreatDoor
