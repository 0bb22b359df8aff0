/- The document's own ranks. -/
import Derived.Test.YtimffpnfhkobkaaRkA
namespace Go.Proofs.Ytimffpnfhkobkaa
open Go.RowKit
def disS (z : Int) (l : List Int) (x : Int) : List Int := if z ≤ x ∨ x ∈ l then l else l ++ [x]
def dis (z : Int) (zs : List Int) : List Int := zs.foldl (disS z) []
theorem dis_take {z : Int} {zs : List Int} {k : Nat} {x : Int} (h : zs[k]? = some x) : dis z (zs.take (k + 1)) = disS z (dis z (zs.take k)) x := by
  obtain ⟨h1, h2⟩ := List.getElem?_eq_some_iff.1 h
  rw [List.take_succ_eq_append_getElem h1, h2]
  simp [dis, List.foldl_append]
theorem dis_fold (z : Int) : ∀ (zs acc : List Int), (acc.Nodup → (zs.foldl (disS z) acc).Nodup) ∧ (∀ x, x ∈ zs.foldl (disS z) acc ↔ x ∈ acc ∨ (x ∈ zs ∧ x < z)) ∧ (zs.foldl (disS z) acc).length ≤ acc.length + zs.length
  | [], acc => by simp
  | y :: zs, acc => by
    obtain ⟨h1, h2, h3⟩ := dis_fold z zs (disS z acc y)
    simp only [List.foldl_cons]
    by_cases h : z ≤ y ∨ y ∈ acc
    · have e : disS z acc y = acc := if_pos h
      rw [e] at h1 h2 h3 ⊢
      refine ⟨h1, fun x => ?_, by simp only [List.length_cons]; omega⟩
      rw [h2]
      constructor
      · rintro (h' | h')
        · exact .inl h'
        · exact .inr ⟨by simp [h'.1], h'.2⟩
      · rintro (h' | ⟨h', h''⟩)
        · exact .inl h'
        · rcases List.mem_cons.1 h' with rfl | h'
          · rcases h with h | h
            · omega
            · exact .inl h
          · exact .inr ⟨h', h''⟩
    · have e : disS z acc y = acc ++ [y] := if_neg h
      rw [e] at h1 h2 h3 ⊢
      have hy : y < z ∧ y ∉ acc := ⟨by have := fun q => h (.inl q); omega, fun q => h (.inr q)⟩
      refine ⟨fun hn => h1 ?_, fun x => ?_, by simp only [List.length_append, List.length_cons, List.length_nil] at *; omega⟩
      · rw [List.nodup_append]
        refine ⟨hn, by simp, fun a ha b hb => ?_⟩
        have : b = y := by simpa using hb
        subst this
        rintro rfl
        exact hy.2 ha
      · rw [h2, List.mem_append]
        constructor
        · rintro ((h' | h') | h')
          · exact .inl h'
          · have : x = y := by simpa using h'
            subst this
            exact .inr ⟨by simp, hy.1⟩
          · exact .inr ⟨by simp [h'.1], h'.2⟩
        · rintro (h' | ⟨h', h''⟩)
          · exact .inl (.inl h')
          · rcases List.mem_cons.1 h' with rfl | h'
            · exact .inl (.inr (by simp))
            · exact .inr ⟨h', h''⟩
theorem dis_rk (z : Int) (zs : List Int) : rkOf zs z = ((dis z zs).length : Nat) := by
  obtain ⟨h1, h2, _⟩ := dis_fold z zs []
  refine rk_unique (h1 List.nodup_nil) (fun x => ?_)
  show x ∈ List.foldl (disS z) [] zs ↔ _
  rw [h2]
  simp
theorem dis_len (z : Int) (zs : List Int) : (dis z zs).length ≤ zs.length := by
  have h : (List.foldl (disS z) [] zs).length ≤ ([] : List Int).length + zs.length := (dis_fold z zs []).2.2
  have e : dis z zs = List.foldl (disS z) [] zs := rfl
  rw [e]
  simp only [List.length_nil] at h
  omega
theorem map_take {f : Int → Int} {zs : List Int} {k : Nat} {x : Int} (h : zs[k]? = some x) : (zs.take (k + 1)).map f = (zs.take k).map f ++ [f x] := by
  obtain ⟨h1, h2⟩ := List.getElem?_eq_some_iff.1 h
  rw [List.take_succ_eq_append_getElem h1, h2, List.map_append]
  rfl
theorem mem_take_succ {D : List Int} {j : Nat} {y x : Int} (h : D[j]? = some y) : x ∈ D.take (j + 1) ↔ x ∈ D.take j ∨ x = y := by
  obtain ⟨h1, h2⟩ := List.getElem?_eq_some_iff.1 h
  rw [List.take_succ_eq_append_getElem h1, h2, List.mem_append]
  simp
set_option maxRecDepth 100000 in
set_option maxHeartbeats 4000000 in
theorem refRanks_any {w : World} {V : Value} {zs : List Int} (h : Ints w V zs) (hl : zs.length ≤ 1000000) :
    Calls Try.prog 26 #[V] w fun e w' => ∃ V', e = .returned V' ∧ Ints w' V' (zs.map (rkOf zs)) ∧ Below w.heap.size w w' := by
  obtain ⟨A, cap, rfl, -, -, hA⟩ := h.at_
  have HA := Lib.hid hA
  clear h hA
  obtain ⟨i0, hi0, hz0, hz1, hz2⟩ := info_parts infoInt
  go_enter Try.func26, Try.ntmps26
  go_wp2_with fail
  go_loopw [3, 4] (fun Vo q wr => ∃ i : Nat, i ≤ zs.length ∧ q = .int .i64 i ∧ wr.ownsRow w.heap.size 3 1 Vo i (flat encI ((zs.take i).map (rkOf zs))) ∧ Below w.heap.size w wr) (fun _ q _ => zs.length - (intOf q).toNat)
  case atStart => exact ⟨0, by omega, rfl, World.ownsRow_nil _ _ _ _, Below.refl _ _⟩
  case round => as_aux_lemma =>
    obtain ⟨i, hi, rfl, R, B⟩ := hrel
    obtain ⟨Vo, rfl⟩ : ∃ x : Value, x = u3 := ⟨_, rfl⟩
    obtain ⟨wo, rfl⟩ : ∃ x : World, x = wr := ⟨_, rfl⟩
    obtain ⟨AO, cO, rfl, -⟩ := own_shape R
    have HR := Lib.hid R
    have HB := Lib.hid B
    have hwo := B.size
    clear R B
    by_cases hil : i < zs.length
    · have hd1 : decide ((i : Int) < zs.length) = true := by simp; omega
      obtain ⟨b, off, rfl, hc⟩ := HA.out (by omega)
      obtain ⟨z, hz⟩ : ∃ z, zs[i]? = some z := ⟨_, List.getElem?_eq_getElem hil⟩
      have HC := Lib.hid hc
      have HZ := Lib.hid (cell_later HB.out (hc i z hz))
      have HStep := Lib.hid (map_take (f := rkOf zs) hz)
      clear hc hz
      go_wp2_with fail
      go_loopw [5, 6] (fun Vl q wk => ∃ k : Nat, k ≤ zs.length ∧ q = .int .i64 k ∧ wk.ownsRow wo.heap.size 3 1 Vl (dis z (zs.take k)).length (flat encI (dis z (zs.take k))) ∧ Below wo.heap.size wo wk) (fun _ q _ => zs.length - (intOf q).toNat)
      case atStart => exact ⟨0, by omega, rfl, World.ownsRow_nil _ _ _ _, Below.refl _ _⟩
      case round => as_aux_lemma =>
        obtain ⟨k, hk, rfl, R, B⟩ := hrel
        obtain ⟨Vl, rfl⟩ : ∃ x : Value, x = u5 := ⟨_, rfl⟩
        obtain ⟨wk, rfl⟩ : ∃ x : World, x = wr := ⟨_, rfl⟩
        obtain ⟨D, hD⟩ : ∃ D, dis z (zs.take k) = D := ⟨_, rfl⟩
        have hDl : D.length ≤ zs.length := by rw [← hD]; have := dis_len z (zs.take k); rw [List.length_take] at this; omega
        have HD := Lib.hid hD
        rw [hD] at R
        clear hD
        obtain ⟨AV, cV, rfl, -⟩ := own_shape R
        have HRl := Lib.hid R
        have HBk := Lib.hid B
        have hwk := B.size
        clear R B
        by_cases hkl : k < zs.length
        · have hd2 : decide ((k : Int) < zs.length) = true := by simp; omega
          obtain ⟨x, hx⟩ : ∃ x, zs[k]? = some x := ⟨_, List.getElem?_eq_getElem hkl⟩
          have c0 := cell_later HBk.out (cell_later HB.out (HC.out k x hx))
          have c1 := cell_later HBk.out HZ.out
          have HDS := Lib.hid (dis_take (z := z) hx)
          have k1 : (0 : Int) ≤ (k : Int) := by omega
          have k2 : (k : Int) < (zs.length : Int) := by omega
          have k3 : (0 : Int) ≤ (i : Int) := by omega
          have k4 : (i : Int) < (zs.length : Int) := by omega
          clear hx
          obtain ⟨ge, hge⟩ : ∃ ge, decide (z ≤ x) = ge := ⟨_, rfl⟩
          go_wp2_with fail
          go_quiet (fail)
          go_wp2_with fail
          have HGE := Lib.hid hge
          clear hge
          obtain ⟨wx, hwx⟩ : ∃ wx, wk.drewN nq = wx := ⟨_, rfl⟩
          have HBx : Hid (Below wk.heap.size wk wx) := Lib.hid (by rw [← hwx]; exact below_drewN (Below.refl _ _) nq)
          have HRx := Lib.hid (own_later HRl.out HBx.out)
          have HBo := Lib.hid (below_then HBk.out hwk HBx.out)
          have c0x := cell_later HBx.out c0
          have hwx2 := HBo.out.size
          rw [hwx]
          clear hwx HRl HBk c0 c1
          have HIx := Lib.hid (Sl.of_own encI_length HRx.out : Ints wx (.slice AV D.length cV) D)
          obtain ⟨_, _, e, -, -, hDc⟩ := Ints.at_ HIx.out
          cases e
          have HDC := Lib.hid hDc
          clear hDc
          go_loopw [7, 8] (fun m q wj => ∃ (j : Nat) (mb : Bool), j ≤ D.length ∧ q = .int .i64 j ∧ m = .bool mb ∧ Hid (mb = decide (z ≤ x ∨ x ∈ D.take j)) ∧ Below wx.heap.size wx wj) (fun _ q _ => D.length - (intOf q).toNat)
          case atStart => exact ⟨0, ge, by omega, rfl, rfl, Lib.hid (by rw [← HGE.out]; simp), Below.refl _ _⟩
          case round => as_aux_lemma =>
            obtain ⟨j, mb, hj, rfl, rfl, hm, B⟩ := hrel
            obtain ⟨wj, rfl⟩ : ∃ x : World, x = wr := ⟨_, rfl⟩
            have HBj := Lib.hid B
            have hwj := B.size
            have cxj := cell_later B c0x
            have HRj := Lib.hid (own_later HRx.out B)
            have HBoj := Lib.hid (below_then HBo.out hwx2 B)
            clear B c0x
            by_cases hjl : j < D.length
            · have hd3 : decide ((j : Int) < D.length) = true := by simp; omega
              cases mb
              · obtain ⟨g, o2, rfl, hDc⟩ := HDC.out (by omega)
                obtain ⟨y, hy⟩ : ∃ y, D[j]? = some y := ⟨_, List.getElem?_eq_getElem hjl⟩
                have cy := cell_later HBj.out (hDc j y hy)
                have HY := Lib.hid (mem_take_succ (x := x) hy)
                have j1 : (0 : Int) ≤ (j : Int) := by omega
                have j2 : (j : Int) < (D.length : Int) := by omega
                clear hDc hy
                obtain ⟨q, hq⟩ : ∃ q, (y == x) = q := ⟨_, rfl⟩
                go_wp2_with fail
                go_quiet (fail)
                go_wp2_with fail
                refine ⟨⟨j + 1, q, by omega, by go_num, rfl, Lib.hid ?_, below_drewN HBj.out _⟩, by simp [intOf]; omega⟩
                have h1 : ¬ (z ≤ x ∨ x ∈ D.take j) := by have := hm.out; simpa using this.symm
                rw [← hq, Bool.eq_iff_iff]
                simp only [beq_iff_eq, decide_eq_true_eq]
                constructor
                · rintro rfl
                  exact .inr (HY.out.2 (.inr rfl))
                · rintro (h2 | h2)
                  · exact absurd (.inl h2) h1
                  · rcases HY.out.1 h2 with h2 | h2
                    · exact absurd (.inr h2) h1
                    · exact h2.symm
              · have hin : z ≤ x ∨ x ∈ D := by
                  have : z ≤ x ∨ x ∈ D.take j := by simpa using hm.out.symm
                  rcases this with h | h
                  · exact .inl h
                  · exact .inr (List.mem_of_mem_take h)
                have HEQ : Hid (dis z (zs.take (k + 1)) = D) := Lib.hid (by rw [HDS.out, HD.out]; exact if_pos hin)
                go_wp2_with fail
                refine ⟨⟨k + 1, by omega, by go_num, ?_, HBoj.out⟩, by simp [intOf]; omega⟩
                rw [HEQ.out]
                exact HRj.out
            · obtain rfl : j = D.length := by omega
              have hd3 : decide ((D.length : Int) < D.length) = false := by simp
              rw [List.take_of_length_le (Nat.le_refl _)] at hm
              cases mb
              · have hnin : ¬ (z ≤ x ∨ x ∈ D) := by simpa using hm.out.symm
                have HEQ : Hid (dis z (zs.take (k + 1)) = D ++ [x]) := Lib.hid (by rw [HDS.out, HD.out]; exact if_neg hnin)
                clear hnin
                go_wp2_with (refine wpList_append_lies _ rfl (.tmp 51) (.tmp 56) 26 rfl wo.heap.size 3 i0 (.int .i64 0) 1 8 Try.underlying26 hi0 hz0 hz1 hz2 rfl (by decide) (.slice AV D.length cV) D.length (flat encI D) rfl (own_later HRj.out ((Below.refl _ _).alloc (Nat.le_refl _) _)) ⟨wj.heap.size, 0, none⟩ 1 1 (encI x) rfl rfl (World.news_of_block (heap_at rfl)) (by intro u hu; simp [encI] at hu; subst hu; rfl) (by omega) (by simp only [maxLen]; omega) (by omega) (by simp; omega) _ rfl ?_; intro g cq w3 hown hgrow hat hlt)
                have HB4 := (HBoj.out.alloc (by omega) (.cells (encI x).toArray 3)).grown hgrow (by simp; omega) (fun q hq => own_ge HRj.out hq)
                refine ⟨⟨k + 1, by omega, by go_num, ?_, HB4⟩, by simp [intOf]; omega⟩
                rw [HEQ.out, flat_append, List.length_append]
                simpa [flat] using hown
              · have hin : z ≤ x ∨ x ∈ D := by simpa using hm.out.symm
                have HEQ : Hid (dis z (zs.take (k + 1)) = D) := Lib.hid (by rw [HDS.out, HD.out]; exact if_pos hin)
                go_wp2_with fail
                refine ⟨⟨k + 1, by omega, by go_num, ?_, HBoj.out⟩, by simp [intOf]; omega⟩
                rw [HEQ.out]
                exact HRj.out
        · obtain rfl : k = zs.length := by omega
          have hd2 : decide ((zs.length : Int) < zs.length) = false := by simp
          have HE := Lib.hid (dis_rk z zs)
          rw [List.take_of_length_le (Nat.le_refl _)] at HD
          have HR2 := Lib.hid (own_later HR.out HBk.out)
          go_wp2_with (refine wpList_append_lies _ rfl (.tmp 58) (.tmp 61) 26 rfl w.heap.size 3 i0 (.int .i64 0) 1 8 Try.underlying26 hi0 hz0 hz1 hz2 rfl (by decide) (.slice AO i cO) i (flat encI ((zs.take i).map (rkOf zs))) rfl (own_later HR2.out ((Below.refl _ _).alloc (Nat.le_refl _) _)) ⟨wk.heap.size, 0, none⟩ 1 1 (encI (D.length : Int)) rfl rfl (World.news_of_block (heap_at rfl)) (by intro u hu; simp [encI] at hu; subst hu; rfl) (by omega) (by simp only [maxLen]; omega) (by omega) (by simp; omega) _ rfl ?_; intro g cq w3 hown hgrow hat hlt)
          have HB4 := ((HB.out.trans (HBk.out.mono hwo)).alloc (by omega) (.cells (encI (D.length : Int)).toArray 3)).grown hgrow (by simp; omega) (fun q hq => own_ge HR2.out hq)
          refine ⟨⟨i + 1, by omega, by go_num, ?_, HB4⟩, by simp [intOf]; omega⟩
          rw [HStep.out, HE.out, HD.out, flat_append]
          simpa [flat] using hown
    · obtain rfl : i = zs.length := by omega
      have hd1 : decide ((zs.length : Int) < zs.length) = false := by simp
      have R := HR.out
      rw [List.take_of_length_le (Nat.le_refl _)] at R
      have HI := Lib.hid (Sl.of_own encI_length (by rw [List.length_map]; exact R) : Ints wo (.slice AO zs.length cO) (zs.map (rkOf zs)))
      clear R
      go_wp2_with fail
      go_ret
      exact ⟨_, rfl, HI.out, HB.out⟩
end Go.Proofs.Ytimffpnfhkobkaa
