/- dag.Ranks: each number's rank among them all. -/
import Derived.Test.YtimffpnfhkobkaaRanksB
namespace Go.Proofs.Ytimffpnfhkobkaa
open Go.RowKit Go.Shelf Go.Sort
theorem compact_sub (zs : List Int) : (Lib.compact zs).Sublist zs := by
  have e : (List.range zs.length).map (zs.toArray[·]!) = zs := by
    apply List.ext_getElem
    · simp
    · intro i h1 h2
      simp [h2]
  have h : (Lib.compact zs).Sublist ((List.range zs.length).map (zs.toArray[·]!)) := List.filter_sublist.map _
  rwa [e] at h
theorem srt_sorted (zs : List Int) : (srt zs).Pairwise (· ≤ ·) := by
  have := List.pairwise_mergeSort (le := fun (x y : Int) => decide (x ≤ y)) (fun a b c h1 h2 => by simp at *; omega) (fun a b => by simp; omega) zs
  exact this.imp (fun h => by simpa using h)
def rks (zs : List Int) : List Int := Lib.compact (srt zs)
theorem rks_sorted (zs : List Int) : (rks zs).Pairwise (· ≤ ·) := (srt_sorted zs).sublist (compact_sub _)
theorem rks_length (zs : List Int) : (rks zs).length ≤ zs.length := by
  have := (compact_sub (srt zs)).length_le
  rw [srt_length] at this
  exact this
def rkOf (zs : List Int) (x : Int) : Int := ((rks zs).countP (· < x) : Nat)
set_option maxRecDepth 100000 in
set_option maxHeartbeats 2000000 in
theorem ranksG_any {w : World} {V : Value} {zs : List Int} (h : Ints w V zs) (hl : zs.length ≤ 1000000) :
    Calls Try.prog 44 #[V] w fun e w' => ∃ V', e = .returned V' ∧ Ints w' V' (zs.map (rkOf zs)) ∧ Below w.heap.size w w' := by
  have HV := Lib.hid (VInts.of_ints h)
  have HH := Lib.hid h
  obtain ⟨A, cap, rfl, -, -, hA⟩ := h.at_
  have HA := Lib.hid hA
  clear h hA
  have hmk1 := run_make_row' (P := Try.prog) 26 3 (.int .i64 0) 8 Try.underlying26 infoInt rfl .i64 .i64 zs.length (by omega) (by omega)
  go_enter Try.func44, Try.ntmps44
  go_wp2_with fail
  refine (callsIn_wide.1 (values_in Fence.wide 6 trivial rfl A zs.length cap _)).mono ?_
  rintro e w0 ⟨rfl, rfl⟩
  have B0 : Below w.heap.size w (w.alloc (.cells #[.slice A zs.length cap] 26)) := (Below.refl _ w).alloc (Nat.le_refl _) _
  go_wp2_with fail
  refine (callsIn_wide.1 (sorted_in 6 (by omega) w.heap.size w.heap.size (.slice A zs.length cap) zs (by simp only [maxLen]; omega) (by omega) _ (by simp) (by simp) (cell_one_new _ _ _ 0 _ rfl) (HV.out.below B0))).mono ?_
  rintro e w1 ⟨v1, rfl, R1, -, B1⟩
  go_wp2_with fail
  have R1' : w1.ownsRow (w.alloc (.cells #[.slice A zs.length cap] 26)).heap.size 3 1 v1 (srt zs).length ((srt zs).map (Value.int .i64)) := by rw [srt_length]; exact R1
  refine (compact_own R1' (by simp only [maxLen, srt_length]; omega)).mono ?_
  rintro e w2 ⟨v2, rfl, R2, B2⟩
  have B2 := B2 B1.size
  have B02 := B0.trans ((B1.trans B2).mono B0.size)
  have R2 := row_rebase R2 (base' := w.heap.size) (by simp)
  have HR2 := Lib.hid R2
  have HB02 := Lib.hid B02
  change Hid (w2.ownsRow w.heap.size 3 1 v2 (rks zs).length ((rks zs).map (Value.int .i64))) at HR2
  have hs2 := B02.size
  clear R2 B02 B0 B1 B2 R1 R1'
  have hmk2 := hmk1
  clear hmk1
  go_wp2_with fail
  clear hmk2
  go_loopw [16] (fun c wr => ∃ k : Nat, k ≤ zs.length ∧ c = .int .i64 k ∧ wr.rowIs w2.heap.size 3 zs.length (fun j => .int .i64 (if j < k then rkOf zs (zs[j]?.getD 0) else 0)) ∧ Below w2.heap.size w2 wr) (fun c _ => zs.length - (intOf c).toNat)
  case atStart => exact ⟨0, by omega, rfl, (World.rowIs_made w2 (.int .i64 0) zs.length 3).congr (fun v _ => by simp), (Below.refl _ _).alloc (Nat.le_refl _) _⟩
  case round => as_aux_lemma =>
    obtain ⟨k, hk, rfl, RW, Bl⟩ := hrel
    obtain ⟨wo, rfl⟩ : ∃ x : World, x = wr := ⟨_, rfl⟩
    have HRW := Lib.hid RW
    have HBl := Lib.hid Bl
    clear RW Bl
    by_cases hkl : k < zs.length
    · have hkd : decide ((k : Int) < zs.length) = true := by simp; omega
      obtain ⟨b, off, rfl, hc⟩ := HA.out (by omega)
      have hx : zs[k]? = some zs[k] := List.getElem?_eq_getElem hkl
      have c0 := cell_later (HB02.out.trans (HBl.out.mono hs2)) (hc k _ hx)
      have i1 : (0 : Int) ≤ (k : Int) := by omega
      have i2 : (k : Int) < (zs.length : Int) := by omega
      have hrl := rks_length zs
      have HR3 := Lib.hid (own_later HR2.out HBl.out)
      have HX := Lib.hid hx
      clear hc hx
      generalize zs[k] = x at *
      go_wp2_with fail
      refine (search_own x HR3.out (by omega) (rks_sorted zs)).mono ?_
      rintro e w4 ⟨rfl, q, rfl⟩
      have k1 := HRW.out.cell hkl
      have k2 := HRW.out.frozen k
      go_wp2_with fail
      have RW2 := (HRW.out.set k (.int .i64 (rkOf zs x))).congr (g := fun j => .int .i64 (if j < k + 1 then rkOf zs (zs[j]?.getD 0) else 0)) (fun v _ => by
        by_cases e : v = k
        · subst e; simp [HX.out]
        · have : (v < k + 1) = (v < k) := by apply propext; omega
          simp [e, this])
      have B2' := HBl.out.setCell (p := ⟨w2.heap.size, k, none⟩) (Nat.le_refl _) (.int .i64 (rkOf zs x))
      exact ⟨⟨k + 1, by omega, by go_num, RW2.of_block rfl, below_drewN B2' _⟩, by simp [intOf]; omega⟩
    · obtain rfl : k = zs.length := by omega
      have hkd : decide ((zs.length : Int) < zs.length) = false := by simp
      go_wp2_with fail
      refine bodyPost_ret (results_tmp rfl _ _ _) rfl ?_
      refine ⟨_, rfl, ?_, HB02.out.trans (HBl.out.mono hs2)⟩
      have I := Ints.of_row (Nat.le_refl _) (HRW.out.congr (g := fun j => .int .i64 (rkOf zs (zs[j]?.getD 0))) (fun v hv => by simp [hv]))
      have e : (List.range zs.length).map (fun j => rkOf zs (zs[j]?.getD 0)) = zs.map (rkOf zs) := by
        apply List.ext_getElem
        · simp
        · intro i h1 h2
          have h3 : i < zs.length := by simpa using h2
          simp [h3]
      rwa [e] at I
set_option maxRecDepth 100000 in
theorem ranks_any {w : World} {V : Value} {zs : List Int} (h : Ints w V zs) (hl : zs.length ≤ 1000000) :
    Calls Try.prog 25 #[V] w fun e w' => ∃ V', e = .returned V' ∧ Ints w' V' (zs.map (rkOf zs)) ∧ Below w.heap.size w w' := by
  go_enter Try.func25, Try.ntmps25
  go_wp2_with fail
  refine (ranksG_any h hl).mono ?_
  rintro e w' ⟨V', rfl, I, B⟩
  go_wp2_with fail
  go_ret
  exact ⟨V', rfl, I, B⟩
#print axioms ranks_any
end Go.Proofs.Ytimffpnfhkobkaa
