/- PageMany: there may be just so many boxes, routes and points. -/
import Derived.Test.YtkpgjgmlhcipeaaDoorPgT
import Derived.Test.YtkpgjgmlhcipeaaDoorPgY
import Derived.Deep.DeepCutAuto
namespace Go.Proofs.YtkpgjgmlhcipeaaDoor
open Go.RowKit
theorem make_bx (n : Nat) (hn : n ≤ 4200) (w : World) : (Instr.makeSlice 42 (.int .i64 (n : Int)) (.int .i64 (n : Int))).run Tryd.prog w = .ok (.slice (some ⟨w.heap.size, 0, none⟩) n n) (w.alloc (.cells (madeCells #[.int .i64 0, .int .i64 0, .int .i64 0, .int .i64 0] (n * 4)) 75)) := by
  obtain ⟨i0, hi, hzz⟩ := Option.map_eq_some_iff.1 info_box
  simp only [Prod.mk.injEq] at hzz
  obtain ⟨hz, hs, hb⟩ := hzz
  have h := run_make (P := Tryd.prog) w 42 75 i0 _ Tryd.underlying42 hi hz .i64 .i64 n n (by omega) (by omega) (by rw [hb]; omega) (by omega)
  rw [hs] at h
  exact h
theorem make_rt (n : Nat) (hn : n ≤ 4200) (w : World) : (Instr.makeSlice 43 (.int .i64 (n : Int)) (.int .i64 (n : Int))).run Tryd.prog w = .ok (.slice (some ⟨w.heap.size, 0, none⟩) n n) (w.alloc (.cells (madeCells #[.int .i64 0, .int .i64 0, .slice none 0 0] (n * 3)) 78)) := by
  obtain ⟨i0, hi, hzz⟩ := Option.map_eq_some_iff.1 info_route
  simp only [Prod.mk.injEq] at hzz
  obtain ⟨hz, hs, hb⟩ := hzz
  have h := run_make (P := Tryd.prog) w 43 78 i0 _ Tryd.underlying43 hi hz .i64 .i64 n n (by omega) (by omega) (by rw [hb]; omega) (by omega)
  rw [hs] at h
  exact h
theorem make_pt (n : Nat) (hn : n ≤ 13000) (w : World) : (Instr.makeSlice 76 (.int .i64 (n : Int)) (.int .i64 (n : Int))).run Tryd.prog w = .ok (.slice (some ⟨w.heap.size, 0, none⟩) n n) (w.alloc (.cells (madeCells #[.int .i64 0, .int .i64 0] (n * 2)) 73)) := by
  obtain ⟨i0, hi, hzz⟩ := Option.map_eq_some_iff.1 (show (Tryd.prog.info? 73).map (fun i => (i.zero, i.size, i.bytes)) = some (some (.agg #[.int .i64 0, .int .i64 0]), 2, 16) by kernel_rfl)
  simp only [Prod.mk.injEq] at hzz
  obtain ⟨hz, hs, hb⟩ := hzz
  have h := run_make (P := Tryd.prog) w 76 73 i0 _ Tryd.underlying76 hi hz .i64 .i64 n n (by omega) (by omega) (by rw [hb]; omega) (by omega)
  rw [hs] at h
  exact h
theorem made_get {z : Array Value} {n j : Nat} (h : j < n) : (madeCells z n)[j]? = some (z[j % z.size]!) := by
  unfold madeCells
  simp [h]
theorem Sl.made {α : Type} {enc : α → List Value} {sz : Nat} (he : ∀ a, (enc a).length = sz) {w : World} {g n : Nat} {t : TypeId} {x : α} {z : Array Value} (hz : z.toList = enc x) (h : w.heap[g]? = some (.cells (madeCells z (n * sz)) t)) : Sl sz enc w (.slice (some ⟨g, 0, none⟩) n n) (List.replicate n x) := by
  have hzs : z.size = sz := by rw [← Array.length_toList, hz, he]
  refine ⟨some ⟨g, 0, none⟩, n, by rw [List.length_replicate], by simp, (fun e => by cases e), fun _ => ⟨g, 0, rfl, fun i a hi r v hv => ?_⟩⟩
  have hin : i < n := by have := (List.getElem?_eq_some_iff.1 hi).1; simpa using this
  obtain ⟨_, rfl⟩ := List.mem_replicate.1 (List.mem_of_getElem? hi)
  have hr : r < sz := by have := (List.getElem?_eq_some_iff.1 hv).1; rwa [he] at this
  have hj : i * sz + r < n * sz := by
    have h2 : (i + 1) * sz ≤ n * sz := Nat.mul_le_mul_right _ hin
    rw [Nat.add_mul, Nat.one_mul] at h2
    omega
  have e := (Cl.of_block h (made_get hj)).cell
  rw [Nat.zero_add, e]
  have hv2 : z[r]? = some v := by rw [← hz] at hv; rw [← Array.getElem?_toList]; exact hv
  rw [hzs, Nat.mul_comm i sz, Nat.mul_add_mod, Nat.mod_eq_of_lt hr]
  simp [getElem!_def, hv2]
abbrev zM : Array Value := #[.int .i64 0, .int .i64 0, .slice none 0 0]
theorem mts_set {w : World} {g q : Nat} {V : Value} {t : TypeId} (h : w.heap[g]? = some (.cells ((madeCells zM ((q + 1) * 3)).setIfInBounds (q * 3 + 2) V) t)) : Mts w (.slice (some ⟨g, 0, none⟩) (q + 1) (q + 1)) (List.replicate q (0, 0, .slice none 0 0) ++ [(0, 0, V)]) := by
  have get : ∀ j : Nat, j < (q + 1) * 3 → j ≠ q * 3 + 2 → w.cell? ⟨g, j, none⟩ = some (zM[j % 3]!) := fun j hj hn => by
    have h1 : ((madeCells zM ((q + 1) * 3)).setIfInBounds (q * 3 + 2) V)[j]? = some (zM[j % 3]!) := by
      rw [Array.getElem?_setIfInBounds_ne (by omega)]
      exact made_get hj
    exact (Cl.of_block h h1).cell
  have get2 : w.cell? ⟨g, q * 3 + 2, none⟩ = some V := by
    have h1 : ((madeCells zM ((q + 1) * 3)).setIfInBounds (q * 3 + 2) V)[q * 3 + 2]? = some V := by
      rw [Array.getElem?_setIfInBounds_self_of_lt (by rw [size_madeCells]; omega)]
    exact (Cl.of_block h h1).cell
  refine ⟨some ⟨g, 0, none⟩, q + 1, by simp, by simp, (fun e => by cases e), fun _ => ⟨g, 0, rfl, fun i a hi r v hv => ?_⟩⟩
  have hin : i < q + 1 := by have := (List.getElem?_eq_some_iff.1 hi).1; simpa using this
  have hr : r < 3 := by have := (List.getElem?_eq_some_iff.1 hv).1; rwa [encM_length] at this
  rw [Nat.zero_add]
  by_cases hq : i < q
  · rw [List.getElem?_append_left (by simpa using hq)] at hi
    obtain ⟨_, rfl⟩ := List.mem_replicate.1 (List.mem_of_getElem? hi)
    rw [get _ (by omega) (by omega), show (i * 3 + r) % 3 = r by omega]
    match r, hr, hv with
    | 0, _, hv => simpa [encM] using hv
    | 1, _, hv => simpa [encM] using hv
    | 2, _, hv => simpa [encM] using hv
  · have e : i = q := by omega
    subst e
    rw [List.getElem?_append_right (by simp)] at hi
    obtain rfl : (0, 0, V) = a := by simpa using hi
    match r, hr, hv with
    | 0, _, hv => rw [get _ (by omega) (by omega), show (i * 3 + 0) % 3 = 0 by omega]; simpa [encM] using hv
    | 1, _, hv => rw [get _ (by omega) (by omega), show (i * 3 + 1) % 3 = 1 by omega]; simpa [encM] using hv
    | 2, _, hv => rw [get2]; simpa [encM] using hv
theorem set_at {w : World} {b o : Nat} {cs : Array Value} {v : Value} {t : TypeId} (h : w.heap[b]? = some (.cells cs t)) : (w.setCell ⟨b, o, none⟩ v).heap[b]? = some (.cells (cs.setIfInBounds o v) t) := by
  obtain ⟨hlt, hk⟩ := Array.getElem?_eq_some_iff.1 h
  show (w.heap.modify b _)[b]? = _
  rw [Array.getElem?_eq_getElem (by rw [Array.size_modify]; exact hlt), Array.getElem_modify_self, hk]
  rfl
theorem pts_nil (w : World) : Pts w (.slice none 0 0) [] := ⟨none, 0, rfl, Nat.le_refl _, fun _ => ⟨rfl, rfl⟩, fun h => absurd h (by simp)⟩
theorem drw_some {w : World} {gB gR n q k : Nat} {VP : Value} {t t' : TypeId} (hB : w.heap[gB]? = some (.cells (madeCells #[.int .i64 0, .int .i64 0, .int .i64 0, .int .i64 0] (n * 4)) t))
    (hR : w.heap[gR]? = some (.cells ((madeCells zM ((q + 1) * 3)).setIfInBounds (q * 3 + 2) VP) t')) (hP : Pts w VP (List.replicate k (0, 0))) :
    Drw w (.slice (some ⟨gB, 0, none⟩) n n) (.slice (some ⟨gR, 0, none⟩) (q + 1) (q + 1)) (mD n (q + 1) k) := by
  refine ⟨Sl.made encB_length (x := zB) rfl hB, _, mts_set hR, ?_, ?_⟩
  · unfold mD; simp
  · intro i m r hm hr
    unfold mD at hr
    simp only [Nat.add_sub_cancel, Nat.succ_ne_zero, if_false] at hr
    by_cases hi : i < q
    · rw [List.getElem?_append_left (by simpa using hi)] at hm hr
      obtain ⟨_, rfl⟩ := List.mem_replicate.1 (List.mem_of_getElem? hm)
      obtain ⟨_, rfl⟩ := List.mem_replicate.1 (List.mem_of_getElem? hr)
      exact ⟨rfl, rfl, pts_nil w⟩
    · rw [List.getElem?_append_right (by simpa using hi)] at hm hr
      have hl := (List.getElem?_eq_some_iff.1 hm).1
      simp at hl
      have e : i = q := by omega
      subst e
      obtain rfl : (0, 0, VP) = m := by simpa using hm
      obtain rfl : ((0, 0), List.replicate k (0, 0)) = r := by simpa using hr
      exact ⟨rfl, rfl, hP⟩
theorem drw_none {w : World} {gB gR n k : Nat} {t : TypeId} (hB : w.heap[gB]? = some (.cells (madeCells #[.int .i64 0, .int .i64 0, .int .i64 0, .int .i64 0] (n * 4)) t)) :
    Drw w (.slice (some ⟨gB, 0, none⟩) n n) (.slice (some ⟨gR, 0, none⟩) 0 0) (mD n 0 k) :=
  ⟨Sl.made encB_length (x := zB) rfl hB, [], ⟨some ⟨gR, 0, none⟩, 0, rfl, Nat.le_refl _, (fun e => by cases e), fun h => absurd h (by simp)⟩, rfl, fun i m r h => by simp at h⟩
theorem mD_bd (n m k : Nat) : (mD n m k).1.length = n ∧ (mD n m k).2.length = m ∧ totP (mD n m k).2 ≤ k := by
  unfold mD
  refine ⟨by simp, ?_, ?_⟩
  · by_cases hm : m = 0
    · simp [hm]
    · simp [hm]; omega
  · by_cases hm : m = 0
    · simp [hm, totP]
    · simp [hm, totP]
theorem mD_pts (n m k : Nat) : ∀ r ∈ (mD n m k).2, r.2.length ≤ k := by
  intro r hr
  obtain ⟨i, hi⟩ := List.getElem?_of_mem hr
  exact Nat.le_trans (totP_get hi) (mD_bd n m k).2.2
theorem rep_own {w : World} (s : ByteArray) (c : Nat) (hl : s.size * c ≤ 1000000) (hc : c ≤ 1000000) :
    Calls Tryd.prog 24 #[.string s, .int .i64 (c : Int)] w fun e w' => ∃ T : ByteArray, e = .returned (.string T) ∧ T.data.toList = Lib.repeatL s.data.toList c ∧ T.size = s.size * c ∧ Below w.heap.size w w' := by
  refine (Tryd.strings_Repeat s c w (by omega) (by omega)).mono ?_
  rintro e w' ⟨rfl, B⟩
  refine ⟨_, rfl, rfl, ?_, B⟩
  rw [Lib.size_eq]
  show (Lib.repeatL s.data.toList c).length = _
  rw [Lib.repeatL_length, ← Lib.size_eq, Nat.mul_comm]
theorem three1 (w : World) (o1 o2 o3 : Obj) : ((((w.alloc o1).alloc o2).alloc o3).drew).heap[w.heap.size]? = some o1 :=
  ((((Below.refl _ _).alloc (Nat.le_refl _) o2).alloc (by simp) o3).block _ (by simp)).trans (heap_at rfl)
theorem three2 (w : World) (o1 o2 o3 : Obj) : ((((w.alloc o1).alloc o2).alloc o3).drew).heap[w.heap.size + 1]? = some o2 :=
  (((Below.refl _ _).alloc (Nat.le_refl _) o3).block _ (by simp)).trans (heap_at (by simp))
theorem three3 (w : World) (o1 o2 o3 : Obj) : ((((w.alloc o1).alloc o2).alloc o3).drew).heap[w.heap.size + 1 + 1]? = some o3 := heap_at (by simp)
theorem threeB (w : World) (o1 o2 o3 : Obj) : Below w.heap.size w ((((w.alloc o1).alloc o2).alloc o3).drew) := ((((Below.refl _ _).alloc (Nat.le_refl _) o1).alloc (by simp) o2).alloc (by simp; omega) o3).drew
def H1 (g : Nat) (V : Value) (w : World) : Prop := w.cell? ⟨g, 1, none⟩ = some V
theorem H1.later {g : Nat} {V : Value} {w w' : World} (h : H1 g V w) (k : Below w.heap.size w w') : H1 g V w' := cell_later k h
/-- The made drawing's blocks. -/
def MkD (w : World) (n m : Nat) (p : Value) (wx : World) : Prop := ∃ gB gR gd, p = .pointer (some ⟨gd, 0, none⟩) ∧ gB < wx.heap.size ∧ gR < wx.heap.size ∧ gd < wx.heap.size ∧
  wx.heap[gB]? = some (.cells (madeCells #[.int .i64 0, .int .i64 0, .int .i64 0, .int .i64 0] (n * 4)) 75) ∧
  wx.heap[gR]? = some (.cells (madeCells #[.int .i64 0, .int .i64 0, .slice none 0 0] (m * 3)) 78) ∧
  wx.heap[gd]? = some (.cells #[.slice (some ⟨gB, 0, none⟩) n n, .slice (some ⟨gR, 0, none⟩) m m] 45) ∧ w.heap.size ≤ gB ∧ w.heap.size ≤ gR ∧ w.heap.size ≤ gd ∧ Below w.heap.size w wx
set_option maxRecDepth 100000 in
set_option maxHeartbeats 2000000 in
theorem pmany_core {w : World} (a0 a1 a2 : Int) {m0 : Int} (h0 : 0 ≤ a0) (h1 : 0 ≤ a1) (h2 : 0 ≤ a2) (hm : w.cell? ⟨0, 0, none⟩ = some (.int .i64 m0)) (ht : Tab w) :
    Calls Tryd.prog 11 #[.int .u16 a0, .int .u16 a1, .int .u16 a2] w fun e w' => e = .returned (.bool true) ∧ Below w.heap.size w w' := by
  obtain ⟨n, hn, hn2⟩ : ∃ n : Nat, a0.tmod 4200 = n ∧ n < 4200 := ⟨(a0 % 4200).toNat, by rw [Int.tmod_eq_emod_of_nonneg h0]; omega, by omega⟩
  obtain ⟨m, hmm, hm2⟩ : ∃ n : Nat, a1.tmod 4200 = n ∧ n < 4200 := ⟨(a1 % 4200).toNat, by rw [Int.tmod_eq_emod_of_nonneg h1]; omega, by omega⟩
  obtain ⟨k, hk, hk2⟩ : ∃ n : Nat, a2.tmod 13000 = n ∧ n < 13000 := ⟨(a2 % 13000).toNat, by rw [Int.tmod_eq_emod_of_nonneg h2]; omega, by omega⟩
  have HM := Lib.hid hm
  have HT := Lib.hid ht
  have mk1 := make_bx n (by omega)
  have mk2 := make_rt m (by omega)
  clear hm ht h0 h1 h2
  go_enter Tryd.func11, Tryd.ntmps11
  go_upto_region 2 with fail
  clear hn hmm hk
  go_cut [10] (MkD w n m)
  case first =>
    go_region_law (fail)
    all_goals
      go_wp2_with fail
      go_meet
      unfold MkD
      first
        | exact ⟨w.heap.size, w.heap.size + 1, w.heap.size + 1 + 1, rfl, by simp <;> omega, by simp <;> omega, by simp <;> omega, three1 _ _ _ _, three2 _ _ _ _, three3 _ _ _ _, by omega, by omega, by omega, threeB _ _ _ _⟩
        | exact ⟨w.heap.size, w.heap.size + 1 + 1, w.heap.size + 1, rfl, by simp <;> omega, by simp <;> omega, by simp <;> omega, three1 _ _ _ _, three3 _ _ _ _, three2 _ _ _ _, by omega, by omega, by omega, threeB _ _ _ _⟩
        | exact ⟨w.heap.size + 1, w.heap.size, w.heap.size + 1 + 1, rfl, by simp <;> omega, by simp <;> omega, by simp <;> omega, three2 _ _ _ _, three1 _ _ _ _, three3 _ _ _ _, by omega, by omega, by omega, threeB _ _ _ _⟩
        | exact ⟨w.heap.size + 1, w.heap.size + 1 + 1, w.heap.size, rfl, by simp <;> omega, by simp <;> omega, by simp <;> omega, three2 _ _ _ _, three3 _ _ _ _, three1 _ _ _ _, by omega, by omega, by omega, threeB _ _ _ _⟩
        | exact ⟨w.heap.size + 1 + 1, w.heap.size, w.heap.size + 1, rfl, by simp <;> omega, by simp <;> omega, by simp <;> omega, three3 _ _ _ _, three1 _ _ _ _, three2 _ _ _ _, by omega, by omega, by omega, threeB _ _ _ _⟩
        | exact ⟨w.heap.size + 1 + 1, w.heap.size + 1, w.heap.size, rfl, by simp <;> omega, by simp <;> omega, by simp <;> omega, three3 _ _ _ _, three2 _ _ _ _, three1 _ _ _ _, by omega, by omega, by omega, threeB _ _ _ _⟩
  obtain ⟨gB, gR, gd, rfl, lB, lR, ld, hB, hR, hD, b1, b2, b3, B1⟩ := hcut
  obtain ⟨w1, rfl⟩ : ∃ q : World, q = wc := ⟨_, rfl⟩
  have HB := Lib.hid hB
  have HR := Lib.hid hR
  have HD := Lib.hid hD
  have HB1 := Lib.hid B1
  have HM1 := Lib.hid (cell_later B1 HM.out)
  have HT1 := Lib.hid (tab_later HT.out B1)
  have d1 := (Cl.of_block hD (j := 1) rfl).cell
  clear mk1 mk2 hB hR hD B1
  by_cases hm0 : m = 0
  · have hd : decide (0 < m) = false := by simp only [decide_eq_false_iff_not]; omega
    have HM0 := Lib.hid hm0
    clear d1 hm0
    go_wp2_with fail
    refine (rep_own sPoint n (by show 10 * n ≤ _; omega) (by omega)).mono ?_
    rintro e w2 ⟨T1, rfl, hT1, hs1, B2⟩
    have HT1D := Lib.hid hT1
    have hs1' : T1.size = 10 * n := hs1
    have hs1a : T1.size ≤ 42000 := by omega
    have HDX : Hid (Drw w2 (.slice (some ⟨gB, 0, none⟩) n n) (.slice (some ⟨gR, 0, none⟩) m m) (mD n m k)) := Lib.hid (by
      have hm0 := HM0.out
      subst hm0
      exact (drw_none HB.out).later B2)
    have HGX := Lib.hid (block_later B2 HD.out)
    have HMX := Lib.hid (cell_later B2 HM1.out)
    have HTX := Lib.hid (tab_later HT1.out B2)
    have HBX := Lib.hid (below_then HB1.out HB1.out.size B2)
    clear hT1 hs1 hs1' B2 HB HR HD HM1 HT1 HB1
    have hcat : ¬9223372036854775807 < 8 + T1.size := by omega
    obtain ⟨T, hT⟩ : ∃ T, (⟨#[100, 114, 97, 119, 105, 110, 103, 10]⟩ ++ T1 : ByteArray) = T := ⟨_, rfl⟩
    have HTD : Hid (T.data.toList = mTx n m k) := Lib.hid (by
      rw [← hT, cat_data, HT1D.out]
      unfold mTx
      rw [if_pos HM0.out, List.append_nil])
    have g0 := (Cl.of_block HGX.out (j := 0) rfl).cell
    have g1 := (Cl.of_block HGX.out (j := 1) rfl).cell
    have hTs : T.size ≤ 200000 := by rw [Lib.size_eq, HTD.out]; exact many_len (by omega) (by omega) (by omega)
    go_wp2_with fail
    clear hT hcat g0 g1 hd
    have hbd := mD_bd n m k
    have hpm := parse_mD (n := n) (m := m) (k := k) (by omega) (by omega) (by omega)
    obtain ⟨mm, hmm⟩ : ∃ mm, manyD (mD n m k) = mm := ⟨_, rfl⟩
    obtain ⟨T2, hT2⟩ : ∃ T2, (T ++ ⟨#[101, 110, 100, 10]⟩ : ByteArray) = T2 := ⟨_, rfl⟩
    have HT2 : Hid (T2.data.toList = textP (mD n m k)) := Lib.hid (by rw [← hT2, cat_data, HTD.out, text_many])
    have hcat : ¬9223372036854775807 < T.size + 4 := by omega
    have hT2s : T2.size ≤ 400000000 := by
      have h := congrArg List.length HT2.out
      rw [text_many, List.length_append, ← HTD.out, ← Lib.size_eq, ← Lib.size_eq] at h
      simp at h
      omega
    have hpp : printP (mD n m k) = if mm = true then ([], 6) else (textP (mD n m k), 0) := by
      unfold printP
      rw [hmm, many_ok]
      rfl
    rw [hmm, ← HT2.out] at hpm
    have HMM := Lib.hid hmm
    have HPM := Lib.hid hpm
    have HPP := Lib.hid hpp
    clear hmm hpm hpp
    refine (print_any HDX.out (by rw [hbd.1]; omega) (by rw [hbd.2.1]; omega) (by have := hbd.2.2; omega) HTX.out).mono ?_
    rw [HPP.out]
    cases mm with
    | true =>
      obtain ⟨S, hS⟩ : ∃ S, toB [] = S := ⟨_, rfl⟩
      have hSe : S.toList.isEmpty = true := by rw [← hS, str_nil, data_toB]; rfl
      simp only [if_true]
      rw [hS]
      clear hS
      rintro e w3 ⟨rfl, B3⟩
      have HD3 := Lib.hid (HDX.out.later B3)
      have HG3 := Lib.hid (block_later B3 HGX.out)
      have HM3 := Lib.hid (cell_later B3 HMX.out)
      have HT3 := Lib.hid (tab_later HTX.out B3)
      have HB3 := Lib.hid (below_then HBX.out HBX.out.size B3)
      clear B3 HDX HGX HMX HTX HBX
      go_wp2_with fail
      clear hT2 hcat
      obtain ⟨pr, hpr⟩ : ∃ pr, parseP T2.data.toList = pr := ⟨_, rfl⟩
      obtain ⟨D5, LN, ER⟩ := pr
      refine (parse_any T2 hT2s HM3.out).mono ?_
      have hER := HPM.out
      simp only [if_true, hpr] at hER
      obtain rfl : ER = 6 := hER
      rw [hpr]
      clear hpr
      rintro e w4 ⟨B5, R5, rfl, hD5, B4⟩
      obtain ⟨AB, cB, AR, cR, rfl, rfl⟩ := drw_shape hD5
      have hb4 : Below w4.heap.size w4 (w4.alloc (.cells #[.slice AB D5.1.length cB, .slice AR D5.2.length cR] 45)) := (Below.refl _ _).alloc (Nat.le_refl _) _
      have HD4 := Lib.hid (Drw.later (Drw.later HD3.out B4) hb4)
      have hG4 := block_later hb4 (block_later B4 HG3.out)
      have q0 := (Cl.of_block hG4 (j := 0) rfl).cell
      have q1 := (Cl.of_block hG4 (j := 1) rfl).cell
      have HM4 := Lib.hid (cell_later hb4 (cell_later B4 HM3.out))
      have HT4 := Lib.hid (tab_later (tab_later HT3.out B4) hb4)
      have HB4 := Lib.hid (below_then (below_then HB3.out HB3.out.size B4) (by have := HB3.out.size; have := B4.size; omega) hb4)
      clear B4 hb4 hD5 hG4 HM3 HT3 HB3 HD3 HG3
      go_wp2_with fail
      refine (refMany_any HD4.out (by rw [hbd.1]; omega) (by rw [hbd.2.1]; omega) (by have := hbd.2.2; omega)).mono ?_
      rw [HMM.out]
      rintro e w5 ⟨rfl, B5⟩
      have HM5 := Lib.hid (cell_later B5 HM4.out)
      have HT5 := Lib.hid (tab_later HT4.out B5)
      have HB5 := Lib.hid (below_then HB4.out HB4.out.size B5)
      clear B5 HM4 HT4 HB4 HD4 q0 q1
      go_wp2_with fail
      refine (pwakes_ok HM5.out HT5.out).mono ?_
      rintro e w6 ⟨rfl, B6⟩
      have HB6 := Lib.hid (below_then HB5.out HB5.out.size B6)
      clear B6
      go_wp2_with fail
      go_ret
      exact ⟨rfl, HB6.out⟩
    | false =>
      have HSE : Hid (toB (textP (mD n m k)) = T2) := Lib.hid (by rw [← HT2.out, toB_data])
      rw [if_neg (by decide)]
      simp only [HSE.out]
      rintro e w3 ⟨rfl, B3⟩
      have HD3 := Lib.hid (HDX.out.later B3)
      have HG3 := Lib.hid (block_later B3 HGX.out)
      have HM3 := Lib.hid (cell_later B3 HMX.out)
      have HT3 := Lib.hid (tab_later HTX.out B3)
      have HB3 := Lib.hid (below_then HBX.out HBX.out.size B3)
      clear B3 HDX HGX HMX HTX HBX
      go_wp2_with fail
      refine (parse_any T2 hT2s HM3.out).mono ?_
      have hER := HPM.out
      rw [if_neg (by decide), HT2.out] at hER
      rw [HT2.out, hER]
      clear hER
      obtain ⟨D5, hD5e⟩ : ∃ D5, mD n m k = D5 := ⟨_, rfl⟩
      rw [hD5e]
      rintro e w4 ⟨B5, R5, rfl, hD5, B4⟩
      obtain ⟨AB, cB, AR, cR, rfl, rfl⟩ := drw_shape hD5
      have hb4 : Below w4.heap.size w4 (w4.alloc (.cells #[.slice AB D5.1.length cB, .slice AR D5.2.length cR] 45)) := (Below.refl _ _).alloc (Nat.le_refl _) _
      have HD4 := Lib.hid (Drw.later (Drw.later HD3.out B4) hb4)
      have HD5 := Lib.hid (Drw.later hD5 hb4)
      have hG4 := block_later hb4 (block_later B4 HG3.out)
      have hG5 : (w4.alloc (.cells #[.slice AB D5.1.length cB, .slice AR D5.2.length cR] 45)).heap[w4.heap.size]? = some (.cells #[.slice AB D5.1.length cB, .slice AR D5.2.length cR] 45) := heap_at rfl
      have HG4 := Lib.hid hG4
      have HG5 := Lib.hid hG5
      have q0 := (Cl.of_block hG4 (j := 0) rfl).cell
      have q1 := (Cl.of_block hG4 (j := 1) rfl).cell
      have HM4 := Lib.hid (cell_later hb4 (cell_later B4 HM3.out))
      have HT4 := Lib.hid (tab_later (tab_later HT3.out B4) hb4)
      have HB4 := Lib.hid (below_then (below_then HB3.out HB3.out.size B4) (by have := HB3.out.size; have := B4.size; omega) hb4)
      have HDE := Lib.hid hD5e
      clear B4 hb4 hD5 hG4 hG5 HM3 HT3 HB3 HD3 HG3 hD5e
      go_wp2_with fail
      refine (refMany_any HD4.out (by rw [hbd.1]; omega) (by rw [hbd.2.1]; omega) (by have := hbd.2.2; omega)).mono ?_
      rw [HMM.out]
      rintro e w5 ⟨rfl, B5⟩
      have HM5 := Lib.hid (cell_later B5 HM4.out)
      have HT5 := Lib.hid (tab_later HT4.out B5)
      have HB5 := Lib.hid (below_then HB4.out HB4.out.size B5)
      have HD6 := Lib.hid (HD4.out.later B5)
      have HD7 := Lib.hid (HD5.out.later B5)
      have HG6 := Lib.hid (block_later B5 HG4.out)
      have HG7 := Lib.hid (block_later B5 HG5.out)
      clear B5 HM4 HT4 HB4 HD4 HD5 HG4 HG5 q0 q1
      go_wp2_with fail
      refine (pwakes_ok HM5.out HT5.out).mono ?_
      rintro e w6 ⟨rfl, B6⟩
      have HB6 := Lib.hid (below_then HB5.out HB5.out.size B6)
      have HD8 := Lib.hid (HD6.out.later B6)
      have HD9 := Lib.hid (HD7.out.later B6)
      have hG8 := block_later B6 HG6.out
      have hG9 := block_later B6 HG7.out
      have q0 := (Cl.of_block hG8 (j := 0) rfl).cell
      have q1 := (Cl.of_block hG8 (j := 1) rfl).cell
      have q2 := (Cl.of_block hG9 (j := 0) rfl).cell
      have q3 := (Cl.of_block hG9 (j := 1) rfl).cell
      have hts2 : (T2.toList == T2.toList) = true := by simp
      clear B6 hG8 hG9 HG6 HG7 HD6 HD7 HB5 HM5 HT5
      go_wp2_with fail
      refine (same_any HD9.out HD8.out (by rw [← HDE.out, hbd.1]; omega) (by rw [← HDE.out, hbd.2.1]; omega) (fun r hr => by rw [← HDE.out] at hr; have := mD_pts _ _ _ r hr; omega)).mono ?_
      rw [show decide (D5 = mD n m k) = true by simp [HDE.out]]
      rintro e w7 ⟨rfl, B7⟩
      have HB7 := Lib.hid (below_then HB6.out HB6.out.size B7)
      clear B7 q0 q1 q2 q3
      go_wp2_with fail
      go_ret
      exact ⟨rfl, HB7.out⟩
  · obtain ⟨q, rfl⟩ : ∃ q, m = q + 1 := ⟨m - 1, by omega⟩
    have hd : decide ((0 : Int) < ((q + 1 : Nat) : Int)) = true := by simp only [decide_eq_true_eq]; omega
    have mk3 := make_pt k (by omega)
    have HS0 : Hid (H1 gd (.slice (some ⟨gR, 0, none⟩) (q + 1) (q + 1)) w1.drew) := Lib.hid d1
    clear hm0
    go_wp2_with fail
    clear d1
    have wq : IntKind.i64.wrap (q : Int) = (q : Int) := by rw [IntKind.wrap_i64]; omega
    have wq0 : (0 : Int) ≤ (q : Int) := by omega
    have wq1 : (q : Int) < (q : Int) + 1 := by omega
    refine wp_region_headsV [(0, false), (1, true), (2, false), (3, false), (4, false)] [8] (fun _ => True) (H1 gd (.slice (some ⟨gR, 0, none⟩) (q + 1) (q + 1))) (by kernel_rfl) (by kernel_rfl) trivial HS0.out ?_
    iterate 5 (first | (refine wpHv_skip rfl (by rfl) ?_) | (refine wpHv_cons (v := ?_) rfl (by rfl) (fun wS hwS => ?_) ?_; rotate_left 1; (focus ((first | (have hwA := And.right hwS rfl) | (have hwA := And.left hwS)); clear hwS; (try dsimp only [H1] at hwA); go_simp; (try with_reducible rfl); (try (trace_state; fail))))); (try simp only [List.getElem_toArray, List.getElem_cons_zero, List.getElem_cons_succ]); (try simp only [Act.put, List.setIfInBounds_toArray, List.set_cons_zero, List.set_cons_succ]))
    refine wpHv_nil ?_
    change wpV _ _ _ _ _ _ _ (3 + 1) _ _ _
    refine wpV_one (k := 5) (by kernel_rfl) rfl (fun K hK => ?_)
    have HKK := Lib.hid hK
    clear hK
    go_simp
    have HS5 : Hid (H1 gd (.slice (some ⟨gR, 0, none⟩) (q + 1) (q + 1)) (w1.drew.alloc (.cells (madeCells #[.int .i64 0, .int .i64 0] (k * 2)) 73))) := Lib.hid (HS0.out.later ((Below.refl _ _).alloc (Nat.le_refl _) _))
    go_simp
    refine HKK.out _ _ ⟨trivial, fun _ _ => HS5.out⟩ ?_
    clear HKK K
    change wpV _ _ _ _ _ _ _ (2 + 1) _ _ _
    refine wpV_heads trivial HS5.out (by kernel_rfl) (fun _ _ _ _ _ h => h) [(6, false), (7, false)] _ _ _ (by kernel_rfl) ?_
    iterate 2 (first | (refine wpHv_skip rfl (by rfl) ?_) | (refine wpHv_cons (v := ?_) rfl (by rfl) (fun wS hwS => ?_) ?_; rotate_left 1; (focus ((first | (have hwA := And.right hwS rfl) | (have hwA := And.left hwS)); clear hwS; (try dsimp only [H1] at hwA); go_simp; (try with_reducible rfl); (try (trace_state; fail))))); (try simp only [List.getElem_toArray, List.getElem_cons_zero, List.getElem_cons_succ]); (try simp only [Act.put, List.setIfInBounds_toArray, List.set_cons_zero, List.set_cons_succ]))
    refine wpHv_nil ?_
    change wpV _ _ _ _ _ _ _ (0 + 1) _ _ _
    refine wpV_one (k := 8) (by kernel_rfl) rfl (fun K hK => ?_)
    have HKK := Lib.hid hK
    clear hK
    go_simp
    have p5 := (Cl.of_block HR.out (j := q * 3 + 2) (made_get (by omega))).cell
    have f5 := (Cl.of_block HR.out (j := q * 3 + 2) (made_get (by omega))).free
    go_simp
    refine HKK.out _ _ ⟨trivial, fun hn => absurd (by decide) hn⟩ ?_
    clear HKK K
    refine wpV_done (by kernel_rfl) (NoPanic.normal ?_)
    clear p5 f5 wq wq0 wq1
    obtain ⟨w2, hw2⟩ : ∃ w2, w2 = ((w1.setCell ⟨gR, q * 3 + 2, none⟩ (.slice (some ⟨w1.heap.size, 0, none⟩) k k)).alloc (.cells (madeCells #[.int .i64 0, .int .i64 0] (k * 2)) 73)).drew := ⟨_, rfl⟩
    rw [← hw2]
    have hss : (w1.setCell ⟨gR, q * 3 + 2, none⟩ (.slice (some ⟨w1.heap.size, 0, none⟩) k k)).heap.size = w1.heap.size := by simp
    have Ba : Below (w1.setCell ⟨gR, q * 3 + 2, none⟩ (.slice (some ⟨w1.heap.size, 0, none⟩) k k)).heap.size (w1.setCell ⟨gR, q * 3 + 2, none⟩ (.slice (some ⟨w1.heap.size, 0, none⟩) k k)) w2 := by rw [hw2]; exact ((Below.refl _ _).alloc (Nat.le_refl _) _).drew
    have B2 : Below w.heap.size w w2 := (HB1.out.setCell (p := ⟨gR, q * 3 + 2, none⟩) b2 _).trans (Ba.mono (by rw [hss]; exact HB1.out.size))
    have hR2 := block_later Ba (set_at (o := q * 3 + 2) (v := .slice (some ⟨w1.heap.size, 0, none⟩) k k) HR.out)
    have hB2 := block_later Ba (((grown_set w1 gR (q * 3 + 2) (.slice (some ⟨w1.heap.size, 0, none⟩) k k)).block gB lB (fun e => by injection e with e; exact ne_of_typ HB.out HR.out (by decide) e)).trans HB.out)
    have hD2 := block_later Ba (((grown_set w1 gR (q * 3 + 2) (.slice (some ⟨w1.heap.size, 0, none⟩) k k)).block gd ld (fun e => by injection e with e; exact ne_of_typ HD.out HR.out (by decide) e)).trans HD.out)
    have hP2 : w2.heap[w1.heap.size]? = some (.cells (madeCells #[.int .i64 0, .int .i64 0] (k * 2)) 73) := by rw [hw2]; exact heap_at hss.symm
    have HDY : Hid (Drw w2 (.slice (some ⟨gB, 0, none⟩) n n) (.slice (some ⟨gR, 0, none⟩) (q + 1) (q + 1)) (mD n (q + 1) k)) := Lib.hid (drw_some hB2 hR2 (Sl.made encP_length (x := (0, 0)) rfl hP2))
    have HGY := Lib.hid hD2
    have HMY := Lib.hid (cell_later B2 HM.out)
    have HTY := Lib.hid (tab_later HT.out B2)
    have HBY := Lib.hid B2
    clear hw2 hss Ba B2 hR2 hB2 hD2 hP2 HB HR HD HM1 HT1 HB1 HM HT mk3
    go_wp2_with fail
    refine (rep_own sPoint n (by show 10 * n ≤ _; omega) (by omega)).mono ?_
    rintro e w3 ⟨T1, rfl, hT1, hs1, B3⟩
    have HT1D := Lib.hid hT1
    have hs1' : T1.size = 10 * n := hs1
    have hs1a : T1.size ≤ 42000 := by omega
    have HB3 := Lib.hid B3
    clear hT1 hs1 hs1' B3
    have hcat : ¬9223372036854775807 < 8 + T1.size := by omega
    obtain ⟨X1, hX1⟩ : ∃ T, (⟨#[100, 114, 97, 119, 105, 110, 103, 10]⟩ ++ T1 : ByteArray) = T := ⟨_, rfl⟩
    have HX1D : Hid (X1.data.toList = (⟨#[100, 114, 97, 119, 105, 110, 103, 10]⟩ : ByteArray).data.toList ++ Lib.repeatL sPoint.data.toList n) := Lib.hid (by rw [← hX1, cat_data, HT1D.out])
    have hX1s : X1.size ≤ 42008 := by
      have h : X1.size = 8 + T1.size := by rw [← hX1, ByteArray.size_append]; rfl
      omega
    go_wp2_with fail
    clear hcat hX1
    refine (rep_own sRoute q (by show 10 * q ≤ _; omega) (by omega)).mono ?_
    rintro e w4 ⟨T3, rfl, hT3, hs3, B4⟩
    have HT3D := Lib.hid hT3
    have hs3' : T3.size = 10 * q := hs3
    have hs3a : T3.size ≤ 42000 := by omega
    have HB4 := Lib.hid (below_then HB3.out HB3.out.size B4)
    clear hT3 hs3 hs3' B4 HB3
    have hcat : ¬9223372036854775807 < T3.size + 9 := by omega
    obtain ⟨X2, hX2⟩ : ∃ T, (T3 ++ ⟨#[114, 111, 117, 116, 101, 32, 48, 32, 48]⟩ : ByteArray) = T := ⟨_, rfl⟩
    have HX2D : Hid (X2.data.toList = Lib.repeatL sRoute.data.toList q ++ sRoute0.data.toList) := Lib.hid (by rw [← hX2, cat_data, HT3D.out]; rfl)
    have hX2s : X2.size ≤ 42009 := by
      have h : X2.size = T3.size + 9 := by rw [← hX2, ByteArray.size_append]; rfl
      omega
    go_wp2_with fail
    clear hcat hX2
    refine (rep_own sPair k (by show 4 * k ≤ _; omega) (by omega)).mono ?_
    rintro e w5 ⟨T4, rfl, hT4, hs4, B5⟩
    have HT4D := Lib.hid hT4
    have hs4' : T4.size = 4 * k := hs4
    have hs4a : T4.size ≤ 52000 := by omega
    have HB5 := Lib.hid (below_then HB4.out HB4.out.size B5)
    clear hT4 hs4 hs4' B5 HB4
    have hcat : ¬9223372036854775807 < X2.size + T4.size := by omega
    obtain ⟨X3, hX3⟩ : ∃ T, (X2 ++ T4 : ByteArray) = T := ⟨_, rfl⟩
    have hX3s : X3.size ≤ 94009 := by rw [← hX3, ByteArray.size_append]; omega
    have hcat2 : ¬9223372036854775807 < X3.size + 1 := by omega
    obtain ⟨X4, hX4⟩ : ∃ T, (X3 ++ ⟨#[10]⟩ : ByteArray) = T := ⟨_, rfl⟩
    have hX4s : X4.size ≤ 94010 := by
      have h : X4.size = X3.size + 1 := by rw [← hX4, ByteArray.size_append]; rfl
      omega
    have hcat3 : ¬9223372036854775807 < X1.size + X4.size := by omega
    obtain ⟨T, hT⟩ : ∃ T, (X1 ++ X4 : ByteArray) = T := ⟨_, rfl⟩
    have HTD : Hid (T.data.toList = mTx n (q + 1) k) := Lib.hid (by
      rw [← hT, ← hX4, ← hX3, cat_data, cat_data, cat_data, HX1D.out, HX2D.out, HT4D.out]
      unfold mTx
      rw [if_neg (by omega)]
      rfl)
    have hTs : T.size ≤ 200000 := by rw [Lib.size_eq, HTD.out]; exact many_len (by omega) (by omega) (by omega)
    have HDX := Lib.hid (HDY.out.later HB5.out)
    have HGX := Lib.hid (block_later HB5.out HGY.out)
    have HMX := Lib.hid (cell_later HB5.out HMY.out)
    have HTX := Lib.hid (tab_later HTY.out HB5.out)
    have HBX := Lib.hid (below_then HBY.out HBY.out.size HB5.out)
    have g0 := (Cl.of_block HGX.out (j := 0) rfl).cell
    have g1 := (Cl.of_block HGX.out (j := 1) rfl).cell
    clear HDY HGY HMY HTY HBY HB5
    go_wp2_with fail
    clear hcat hcat2 hcat3 hX3 hX4 hT g0 g1 hd
    have hbd := mD_bd n (q + 1) k
    have hpm := parse_mD (n := n) (m := (q + 1)) (k := k) (by omega) (by omega) (by omega)
    obtain ⟨mm, hmm⟩ : ∃ mm, manyD (mD n (q + 1) k) = mm := ⟨_, rfl⟩
    obtain ⟨T2, hT2⟩ : ∃ T2, (T ++ ⟨#[101, 110, 100, 10]⟩ : ByteArray) = T2 := ⟨_, rfl⟩
    have HT2 : Hid (T2.data.toList = textP (mD n (q + 1) k)) := Lib.hid (by rw [← hT2, cat_data, HTD.out, text_many])
    have hcat : ¬9223372036854775807 < T.size + 4 := by omega
    have hT2s : T2.size ≤ 400000000 := by
      have h := congrArg List.length HT2.out
      rw [text_many, List.length_append, ← HTD.out, ← Lib.size_eq, ← Lib.size_eq] at h
      simp at h
      omega
    have hpp : printP (mD n (q + 1) k) = if mm = true then ([], 6) else (textP (mD n (q + 1) k), 0) := by
      unfold printP
      rw [hmm, many_ok]
      rfl
    rw [hmm, ← HT2.out] at hpm
    have HMM := Lib.hid hmm
    have HPM := Lib.hid hpm
    have HPP := Lib.hid hpp
    clear hmm hpm hpp
    refine (print_any HDX.out (by rw [hbd.1]; omega) (by rw [hbd.2.1]; omega) (by have := hbd.2.2; omega) HTX.out).mono ?_
    rw [HPP.out]
    cases mm with
    | true =>
      obtain ⟨S, hS⟩ : ∃ S, toB [] = S := ⟨_, rfl⟩
      have hSe : S.toList.isEmpty = true := by rw [← hS, str_nil, data_toB]; rfl
      simp only [if_true]
      rw [hS]
      clear hS
      rintro e w3 ⟨rfl, B3⟩
      have HD3 := Lib.hid (HDX.out.later B3)
      have HG3 := Lib.hid (block_later B3 HGX.out)
      have HM3 := Lib.hid (cell_later B3 HMX.out)
      have HT3 := Lib.hid (tab_later HTX.out B3)
      have HB3 := Lib.hid (below_then HBX.out HBX.out.size B3)
      clear B3 HDX HGX HMX HTX HBX
      go_wp2_with fail
      clear hT2 hcat
      obtain ⟨pr, hpr⟩ : ∃ pr, parseP T2.data.toList = pr := ⟨_, rfl⟩
      obtain ⟨D5, LN, ER⟩ := pr
      refine (parse_any T2 hT2s HM3.out).mono ?_
      have hER := HPM.out
      simp only [if_true, hpr] at hER
      obtain rfl : ER = 6 := hER
      rw [hpr]
      clear hpr
      rintro e w4 ⟨B5, R5, rfl, hD5, B4⟩
      obtain ⟨AB, cB, AR, cR, rfl, rfl⟩ := drw_shape hD5
      have hb4 : Below w4.heap.size w4 (w4.alloc (.cells #[.slice AB D5.1.length cB, .slice AR D5.2.length cR] 45)) := (Below.refl _ _).alloc (Nat.le_refl _) _
      have HD4 := Lib.hid (Drw.later (Drw.later HD3.out B4) hb4)
      have hG4 := block_later hb4 (block_later B4 HG3.out)
      have q0 := (Cl.of_block hG4 (j := 0) rfl).cell
      have q1 := (Cl.of_block hG4 (j := 1) rfl).cell
      have HM4 := Lib.hid (cell_later hb4 (cell_later B4 HM3.out))
      have HT4 := Lib.hid (tab_later (tab_later HT3.out B4) hb4)
      have HB4 := Lib.hid (below_then (below_then HB3.out HB3.out.size B4) (by have := HB3.out.size; have := B4.size; omega) hb4)
      clear B4 hb4 hD5 hG4 HM3 HT3 HB3 HD3 HG3
      go_wp2_with fail
      refine (refMany_any HD4.out (by rw [hbd.1]; omega) (by rw [hbd.2.1]; omega) (by have := hbd.2.2; omega)).mono ?_
      rw [HMM.out]
      rintro e w5 ⟨rfl, B5⟩
      have HM5 := Lib.hid (cell_later B5 HM4.out)
      have HT5 := Lib.hid (tab_later HT4.out B5)
      have HB5 := Lib.hid (below_then HB4.out HB4.out.size B5)
      clear B5 HM4 HT4 HB4 HD4 q0 q1
      go_wp2_with fail
      refine (pwakes_ok HM5.out HT5.out).mono ?_
      rintro e w6 ⟨rfl, B6⟩
      have HB6 := Lib.hid (below_then HB5.out HB5.out.size B6)
      clear B6
      go_wp2_with fail
      go_ret
      exact ⟨rfl, HB6.out⟩
    | false =>
      have HSE : Hid (toB (textP (mD n (q + 1) k)) = T2) := Lib.hid (by rw [← HT2.out, toB_data])
      rw [if_neg (by decide)]
      simp only [HSE.out]
      rintro e w3 ⟨rfl, B3⟩
      have HD3 := Lib.hid (HDX.out.later B3)
      have HG3 := Lib.hid (block_later B3 HGX.out)
      have HM3 := Lib.hid (cell_later B3 HMX.out)
      have HT3 := Lib.hid (tab_later HTX.out B3)
      have HB3 := Lib.hid (below_then HBX.out HBX.out.size B3)
      clear B3 HDX HGX HMX HTX HBX
      go_wp2_with fail
      refine (parse_any T2 hT2s HM3.out).mono ?_
      have hER := HPM.out
      rw [if_neg (by decide), HT2.out] at hER
      rw [HT2.out, hER]
      clear hER
      obtain ⟨D5, hD5e⟩ : ∃ D5, mD n (q + 1) k = D5 := ⟨_, rfl⟩
      rw [hD5e]
      rintro e w4 ⟨B5, R5, rfl, hD5, B4⟩
      obtain ⟨AB, cB, AR, cR, rfl, rfl⟩ := drw_shape hD5
      have hb4 : Below w4.heap.size w4 (w4.alloc (.cells #[.slice AB D5.1.length cB, .slice AR D5.2.length cR] 45)) := (Below.refl _ _).alloc (Nat.le_refl _) _
      have HD4 := Lib.hid (Drw.later (Drw.later HD3.out B4) hb4)
      have HD5 := Lib.hid (Drw.later hD5 hb4)
      have hG4 := block_later hb4 (block_later B4 HG3.out)
      have hG5 : (w4.alloc (.cells #[.slice AB D5.1.length cB, .slice AR D5.2.length cR] 45)).heap[w4.heap.size]? = some (.cells #[.slice AB D5.1.length cB, .slice AR D5.2.length cR] 45) := heap_at rfl
      have HG4 := Lib.hid hG4
      have HG5 := Lib.hid hG5
      have q0 := (Cl.of_block hG4 (j := 0) rfl).cell
      have q1 := (Cl.of_block hG4 (j := 1) rfl).cell
      have HM4 := Lib.hid (cell_later hb4 (cell_later B4 HM3.out))
      have HT4 := Lib.hid (tab_later (tab_later HT3.out B4) hb4)
      have HB4 := Lib.hid (below_then (below_then HB3.out HB3.out.size B4) (by have := HB3.out.size; have := B4.size; omega) hb4)
      have HDE := Lib.hid hD5e
      clear B4 hb4 hD5 hG4 hG5 HM3 HT3 HB3 HD3 HG3 hD5e
      go_wp2_with fail
      refine (refMany_any HD4.out (by rw [hbd.1]; omega) (by rw [hbd.2.1]; omega) (by have := hbd.2.2; omega)).mono ?_
      rw [HMM.out]
      rintro e w5 ⟨rfl, B5⟩
      have HM5 := Lib.hid (cell_later B5 HM4.out)
      have HT5 := Lib.hid (tab_later HT4.out B5)
      have HB5 := Lib.hid (below_then HB4.out HB4.out.size B5)
      have HD6 := Lib.hid (HD4.out.later B5)
      have HD7 := Lib.hid (HD5.out.later B5)
      have HG6 := Lib.hid (block_later B5 HG4.out)
      have HG7 := Lib.hid (block_later B5 HG5.out)
      clear B5 HM4 HT4 HB4 HD4 HD5 HG4 HG5 q0 q1
      go_wp2_with fail
      refine (pwakes_ok HM5.out HT5.out).mono ?_
      rintro e w6 ⟨rfl, B6⟩
      have HB6 := Lib.hid (below_then HB5.out HB5.out.size B6)
      have HD8 := Lib.hid (HD6.out.later B6)
      have HD9 := Lib.hid (HD7.out.later B6)
      have hG8 := block_later B6 HG6.out
      have hG9 := block_later B6 HG7.out
      have q0 := (Cl.of_block hG8 (j := 0) rfl).cell
      have q1 := (Cl.of_block hG8 (j := 1) rfl).cell
      have q2 := (Cl.of_block hG9 (j := 0) rfl).cell
      have q3 := (Cl.of_block hG9 (j := 1) rfl).cell
      have hts2 : (T2.toList == T2.toList) = true := by simp
      clear B6 hG8 hG9 HG6 HG7 HD6 HD7 HB5 HM5 HT5
      go_wp2_with fail
      refine (same_any HD9.out HD8.out (by rw [← HDE.out, hbd.1]; omega) (by rw [← HDE.out, hbd.2.1]; omega) (fun r hr => by rw [← HDE.out] at hr; have := mD_pts _ _ _ r hr; omega)).mono ?_
      rw [show decide (D5 = mD n (q + 1) k) = true by simp [HDE.out]]
      rintro e w7 ⟨rfl, B7⟩
      have HB7 := Lib.hid (below_then HB6.out HB6.out.size B7)
      clear B7 q0 q1 q2 q3
      go_wp2_with fail
      go_ret
      exact ⟨rfl, HB7.out⟩
end Go.Proofs.YtkpgjgmlhcipeaaDoor
