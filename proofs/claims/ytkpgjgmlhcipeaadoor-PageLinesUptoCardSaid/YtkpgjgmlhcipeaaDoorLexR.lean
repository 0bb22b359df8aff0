/- The document's own lines and words. -/
import Derived.Test.YtkpgjgmlhcipeaaDoorLexB
namespace Go.Proofs.YtkpgjgmlhcipeaaDoor
open Go.RowKit
def piece (l : List UInt8) (a b : Nat) : List UInt8 := (l.drop a).take (b - a)
theorem ext_toB (s : ByteArray) (a b : Nat) : s.extract a b = toB (piece s.data.toList a b) := by
  rw [← toB_data (s.extract a b)]
  congr 1
  exact (Lib.extract_data s a b)
theorem cut_piece {c : UInt8} {l : List UInt8} {fr i : Nat} (hfi : fr ≤ i) (hi : l[i]? = some c) (h : ∀ k : Nat, fr ≤ k → k < i → l[k]? ≠ some c) : cut c (l.drop fr) = piece l fr i :: cut c (l.drop (i + 1)) := by
  have h1 : (l.drop fr)[i - fr]? = some c := by rw [List.getElem?_drop, show fr + (i - fr) = i by omega]; exact hi
  rw [cut_at h1 (fun k hk => by rw [List.getElem?_drop]; exact h _ (by omega) (by omega)), List.drop_drop, show fr + (i - fr + 1) = i + 1 by omega]
  rfl
theorem cut_last {c : UInt8} {l : List UInt8} {fr : Nat} (h : ∀ k : Nat, fr ≤ k → k < l.length → l[k]? ≠ some c) : cut c (l.drop fr) = [l.drop fr] := by
  refine cut_none (fun k => ?_)
  rw [List.getElem?_drop]
  by_cases hk : fr + k < l.length
  · exact h _ (by omega) hk
  · rw [List.getElem?_eq_none (by omega)]
    simp
theorem suf_of {l : List UInt8} {c : UInt8} (hl : 0 < l.length) (h : l[l.length - 1]? = some c) : Lib.hasSuffix l [c] = true := by
  unfold Lib.hasSuffix
  rw [List.isSuffixOf_iff_suffix]
  refine ⟨l.dropLast, ?_⟩
  have hne : l ≠ [] := List.length_pos_iff.1 hl
  have h2 : l.getLast hne = c := by
    rw [List.getLast_eq_getElem]
    rw [List.getElem?_eq_getElem (by omega)] at h
    simpa using h
  rw [← h2]
  exact List.dropLast_concat_getLast hne
theorem ln_end {l : List UInt8} {P : List (List UInt8)} {fr : Nat} (h : cut 10 l = P ++ cut 10 (l.drop fr)) (hf : ∀ k : Nat, fr ≤ k → k < l.length → l[k]? ≠ some 10) (hfr : fr ≤ l.length) (hl : fr = 0 ∨ l[fr - 1]? = some 10) (hs : l.length ≤ 1048576) :
    (fr < l.length → lnE l = 4 ∧ lnL l = []) ∧ (fr = l.length → lnE l = 0 ∧ lnL l = P.map toB) := by
  rw [cut_last hf] at h
  constructor
  · intro hlt
    have e : lnE l = 4 := by
      unfold lnE
      rw [if_neg (by omega), if_neg (by intro e; subst e; simp at hlt), if_neg]
      intro hsf
      have h1 := suf_one hsf
      refine hf (l.length - 1) (by omega) (by omega) ?_
      rw [h1]
      simp
    refine ⟨e, ?_⟩
    unfold lnL
    rw [e, if_neg (by simp)]
  · intro he
    have hd : l.drop fr = [] := List.drop_eq_nil_iff.2 (by omega)
    rw [hd] at h
    by_cases h0 : l = []
    · subst h0
      have hP : P = [] := by
        have := congrArg List.length h
        simp [cut] at this
        exact this
      subst hP
      refine ⟨by unfold lnE; rw [if_neg (by simp), if_pos rfl], by unfold lnL; rw [if_neg (fun h => h.2 rfl)]; rfl⟩
    · have hpos : 0 < l.length := List.length_pos_iff.2 h0
      have hsf : Lib.hasSuffix l [10] = true := by
        rcases hl with hl | hl
        · omega
        · rw [he] at hl
          exact suf_of hpos hl
      have e : lnE l = 0 := by unfold lnE; rw [if_neg (by omega), if_neg h0, if_pos hsf]
      refine ⟨e, ?_⟩
      unfold lnL
      rw [if_pos ⟨e, h0⟩]
      have h1 := suf_one hsf
      have h2 : cut 10 l = cut 10 l.dropLast ++ [[]] := by
        conv => lhs; rw [h1]
        exact cut_snoc _
      rw [h2] at h
      rw [List.append_cancel_right h]
section
variable {w : World}
set_option maxRecDepth 100000 in
set_option maxHeartbeats 2000000 in
theorem refLines_any (s : ByteArray) (hs : s.size < 4294967281) :
    Calls Tryd.prog 16 #[.string s] w fun e w' => ∃ V, e = .returned (.tuple #[V, .int .i64 (lnE s.data.toList)]) ∧ Strs w' V (lnL s.data.toList) ∧ Below w.heap.size w w' := by
  have HSZ := Lib.hid (Lib.size_eq s)
  obtain ⟨E, hE⟩ : ∃ E, lnE s.data.toList = E := ⟨_, rfl⟩
  obtain ⟨LL, hLL⟩ : ∃ LL, lnL s.data.toList = LL := ⟨_, rfl⟩
  rw [hE, hLL]
  have HE := Lib.hid hE
  have HLL := Lib.hid hLL
  clear hE hLL
  obtain ⟨i0, hi0, hz0, hz1, hz2⟩ := info_parts info_str
  go_enter Tryd.func16, Tryd.ntmps16
  by_cases h1 : 1048576 < s.size
  · have hd : decide ((1048576 : Int) < (s.size : Int)) = true := by simp; omega
    have H1 := Lib.hid h1
    clear h1
    go_wp2_with fail
    go_ret2
    have hE : lnE s.data.toList = 16 := by unfold lnE; rw [if_pos (by have := HSZ.out; have := H1.out; omega)]
    obtain rfl := HE.out.symm.trans hE
    refine ⟨_, rfl, ?_, Below.refl _ _⟩
    rw [← HLL.out]
    unfold lnL
    rw [hE, if_neg (by simp)]
    exact Strs.nil _
  · have hd : decide ((1048576 : Int) < (s.size : Int)) = false := by simp; omega
    go_wp2_with fail
    go_loopw [4, 5, 6] (fun Vl qf qi wr => ∃ (i fr : Nat) (P : List (List UInt8)), i ≤ s.size ∧ fr ≤ i ∧ P.length ≤ i ∧ qf = .int .i64 fr ∧ qi = .int .i64 i ∧ wr.ownsRow w.heap.size 9 1 Vl P.length (flat encS (P.map toB)) ∧ Hid (cut 10 s.data.toList = P ++ cut 10 (s.data.toList.drop fr)) ∧ Hid (∀ k : Nat, fr ≤ k → k < i → s.data.toList[k]? ≠ some 10) ∧ Hid (fr = 0 ∨ s.data.toList[fr - 1]? = some 10) ∧ Below w.heap.size w wr) (fun _ _ q _ => s.size - (intOf q).toNat)
    case atStart => exact ⟨0, 0, [], by omega, by omega, by simp, rfl, rfl, World.ownsRow_nil _ _ _ _, Lib.hid rfl, Lib.hid (fun k _ hk => absurd hk (by omega)), Lib.hid (.inl rfl), Below.refl _ _⟩
    case round =>
      obtain ⟨i, fr, P, hi, hfi, hPi, rfl, rfl, R, HC, HF, HL, B⟩ := hrel
      obtain ⟨wo, rfl⟩ : ∃ x : World, x = wr := ⟨_, rfl⟩
      obtain ⟨AV, cV, hVl, -⟩ := own_shape R
      subst hVl
      have HR := Lib.hid R
      have HB := Lib.hid B
      have hwo := B.size
      clear R B
      by_cases hil : i < s.size
      · have hdi : decide ((i : Int) < s.size) = true := by simp; omega
        obtain ⟨b, hb⟩ : ∃ b, s[i]'hil = b := ⟨_, rfl⟩
        have hb0 : s.data.toList[i]? = some b := by
          have h1 := Lib.getD_at s i hil
          rw [hb] at h1
          have hp : i < s.data.toList.length := by rw [← HSZ.out]; exact hil
          rw [List.getElem?_eq_getElem hp]
          rw [h1, List.getD_eq_getElem?_getD, List.getElem?_eq_getElem hp]
          rfl
        have HB0 := Lib.hid hb0
        have j1 : (0 : Int) ≤ (i : Int) := by omega
        have j2 : (i : Int) < (s.size : Int) := by omega
        clear hb0
        by_cases h10 : b = 10
        · have he : (((b.toNat : Nat) : Int) == 10) = true := by rw [h10]; rfl
          have H10 : Hid (s.data.toList[i]? = some 10) := Lib.hid (by rw [HB0.out, h10])
          have HPC := Lib.hid (cut_piece hfi H10.out HF.out)
          have HX := Lib.hid (ext_toB s fr i)
          have j3 : (0 : Int) ≤ (fr : Int) := by omega
          have j4 : (fr : Int) ≤ (i : Int) := by omega
          have j5 : (i : Int) ≤ (s.size : Int) := by omega
          clear h10
          go_wp2_with (refine wpList_append_lies _ rfl (.tmp 20) (.tmp 25) 27 rfl w.heap.size 9 i0 (.string ByteArray.empty) 1 16 Tryd.underlying27 hi0 hz0 hz1 hz2 rfl (by decide) (.slice AV P.length cV) P.length (flat encS (P.map toB)) rfl (own_later HR.out ((Below.refl _ _).alloc (Nat.le_refl _) _)) ⟨wo.heap.size, 0, none⟩ 1 1 (encS (s.extract fr i)) rfl rfl (World.news_of_block (heap_at rfl)) (by intro u hu; simp [encS] at hu; subst hu; rfl) (by omega) (by simp only [maxLen]; omega) (by omega) (by simp; omega) _ rfl ?_; intro gq cq w8 hown hgrow hat hlt)
          have HB8 := (HB.out.trans (((Below.refl wo.heap.size wo).alloc (Nat.le_refl _) _).mono HB.out.size)).grown hgrow (by simp; omega) (fun q hq => own_ge HR.out hq)
          refine ⟨⟨i + 1, i + 1, P ++ [piece s.data.toList fr i], by omega, by omega, by simp; omega, by go_num, by go_num, ?_, Lib.hid (by rw [HC.out, HPC.out]; simp), Lib.hid (fun k h1 h2 => absurd h2 (by omega)), Lib.hid (.inr (by simpa using H10.out)), HB8⟩, by simp [intOf]; omega⟩
          rw [List.map_append, flat_append]
          rw [HX.out] at hown
          simpa [flat] using hown
        · have he : (((b.toNat : Nat) : Int) == 10) = false := by
            rw [beq_eq_false_iff_ne]
            intro h
            apply h10
            have : b.toNat = 10 := by omega
            exact UInt8.toNat_inj.1 this
          have HNB : Hid (s.data.toList[i]? ≠ some 10) := Lib.hid (by rw [HB0.out]; intro e; exact h10 (by simpa using e))
          clear h10
          go_wp2_with fail
          exact ⟨⟨i + 1, fr, P, by omega, by omega, by omega, rfl, by go_num, HR.out, HC, Lib.hid (fun k h1 h2 => by
            by_cases e : k = i
            · subst e; exact HNB.out
            · exact HF.out k h1 (by omega)), HL, HB.out⟩, by simp [intOf]; omega⟩
      · have e : i = s.size := by omega
        subst e
        have hdi : decide ((s.size : Int) < s.size) = false := by simp
        have HEND := Lib.hid (ln_end HC.out (by rw [← HSZ.out]; exact HF.out) (by rw [← HSZ.out]; exact hfi) HL.out (by rw [← HSZ.out]; omega))
        by_cases hfr : fr < s.size
        · have hdf : decide (fr < s.size) = true := by simp; omega
          have HFR := Lib.hid hfr
          clear hfr
          go_wp2_with fail
          go_ret2
          obtain ⟨e1, e2⟩ := HEND.out.1 (by rw [← HSZ.out]; exact HFR.out)
          obtain rfl := HE.out.symm.trans e1
          obtain rfl := HLL.out.symm.trans e2
          exact ⟨_, rfl, Strs.nil _, HB.out⟩
        · have hdf : decide (fr < s.size) = false := by simp; omega
          have HFR : Hid (fr = s.size) := Lib.hid (by omega)
          clear hfr
          go_wp2_with fail
          go_ret2
          obtain ⟨e1, e2⟩ := HEND.out.2 (by rw [← HSZ.out]; exact HFR.out)
          obtain rfl := HE.out.symm.trans e1
          obtain rfl := HLL.out.symm.trans e2
          exact ⟨_, rfl, Sl.of_own encS_length (by simpa using HR.out), HB.out⟩
theorem wd_false {l : List UInt8} {P Q : List (List UInt8)} (h : cut 32 l = P ++ [] :: Q) : wdO l = false := by
  unfold wdO
  rw [h, List.all_append, List.all_cons]
  simp
theorem wd_true {l : List UInt8} {P : List (List UInt8)} (h : cut 32 l = P) (hp : ∀ p ∈ P, p ≠ []) : wdO l = true ∧ wdL l = P.map toB := by
  have e : wdO l = true := by
    unfold wdO
    rw [h, List.all_eq_true]
    intro p hpm
    have := hp p hpm
    cases p with
    | nil => exact absurd rfl this
    | cons a t => rfl
  refine ⟨e, ?_⟩
  unfold wdL
  rw [if_pos e, h]
theorem piece_nil {l : List UInt8} {i : Nat} : piece l i i = [] := by unfold piece; rw [Nat.sub_self]; rfl
theorem piece_ne {l : List UInt8} {fr i : Nat} (h : fr < i) (hi : i ≤ l.length) : piece l fr i ≠ [] := by
  intro e
  have := congrArg List.length e
  unfold piece at this
  simp at this
  omega
theorem piece_end {l : List UInt8} {fr : Nat} : piece l fr l.length = l.drop fr := by
  unfold piece
  exact List.take_of_length_le (by simp)
set_option maxRecDepth 100000 in
set_option maxHeartbeats 2000000 in
theorem refWords_any (s : ByteArray) (hs : s.size < 4294967281) :
    Calls Tryd.prog 18 #[.string s] w fun e w' => ∃ V, e = .returned (.tuple #[V, .bool (wdO s.data.toList)]) ∧ Strs w' V (wdL s.data.toList) ∧ Below w.heap.size w w' := by
  have HSZ := Lib.hid (Lib.size_eq s)
  obtain ⟨E, hE⟩ : ∃ E, wdO s.data.toList = E := ⟨_, rfl⟩
  obtain ⟨LL, hLL⟩ : ∃ LL, wdL s.data.toList = LL := ⟨_, rfl⟩
  rw [hE, hLL]
  have HE := Lib.hid hE
  have HLL := Lib.hid hLL
  clear hE hLL
  obtain ⟨i0, hi0, hz0, hz1, hz2⟩ := info_parts info_str
  go_enter Tryd.func18, Tryd.ntmps18
  go_wp2_with fail
  go_loopw [4, 5, 6] (fun Vl qf qi wr => ∃ (i fr : Nat) (P : List (List UInt8)), i ≤ s.size + 1 ∧ fr ≤ i ∧ P.length ≤ i ∧ qf = .int .i64 fr ∧ qi = .int .i64 i ∧ wr.ownsRow w.heap.size 9 1 Vl P.length (flat encS (P.map toB)) ∧ Hid (cut 32 s.data.toList = P ++ (if i ≤ s.size then cut 32 (s.data.toList.drop fr) else [])) ∧ Hid (∀ k : Nat, fr ≤ k → k < i → s.data.toList[k]? ≠ some 32) ∧ Hid (∀ p ∈ P, p ≠ []) ∧ Below w.heap.size w wr) (fun _ _ q _ => s.size + 1 - (intOf q).toNat)
  case atStart => exact ⟨0, 0, [], by omega, by omega, by simp, rfl, rfl, World.ownsRow_nil _ _ _ _, Lib.hid (by rw [if_pos (by omega)]; rfl), Lib.hid (fun k _ hk => absurd hk (by omega)), Lib.hid (fun p hp => by cases hp), Below.refl _ _⟩
  case round =>
    obtain ⟨i, fr, P, hi, hfi, hPi, rfl, rfl, R, HC, HF, HN, B⟩ := hrel
    obtain ⟨wo, rfl⟩ : ∃ x : World, x = wr := ⟨_, rfl⟩
    obtain ⟨AV, cV, hVl, -⟩ := own_shape R
    subst hVl
    have HR := Lib.hid R
    have HB := Lib.hid B
    have hwo := B.size
    clear R B
    by_cases hile : i ≤ s.size
    · have hdi : decide ((i : Int) ≤ s.size) = true := by simp; omega
      have HC2 : Hid (cut 32 s.data.toList = P ++ cut 32 (s.data.toList.drop fr)) := Lib.hid (by rw [HC.out, if_pos hile])
      have j1 : (0 : Int) ≤ (i : Int) := by omega
      have j3 : (0 : Int) ≤ (fr : Int) := by omega
      have j4 : (fr : Int) ≤ (i : Int) := by omega
      have j5 : (i : Int) ≤ (s.size : Int) := by omega
      have HX := Lib.hid (ext_toB s fr i)
      clear HC
      by_cases hil : i < s.size
      · have hdl : decide ((i : Int) < s.size) = true := by simp; omega
        obtain ⟨b, hb⟩ : ∃ b, s[i]'hil = b := ⟨_, rfl⟩
        have hb0 : s.data.toList[i]? = some b := by
          have h1 := Lib.getD_at s i hil
          rw [hb] at h1
          have hp : i < s.data.toList.length := by rw [← HSZ.out]; exact hil
          rw [List.getElem?_eq_getElem hp]
          rw [h1, List.getD_eq_getElem?_getD, List.getElem?_eq_getElem hp]
          rfl
        have HB0 := Lib.hid hb0
        have j2 : (i : Int) < (s.size : Int) := by omega
        clear hb0
        by_cases h32 : b = 32
        · have he : (((b.toNat : Nat) : Int) != 32) = false := by rw [h32]; rfl
          have H32 : Hid (s.data.toList[i]? = some 32) := Lib.hid (by rw [HB0.out, h32])
          have HPC := Lib.hid (cut_piece hfi H32.out HF.out)
          clear h32
          by_cases hfe : i = fr
          · have hde : ((i : Int) == (fr : Int)) = true := by simp [hfe]
            have HFE := Lib.hid hfe
            clear hfe
            go_wp2_with fail
            go_ret2
            have e1 : wdO s.data.toList = false := wd_false (P := P) (Q := cut 32 (s.data.toList.drop (i + 1))) (by rw [HC2.out, HPC.out, HFE.out, piece_nil])
            obtain rfl := HE.out.symm.trans e1
            refine ⟨_, rfl, ?_, HB.out⟩
            rw [← HLL.out]
            unfold wdL
            rw [if_neg (by rw [e1]; decide)]
            exact Strs.nil _
          · have hde : ((i : Int) == (fr : Int)) = false := by simp; omega
            have HFE := Lib.hid hfe
            clear hfe
            go_wp2_with (refine wpList_append_lies _ rfl (.tmp 26) (.tmp 31) 27 rfl w.heap.size 9 i0 (.string ByteArray.empty) 1 16 Tryd.underlying27 hi0 hz0 hz1 hz2 rfl (by decide) (.slice AV P.length cV) P.length (flat encS (P.map toB)) rfl (own_later HR.out ((Below.refl _ _).alloc (Nat.le_refl _) _)) ⟨wo.heap.size, 0, none⟩ 1 1 (encS (s.extract fr i)) rfl rfl (World.news_of_block (heap_at rfl)) (by intro u hu; simp [encS] at hu; subst hu; rfl) (by omega) (by simp only [maxLen]; omega) (by omega) (by simp; omega) _ rfl ?_; intro gq cq w8 hown hgrow hat hlt)
            have HB8 := (HB.out.trans (((Below.refl wo.heap.size wo).alloc (Nat.le_refl _) _).mono HB.out.size)).grown hgrow (by simp; omega) (fun q hq => own_ge HR.out hq)
            refine ⟨⟨i + 1, i + 1, P ++ [piece s.data.toList fr i], by omega, by omega, by simp; omega, by go_num, by go_num, ?_, Lib.hid (by rw [HC2.out, HPC.out, if_pos (by omega)]; simp), Lib.hid (fun k h1 h2 => absurd h2 (by omega)), Lib.hid (fun p hp => ?_), HB8⟩, by simp [intOf]; omega⟩
            · rw [List.map_append, flat_append]
              rw [HX.out] at hown
              simpa [flat] using hown
            · rcases List.mem_append.1 hp with hp | hp
              · exact HN.out p hp
              · have : p = piece s.data.toList fr i := by simpa using hp
                subst this
                exact piece_ne (by have := HFE.out; omega) (by rw [← HSZ.out]; omega)
        · have he : (((b.toNat : Nat) : Int) != 32) = true := by
            rw [bne_iff_ne]
            intro h
            apply h32
            have : b.toNat = 32 := by omega
            exact UInt8.toNat_inj.1 this
          have HNB : Hid (s.data.toList[i]? ≠ some 32) := Lib.hid (by rw [HB0.out]; intro e; exact h32 (by simpa using e))
          clear h32
          go_wp2_with fail
          exact ⟨⟨i + 1, fr, P, by omega, by omega, by omega, rfl, by go_num, HR.out, Lib.hid (by rw [if_pos (by omega)]; exact HC2.out), Lib.hid (fun k h1 h2 => by
            by_cases e : k = i
            · subst e; exact HNB.out
            · exact HF.out k h1 (by omega)), HN, HB.out⟩, by simp [intOf]; omega⟩
      · have e : i = s.size := by omega
        subst e
        have hdl : decide ((s.size : Int) < s.size) = false := by simp
        have HCL := Lib.hid (cut_last (fr := fr) (by rw [← HSZ.out]; exact HF.out))
        by_cases hfe : s.size = fr
        · have hde : ((s.size : Int) == (fr : Int)) = true := by simp [hfe]
          have HFE := Lib.hid hfe
          clear hfe
          go_wp2_with fail
          go_ret2
          have e1 : wdO s.data.toList = false := wd_false (P := P) (Q := []) (by rw [HC2.out, HCL.out, List.drop_eq_nil_iff.2 (by rw [← HSZ.out, HFE.out]; exact Nat.le_refl _)])
          obtain rfl := HE.out.symm.trans e1
          refine ⟨_, rfl, ?_, HB.out⟩
          rw [← HLL.out]
          unfold wdL
          rw [if_neg (by rw [e1]; decide)]
          exact Strs.nil _
        · have hde : ((s.size : Int) == (fr : Int)) = false := by simp; omega
          have HFE := Lib.hid hfe
          clear hfe
          go_wp2_with (refine wpList_append_lies _ rfl (.tmp 26) (.tmp 31) 27 rfl w.heap.size 9 i0 (.string ByteArray.empty) 1 16 Tryd.underlying27 hi0 hz0 hz1 hz2 rfl (by decide) (.slice AV P.length cV) P.length (flat encS (P.map toB)) rfl (own_later HR.out ((Below.refl _ _).alloc (Nat.le_refl _) _)) ⟨wo.heap.size, 0, none⟩ 1 1 (encS (s.extract fr s.size)) rfl rfl (World.news_of_block (heap_at rfl)) (by intro u hu; simp [encS] at hu; subst hu; rfl) (by omega) (by simp only [maxLen]; omega) (by omega) (by simp; omega) _ rfl ?_; intro gq cq w8 hown hgrow hat hlt)
          have HB8 := (HB.out.trans (((Below.refl wo.heap.size wo).alloc (Nat.le_refl _) _).mono HB.out.size)).grown hgrow (by simp; omega) (fun q hq => own_ge HR.out hq)
          refine ⟨⟨s.size + 1, s.size + 1, P ++ [piece s.data.toList fr s.size], by omega, by omega, by simp; omega, by go_num, by go_num, ?_, Lib.hid ?_, Lib.hid (fun k h1 h2 => absurd h2 (by omega)), Lib.hid (fun p hp => ?_), HB8⟩, by simp [intOf]⟩
          · rw [List.map_append, flat_append]
            rw [HX.out] at hown
            simpa [flat] using hown
          · rw [HC2.out, HCL.out, if_neg (by omega), List.append_nil]
            congr 2
            rw [HSZ.out, piece_end]
          · rcases List.mem_append.1 hp with hp | hp
            · exact HN.out p hp
            · have : p = piece s.data.toList fr s.size := by simpa using hp
              subst this
              exact piece_ne (by have := HFE.out; omega) (by rw [← HSZ.out]; omega)
    · have hdi : decide ((i : Int) ≤ s.size) = false := by simp; omega
      have HC2 : Hid (cut 32 s.data.toList = P) := Lib.hid (by rw [HC.out, if_neg hile, List.append_nil])
      clear HC
      go_wp2_with fail
      go_ret2
      obtain ⟨e1, e2⟩ := wd_true HC2.out HN.out
      obtain rfl := HE.out.symm.trans e1
      obtain rfl := HLL.out.symm.trans e2
      exact ⟨_, rfl, Sl.of_own encS_length (by simpa using HR.out), HB.out⟩
end
end Go.Proofs.YtkpgjgmlhcipeaaDoor
