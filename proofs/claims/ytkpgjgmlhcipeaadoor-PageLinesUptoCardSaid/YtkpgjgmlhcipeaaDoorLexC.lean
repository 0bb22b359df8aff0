/- The document's own number. -/
import Derived.Test.YtkpgjgmlhcipeaaDoorLexB
namespace Go.Proofs.YtkpgjgmlhcipeaaDoor
open Go.RowKit
theorem byte_at {s : ByteArray} {i : Nat} (h : i < s.size) : s.data.toList[i]? = some (s[i]'h) := by
  have h1 := Lib.getD_at s i h
  have hp : i < s.data.toList.length := by rw [← Lib.size_eq]; exact h
  rw [List.getElem?_eq_getElem hp, h1, List.getD_eq_getElem?_getD, List.getElem?_eq_getElem hp]
  rfl
theorem dec_take {l : List UInt8} {i n : Nat} {b : UInt8} (h : Lib.decFrom 0 (l.take i) = some n) (hb : l[i]? = some b) (hd : nonD b.toNat = false) : Lib.decFrom 0 (l.take (i + 1)) = some (n * 10 + (b.toNat - 48)) := Lib.decFrom_take l i 0 n b _ h hb (dv_some hd)
theorem any_bad {l : List UInt8} {i : Nat} {b : UInt8} (hb : l[i]? = some b) (hd : nonD b.toNat = true) : (l.any fun b => nonD b.toNat) = true := List.any_eq_true.2 ⟨b, List.mem_of_getElem? hb, hd⟩
set_option maxRecDepth 100000 in
set_option maxHeartbeats 1000000 in
theorem refNumber_any {w : World} (s : ByteArray) (most : Int) :
    Calls Tryd.prog 19 #[.string s, .int .i64 most] w fun e w' => e = .returned (.tuple #[.int .i64 (numV (numO s.data.toList most)), .bool (numO s.data.toList most).isSome]) ∧ Below w.heap.size w w' := by
  have HSZ := Lib.hid (Lib.size_eq s)
  obtain ⟨O, hO⟩ : ∃ O, numO s.data.toList most = O := ⟨_, rfl⟩
  rw [hO]
  have HO := Lib.hid hO
  clear hO
  go_enter Tryd.func19, Tryd.ntmps19
  by_cases h0 : s.size < 1
  · have hd : decide ((s.size : Int) < 1) = true := by simp; omega
    have H0 := Lib.hid h0
    clear h0
    go_wp2_with fail
    go_ret2
    obtain rfl := HO.out.symm.trans (numO_shape (fun h => by have := h.1; have := HSZ.out; have := H0.out; omega))
    exact ⟨rfl, Below.refl _ _⟩
  · have hd : decide ((s.size : Int) < 1) = false := by simp; omega
    have hpos : 0 < s.size := by omega
    clear h0
    by_cases h7 : 7 < s.size
    · have hd7 : decide ((7 : Int) < (s.size : Int)) = true := by simp; omega
      have H7 := Lib.hid h7
      clear h7
      go_wp2_with fail
      go_ret2
      obtain rfl := HO.out.symm.trans (numO_shape (fun h => by have := h.2.1; have := HSZ.out; have := H7.out; omega))
      exact ⟨rfl, Below.refl _ _⟩
    · have hd7 : decide ((7 : Int) < (s.size : Int)) = false := by simp; omega
      have hs7 : s.size ≤ 7 := by omega
      clear h7
      obtain ⟨q, hq⟩ : ∃ q, (decide (1 < s.size) && (s[0]'hpos == 48)) = q := ⟨_, rfl⟩
      cases q with
      | true =>
        rw [Bool.and_eq_true, decide_eq_true_eq, beq_iff_eq] at hq
        obtain ⟨h1, h48⟩ := hq
        have hd1 : decide ((1 : Int) < (s.size : Int)) = true := by simp; omega
        have he : ((((48 : UInt8).toNat : Nat) : Int) == 48) = true := rfl
        have HB0 := Lib.hid (byte_at hpos)
        have H1 := Lib.hid h1
        have H48 := Lib.hid h48
        clear h1
        go_wp2_with fail
        go_ret2
        obtain rfl := HO.out.symm.trans (numO_shape (fun h => h.2.2 ⟨by have := HSZ.out; have := H1.out; omega, by rw [HB0.out, H48.out]⟩))
        exact ⟨rfl, Below.refl _ _⟩
      | false =>
        have HSH : Hid (¬(1 < s.data.toList.length ∧ s.data.toList[0]? = some 48)) := Lib.hid (by
          rintro ⟨h1, h2⟩
          rw [byte_at hpos] at h2
          have h3 : s[0]'hpos = 48 := by simpa using h2
          rw [decide_eq_true (show 1 < s.size by rw [HSZ.out]; exact h1), h3] at hq
          simp at hq)
        obtain ⟨b0, hb0⟩ : ∃ b, s[0]'hpos = b := ⟨_, rfl⟩
        rw [hb0] at hq
        by_cases h1 : 1 < s.size
        case' pos =>
          have hd1 : decide ((1 : Int) < (s.size : Int)) = true := by simp; omega
          have hb48 : b0 ≠ 48 := by
            intro e
            rw [decide_eq_true h1, e] at hq
            simp at hq
          have he : (((b0.toNat : Nat) : Int) == 48) = false := by
            rw [beq_eq_false_iff_ne]
            intro h
            apply hb48
            have : b0.toNat = 48 := by omega
            exact UInt8.toNat_inj.1 this
          clear hq hb48 h1
        case' neg =>
          have hd1 : decide ((1 : Int) < (s.size : Int)) = false := by simp; omega
          clear hq h1
        all_goals
          go_wp2_with fail
          go_loopw [6, 7] (fun qn qi wr => ∃ (i n : Nat), i ≤ s.size ∧ qn = .int .i64 n ∧ qi = .int .i64 i ∧ Hid (Lib.decFrom 0 (s.data.toList.take i) = some n) ∧ n < 10000000 ∧ wr = w) (fun _ q _ => s.size - (intOf q).toNat)
          case atStart => exact ⟨0, 0, by omega, rfl, rfl, Lib.hid rfl, by omega, rfl⟩
          case round =>
            obtain ⟨i, n, hi, rfl, rfl, HD, hn7, hwr⟩ := hrel
            subst hwr
            obtain ⟨wo, rfl⟩ : ∃ q : World, q = wr := ⟨_, rfl⟩
            by_cases hil : i < s.size
            · have hdi : decide ((i : Int) < s.size) = true := by simp; omega
              have HB := Lib.hid (byte_at hil)
              obtain ⟨b, hb⟩ : ∃ b, s[i]'hil = b := ⟨_, rfl⟩
              rw [hb] at HB
              have hbl : b.toNat < 256 := b.toNat_lt
              have j1 : (0 : Int) ≤ (i : Int) := by omega
              have j2 : (i : Int) < (s.size : Int) := by omega
              by_cases hlo : b.toNat < 48
              · have hdl : decide (((b.toNat : Nat) : Int) < 48) = true := by simp; omega
                have HN : Hid (nonD b.toNat = true) := Lib.hid (by unfold nonD; simp; omega)
                clear hlo
                go_wp2_with fail
                go_ret2
                obtain rfl := HO.out.symm.trans (numO_bad (dec_bad _ 0 (any_bad HB.out HN.out)))
                exact ⟨rfl, Below.refl _ _⟩
              · have hdl : decide (((b.toNat : Nat) : Int) < 48) = false := by simp; omega
                by_cases hhi : 57 < b.toNat
                · have hdh : decide ((57 : Int) < ((b.toNat : Nat) : Int)) = true := by simp; omega
                  have HN : Hid (nonD b.toNat = true) := Lib.hid (by unfold nonD; simp; omega)
                  clear hlo hhi
                  go_wp2_with fail
                  go_ret2
                  obtain rfl := HO.out.symm.trans (numO_bad (dec_bad _ 0 (any_bad HB.out HN.out)))
                  exact ⟨rfl, Below.refl _ _⟩
                · have hdh : decide ((57 : Int) < ((b.toNat : Nat) : Int)) = false := by simp; omega
                  have HST := Lib.hid (dec_take HD.out HB.out (by unfold nonD; simp; omega))
                  have hnx : n * 10 + (b.toNat - 48) < 10000000 := by
                    have h1 := dec_lt _ 0 _ HST.out
                    have h2 : (s.data.toList.take (i + 1)).length ≤ 7 := by rw [List.length_take]; omega
                    have h3 : 10 ^ (s.data.toList.take (i + 1)).length ≤ 10 ^ 7 := Nat.pow_le_pow_right (by decide) h2
                    omega
                  have e1 : IntKind.i64.wrap (10 * (n : Int)) = 10 * n := IntWalk.i64_in _ (by omega)
                  have e2 : IntKind.i64.wrap (10 * (n : Int) + (b.toNat : Nat)) = 10 * n + (b.toNat : Nat) := IntWalk.i64_in _ (by omega)
                  have e3 : IntKind.i64.wrap (10 * (n : Int) + (b.toNat : Nat) - 48) = 10 * n + (b.toNat : Nat) - 48 := IntWalk.i64_in _ (by omega)
                  have e4 : IntKind.i64.wrap ((b.toNat : Nat) : Int) = (b.toNat : Nat) := IntWalk.i64_in _ (by omega)
                  have HLO : Hid (48 ≤ b.toNat) := Lib.hid (by omega)
                  clear hlo hhi
                  go_wp2_with fail
                  exact ⟨⟨i + 1, n * 10 + (b.toNat - 48), by omega, by have := HLO.out; congr 1; omega, by go_num, HST, hnx, trivial⟩, by simp [intOf]; omega⟩
            · have e : i = s.size := by omega
              subst e
              have hdi : decide ((s.size : Int) < s.size) = false := by simp
              have HV : Hid (Lib.decFrom 0 s.data.toList = some n) := Lib.hid (by
                have := HD.out
                rwa [List.take_of_length_le (by rw [← HSZ.out]; exact Nat.le_refl _)] at this)
              have hmain : O = if (n : Int) ≤ most then some n else none := by
                rw [← HO.out]
                exact numO_of ⟨by have := HSZ.out; omega, by have := HSZ.out; omega, HSH.out⟩ HV.out
              have HMAIN := Lib.hid hmain
              clear hmain
              by_cases hm : (n : Int) ≤ most
              · have hd2 : decide (most < (n : Int)) = false := by simp; omega
                obtain rfl := HMAIN.out.trans (if_pos hm)
                clear hm
                go_wp2_with fail
                go_ret2
                exact ⟨rfl, Below.refl _ _⟩
              · have hd2 : decide (most < (n : Int)) = true := by simp; omega
                obtain rfl := HMAIN.out.trans (if_neg hm)
                clear hm
                go_wp2_with fail
                go_ret2
                exact ⟨rfl, Below.refl _ _⟩
end Go.Proofs.YtkpgjgmlhcipeaaDoor
