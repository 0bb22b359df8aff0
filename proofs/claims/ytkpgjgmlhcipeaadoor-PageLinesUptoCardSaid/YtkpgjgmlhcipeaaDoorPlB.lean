/- PageLines: the law's walk. -/
import Derived.Test.YtkpgjgmlhcipeaaDoorPlA
import Derived.Test.YtkpgjgmlhcipeaaDoorRows
import Derived.Test.YtkpgjgmlhcipeaaDoorLeaf
import Derived.Test.YtkpgjgmlhcipeaaDoorOpnD
import Derived.Test.YtkpgjgmlhcipeaaDoorHeldT
import Derived.Deep.QuietTactic
import Derived.BigQuiet
namespace Go.Proofs.YtkpgjgmlhcipeaaDoor
open Go.RowKit
def L2 (g a b : Nat) (s t : Value) (w : World) : Prop := w.cell? ⟨g, a, none⟩ = some s ∧ w.cell? ⟨g, b, none⟩ = some t
theorem L2.later {g a b : Nat} {s t : Value} {w w' : World} (h : L2 g a b s t w) (k : Below w.heap.size w w') : L2 g a b s t w' := ⟨cell_later k h.1, cell_later k h.2⟩
theorem m1_drew {w : World} {g : Nat} {V W : Value} {t : TypeId} (h : w.heap[g]? = some (.cells #[V, W] t)) : M1 g V w.drew := (Cl.of_block h (j := 0) rfl).cell
def N1 (g : Nat) (V : Value) (w : World) : Prop := w.cell? ⟨g, 1, none⟩ = some V
theorem n1_drew {w : World} {g : Nat} {V W : Value} {t : TypeId} (h : w.heap[g]? = some (.cells #[W, V] t)) : N1 g V w.drew := (Cl.of_block h (j := 1) rfl).cell
def B34 (bd g o1 o2 : Nat) (V : Value) (b1 b2 : Bx) (w : World) : Prop := w.cell? ⟨bd, 0, none⟩ = some V ∧ w.cell? ⟨g, o1, none⟩ = some (.int .i64 b1.1.1) ∧ w.cell? ⟨g, o1 + 1, none⟩ = some (.int .i64 b1.1.2) ∧ w.cell? ⟨g, o1 + 2, none⟩ = some (.int .i64 b1.2.1) ∧ w.cell? ⟨g, o1 + 3, none⟩ = some (.int .i64 b1.2.2) ∧ w.cell? ⟨g, o2, none⟩ = some (.int .i64 b2.1.1) ∧ w.cell? ⟨g, o2 + 1, none⟩ = some (.int .i64 b2.1.2) ∧ w.cell? ⟨g, o2 + 2, none⟩ = some (.int .i64 b2.2.1) ∧ w.cell? ⟨g, o2 + 3, none⟩ = some (.int .i64 b2.2.2)
def R35 (bd g o1 o2 : Nat) (V : Value) (b1 b2 : Mt) (w : World) : Prop := w.cell? ⟨bd, 1, none⟩ = some V ∧ w.cell? ⟨g, o1, none⟩ = some (.int .i64 b1.1) ∧ w.cell? ⟨g, o1 + 1, none⟩ = some (.int .i64 b1.2.1) ∧ w.cell? ⟨g, o1 + 2, none⟩ = some b1.2.2 ∧ w.cell? ⟨g, o2, none⟩ = some (.int .i64 b2.1) ∧ w.cell? ⟨g, o2 + 1, none⟩ = some (.int .i64 b2.2.1) ∧ w.cell? ⟨g, o2 + 2, none⟩ = some b2.2.2
set_option maxRecDepth 100000 in
set_option maxHeartbeats 8000000 in
theorem plines_core {w : World} {V1 V2 : Value} {qs : List Q4t} {us : List (List Int)} (h1 : Sl 4 encQ8 w V1 qs) (h2 : Rows8 w V2 us) (hb : ∀ q ∈ qs, U8 q.1 ∧ U8 q.2.1 ∧ U8 q.2.2.1 ∧ U8 q.2.2.2) (hr : ∀ r ∈ us, ∀ n ∈ r, U8 n) (hbl : qs.length ≤ 40000000000000) (hrl : us.length ≤ 20000000000000)
    (a0 a1 : Int) (k0 : U8 a0) (k1 : U8 a1) {m0 : Int} (hm : w.cell? ⟨0, 0, none⟩ = some (.int .i64 m0)) (ht : Tab w) :
    Calls Tryd.prog 10 #[V1, V2, .agg #[.int .u8 a0, .int .u8 a1]] w fun e w' => e = .returned (.bool true) ∧ Below w.heap.size w w' := by
  obtain ⟨iQ, hiQ, hzQ0, hzQ1, hzQ2⟩ := info_parts info_q16
  obtain ⟨iH, hiH, hzH0, hzH1, hzH2⟩ := info_parts info_h16
  obtain ⟨iS, hiS, hzS0, hzS1, hzS2⟩ := info_parts info_r16
  obtain ⟨AB, cB, hV1, hcB, -, hB1⟩ := h1
  obtain ⟨Vs, hVl, hVs, hVr⟩ := h2
  obtain ⟨AR, cR, hV2, hcR, hR1⟩ := Sl.at1 (fun v => v) (fun _ => rfl) hVs
  rw [hVl] at hV2 hR1 hcR
  subst hV1 hV2
  have HB1 := Lib.hid hB1
  have HR1 := Lib.hid hR1
  have HVR := Lib.hid hVr
  have HVL := Lib.hid hVl
  have HIB := Lib.hid hb
  have HIR := Lib.hid hr
  have HM := Lib.hid hm
  have HT := Lib.hid ht
  have HK0 := Lib.hid k0
  have HK1 := Lib.hid k1
  clear hB1 hR1 hVr hVs hVl hb hr hm ht k0 k1
  obtain ⟨nb, hnb⟩ : ∃ n, qs.length = n := ⟨_, rfl⟩
  obtain ⟨nr, hnr⟩ : ∃ n, us.length = n := ⟨_, rfl⟩
  rw [hnb] at HB1 hbl hcB ⊢
  rw [hnr] at HR1 hrl hcR HVL ⊢
  have HNB := Lib.hid hnb
  have HNR := Lib.hid hnr
  clear hnb hnr
  obtain ⟨N, hN1, hN2, hN3, hmin⟩ : ∃ k : Nat, k ≤ nb ∧ k ≤ 5 ∧ (k < nb → k = 5) ∧ min (nb : Int) 5 = (k : Int) := ⟨min nb 5, by omega, by omega, by omega, by omega⟩
  obtain ⟨N', hN1', hN2', hN3', hmin'⟩ : ∃ k : Nat, k ≤ nr ∧ k ≤ 5 ∧ (k < nr → k = 5) ∧ min (nr : Int) 5 = (k : Int) := ⟨min nr 5, by omega, by omega, by omega, by omega⟩
  have HN3 := Lib.hid hN3
  have HN3' := Lib.hid hN3'
  have HMIN' := Lib.hid hmin'
  clear hN3 hN3' hmin'
  have i1 : (0 : Int) ≤ (N : Int) := by omega
  have i2 : (N : Int) ≤ (nb : Int) := by omega
  go_enter Tryd.func10, Tryd.ntmps10
  go_upto_region 3 with fail
  clear hmin i1 i2
  obtain ⟨w1, hw1⟩ : ∃ q, q = (w.alloc (.cells #[.int .u8 a0, .int .u8 a1] 64)) := ⟨_, rfl⟩
  rw [← hw1]
  have HB0 : Hid (Below w.heap.size w w1) := Lib.hid (by rw [hw1]; exact (Below.refl _ _).alloc (Nat.le_refl _) _)
  have HG0 : Hid (w1.heap[w.heap.size]? = some (.cells #[.int .u8 a0, .int .u8 a1] 64)) := Lib.hid (by rw [hw1]; exact heap_at rfl)
  have hs1 : w.heap.size + 1 ≤ w1.heap.size := by rw [hw1]; simp
  clear hw1
  go_loopw [7, 40] (fun qv qi wr => ∃ (i : Nat) (A : Option Addr) (c : Nat), i ≤ N ∧ qi = .int .i64 i ∧ qv = .slice A i c ∧ wr.heap[w.heap.size]? = some (.cells #[.int .u8 a0, .int .u8 a1] 64) ∧ wr.ownsRow (w.heap.size + 1) 67 4 (.slice A i c) i (flat encQ (qs.take i)) ∧ w.heap.size + 1 ≤ wr.heap.size ∧ Below w.heap.size w wr) (fun _ q _ => 5 - (intOf q).toNat)
  case atStart => exact ⟨0, none, 0, by omega, rfl, rfl, HG0.out, World.ownsRow_nil _ _ _ _, hs1, HB0.out⟩
  case round =>
    clear HG0 HB0 hs1
    obtain ⟨i, AV, cV, hi, rfl, rfl, hg0, hrow, hsz, Br⟩ := hrel
    obtain ⟨wo, rfl⟩ : ∃ q : World, q = wr := ⟨_, rfl⟩
    have HG0 := Lib.hid hg0
    have HRW := Lib.hid hrow
    have HBr := Lib.hid Br
    clear hg0 hrow Br
    by_cases hin : i < N
    · have hd1 : decide ((i : Int) < (N : Int)) = true := by simp only [decide_eq_true_eq]; omega
      obtain ⟨p1, o1, rfl, hc⟩ := HB1.out (by omega)
      have hlt : i < qs.length := by rw [HNB.out]; omega
      have HX := Lib.hid (List.getElem?_eq_getElem hlt)
      have HIX := Lib.hid (HIB.out _ (List.getElem_mem hlt))
      have hq := hc i _ HX.out
      have HT5 : Hid (qs.take (i + 1) = qs.take i ++ [qs[i]'hlt]) := Lib.hid (List.take_succ_eq_append_getElem hlt)
      generalize qs[i]'hlt = q at *
      clear hlt
      obtain ⟨x, y, u, v⟩ := q
      have q0 := cell_later HBr.out (hq 0 _ rfl)
      have q1 := cell_later HBr.out (hq 1 _ rfl)
      have q2 := cell_later HBr.out (hq 2 _ rfl)
      have q3 := cell_later HBr.out (hq 3 _ rfl)
      rw [Nat.add_zero] at q0
      have x1 := wrapU HIX.out.1
      have x2 := wrapU HIX.out.2.1
      have x3 := wrapU HIX.out.2.2.1
      have x4 := wrapU HIX.out.2.2.2
      simp only at x1 x2 x3 x4
      have hi0 : (0 : Int) ≤ (i : Int) := by omega
      have hi1 : (i : Int) < (N : Int) := by omega
      clear hq hc
      go_upto_region 5 with fail
      obtain ⟨wa, hwa⟩ : ∃ q, q = wo.alloc (.cells #[.int .u8 x, .int .u8 y, .int .u8 u, .int .u8 v] 65) := ⟨_, rfl⟩
      rw [← hwa]
      have Ba : Below wo.heap.size wo wa := by rw [hwa]; exact (Below.refl _ _).alloc (Nat.le_refl _) _
      have hGa : wa.heap[wo.heap.size]? = some (.cells #[.int .u8 x, .int .u8 y, .int .u8 u, .int .u8 v] 65) := by rw [hwa]; exact heap_at rfl
      have s0 := (Cl.of_block hGa (j := 0) rfl).cell
      have s1 := (Cl.of_block hGa (j := 1) rfl).cell
      have s2 := (Cl.of_block hGa (j := 2) rfl).cell
      have s3 := (Cl.of_block hGa (j := 3) rfl).cell
      have hba : Below wa.heap.size wa (wa.alloc (.cells #[.int .i16 x, .int .i16 y, .int .i16 u, .int .i16 v] 67)) := (Below.refl _ _).alloc (Nat.le_refl _) _
      have HRz := Lib.hid (own_later (own_later HRW.out Ba) hba)
      have HGz0 := Lib.hid (block_later hba (block_later Ba HG0.out))
      have HBz := Lib.hid (below_then (below_then HBr.out HBr.out.size Ba) (by have := HBr.out.size; have := Ba.size; omega) hba)
      have hsa := Ba.size
      clear hwa Ba hGa hba q0 q1 q2 q3
      go_wp2_with (at_builtin; refine wpList_append_lies _ rfl (.tmp 44) (.tmp 58) 52 rfl (w.heap.size + 1) 67 iQ (.agg #[.int .i16 0, .int .i16 0, .int .i16 0, .int .i16 0]) 4 8 Tryd.underlying52 hiQ hzQ0 hzQ1 hzQ2 rfl (by decide) (.slice AV i cV) i (flat encQ (qs.take i)) rfl HRz.out ⟨wa.heap.size, 0, none⟩ 1 1 [.int .i16 x, .int .i16 y, .int .i16 u, .int .i16 v] rfl rfl (World.news_of_block (heap_at rfl)) (by intro y hy; simp at hy; rcases hy with rfl | rfl | rfl | rfl <;> rfl) (by omega) (by simp only [maxLen]; omega) (by omega) (by simp; omega) _ rfl ?_; intro gq cq w8 hown hgrow hat hlt; have hb0 := (hgrow.block w.heap.size (Array.getElem?_eq_some_iff.1 HGz0.out).1 (by intro e; obtain ⟨cur, hcur⟩ := own_typ HRz.out e.symm; exact ne_of_typ HGz0.out hcur (by decide) rfl)).trans HGz0.out)
      have HX0 := Lib.hid hb0
      have HXR : Hid (w8.ownsRow (w.heap.size + 1) 67 4 (.slice (some ⟨gq, 0, none⟩) (i + 1) cq) (i + 1) (flat encQ (qs.take (i + 1)))) := Lib.hid (by
        rw [HT5.out, flat_append]
        simpa [flat, encQ] using hown)
      have HXB : Hid (Below w.heap.size w w8) := Lib.hid (HBz.out.grown hgrow HBz.out.size (fun q hq => by have := own_ge HRz.out hq; omega))
      have hsx : w.heap.size + 1 ≤ w8.heap.size := (Array.getElem?_eq_some_iff.1 HX0.out).1
      clear hown hgrow hat hlt hb0 s0 s1 s2 s3
      go_roundw
      case rel => exact ⟨i + 1, _, _, by omega, by go_num, rfl, HX0.out, HXR.out, hsx, HXB.out⟩
      case measure => simp [intOf]; omega
    · obtain rfl : i = N := by omega
      have HBS : Hid (wo.ownsRow (w.heap.size + 1) 67 4 (.slice AV i cV) i (flat encQ (qs.take i))) := HRW
      have j1 : (0 : Int) ≤ (N' : Int) := by omega
      have j2 : (N' : Int) ≤ (nr : Int) := by omega
      have hmin' := HMIN'.out
      clear HRW hin
      go_upto_region 9 with fail
      clear hmin' j1 j2
      go_loopw [10, 67] (fun qv qi wr => ∃ (k : Nat) (A : Option Addr) (c : Nat), k ≤ N' ∧ qi = .int .i64 k ∧ qv = .slice A k c ∧ wr.heap[w.heap.size]? = some (.cells #[.int .u8 a0, .int .u8 a1] 64) ∧ wr.ownsRow (w.heap.size + 1) 67 4 (.slice AV i cV) i (flat encQ (qs.take i)) ∧ RowsO wr (w.heap.size + 1) (.slice A k c) (us.take k) ∧ w.heap.size + 1 ≤ wr.heap.size ∧ Below w.heap.size w wr) (fun _ q _ => 5 - (intOf q).toNat)
      case atStart => exact ⟨0, none, 0, by omega, rfl, rfl, HG0.out, HBS.out, RowsO.nil _ _, hsz, HBr.out⟩
      case round =>
        clear HG0 HBS HBr hsz
        obtain ⟨k, AW, cW, hk, rfl, rfl, hg0, hbs, hrs, hsz, Br⟩ := hrel
        obtain ⟨wo, rfl⟩ : ∃ q : World, q = wr := ⟨_, rfl⟩
        have HG0 := Lib.hid hg0
        have HBS := Lib.hid hbs
        have HRS := Lib.hid hrs
        have HBr := Lib.hid Br
        clear hg0 hbs hrs Br
        by_cases hkn : k < N'
        · have hd1 : decide ((k : Int) < (N' : Int)) = true := by simp only [decide_eq_true_eq]; omega
          obtain ⟨bU, oU, rfl, hc⟩ := HR1.out (by omega)
          have hlt : k < us.length := by rw [HNR.out]; omega
          have hlv : k < Vs.length := by rw [HVL.out]; omega
          have HX := Lib.hid (List.getElem?_eq_getElem hlt)
          have HIX := Lib.hid (HIR.out _ (List.getElem_mem hlt))
          obtain ⟨hU, hUl⟩ := HVR.out k _ _ (List.getElem?_eq_getElem hlv) HX.out
          have cU := cell_later HBr.out (hc k _ (List.getElem?_eq_getElem hlv))
          have HT5 : Hid (us.take (k + 1) = us.take k ++ [us[k]'hlt]) := Lib.hid (List.take_succ_eq_append_getElem hlt)
          generalize us[k]'hlt = r at *
          generalize Vs[k]'hlv = U at *
          clear hlt hlv
          obtain ⟨AU, cU', hUe, hcU, hU1⟩ := Sl.at1 (fun x => .int .u8 x) (fun _ => rfl) hU
          obtain ⟨m, hm⟩ : ∃ m, r.length = m := ⟨_, rfl⟩
          rw [hm] at hUe hcU hU1 hUl
          subst hUe
          have HM5 := Lib.hid hm
          have HU1 := Lib.hid hU1
          have hk0 : (0 : Int) ≤ (k : Int) := by omega
          have hk1 : (k : Int) < (N' : Int) := by omega
          clear hc hU hU1 hm
          go_wp2_with fail
          clear cU
          go_loopw [13, 73] (fun qv qi wr => ∃ (j : Nat) (A : Option Addr) (c : Nat), j ≤ m ∧ qi = .int .i64 j ∧ qv = .slice A j c ∧ wr.ownsRow wo.heap.size 66 1 (.slice A j c) j (flat encH (r.take j)) ∧ Below wo.heap.size wo wr) (fun _ q _ => m - (intOf q).toNat)
          case atStart => exact ⟨0, none, 0, by omega, rfl, rfl, World.ownsRow_nil _ _ _ _, Below.refl _ _⟩
          case round =>
            obtain ⟨j, AX, cX, hj, rfl, rfl, hrow, Bj⟩ := hrel
            obtain ⟨wv, rfl⟩ : ∃ q : World, q = wr := ⟨_, rfl⟩
            have HPR := Lib.hid hrow
            have HBj := Lib.hid Bj
            have hsv := Bj.size
            clear hrow Bj
            by_cases hjm : j < m
            · have hd3 : decide ((j : Int) < (m : Int)) = true := by simp only [decide_eq_true_eq]; omega
              obtain ⟨b3, o3, rfl, hc3⟩ := HU1.out (by omega)
              have hlr : j < r.length := by rw [HM5.out]; exact hjm
              have HZ := Lib.hid (List.getElem?_eq_getElem hlr)
              have cz := cell_later HBj.out (cell_later HBr.out (hc3 j _ HZ.out))
              have hz16 := wrapU (HIX.out _ (List.getElem_mem hlr))
              have HTK : Hid (r.take (j + 1) = r.take j ++ [r[j]'hlr]) := Lib.hid (List.take_succ_eq_append_getElem hlr)
              generalize r[j]'hlr = z at *
              have hj0 : (0 : Int) ≤ (j : Int) := by omega
              have hj1 : (j : Int) < (m : Int) := by omega
              have hba : Below wv.heap.size wv (wv.alloc (.cells #[.int .i16 z] 66)) := (Below.refl _ _).alloc (Nat.le_refl _) _
              have HRz := Lib.hid (own_later HPR.out hba)
              have HBz := Lib.hid (below_then HBj.out HBj.out.size hba)
              clear hba hlr hc3
              go_wp2_with (at_builtin; refine wpList_append_lies _ rfl (.tmp 77) (.tmp 80) 69 rfl wo.heap.size 66 iH (.int .i16 0) 1 2 Tryd.underlying69 hiH hzH0 hzH1 hzH2 rfl (by decide) (.slice AX j cX) j (flat encH (r.take j)) rfl HRz.out ⟨wv.heap.size, 0, none⟩ 1 1 [.int .i16 z] rfl rfl (World.news_of_block (heap_at rfl)) (by intro y hy; simp at hy; rcases hy with rfl; rfl) (by omega) (by simp only [maxLen]; omega) (by omega) (by simp; omega) _ rfl ?_; intro gq cq w8 hown hgrow hat hlt)
              have HXR : Hid (w8.ownsRow wo.heap.size 66 1 (.slice (some ⟨gq, 0, none⟩) (j + 1) cq) (j + 1) (flat encH (r.take (j + 1)))) := Lib.hid (by
                rw [HTK.out, flat_append]
                simpa [flat, encH] using hown)
              have HXB : Hid (Below wo.heap.size wo w8) := Lib.hid (HBz.out.grown hgrow HBz.out.size (fun q hq => own_ge HRz.out hq))
              clear hown hgrow hat hlt cz hz16
              go_roundw
              case rel => exact ⟨j + 1, _, _, by omega, by go_num, rfl, HXR.out, HXB.out⟩
              case measure => simp [intOf]; omega
            · obtain rfl : j = m := by omega
              have hd3 : decide ((j : Int) < (j : Int)) = false := by simp
              have HRJ : Hid (wv.ownsRow wo.heap.size 66 1 (.slice AX j cX) j (flat encH r)) := Lib.hid (by
                have h := HPR.out
                rwa [List.take_of_length_le (by rw [HM5.out]; exact Nat.le_refl _)] at h)
              have hba : Below wv.heap.size wv (wv.alloc (.cells #[.slice AX j cX] 69)) := (Below.refl _ _).alloc (Nat.le_refl _) _
              have hbz := below_then HBj.out HBj.out.size hba
              have HRz := Lib.hid (own_later (row_rebase HRJ.out hsz) hba)
              obtain ⟨Ws, hW1, hW2, hW3⟩ := HRS.out.later hbz
              have hlk : (us.take k).length = k := by rw [List.length_take, HNR.out]; omega
              rw [hlk] at hW1 hW2
              have HLK := Lib.hid hlk
              have HW1 := Lib.hid hW1
              have HW2 := Lib.hid hW2
              have HW3 := Lib.hid hW3
              have HBz := Lib.hid (below_then HBr.out HBr.out.size hbz)
              have HGz := Lib.hid (block_later hbz HG0.out)
              have HBSz := Lib.hid (own_later HBS.out hbz)
              clear hba hW1 hW2 hW3 hlk hbz
              go_wp2_with (at_builtin; refine wpList_append_lies _ rfl (.tmp 83) (.tmp 85) 53 rfl (w.heap.size + 1) 69 iS (.slice none 0 0) 1 24 Tryd.underlying53 hiS hzS0 hzS1 hzS2 rfl (by decide) (.slice AW k cW) k Ws rfl HW2.out ⟨wv.heap.size, 0, none⟩ 1 1 [.slice AX j cX] rfl rfl (World.news_of_block (heap_at rfl)) (by intro y hy; simp at hy; rcases hy with rfl; rfl) (by omega) (by simp only [maxLen]; omega) (by omega) (by simp; omega) _ rfl ?_; intro gq cq w8 hown hgrow hat hlt)
              have HXO : Hid (RowsO w8 (w.heap.size + 1) (.slice (some ⟨gq, 0, none⟩) (k + 1) cq) (us.take (k + 1))) := Lib.hid (by
                rw [HT5.out]
                refine RowsO.snoc (w := wv.alloc (.cells #[.slice AX j cX] 69)) (by rw [HLK.out]; exact HW1.out) (by rw [HLK.out]; exact hown) (by rw [HLK.out]; exact HW2.out) HW3.out (by rw [HM5.out]; exact HRz.out) hgrow)
              have HXG : Hid (w8.heap[w.heap.size]? = some (.cells #[.int .u8 a0, .int .u8 a1] 64)) := Lib.hid ((hgrow.block w.heap.size (Array.getElem?_eq_some_iff.1 HGz.out).1 (by intro e; obtain ⟨cur, hcur⟩ := own_typ HW2.out e.symm; exact ne_of_typ HGz.out hcur (by decide) rfl)).trans HGz.out)
              have HXS : Hid (w8.ownsRow (w.heap.size + 1) 67 4 (.slice AV i cV) i (flat encQ (qs.take i))) := Lib.hid (row_other HBSz.out hgrow (fun b e => by
                obtain ⟨cur, hcur⟩ := own_typ HW2.out e
                exact ⟨cur, _, hcur, by decide⟩))
              have HXB : Hid (Below w.heap.size w w8) := Lib.hid (HBz.out.grown hgrow HBz.out.size (fun q hq => by have := own_ge HW2.out hq; omega))
              have hsx : w.heap.size + 1 ≤ w8.heap.size := (Array.getElem?_eq_some_iff.1 HXG.out).1
              clear hown hgrow hat hlt
              go_roundw
              case rel => exact ⟨k + 1, _, _, by omega, by go_num, rfl, HXG.out, HXS.out, HXO.out, hsx, HXB.out⟩
              case measure => simp [intOf]; omega
        · obtain rfl : k = N' := by omega
          have hd1 : decide ((k : Int) < (k : Int)) = false := by simp
          have U16 : ∀ n, U8 n → S16 n := fun n h => ⟨by have := h.1; omega, by have := h.2; omega⟩
          have hbq : ∀ q ∈ qs.take i, S16 q.1 ∧ S16 q.2.1 ∧ S16 q.2.2.1 ∧ S16 q.2.2.2 := fun q hq => by
            obtain ⟨a, b, c, d⟩ := HIB.out q (List.mem_of_mem_take hq)
            exact ⟨U16 _ a, U16 _ b, U16 _ c, U16 _ d⟩
          have hrq : ∀ r ∈ us.take k, ∀ n ∈ r, S16 n := fun r hr n hn => U16 _ (HIR.out r (List.mem_of_mem_take hr) n hn)
          have hall : AllD U8 (someP (qs.take i) (us.take k)) := someP_all ⟨by omega, by omega⟩ (fun q hq => HIB.out q (List.mem_of_mem_take hq)) (fun r hr => HIR.out r (List.mem_of_mem_take hr))
          obtain ⟨l1, l2, l3⟩ := someP_len (qs.take i) (us.take k)
          obtain ⟨D, hDe⟩ : ∃ D, someP (qs.take i) (us.take k) = D := ⟨_, rfl⟩
          rw [hDe] at hall l1 l2 l3
          have HSL : Hid (Sl 4 encQ wo (.slice AV i cV) (qs.take i)) := Lib.hid (Sl.of_own encQ_length (by
            have e : (qs.take i).length = i := by rw [List.length_take, HNB.out]; omega
            rw [e]
            exact HBS.out))
          have HR16 := Lib.hid HRS.out.rows
          have HDE := Lib.hid hDe
          have HALL := Lib.hid hall
          have HL3 := Lib.hid l3
          have HBQ := Lib.hid hbq
          have HRQ := Lib.hid hrq
          have hM := cell_later HBr.out HM.out
          have HMo := Lib.hid hM
          have HTo := Lib.hid (tab_later HT.out HBr.out)
          have hqn : (qs.take i).length ≤ 20000000000000 := by rw [List.length_take]; omega
          have hun : (us.take k).length ≤ 20000000000000 := by rw [List.length_take]; omega
          clear hDe hall l3 hbq hrq U16 hM HRS HBS
          go_wp2_with fail
          refine (some_any HSL.out HR16.out HBQ.out HRQ.out hqn hun).mono ?_
          rintro e w1 ⟨A1, e1, c1, A2, e2, c2, M, rfl, hD, hap, B1⟩
          rw [HDE.out] at hD
          obtain ⟨X1, y1, X2, y2, q1, q2⟩ := drr_shape hD
          injection q1 with z1 z2 z3
          injection q2 with z4 z5 z6
          subst z1 z2 z3 z4 z5 z6
          have hb1 : Below w1.heap.size w1 (w1.alloc (.cells #[.slice A1 D.1.length c1, .slice A2 D.2.length c2] 45)) := (Below.refl _ _).alloc (Nat.le_refl _) _
          obtain ⟨w2, hw2⟩ : ∃ q, q = (w1.alloc (.cells #[.slice A1 D.1.length c1, .slice A2 D.2.length c2] 45)) := ⟨_, rfl⟩
          rw [← hw2] at hb1
          have hg2 : w2.heap[w1.heap.size]? = some (.cells #[.slice A1 D.1.length c1, .slice A2 D.2.length c2] 45) := by rw [hw2]; exact heap_at rfl
          have HD2 := Lib.hid (hD.later hb1)
          have HAP := Lib.hid hap
          have HB2 := Lib.hid (below_then B1 B1.size hb1)
          have HG2 := Lib.hid hg2
          have HA2 := Lib.hid (block_later HB2.out HG0.out)
          have HM2 := Lib.hid (cell_later HB2.out HMo.out)
          have HT2 := Lib.hid (tab_later HTo.out HB2.out)
          have hz1 := B1.size
          have HW2 := Lib.hid hw2
          clear hD hap hb1 hg2 B1 hw2 HSL HR16 HMo HTo HG0
          obtain ⟨f0, f1⟩ : w2.cell? ⟨w1.heap.size, 0, none⟩ = some (.slice A1 D.1.length c1) ∧ w2.cell? ⟨w1.heap.size, 1, none⟩ = some (.slice A2 D.2.length c2) := ⟨(Cl.of_block HG2.out (j := 0) rfl).cell, (Cl.of_block HG2.out (j := 1) rfl).cell⟩
          have hSm := HALL.out.smal l1 l2 HL3.out
          have hOk := HALL.out.okL
          have hprint : printP D = (textP D, 0) := by
            unfold printP
            rw [hSm.many, hOk]
            rfl
          have HSm := Lib.hid hSm
          have HOk := Lib.hid hOk
          have HPR := Lib.hid hprint
          have htl := text_len hOk (fun x hx => (hSm.lns.1 x hx).2) hSm.lns.2
          obtain ⟨S, hS⟩ : ∃ S, toB (textP D) = S := ⟨_, rfl⟩
          have HSD : Hid (S.data.toList = textP D) := Lib.hid (by rw [← hS, data_toB])
          have hSs : S.size ≤ 4000 := by rw [Lib.size_eq, HSD.out]; exact htl
          have HSE := Lib.hid hS
          clear hSm hOk hprint hS
          go_upto_region 20 with fail
          rw [← HW2.out]
          go_wp2_with fail
          clear f0 f1
          refine (refPrint_any HD2.out.drw (by omega) (by omega) (by have := HSm.out.tot; omega) HSm.out.i64).mono ?_
          rw [HPR.out]
          simp only [HSE.out]
          rintro e w3 ⟨rfl, B3⟩
          have HD3 := Lib.hid (HD2.out.later B3)
          have HG3 := Lib.hid (block_later B3 HG2.out)
          have HA3 := Lib.hid (block_later B3 HA2.out)
          have HM3 := Lib.hid (cell_later B3 HM2.out)
          have HT3 := Lib.hid (tab_later HT2.out B3)
          have HB3 := Lib.hid (below_then HB2.out HB2.out.size B3)
          have hz3 := B3.size
          clear B3 HD2 HG2 HA2 HM2 HT2 HB2 HW2
          go_wp2_with fail
          refine (Tryd.strings_TrimSuffix S bNl w3 (by omega)).mono ?_
          obtain ⟨T0, hT0⟩ : ∃ T, (⟨(Lib.trimSuffix S.data.toList bNl.data.toList).toArray⟩ : ByteArray) = T := ⟨_, rfl⟩
          have HTD : Hid (T0.data.toList = (textP D).dropLast) := Lib.hid (by
            rw [← hT0, HSD.out, show bNl.data.toList = [10] from rfl, trim_one (text_suf D)])
          rw [hT0]
          rintro e w3' ⟨rfl, hw3⟩
          subst hw3
          clear hT0
          obtain ⟨w3, rfl⟩ : ∃ q : World, q = w3' := ⟨_, rfl⟩
          have hTs : T0.size ≤ 4000 := by
            rw [Lib.size_eq, HTD.out, List.length_dropLast]
            omega
          go_wp2_with fail
          refine (splitAfter_any T0 (by omega) HM3.out (L := linesB D) (by rw [HTD.out]; exact lines_text HOk.out)).mono ?_
          have HLL := Lib.hid (linesB_len D)
          obtain ⟨Ls, hLs⟩ : ∃ Ls, linesB D = Ls := ⟨_, rfl⟩
          rw [hLs] at HLL ⊢
          obtain ⟨q, hq⟩ : ∃ q, D.1.length + D.2.length + 1 = q := ⟨_, rfl⟩
          have HQ := Lib.hid hq
          have hq20 : q ≤ 17 := by omega
          have hLl : Ls.length = q + 1 := by rw [HLL.out]; omega
          rw [hLl]
          have HLS := Lib.hid hLs
          have HLl := Lib.hid hLl
          rintro e w4 ⟨rfl, hw4⟩
          have B4 : Below w3.heap.size w3 w4 := by rw [hw4]; exact (Below.refl _ _).alloc (Nat.le_refl _) _
          have HRL : Hid (w4.ownsRow w3.heap.size 9 1 (.slice (some ⟨w3.heap.size, 0, none⟩) (q + 1) (q + 1)) (q + 1) (Ls.map Value.string)) := Lib.hid (by rw [hw4]; exact own_lit (Nat.le_refl _) rfl rfl (by simp only [maxLen]; omega) (by rw [List.length_map, HLl.out]; omega))
          have HD4 := Lib.hid (HD3.out.later B4)
          have HG4 := Lib.hid (block_later B4 HG3.out)
          have HA4 := Lib.hid (block_later B4 HA3.out)
          have HM4 := Lib.hid (cell_later B4 HM3.out)
          have HT4 := Lib.hid (tab_later HT3.out B4)
          have HB4 := Lib.hid (below_then HB3.out HB3.out.size B4)
          have hz4 : w3.heap.size + 1 ≤ w4.heap.size := by rw [hw4]; simp
          have hw03 := HB3.out.size
          clear hw4 B4 HD3 HG3 HA3 HM3 HT3 HB3 hq hLs hLl
          go_upto_region 22 with fail
          have s1 : (0 : Int) ≤ (q : Int) := by omega
          have s2 : ((q + 1 : Nat) : Int) - 1 = (q : Int) := by omega
          go_wp2_with fail
          clear s1 s2
          have hqt : Hid ((Ls.take q).length = q) := Lib.hid (by rw [List.length_take, HLl.out]; omega)
          have hjd : Hid (Lib.join ((Ls.take q).map (·.data.toList)) [] = putL (bDrawing :: (lnsP D).map lnB)) := Lib.hid (by rw [← HLS.out, ← HQ.out]; exact join_part D)
          have hps := parse_short HSm.out.many HOk.out htl
          have hpl : (putL (bDrawing :: (lnsP D).map lnB)).length ≤ 4000 := by
            have h := htl
            rw [text_put] at h
            unfold txL putL at h
            unfold putL
            simp at h ⊢
            omega
          rw [show D.1.length + D.2.length + 2 = q + 1 by have := HQ.out; omega] at hps
          have HPS := Lib.hid hps
          have HPL := Lib.hid hpl
          clear hps hpl
          have hjn : Hid (Calls Tryd.prog 22 #[.slice (some ⟨w3.heap.size, 0, none⟩) q (q + 1), .string ⟨#[]⟩] w4 fun e w' => e = .returned (.string (toB (putL (bDrawing :: (lnsP D).map lnB)))) ∧ Below w4.heap.size w4 w') := Lib.hid (by
            have h := Tryd.strings_Join w3.heap.size 0 (q + 1) (Ls.take q) ⟨#[]⟩ w4 (fun j x hx => by
              rw [List.getElem?_take] at hx
              split at hx
              · rw [Nat.zero_add]
                exact (own_cl HRL.out (by rw [List.getElem?_map, hx]; rfl)).cell
              · cases hx) (by omega) (by rw [hqt.out]; omega) (by rw [hqt.out]; omega) (by rw [show (⟨#[]⟩ : ByteArray).data.toList = [] from rfl, hjd.out]; have := HPL.out; omega)
            rw [hqt.out, show (⟨#[]⟩ : ByteArray).data.toList = [] from rfl, hjd.out] at h
            exact h)
          refine hjn.out.mono ?_
          obtain ⟨P1, hP1⟩ : ∃ P, toB (putL (bDrawing :: (lnsP D).map lnB)) = P := ⟨_, rfl⟩
          have HP1 : Hid (P1.data.toList = putL (bDrawing :: (lnsP D).map lnB)) := Lib.hid (by rw [← hP1, data_toB])
          rw [hP1]
          rintro e w5 ⟨rfl, B5⟩
          have hP1s : P1.size ≤ 400000000 := by rw [Lib.size_eq, HP1.out]; have := HPL.out; omega
          have HD5 := Lib.hid (HD4.out.later B5)
          have HG5 := Lib.hid (block_later B5 HG4.out)
          have HA5 := Lib.hid (block_later B5 HA4.out)
          have HM5 := Lib.hid (cell_later B5 HM4.out)
          have HT5 := Lib.hid (tab_later HT4.out B5)
          have HRL5 := Lib.hid (own_later HRL.out B5)
          have HB5 := Lib.hid (below_then HB4.out HB4.out.size B5)
          have hz5 := B5.size
          clear hP1 B5 HD4 HG4 HA4 HM4 HT4 HRL HB4 hjn hjd
          go_wp2_with fail
          refine (parse_any P1 hP1s HM5.out).mono ?_
          rw [HP1.out, HPS.out]
          rintro e w6 ⟨B, R, rfl, hD6, B6⟩
          obtain ⟨A3, c3, A4, c4, rfl, rfl⟩ := drw_shape hD6
          simp only [List.length_nil]
          have hb6 : Below w6.heap.size w6 (w6.alloc (.cells #[.slice A3 0 c3, .slice A4 0 c4] 45)) := (Below.refl _ _).alloc (Nat.le_refl _) _
          have hb56 := below_then B6 B6.size hb6
          have HD6 := Lib.hid (HD5.out.later hb56)
          have HG6 := Lib.hid (block_later hb56 HG5.out)
          have HA6 := Lib.hid (block_later hb56 HA5.out)
          have HM6 := Lib.hid (cell_later hb56 HM5.out)
          have HT6 := Lib.hid (tab_later HT5.out hb56)
          have HRL6 := Lib.hid (own_later HRL5.out hb56)
          have HB6 := Lib.hid (below_then HB5.out HB5.out.size hb56)
          have hz6 := hb56.size
          clear hD6 B6 hb6 hb56 HD5 HG5 HA5 HM5 HT5 HRL5 HB5
          go_upto_region 23 with fail
          obtain ⟨w7, hw7⟩ : ∃ x, x = (w6.alloc (.cells #[.slice A3 0 c3, .slice A4 0 c4] 45)) := ⟨_, rfl⟩
          rw [← hw7]
          rw [← hw7] at HD6 HG6 HA6 HM6 HT6 HRL6 HB6 hz6
          clear hw7
          have hps2 := parse_more HSm.out.many HOk.out htl
          rw [show D.1.length + D.2.length + 3 = q + 2 by have := HQ.out; omega] at hps2
          have HPS2 := Lib.hid hps2
          clear hps2
          have hcat : ¬9223372036854775807 < S.size + 10 := by omega
          obtain ⟨X, hX⟩ : ∃ X, (S ++ ⟨#[112, 111, 105, 110, 116, 32, 48, 32, 48, 10]⟩ : ByteArray) = X := ⟨_, rfl⟩
          have HXD : Hid (X.data.toList = textP D ++ [112, 111, 105, 110, 116, 32, 48, 32, 48, 10]) := Lib.hid (by rw [← hX, cat_data, HSD.out])
          have hXs : X.size ≤ 400000000 := by
            have h : X.size = S.size + 10 := by rw [← hX, ByteArray.size_append]; rfl
            omega
          go_wp2_with fail
          clear hcat hX
          refine (parse_any X hXs HM6.out).mono ?_
          rw [HXD.out, HPS2.out]
          rintro e w8 ⟨B', R', rfl, hD8, B8⟩
          obtain ⟨A5, c5, A6, c6, rfl, rfl⟩ := drw_shape hD8
          simp only [List.length_nil]
          have hb8 : Below w8.heap.size w8 (w8.alloc (.cells #[.slice A5 0 c5, .slice A6 0 c6] 45)) := (Below.refl _ _).alloc (Nat.le_refl _) _
          have hb78 := below_then B8 B8.size hb8
          have HD8 := Lib.hid (HD6.out.later hb78)
          have HG8 := Lib.hid (block_later hb78 HG6.out)
          have HA8 := Lib.hid (block_later hb78 HA6.out)
          have HM8 := Lib.hid (cell_later hb78 HM6.out)
          have HT8 := Lib.hid (tab_later HT6.out hb78)
          have HRL8 := Lib.hid (own_later HRL6.out hb78)
          have HB8 := Lib.hid (below_then HB6.out HB6.out.size hb78)
          have hz8 := hb78.size
          clear hD8 B8 hb8 hb78 HD6 HG6 HA6 HM6 HT6 HRL6 HB6
          go_wp2_with fail
          refine (pwakes_ok HM8.out HT8.out).mono ?_
          rintro e w9 ⟨rfl, B9⟩
          have HD9 := Lib.hid (HD8.out.later B9)
          have HG9 := Lib.hid (block_later B9 HG8.out)
          have HA9 := Lib.hid (block_later B9 HA8.out)
          have HM9 := Lib.hid (cell_later B9 HM8.out)
          have HT9 := Lib.hid (tab_later HT8.out B9)
          have HRL9 := Lib.hid (own_later HRL8.out B9)
          have HB9 := Lib.hid (below_then HB8.out HB8.out.size B9)
          have hz9 := B9.size
          clear B9 HD8 HG8 HA8 HM8 HT8 HRL8 HB8
          have k3 : ((q + 1 : Nat) : Int) + 1 = ((q + 2 : Nat) : Int) := by omega
          go_upto_region 26 with fail
          clear k3
          have g0 := (Cl.of_block HG9.out (j := 0) rfl).cell
          have g1 := (Cl.of_block HG9.out (j := 1) rfl).cell
          have t0 := (Cl.of_block HA9.out (j := 0) rfl).cell
          obtain ⟨z0, z1⟩ := HK0.out
          by_cases ho : a0 % 2 = 1
          · have hob : (a0 % 2 == 1) = true := by simp [ho]
            go_quiet (fail)
            obtain ⟨wZ, hwZ⟩ : ∃ x, x = w9.drewN nq := ⟨_, rfl⟩
            rw [← hwZ]
            have BZ : Below w9.heap.size w9 wZ := by rw [hwZ]; exact below_drewN _ _
            have HD9 := Lib.hid (HD9.out.later BZ)
            have HG9 := Lib.hid (block_later BZ HG9.out)
            have HA9 := Lib.hid (block_later BZ HA9.out)
            have HM9 := Lib.hid (cell_later BZ HM9.out)
            have HT9 := Lib.hid (tab_later HT9.out BZ)
            have HRL9 := Lib.hid (own_later HRL9.out BZ)
            have HB9 := Lib.hid (below_then HB9.out HB9.out.size BZ)
            have hzZ := BZ.size
            clear hwZ BZ g0 g1 t0 hob
            obtain ⟨w9, rfl⟩ : ∃ q : World, q = wZ := ⟨_, rfl⟩
            have g0 := (Cl.of_block HG9.out (j := 0) rfl).cell
            have g1 := (Cl.of_block HG9.out (j := 1) rfl).cell
            obtain ⟨n0, hn0⟩ : ∃ n, D.1.length = n := ⟨_, rfl⟩
            rw [hn0] at HD9 HG9 g0 ⊢
            have HN0 := Lib.hid hn0
            have p9 : IntKind.i64.wrap (1 + (n0 : Int)) = 1 + (n0 : Int) := by rw [IntKind.wrap_i64]; omega
            clear hn0
            go_upto_region 28 with fail
            go_quiet (fail)
            clear p9
            obtain ⟨wA, hwA⟩ : ∃ x, x = w9.drewN nq := ⟨_, rfl⟩
            rw [← hwA]
            have BA : Below w9.heap.size w9 wA := by rw [hwA]; exact below_drewN _ _
            have HDA := Lib.hid (HD9.out.later BA)
            have HGA := Lib.hid (block_later BA HG9.out)
            have HAA := Lib.hid (block_later BA HA9.out)
            have HMA := Lib.hid (cell_later BA HM9.out)
            have HTA := Lib.hid (tab_later HT9.out BA)
            have HRLA := Lib.hid (own_later HRL9.out BA)
            have HBA := Lib.hid (below_then HB9.out HB9.out.size BA)
            have hzA := BA.size
            clear hwA BA HD9 HG9 HA9 HM9 HT9 HRL9 HB9 g0 g1
            obtain ⟨n1, hn1⟩ : ∃ n, D.2.length = n := ⟨_, rfl⟩
            rw [hn1] at HDA HGA ⊢
            have HN1 := Lib.hid hn1
            by_cases hc0 : n1 = 0
            · have hcb : ((n1 : Int) == 0) = true := by simp [hc0]
              clear hn1 hc0
              go_wp2_with fail
              go_ret
              exact ⟨rfl, below_then HBr.out HBr.out.size HBA.out⟩
            · have hcb : ((n1 : Int) == 0) = false := by simp [hc0]
              obtain ⟨x, hx1, hx2⟩ : ∃ x : Nat, a0 % (n1 : Int) = x ∧ x < n1 := ⟨(a0 % (n1 : Int)).toNat, by have := Int.emod_nonneg a0 (show (n1 : Int) ≠ 0 by omega); omega, by have := Int.emod_lt_of_pos a0 (show (0 : Int) < n1 by omega); omega⟩
              obtain ⟨y, hy1, hy2⟩ : ∃ y : Nat, a1 % (n1 : Int) = y ∧ y < n1 := ⟨(a1 % (n1 : Int)).toNat, by have := Int.emod_nonneg a1 (show (n1 : Int) ≠ 0 by omega); omega, by have := Int.emod_lt_of_pos a1 (show (0 : Int) < n1 by omega); omega⟩
              obtain ⟨z2, z3⟩ := HK1.out
              have hx3 : a0.tmod (n1 : Int) = x := by rw [Int.tmod_eq_emod_of_nonneg z0]; exact hx1
              have hy3 : a1.tmod (n1 : Int) = y := by rw [Int.tmod_eq_emod_of_nonneg z2]; exact hy1
              have t0 := (Cl.of_block HAA.out (j := 0) rfl).cell
              have t1 := (Cl.of_block HAA.out (j := 1) rfl).cell
              clear hn1
              go_upto_region 31 with fail
              go_quiet (fail)
              clear t0 t1 hx1 hx3 hy1 hy3 hcb z0 z1 z2 z3
              obtain ⟨wB, hwB⟩ : ∃ x, x = wA.drewN nq := ⟨_, rfl⟩
              rw [← hwB]
              have BB : Below wA.heap.size wA wB := by rw [hwB]; exact below_drewN _ _
              have HDB := Lib.hid (HDA.out.later BB)
              have HGB := Lib.hid (block_later BB HGA.out)
              have HMB := Lib.hid (cell_later BB HMA.out)
              have HTB := Lib.hid (tab_later HTA.out BB)
              have HRLB := Lib.hid (own_later HRLA.out BB)
              have HBB := Lib.hid (below_then HBA.out HBA.out.size BB)
              have hzB := BB.size
              clear hwB BB HDA HGA HAA HMA HTA HRLA HBA
              have hxl : x < D.2.length := by rw [HN1.out]; exact hx2
              have hyl : y < D.2.length := by rw [HN1.out]; exact hy2
              obtain ⟨bx, hbx⟩ : ∃ b, D.2[x]? = some b := ⟨_, List.getElem?_eq_getElem hxl⟩
              obtain ⟨by_, hby⟩ : ∃ b, D.2[y]? = some b := ⟨_, List.getElem?_eq_getElem hyl⟩
              obtain ⟨m1, m2, m3⟩ := lines_rt hbx hby
              rw [HN0.out] at m1 m2 m3
              rw [HLS.out] at m1 m2 m3
              obtain ⟨lx, hlx⟩ : ∃ l, nlB (lnB (rtLn bx)) = l := ⟨_, rfl⟩
              obtain ⟨ly, hly⟩ : ∃ l, nlB (lnB (rtLn by_)) = l := ⟨_, rfl⟩
              rw [hlx] at m1 m3
              rw [hly] at m2 m3
              have HBX := Lib.hid hbx
              have HBY := Lib.hid hby
              have HM3' := Lib.hid m3
              have HM1' := Lib.hid m1
              have HM2' := Lib.hid m2
              have kx := own_cl HRLB.out (j := 1 + n0 + x) (v := .string lx) (by rw [List.getElem?_map, m1]; rfl)
              have ky := own_cl HRLB.out (j := 1 + n0 + y) (v := .string ly) (by rw [List.getElem?_map, m2]; rfl)
              have HS0' : Hid (L2 w3.heap.size (1 + n0 + y) (1 + n0 + x) (.string ly) (.string lx) wB.drew) := Lib.hid ⟨ky.cell, kx.cell⟩
              have fx := kx.free
              have fy := ky.free
              have hqn1 : n0 + n1 + 1 ≤ q := by have := HQ.out; have := HN1.out; have := HN0.out; omega
              have p1 : (1 : Int) + (n0 : Int) + (x : Int) < (q : Int) + 1 := by omega
              have p2 : (1 : Int) + (n0 : Int) + (y : Int) < (q : Int) + 1 := by omega
              have p3 : IntKind.i64.wrap (1 + (n0 : Int) + (x : Int)) = 1 + (n0 : Int) + (x : Int) := by rw [IntKind.wrap_i64]; omega
              have p4 : IntKind.i64.wrap (1 + (n0 : Int) + (y : Int)) = 1 + (n0 : Int) + (y : Int) := by rw [IntKind.wrap_i64]; omega
              have p5 : (1 + (n0 : Int) + (x : Int)).toNat = 1 + n0 + x := by omega
              have p6 : (1 + (n0 : Int) + (y : Int)).toNat = 1 + n0 + y := by omega
              have p7 : 0 ≤ 1 + (n0 : Int) + (x : Int) := by omega
              have p8 : 0 ≤ 1 + (n0 : Int) + (y : Int) := by omega
              have hr2 := own_set (i := 1 + n0 + x) (v := .string ly) HRLB.out
              obtain ⟨v2, hv2⟩ : ∃ v, ((Ls.map Value.string).set (1 + n0 + x) (.string ly))[1 + n0 + y]? = some v := ⟨_, List.getElem?_eq_getElem (by rw [List.length_set, List.length_map, HLl.out]; omega)⟩
              have hk2 := Lib.hid (own_cl hr2 hv2)
              have hkx := Lib.hid kx
              have hr3 := own_set (i := 1 + n0 + y) (v := .string lx) hr2
              have hr4 : Hid (((wB.setCell ⟨w3.heap.size, 1 + n0 + x, none⟩ (.string ly)).setCell ⟨w3.heap.size, 1 + n0 + y, none⟩ (.string lx)).ownsRow w3.heap.size 9 1 (.slice (some ⟨w3.heap.size, 0, none⟩) (q + 1) (q + 1)) (q + 1) ((linesB (D.1, sw D.2 x y bx by_)).map Value.string)) := Lib.hid (by
                rw [← m3, ← sw_map]
                exact hr3)
              clear hbx hby m1 m2 m3 hlx hly kx ky hxl hyl hr2 hv2 hr3
              go_upto_region 32 with fail
              refine wp_region_headsV [(0, false), (1, false), (2, false), (3, false), (4, false), (5, false), (6, false), (7, false), (8, false), (9, false), (10, false), (11, false), (12, false), (13, true), (14, false), (15, false), (16, false), (17, false), (18, false), (19, true), (20, false)] [21, 23] (fun _ => True) (L2 w3.heap.size (1 + n0 + y) (1 + n0 + x) (.string ly) (.string lx)) (by kernel_rfl) (by kernel_rfl) trivial HS0'.out ?_
              iterate 21 (first | (refine wpHv_skip rfl (by rfl) ?_) | (refine wpHv_cons (v := ?_) rfl (by rfl) (fun wS hwS => ?_) ?_; rotate_left 1; (focus ((first | (have hwA := And.right hwS rfl) | (have hwA := And.left hwS)); clear hwS; (try dsimp only [L2] at hwA); go_simp; (try with_reducible rfl); (try (trace_state; fail))))); (try simp only [List.getElem_toArray, List.getElem_cons_zero, List.getElem_cons_succ]); (try simp only [Act.put, List.setIfInBounds_toArray, List.set_cons_zero, List.set_cons_succ]))
              refine wpHv_nil ?_
              change wpV _ _ _ _ _ _ _ (2 + 1) _ _ _
              refine wpV_one (k := 21) (by kernel_rfl) rfl (fun K hK => ?_)
              have HKK := Lib.hid hK
              clear hK
              go_simp
              have cx := hkx.out.cell
              go_simp
              refine HKK.out _ _ ⟨trivial, fun hn => absurd (by decide) hn⟩ ?_
              clear HKK K
              change wpV _ _ _ _ _ _ _ (1 + 1) _ _ _
              refine wpV_one (k := 22) (by kernel_rfl) rfl (fun K hK => ?_)
              have HKK := Lib.hid hK
              clear hK
              go_simp
              refine HKK.out _ _ ⟨trivial, fun _ h => h⟩ ?_
              clear HKK K
              change wpV _ _ _ _ _ _ _ (0 + 1) _ _ _
              refine wpV_one (k := 23) (by kernel_rfl) rfl (fun K hK => ?_)
              have HKK := Lib.hid hK
              clear hK
              go_simp
              have cy2 := hk2.out.cell
              have fy2 := hk2.out.free
              go_simp
              refine HKK.out _ _ ⟨trivial, fun hn => absurd (by decide) hn⟩ ?_
              clear HKK K
              refine wpV_done (by kernel_rfl) (NoPanic.normal ?_)
              obtain ⟨wC, hwC⟩ : ∃ z, z = ((wB.setCell ⟨w3.heap.size, 1 + n0 + x, none⟩ (.string ly)).setCell ⟨w3.heap.size, 1 + n0 + y, none⟩ (.string lx)).drew := ⟨_, rfl⟩
              rw [← hwC]
              obtain ⟨curL, hcurL⟩ := own_typ HRLB.out (g := w3.heap.size) rfl
              have hgL : wB.grownBy ((wB.setCell ⟨w3.heap.size, 1 + n0 + x, none⟩ (.string ly)).setCell ⟨w3.heap.size, 1 + n0 + y, none⟩ (.string lx)) (some w3.heap.size) := grownBy_trans (grown_set _ _ _ _) (grown_set _ _ _ _)
              have hdw : Below ((wB.setCell ⟨w3.heap.size, 1 + n0 + x, none⟩ (.string ly)).setCell ⟨w3.heap.size, 1 + n0 + y, none⟩ (.string lx)).heap.size ((wB.setCell ⟨w3.heap.size, 1 + n0 + x, none⟩ (.string ly)).setCell ⟨w3.heap.size, 1 + n0 + y, none⟩ (.string lx)) wC := by rw [hwC]; exact (Below.refl _ _).drew
              have HDC := Lib.hid ((HDB.out.other hgL (fun b e => by cases e; exact ⟨curL, _, hcurL, by decide, by decide, by decide⟩)).later hdw)
              have HGC := Lib.hid (block_later hdw ((hgL.block _ (Array.getElem?_eq_some_iff.1 HGB.out).1 (fun e => by injection e with e; exact ne_of_typ HGB.out hcurL (by decide) (by omega))).trans HGB.out))
              have hw34 : w3.heap.size < wB.heap.size := (Array.getElem?_eq_some_iff.1 hcurL).1
              have HBC : Hid (Below wo.heap.size wo wC) := Lib.hid ((((HBB.out.setCell (p := ⟨w3.heap.size, 1 + n0 + x, none⟩) (by show wo.heap.size ≤ w3.heap.size; omega) _).setCell (p := ⟨w3.heap.size, 1 + n0 + y, none⟩) (by show wo.heap.size ≤ w3.heap.size; omega) _)).trans (hdw.mono (by simp; omega)))
              have HRLC := Lib.hid (own_later hr4.out hdw)
              clear hwC hcurL curL hgL hdw HDB HGB HMB HTB HRLB HBB hr4 hkx hk2 fx fy p1 p2 p3 p4 p5 p6 p7 p8 HS0'
              have HMC := Lib.hid (cell_later HBC.out (cell_later HBr.out HM.out))
              have HTC := Lib.hid (tab_later (tab_later HT.out HBr.out) HBC.out)
              have hpl := HDC.out.pc.1
              have hmx : x < M.length := by rw [hpl]; show x < D.2.length; rw [HN1.out]; exact hx2
              have hmy : y < M.length := by rw [hpl]; show y < D.2.length; rw [HN1.out]; exact hy2
              obtain ⟨mx, hmx1⟩ : ∃ b, M[x]? = some b := ⟨_, List.getElem?_eq_getElem hmx⟩
              obtain ⟨my, hmy1⟩ : ∃ b, M[y]? = some b := ⟨_, List.getElem?_eq_getElem hmy⟩
              have HPX := Lib.hid (HDC.out.pc.2 x mx bx hmx1 HBX.out)
              have HPY := Lib.hid (HDC.out.pc.2 y my by_ hmy1 HBY.out)
              obtain ⟨AX', lX', hAX, -⟩ := own_shape HPX.out.2.2
              obtain ⟨AY', lY', hAY, -⟩ := own_shape HPY.out.2.2
              obtain ⟨fX, tX, sX⟩ := mx
              obtain ⟨fY, tY, sY⟩ := my
              simp only at hAX hAY
              subst hAX hAY
              have HMX := Lib.hid hmx1
              have HMY := Lib.hid hmy1
              clear hpl hmx hmy hmx1 hmy1
              obtain ⟨gB, hgA, hgB, curB, hcurB⟩ := HDC.out.rtF HN1.out (by omega)
              subst hgA
              have HCB := Lib.hid hcurB
              have kx0 := HDC.out.clR HN1.out HMX.out 0 (v := .int .i64 fX) (by omega) rfl
              have kx1 := HDC.out.clR HN1.out HMX.out 1 (v := .int .i64 tX) (by omega) rfl
              have kx2 := HDC.out.clR HN1.out HMX.out 2 (v := .slice AX' bx.2.length lX') (by omega) rfl
              have ky0 := HDC.out.clR HN1.out HMY.out 0 (v := .int .i64 fY) (by omega) rfl
              have ky1 := HDC.out.clR HN1.out HMY.out 1 (v := .int .i64 tY) (by omega) rfl
              have ky2 := HDC.out.clR HN1.out HMY.out 2 (v := .slice AY' by_.2.length lY') (by omega) rfl
              rw [Nat.add_zero] at kx0 ky0
              have HBS4 : Hid (R35 w1.heap.size gB (y * 3) (x * 3) (.slice (some ⟨gB, 0, none⟩) n1 c2) (fY, tY, .slice AY' by_.2.length lY') (fX, tX, .slice AX' bx.2.length lX') wC.drew) := Lib.hid ⟨(Cl.of_block HGC.out (j := 1) rfl).cell, ky0.cell, ky1.cell, ky2.cell, kx0.cell, kx1.cell, kx2.cell⟩
              have HKX := Lib.hid (And.intro kx0 (And.intro kx1 kx2))
              have HKY := Lib.hid (And.intro ky0 (And.intro ky1 ky2))
              have hd1' := HDC.out.putRoute HN1.out x HMX.out HBX.out (m' := (fY, tY, .slice AY' by_.2.length lY')) (q' := by_) HPY.out.1 HPY.out.2.1 HPY.out.2.2
              have HD1' := Lib.hid hd1'
              have hny : y < (D.2.set x by_).length := by rw [List.length_set, HN1.out]; exact hy2
              obtain ⟨bz, hbz⟩ : ∃ b, (D.2.set x by_)[y]? = some b := ⟨_, List.getElem?_eq_getElem hny⟩
              have hmz1 : y < (M.set x (fY, tY, .slice AY' by_.2.length lY')).length := by rw [List.length_set]; exact (List.getElem?_eq_some_iff.1 HMY.out).1
              obtain ⟨mz, hmz⟩ : ∃ b, (M.set x (fY, tY, .slice AY' by_.2.length lY'))[y]? = some b := ⟨_, List.getElem?_eq_getElem hmz1⟩
              have hnl1 : (D.2.set x by_).length = n1 := by rw [List.length_set]; exact HN1.out
              have hgR1 : ∀ (z : World) (o : Nat) (b : Mt), z.grownBy (putR3 z gB o b) (some gB) := fun z o b => grownBy_trans (grownBy_trans (grown_set z gB o _) (grown_set _ gB (o + 1) _)) (grown_set _ gB (o + 2) _)
              have hd2' := hd1'.putRoute hnl1 y hmz hbz (m' := (fX, tX, .slice AX' bx.2.length lX')) (q' := bx) HPX.out.1 HPX.out.2.1 (row_other HPX.out.2.2 (hgR1 wC (x * 3) (fY, tY, .slice AY' by_.2.length lY')) (fun b e => by cases e; exact ⟨curB, _, HCB.out, by decide⟩))
              have HD2' := Lib.hid hd2'
              have hneB : w1.heap.size ≠ gB := ne_of_typ HGC.out HCB.out (by decide)
              have HG17 : Hid ((putR3 wC gB (x * 3) (fY, tY, .slice AY' by_.2.length lY')).heap[w1.heap.size]? = some (.cells #[.slice A1 n0 c1, .slice (some ⟨gB, 0, none⟩) n1 c2] 45)) := Lib.hid (set_other (set_other (set_other HGC.out hneB) hneB) hneB)
              have HG19 : Hid ((putR3 (putR3 wC gB (x * 3) (fY, tY, .slice AY' by_.2.length lY')) gB (y * 3) (fX, tX, .slice AX' bx.2.length lX')).heap[w1.heap.size]? = some (.cells #[.slice A1 n0 c1, .slice (some ⟨gB, 0, none⟩) n1 c2] 45)) := Lib.hid (set_other (set_other (set_other HG17.out hneB) hneB) hneB)
              have HA34 : Hid (N1 w1.heap.size (.slice (some ⟨gB, 0, none⟩) n1 c2) wC.drew) := Lib.hid (n1_drew HGC.out)
              have HA17 : Hid (N1 w1.heap.size (.slice (some ⟨gB, 0, none⟩) n1 c2) (putR3 wC gB (x * 3) (fY, tY, .slice AY' by_.2.length lY')).drew) := Lib.hid (n1_drew HG17.out)
              have HA19 : Hid (N1 w1.heap.size (.slice (some ⟨gB, 0, none⟩) n1 c2) (putR3 (putR3 wC gB (x * 3) (fY, tY, .slice AY' by_.2.length lY')) gB (y * 3) (fX, tX, .slice AX' bx.2.length lX')).drew) := Lib.hid (n1_drew HG19.out)
              have p1 : (0 : Int) ≤ (x : Int) := by omega
              have p2 : (0 : Int) ≤ (y : Int) := by omega
              have p3 : (x : Int) < (n1 : Int) := by omega
              have p4 : (y : Int) < (n1 : Int) := by omega
              clear hcurB kx0 kx1 kx2 ky0 ky1 ky2 hd1' hny hbz hnl1 hd2' hmz1 hmz hgR1 hneB
              go_upto_region 35 with fail
              refine wp_region_headsV [(0, false), (1, false), (2, false), (3, false), (4, false), (5, false), (6, false), (7, false), (8, false), (9, false), (10, true), (11, false), (12, false), (13, false), (14, false), (15, true), (16, false)] [17, 19] (N1 w1.heap.size (.slice (some ⟨gB, 0, none⟩) n1 c2)) (R35 w1.heap.size gB (y * 3) (x * 3) (.slice (some ⟨gB, 0, none⟩) n1 c2) (fY, tY, .slice AY' by_.2.length lY') (fX, tX, .slice AX' bx.2.length lX')) (by kernel_rfl) (by kernel_rfl) HA34.out HBS4.out ?_
              iterate 17 (first | (refine wpHv_skip rfl (by rfl) ?_) | (refine wpHv_cons (v := ?_) rfl (by rfl) (fun wS hwS => ?_) ?_; rotate_left 1; (focus ((first | (have hwA := And.right hwS rfl) | (have hwA := And.left hwS)); clear hwS; (try dsimp only [R35, N1] at hwA); go_simp; (try with_reducible rfl); (try (trace_state; fail))))); (try simp only [List.getElem_toArray, List.getElem_cons_zero, List.getElem_cons_succ]); (try simp only [Act.put, List.setIfInBounds_toArray, List.set_cons_zero, List.set_cons_succ]))
              refine wpHv_nil ?_
              change wpV _ _ _ _ _ _ _ (2 + 1) _ _ _
              refine wpV_one (k := 17) (by kernel_rfl) rfl (fun K hK => ?_)
              have HKK := Lib.hid hK
              clear hK
              go_simp
              obtain ⟨⟨a1, a2⟩, ⟨a3, a4⟩, a5, a6⟩ := HKX.out
              go_simp
              clear a1 a2 a3 a4 a5 a6
              refine HKK.out _ _ ⟨HA17.out, fun hn => absurd (by decide) hn⟩ ?_
              clear HKK K
              change wpV _ _ _ _ _ _ _ (1 + 1) _ _ _
              refine wpV_one (k := 18) (by kernel_rfl) rfl (fun K hK => ?_)
              have HKK := Lib.hid hK
              clear hK
              go_simp
              refine HKK.out _ _ ⟨HA17.out, fun _ h => h⟩ ?_
              clear HKK K
              change wpV _ _ _ _ _ _ _ (0 + 1) _ _ _
              refine wpV_one (k := 19) (by kernel_rfl) rfl (fun K hK => ?_)
              have HKK := Lib.hid hK
              clear hK
              go_simp
              obtain ⟨⟨a1, a2⟩, ⟨a3, a4⟩, a5, a6⟩ := HKY.out
              obtain ⟨_, e00⟩ := cell?_setCell_some (p := ⟨gB, x * 3, none⟩) (x := .int .i64 fY) a1
              obtain ⟨_, e10⟩ := cell?_setCell_some (p := ⟨gB, x * 3, none⟩) (x := .int .i64 fY) a3
              obtain ⟨_, e11⟩ := cell?_setCell_some (p := ⟨gB, x * 3 + 1, none⟩) (x := .int .i64 tY) e10
              clear e10
              obtain ⟨_, e20⟩ := cell?_setCell_some (p := ⟨gB, x * 3, none⟩) (x := .int .i64 fY) a5
              obtain ⟨_, e21⟩ := cell?_setCell_some (p := ⟨gB, x * 3 + 1, none⟩) (x := .int .i64 tY) e20
              clear e20
              obtain ⟨_, e22⟩ := cell?_setCell_some (p := ⟨gB, x * 3 + 2, none⟩) (x := .slice AY' by_.2.length lY') e21
              clear e21
              clear a1 a3 a5
              go_simp
              refine HKK.out _ _ ⟨HA19.out, fun hn => absurd (by decide) hn⟩ ?_
              clear HKK K
              refine wpV_done (by kernel_rfl) (NoPanic.normal ?_)
              obtain ⟨wD, hwD⟩ : ∃ z, z = (putR3 (putR3 wC gB (x * 3) (fY, tY, .slice AY' by_.2.length lY')) gB (y * 3) (fX, tX, .slice AX' bx.2.length lX')).drew := ⟨_, rfl⟩
              rw [show ((((((wC.setCell ⟨gB, x * 3, none⟩ (.int .i64 fY)).setCell ⟨gB, x * 3 + 1, none⟩ (.int .i64 tY)).setCell ⟨gB, x * 3 + 2, none⟩ (.slice AY' by_.2.length lY')).setCell ⟨gB, y * 3, none⟩ (.int .i64 fX)).setCell ⟨gB, y * 3 + 1, none⟩ (.int .i64 tX)).setCell ⟨gB, y * 3 + 2, none⟩ (.slice AX' bx.2.length lX')).drew = wD from hwD.symm]
              have hdw : Below (putR3 (putR3 wC gB (x * 3) (fY, tY, .slice AY' by_.2.length lY')) gB (y * 3) (fX, tX, .slice AX' bx.2.length lX')).heap.size (putR3 (putR3 wC gB (x * 3) (fY, tY, .slice AY' by_.2.length lY')) gB (y * 3) (fX, tX, .slice AX' bx.2.length lX')) wD := by rw [hwD]; exact (Below.refl _ _).drew
              have hgB1 : ∀ (z : World) (o : Nat) (b : Mt), z.grownBy (putR3 z gB o b) (some gB) := fun z o b => grownBy_trans (grownBy_trans (grown_set z gB o _) (grown_set _ gB (o + 1) _)) (grown_set _ gB (o + 2) _)
              have hgB2 : wC.grownBy (putR3 (putR3 wC gB (x * 3) (fY, tY, .slice AY' by_.2.length lY')) gB (y * 3) (fX, tX, .slice AX' bx.2.length lX')) (some gB) := grownBy_trans (hgB1 _ _ _) (hgB1 _ _ _)
              have HDD : Hid (Drw wD (.slice A1 n0 c1) (.slice (some ⟨gB, 0, none⟩) n1 c2) (D.1, sw D.2 x y bx by_)) := Lib.hid (DrR.drw (HD2'.out.later hdw))
              have HGD := Lib.hid (block_later hdw HG19.out)
              have HRLD := Lib.hid (own_later (row_other HRLC.out hgB2 (fun b e => by cases e; exact ⟨curB, _, HCB.out, by decide⟩)) hdw)
              have HBD : Hid (Below wo.heap.size wo wD) := Lib.hid ((HBC.out.grown hgB2 HBC.out.size (fun j hj => by cases hj; omega)).trans (hdw.mono (by have h1 := hgB2.size; have h2 := HBC.out.size; omega)))
              have HMD := Lib.hid (cell_later HBD.out (cell_later HBr.out HM.out))
              clear hwD hdw hgB1 hgB2 HD1' HD2' HG17 HG19 HRLC HGC HDC HBC HMC HTC HA34 HA17 HA19 HBS4 HKX HKY p1 p2 p3 p4
              obtain ⟨E, hE⟩ : ∃ E : Dr, (D.1, sw D.2 x y bx by_) = E := ⟨_, rfl⟩
              rw [hE] at HDD HRLD
              have hEl1 : E.1.length = D.1.length := (congrArg (fun z : Dr => z.1.length) hE.symm).trans rfl
              have hEl2 : E.2.length = D.2.length := (congrArg (fun z : Dr => z.2.length) hE.symm).trans sw_len
              have hEall : AllD U8 E := by rw [← hE]; exact ⟨HALL.out.1, fun b hb => HALL.out.2 b (sw_mem HBX.out HBY.out b hb)⟩
              have hEsm := hEall.smal (by omega) (by omega) (by rw [← hE]; exact fun r hr => HL3.out r (sw_mem HBX.out HBY.out r hr))
              have HEsm := Lib.hid hEsm
              have hEtl := text_len hEall.okL (fun x hx => (hEsm.lns.1 x hx).2) hEsm.lns.2
              have HPE := Lib.hid (parse_text hEsm.many hEall.okL (by omega))
              have hEL : (linesB E).length = q + 1 := by rw [linesB_len, hEl1, hEl2]; have := HQ.out; omega
              have HEL := Lib.hid hEL
              obtain ⟨J, hJ⟩ : ∃ J, toB (Lib.join ((linesB E).map (·.data.toList)) []) = J := ⟨_, rfl⟩
              have hJs : J.size + 1 = (textP E).length := by
                rw [← join_all E, List.length_append, ← data_toB (Lib.join _ _), hJ, ← Lib.size_eq]
                rfl
              have hjn : Hid (Calls Tryd.prog 22 #[.slice (some ⟨w3.heap.size, 0, none⟩) (q + 1) (q + 1), .string ⟨#[]⟩] wD fun e w' => e = .returned (.string J) ∧ Below wD.heap.size wD w') := Lib.hid (by
                have h := Tryd.strings_Join w3.heap.size 0 (q + 1) (linesB E) ⟨#[]⟩ wD (fun j x hx => by
                  rw [Nat.zero_add]
                  exact (own_cl HRLD.out (by rw [List.getElem?_map, hx]; rfl)).cell) (by have h1 := own_lt HRLD.out (g := w3.heap.size) rfl; omega) (by rw [HEL.out]; omega) (by rw [HEL.out]; omega) (by
                    rw [show (⟨#[]⟩ : ByteArray).data.toList = [] from rfl, ← data_toB (Lib.join _ _), hJ, ← Lib.size_eq]
                    omega)
                rw [HEL.out, show (⟨#[]⟩ : ByteArray).data.toList = [] from rfl] at h
                rw [← hJ]
                exact h)
              obtain ⟨X2, hX2⟩ : ∃ X, (J ++ ⟨#[10]⟩ : ByteArray) = X := ⟨_, rfl⟩
              have HX2 : Hid (X2.data.toList = textP E) := Lib.hid (by rw [← hX2, cat_data, ← hJ, data_toB]; exact join_all E)
              have hX2s : X2.size ≤ 400000000 := by rw [Lib.size_eq, HX2.out]; omega
              have hcat : ¬9223372036854775807 < J.size + 1 := by omega
              have hJ4 : J.size ≤ 4000 := by omega
              clear hE hEall hEsm hEL hJ hJs hEtl hEl1 hEl2
              go_wp2_with fail
              refine hjn.out.mono ?_
              rintro e wE ⟨rfl, BE⟩
              have HDE := Lib.hid (HDD.out.later BE)
              have HGE := Lib.hid (block_later BE HGD.out)
              have HBE := Lib.hid (below_then HBD.out HBD.out.size BE)
              have HME := Lib.hid (cell_later BE HMD.out)
              clear BE HDD HGD HBD HMD HRLD hjn
              go_wp2_with fail
              clear hX2 hcat
              refine (parse_any X2 hX2s HME.out).mono ?_
              rw [HX2.out, HPE.out]
              rintro e wF ⟨BF, RF, rfl, hDF, hBF⟩
              obtain ⟨A7, c7, A8, c8, rfl, rfl⟩ := drw_shape hDF
              have hb8 : Below wF.heap.size wF (wF.alloc (.cells #[.slice A7 E.1.length c7, .slice A8 E.2.length c8] 45)) := (Below.refl _ _).alloc (Nat.le_refl _) _
              have HE4 := Lib.hid ((HDE.out.later hBF).later hb8)
              have HE5 := Lib.hid (hDF.later hb8)
              have hg4 := block_later hb8 (block_later hBF HGE.out)
              have hg5 : (wF.alloc (.cells #[.slice A7 E.1.length c7, .slice A8 E.2.length c8] 45)).heap[wF.heap.size]? = some (.cells #[.slice A7 E.1.length c7, .slice A8 E.2.length c8] 45) := heap_at rfl
              have HBG := Lib.hid (below_then (below_then HBE.out HBE.out.size hBF) (by have := HBE.out.size; have := hBF.size; omega) hb8)
              have q0 := (Cl.of_block hg4 (j := 0) rfl).cell
              have q1 := (Cl.of_block hg4 (j := 1) rfl).cell
              have q2 := (Cl.of_block hg5 (j := 0) rfl).cell
              have q3 := (Cl.of_block hg5 (j := 1) rfl).cell
              clear hDF hBF hb8 hg4 hg5 HDE HGE HBE HME
              go_wp2_with fail
              refine (same_any HE5.out HE4.out (by have := HEsm.out.bx; omega) (by have := HEsm.out.rt; omega) (fun r hr => by have := HEsm.out.pt r hr; omega)).mono ?_
              rw [show decide (E = E) = true by simp]
              rintro e wH ⟨rfl, BH⟩
              have HBH := Lib.hid (below_then HBG.out HBG.out.size BH)
              clear BH q0 q1 q2 q3 HE4 HE5 HBG
              go_wp2_with fail
              go_ret
              exact ⟨rfl, below_then HBr.out HBr.out.size HBH.out⟩
          · have hob : (a0 % 2 == 1) = false := by simp [ho]
            go_quiet (fail)
            obtain ⟨wA, hwA⟩ : ∃ x, x = w9.drewN nq := ⟨_, rfl⟩
            rw [← hwA]
            have BA : Below w9.heap.size w9 wA := by rw [hwA]; exact below_drewN _ _
            have HDA := Lib.hid (HD9.out.later BA)
            have HGA := Lib.hid (block_later BA HG9.out)
            have HAA := Lib.hid (block_later BA HA9.out)
            have HMA := Lib.hid (cell_later BA HM9.out)
            have HTA := Lib.hid (tab_later HT9.out BA)
            have HRLA := Lib.hid (own_later HRL9.out BA)
            have HBA := Lib.hid (below_then HB9.out HB9.out.size BA)
            have hzA := BA.size
            clear hwA BA HD9 HG9 HA9 HM9 HT9 HRL9 HB9 g0 g1 t0 hob
            obtain ⟨n1, hn1⟩ : ∃ n, D.1.length = n := ⟨_, rfl⟩
            rw [hn1] at HDA HGA ⊢
            have HN1 := Lib.hid hn1
            by_cases hc0 : n1 = 0
            · have hcb : ((n1 : Int) == 0) = true := by simp [hc0]
              clear hn1 hc0
              go_wp2_with fail
              go_ret
              exact ⟨rfl, below_then HBr.out HBr.out.size HBA.out⟩
            · have hcb : ((n1 : Int) == 0) = false := by simp [hc0]
              obtain ⟨x, hx1, hx2⟩ : ∃ x : Nat, a0 % (n1 : Int) = x ∧ x < n1 := ⟨(a0 % (n1 : Int)).toNat, by have := Int.emod_nonneg a0 (show (n1 : Int) ≠ 0 by omega); omega, by have := Int.emod_lt_of_pos a0 (show (0 : Int) < n1 by omega); omega⟩
              obtain ⟨y, hy1, hy2⟩ : ∃ y : Nat, a1 % (n1 : Int) = y ∧ y < n1 := ⟨(a1 % (n1 : Int)).toNat, by have := Int.emod_nonneg a1 (show (n1 : Int) ≠ 0 by omega); omega, by have := Int.emod_lt_of_pos a1 (show (0 : Int) < n1 by omega); omega⟩
              obtain ⟨z2, z3⟩ := HK1.out
              have hx3 : a0.tmod (n1 : Int) = x := by rw [Int.tmod_eq_emod_of_nonneg z0]; exact hx1
              have hy3 : a1.tmod (n1 : Int) = y := by rw [Int.tmod_eq_emod_of_nonneg z2]; exact hy1
              have t0 := (Cl.of_block HAA.out (j := 0) rfl).cell
              have t1 := (Cl.of_block HAA.out (j := 1) rfl).cell
              clear hn1
              go_upto_region 31 with fail
              go_quiet (fail)
              clear t0 t1 hx1 hx3 hy1 hy3 hcb z0 z1 z2 z3
              obtain ⟨wB, hwB⟩ : ∃ x, x = wA.drewN nq := ⟨_, rfl⟩
              rw [← hwB]
              have BB : Below wA.heap.size wA wB := by rw [hwB]; exact below_drewN _ _
              have HDB := Lib.hid (HDA.out.later BB)
              have HGB := Lib.hid (block_later BB HGA.out)
              have HMB := Lib.hid (cell_later BB HMA.out)
              have HTB := Lib.hid (tab_later HTA.out BB)
              have HRLB := Lib.hid (own_later HRLA.out BB)
              have HBB := Lib.hid (below_then HBA.out HBA.out.size BB)
              have hzB := BB.size
              clear hwB BB HDA HGA HAA HMA HTA HRLA HBA
              have hxl : x < D.1.length := by rw [HN1.out]; exact hx2
              have hyl : y < D.1.length := by rw [HN1.out]; exact hy2
              obtain ⟨bx, hbx⟩ : ∃ b, D.1[x]? = some b := ⟨_, List.getElem?_eq_getElem hxl⟩
              obtain ⟨by_, hby⟩ : ∃ b, D.1[y]? = some b := ⟨_, List.getElem?_eq_getElem hyl⟩
              obtain ⟨m1, m2, m3⟩ := lines_bx hbx hby
              rw [HLS.out] at m1 m2 m3
              obtain ⟨lx, hlx⟩ : ∃ l, nlB (lnB (bxLn bx)) = l := ⟨_, rfl⟩
              obtain ⟨ly, hly⟩ : ∃ l, nlB (lnB (bxLn by_)) = l := ⟨_, rfl⟩
              rw [hlx] at m1 m3
              rw [hly] at m2 m3
              have HBX := Lib.hid hbx
              have HBY := Lib.hid hby
              have HM3' := Lib.hid m3
              have HM1' := Lib.hid m1
              have HM2' := Lib.hid m2
              have kx := own_cl HRLB.out (j := 1 + x) (v := .string lx) (by rw [List.getElem?_map, m1]; rfl)
              have ky := own_cl HRLB.out (j := 1 + y) (v := .string ly) (by rw [List.getElem?_map, m2]; rfl)
              have HS0' : Hid (L2 w3.heap.size (1 + y) (1 + x) (.string ly) (.string lx) wB.drew) := Lib.hid ⟨ky.cell, kx.cell⟩
              have fx := kx.free
              have fy := ky.free
              have hqn1 : n1 + 1 ≤ q := by have := HQ.out; have := HN1.out; omega
              have p1 : (1 : Int) + (x : Int) < (q : Int) + 1 := by omega
              have p2 : (1 : Int) + (y : Int) < (q : Int) + 1 := by omega
              have p3 : IntKind.i64.wrap (1 + (x : Int)) = 1 + (x : Int) := by rw [IntKind.wrap_i64]; omega
              have p4 : IntKind.i64.wrap (1 + (y : Int)) = 1 + (y : Int) := by rw [IntKind.wrap_i64]; omega
              have p5 : (1 + (x : Int)).toNat = 1 + x := by omega
              have p6 : (1 + (y : Int)).toNat = 1 + y := by omega
              have p7 : 0 ≤ 1 + (x : Int) := by omega
              have p8 : 0 ≤ 1 + (y : Int) := by omega
              have hr2 := own_set (i := 1 + x) (v := .string ly) HRLB.out
              obtain ⟨v2, hv2⟩ : ∃ v, ((Ls.map Value.string).set (1 + x) (.string ly))[1 + y]? = some v := ⟨_, List.getElem?_eq_getElem (by rw [List.length_set, List.length_map, HLl.out]; omega)⟩
              have hk2 := Lib.hid (own_cl hr2 hv2)
              have hkx := Lib.hid kx
              have hr3 := own_set (i := 1 + y) (v := .string lx) hr2
              have hr4 : Hid (((wB.setCell ⟨w3.heap.size, 1 + x, none⟩ (.string ly)).setCell ⟨w3.heap.size, 1 + y, none⟩ (.string lx)).ownsRow w3.heap.size 9 1 (.slice (some ⟨w3.heap.size, 0, none⟩) (q + 1) (q + 1)) (q + 1) ((linesB (sw D.1 x y bx by_, D.2)).map Value.string)) := Lib.hid (by
                rw [← m3, ← sw_map]
                exact hr3)
              clear hbx hby m1 m2 m3 hlx hly kx ky hxl hyl hr2 hv2 hr3
              go_upto_region 32 with fail
              refine wp_region_headsV [(0, false), (1, false), (2, false), (3, false), (4, false), (5, false), (6, false), (7, false), (8, false), (9, false), (10, false), (11, false), (12, false), (13, true), (14, false), (15, false), (16, false), (17, false), (18, false), (19, true), (20, false)] [21, 23] (fun _ => True) (L2 w3.heap.size (1 + y) (1 + x) (.string ly) (.string lx)) (by kernel_rfl) (by kernel_rfl) trivial HS0'.out ?_
              iterate 21 (first | (refine wpHv_skip rfl (by rfl) ?_) | (refine wpHv_cons (v := ?_) rfl (by rfl) (fun wS hwS => ?_) ?_; rotate_left 1; (focus ((first | (have hwA := And.right hwS rfl) | (have hwA := And.left hwS)); clear hwS; (try dsimp only [L2] at hwA); go_simp; (try with_reducible rfl); (try (trace_state; fail))))); (try simp only [List.getElem_toArray, List.getElem_cons_zero, List.getElem_cons_succ]); (try simp only [Act.put, List.setIfInBounds_toArray, List.set_cons_zero, List.set_cons_succ]))
              refine wpHv_nil ?_
              change wpV _ _ _ _ _ _ _ (2 + 1) _ _ _
              refine wpV_one (k := 21) (by kernel_rfl) rfl (fun K hK => ?_)
              have HKK := Lib.hid hK
              clear hK
              go_simp
              have cx := hkx.out.cell
              go_simp
              refine HKK.out _ _ ⟨trivial, fun hn => absurd (by decide) hn⟩ ?_
              clear HKK K
              change wpV _ _ _ _ _ _ _ (1 + 1) _ _ _
              refine wpV_one (k := 22) (by kernel_rfl) rfl (fun K hK => ?_)
              have HKK := Lib.hid hK
              clear hK
              go_simp
              refine HKK.out _ _ ⟨trivial, fun _ h => h⟩ ?_
              clear HKK K
              change wpV _ _ _ _ _ _ _ (0 + 1) _ _ _
              refine wpV_one (k := 23) (by kernel_rfl) rfl (fun K hK => ?_)
              have HKK := Lib.hid hK
              clear hK
              go_simp
              have cy2 := hk2.out.cell
              have fy2 := hk2.out.free
              go_simp
              refine HKK.out _ _ ⟨trivial, fun hn => absurd (by decide) hn⟩ ?_
              clear HKK K
              refine wpV_done (by kernel_rfl) (NoPanic.normal ?_)
              obtain ⟨wC, hwC⟩ : ∃ z, z = ((wB.setCell ⟨w3.heap.size, 1 + x, none⟩ (.string ly)).setCell ⟨w3.heap.size, 1 + y, none⟩ (.string lx)).drew := ⟨_, rfl⟩
              rw [← hwC]
              obtain ⟨curL, hcurL⟩ := own_typ HRLB.out (g := w3.heap.size) rfl
              have hgL : wB.grownBy ((wB.setCell ⟨w3.heap.size, 1 + x, none⟩ (.string ly)).setCell ⟨w3.heap.size, 1 + y, none⟩ (.string lx)) (some w3.heap.size) := grownBy_trans (grown_set _ _ _ _) (grown_set _ _ _ _)
              have hdw : Below ((wB.setCell ⟨w3.heap.size, 1 + x, none⟩ (.string ly)).setCell ⟨w3.heap.size, 1 + y, none⟩ (.string lx)).heap.size ((wB.setCell ⟨w3.heap.size, 1 + x, none⟩ (.string ly)).setCell ⟨w3.heap.size, 1 + y, none⟩ (.string lx)) wC := by rw [hwC]; exact (Below.refl _ _).drew
              have HDC := Lib.hid ((HDB.out.other hgL (fun b e => by cases e; exact ⟨curL, _, hcurL, by decide, by decide, by decide⟩)).later hdw)
              have HGC := Lib.hid (block_later hdw ((hgL.block _ (Array.getElem?_eq_some_iff.1 HGB.out).1 (fun e => by injection e with e; exact ne_of_typ HGB.out hcurL (by decide) (by omega))).trans HGB.out))
              have hw34 : w3.heap.size < wB.heap.size := (Array.getElem?_eq_some_iff.1 hcurL).1
              have HBC : Hid (Below wo.heap.size wo wC) := Lib.hid ((((HBB.out.setCell (p := ⟨w3.heap.size, 1 + x, none⟩) (by show wo.heap.size ≤ w3.heap.size; omega) _).setCell (p := ⟨w3.heap.size, 1 + y, none⟩) (by show wo.heap.size ≤ w3.heap.size; omega) _)).trans (hdw.mono (by simp; omega)))
              have HRLC := Lib.hid (own_later hr4.out hdw)
              clear hwC hcurL curL hgL hdw HDB HGB HMB HTB HRLB HBB hr4 hkx hk2 fx fy p1 p2 p3 p4 p5 p6 p7 p8 HS0'
              have HMC := Lib.hid (cell_later HBC.out (cell_later HBr.out HM.out))
              have HTC := Lib.hid (tab_later (tab_later HT.out HBr.out) HBC.out)
              have HHD : Hid ((sw D.1 x y bx by_, D.2).1 = sw D.1 x y bx by_) := Lib.hid rfl
              obtain ⟨gB, hgA, hgB, curB, hcurB⟩ := HDC.out.bxF HN1.out (by omega)
              subst hgA
              have HCB := Lib.hid hcurB
              have kx0 := HDC.out.clB HN1.out HBX.out 0 (v := .int .i64 bx.1.1) (by omega) rfl
              have kx1 := HDC.out.clB HN1.out HBX.out 1 (v := .int .i64 bx.1.2) (by omega) rfl
              have kx2 := HDC.out.clB HN1.out HBX.out 2 (v := .int .i64 bx.2.1) (by omega) rfl
              have kx3 := HDC.out.clB HN1.out HBX.out 3 (v := .int .i64 bx.2.2) (by omega) rfl
              have ky0 := HDC.out.clB HN1.out HBY.out 0 (v := .int .i64 by_.1.1) (by omega) rfl
              have ky1 := HDC.out.clB HN1.out HBY.out 1 (v := .int .i64 by_.1.2) (by omega) rfl
              have ky2 := HDC.out.clB HN1.out HBY.out 2 (v := .int .i64 by_.2.1) (by omega) rfl
              have ky3 := HDC.out.clB HN1.out HBY.out 3 (v := .int .i64 by_.2.2) (by omega) rfl
              rw [Nat.add_zero] at kx0 ky0
              have HBS4 : Hid (B34 w1.heap.size gB (y * 4) (x * 4) (.slice (some ⟨gB, 0, none⟩) n1 c1) by_ bx wC.drew) := Lib.hid ⟨(Cl.of_block HGC.out (j := 0) rfl).cell, ky0.cell, ky1.cell, ky2.cell, ky3.cell, kx0.cell, kx1.cell, kx2.cell, kx3.cell⟩
              have HKX := Lib.hid (And.intro kx0 (And.intro kx1 (And.intro kx2 kx3)))
              have HKY := Lib.hid (And.intro ky0 (And.intro ky1 (And.intro ky2 ky3)))
              have hd1' := HDC.out.putBox HN1.out x HBX.out by_
              have HD1' := Lib.hid hd1'
              have hny : y < (D.1.set x by_).length := by rw [List.length_set, HN1.out]; exact hy2
              obtain ⟨bz, hbz⟩ : ∃ b, (D.1.set x by_)[y]? = some b := ⟨_, List.getElem?_eq_getElem hny⟩
              have hnl1 : (D.1.set x by_).length = n1 := by rw [List.length_set]; exact HN1.out
              have hd2' := hd1'.putBox hnl1 y hbz bx
              have HD2' := Lib.hid hd2'
              have hneB : w1.heap.size ≠ gB := ne_of_typ HGC.out HCB.out (by decide)
              have HG17 : Hid ((putB4 wC gB (x * 4) by_).heap[w1.heap.size]? = some (.cells #[.slice (some ⟨gB, 0, none⟩) n1 c1, .slice A2 D.2.length c2] 45)) := Lib.hid (set_other (set_other (set_other (set_other HGC.out hneB) hneB) hneB) hneB)
              have HG19 : Hid ((putB4 (putB4 wC gB (x * 4) by_) gB (y * 4) bx).heap[w1.heap.size]? = some (.cells #[.slice (some ⟨gB, 0, none⟩) n1 c1, .slice A2 D.2.length c2] 45)) := Lib.hid (set_other (set_other (set_other (set_other HG17.out hneB) hneB) hneB) hneB)
              have HA34 : Hid (M1 w1.heap.size (.slice (some ⟨gB, 0, none⟩) n1 c1) wC.drew) := Lib.hid (m1_drew HGC.out)
              have HA17 : Hid (M1 w1.heap.size (.slice (some ⟨gB, 0, none⟩) n1 c1) (putB4 wC gB (x * 4) by_).drew) := Lib.hid (m1_drew HG17.out)
              have HA19 : Hid (M1 w1.heap.size (.slice (some ⟨gB, 0, none⟩) n1 c1) (putB4 (putB4 wC gB (x * 4) by_) gB (y * 4) bx).drew) := Lib.hid (m1_drew HG19.out)
              have HNEB := Lib.hid hneB
              clear hneB
              have p1 : (0 : Int) ≤ (x : Int) := by omega
              have p2 : (0 : Int) ≤ (y : Int) := by omega
              have p3 : (x : Int) < (n1 : Int) := by omega
              have p4 : (y : Int) < (n1 : Int) := by omega
              clear hcurB kx0 kx1 kx2 kx3 ky0 ky1 ky2 ky3 hd1' hny hbz hnl1 hd2'
              go_upto_region 34 with fail
              refine wp_region_headsV [(0, false), (1, false), (2, false), (3, false), (4, false), (5, false), (6, false), (7, false), (8, false), (9, false), (10, true), (11, false), (12, false), (13, false), (14, false), (15, true), (16, false)] [17, 19] (M1 w1.heap.size (.slice (some ⟨gB, 0, none⟩) n1 c1)) (B34 w1.heap.size gB (y * 4) (x * 4) (.slice (some ⟨gB, 0, none⟩) n1 c1) by_ bx) (by kernel_rfl) (by kernel_rfl) HA34.out HBS4.out ?_
              iterate 17 (first | (refine wpHv_skip rfl (by rfl) ?_) | (refine wpHv_cons (v := ?_) rfl (by rfl) (fun wS hwS => ?_) ?_; rotate_left 1; (focus ((first | (have hwA := And.right hwS rfl) | (have hwA := And.left hwS)); clear hwS; (try dsimp only [B34, M1] at hwA); go_simp; (try with_reducible rfl); (try (trace_state; fail))))); (try simp only [List.getElem_toArray, List.getElem_cons_zero, List.getElem_cons_succ]); (try simp only [Act.put, List.setIfInBounds_toArray, List.set_cons_zero, List.set_cons_succ]))
              refine wpHv_nil ?_
              change wpV _ _ _ _ _ _ _ (2 + 1) _ _ _
              refine wpV_one (k := 17) (by kernel_rfl) rfl (fun K hK => ?_)
              have HKK := Lib.hid hK
              clear hK
              go_simp
              obtain ⟨⟨a1, a2⟩, ⟨a3, a4⟩, ⟨a5, a6⟩, a7, a8⟩ := HKX.out
              go_simp
              clear a1 a2 a3 a4 a5 a6 a7 a8
              refine HKK.out _ _ ⟨HA17.out, fun hn => absurd (by decide) hn⟩ ?_
              clear HKK K
              change wpV _ _ _ _ _ _ _ (1 + 1) _ _ _
              refine wpV_one (k := 18) (by kernel_rfl) rfl (fun K hK => ?_)
              have HKK := Lib.hid hK
              clear hK
              go_simp
              refine HKK.out _ _ ⟨HA17.out, fun _ h => h⟩ ?_
              clear HKK K
              change wpV _ _ _ _ _ _ _ (0 + 1) _ _ _
              refine wpV_one (k := 19) (by kernel_rfl) rfl (fun K hK => ?_)
              have HKK := Lib.hid hK
              clear hK
              go_simp
              obtain ⟨⟨a1, a2⟩, ⟨a3, a4⟩, ⟨a5, a6⟩, a7, a8⟩ := HKY.out
              obtain ⟨_, e00⟩ := cell?_setCell_some (p := ⟨gB, x * 4, none⟩) (x := .int .i64 by_.1.1) a1
              obtain ⟨_, e10⟩ := cell?_setCell_some (p := ⟨gB, x * 4, none⟩) (x := .int .i64 by_.1.1) a3
              obtain ⟨_, e11⟩ := cell?_setCell_some (p := ⟨gB, x * 4 + 1, none⟩) (x := .int .i64 by_.1.2) e10
              clear e10
              obtain ⟨_, e20⟩ := cell?_setCell_some (p := ⟨gB, x * 4, none⟩) (x := .int .i64 by_.1.1) a5
              obtain ⟨_, e21⟩ := cell?_setCell_some (p := ⟨gB, x * 4 + 1, none⟩) (x := .int .i64 by_.1.2) e20
              clear e20
              obtain ⟨_, e22⟩ := cell?_setCell_some (p := ⟨gB, x * 4 + 2, none⟩) (x := .int .i64 by_.2.1) e21
              clear e21
              obtain ⟨_, e30⟩ := cell?_setCell_some (p := ⟨gB, x * 4, none⟩) (x := .int .i64 by_.1.1) a7
              obtain ⟨_, e31⟩ := cell?_setCell_some (p := ⟨gB, x * 4 + 1, none⟩) (x := .int .i64 by_.1.2) e30
              clear e30
              obtain ⟨_, e32⟩ := cell?_setCell_some (p := ⟨gB, x * 4 + 2, none⟩) (x := .int .i64 by_.2.1) e31
              clear e31
              obtain ⟨_, e33⟩ := cell?_setCell_some (p := ⟨gB, x * 4 + 3, none⟩) (x := .int .i64 by_.2.2) e32
              clear e32
              clear a1 a3 a5 a7
              go_simp
              refine HKK.out _ _ ⟨HA19.out, fun hn => absurd (by decide) hn⟩ ?_
              clear HKK K
              refine wpV_done (by kernel_rfl) (NoPanic.normal ?_)
              obtain ⟨wD, hwD⟩ : ∃ z, z = (putB4 (putB4 wC gB (x * 4) by_) gB (y * 4) bx).drew := ⟨_, rfl⟩
              rw [show ((((((((wC.setCell ⟨gB, x * 4, none⟩ (.int .i64 by_.1.1)).setCell ⟨gB, x * 4 + 1, none⟩ (.int .i64 by_.1.2)).setCell ⟨gB, x * 4 + 2, none⟩ (.int .i64 by_.2.1)).setCell ⟨gB, x * 4 + 3, none⟩ (.int .i64 by_.2.2)).setCell ⟨gB, y * 4, none⟩ (.int .i64 bx.1.1)).setCell ⟨gB, y * 4 + 1, none⟩ (.int .i64 bx.1.2)).setCell ⟨gB, y * 4 + 2, none⟩ (.int .i64 bx.2.1)).setCell ⟨gB, y * 4 + 3, none⟩ (.int .i64 bx.2.2)).drew = wD from hwD.symm]
              have hdw : Below (putB4 (putB4 wC gB (x * 4) by_) gB (y * 4) bx).heap.size (putB4 (putB4 wC gB (x * 4) by_) gB (y * 4) bx) wD := by rw [hwD]; exact (Below.refl _ _).drew
              have hgB1 : ∀ (z : World) (o : Nat) (b : Bx), z.grownBy (putB4 z gB o b) (some gB) := fun z o b => grownBy_trans (grownBy_trans (grownBy_trans (grown_set z gB o _) (grown_set _ gB (o + 1) _)) (grown_set _ gB (o + 2) _)) (grown_set _ gB (o + 3) _)
              have hgB2 : wC.grownBy (putB4 (putB4 wC gB (x * 4) by_) gB (y * 4) bx) (some gB) := grownBy_trans (hgB1 _ _ _) (hgB1 _ _ _)
              have HDD : Hid (Drw wD (.slice (some ⟨gB, 0, none⟩) n1 c1) (.slice A2 D.2.length c2) (sw D.1 x y bx by_, D.2)) := Lib.hid (DrR.drw (HD2'.out.later hdw))
              have HGD := Lib.hid (block_later hdw HG19.out)
              have HRLD := Lib.hid (own_later (row_other HRLC.out hgB2 (fun b e => by cases e; exact ⟨curB, _, HCB.out, by decide⟩)) hdw)
              have HBD : Hid (Below wo.heap.size wo wD) := Lib.hid ((HBC.out.grown hgB2 HBC.out.size (fun j hj => by cases hj; omega)).trans (hdw.mono (by have h1 := hgB2.size; have h2 := HBC.out.size; omega)))
              have HMD := Lib.hid (cell_later HBD.out (cell_later HBr.out HM.out))
              clear hwD hdw hgB1 hgB2 HD1' HD2' HG17 HG19 HRLC HGC HDC HBC HMC HTC HA34 HA17 HA19 HBS4 HKX HKY p1 p2 p3 p4
              obtain ⟨E, hE⟩ : ∃ E : Dr, (sw D.1 x y bx by_, D.2) = E := ⟨_, rfl⟩
              rw [hE] at HDD HRLD
              have hEl1 : E.1.length = D.1.length := (congrArg (fun z : Dr => z.1.length) hE.symm).trans sw_len
              have hEl2 : E.2.length = D.2.length := (congrArg (fun z : Dr => z.2.length) hE.symm).trans rfl
              have hEall : AllD U8 E := by rw [← hE]; exact ⟨fun b hb => HALL.out.1 b (sw_mem HBX.out HBY.out b hb), HALL.out.2⟩
              have hEsm := hEall.smal (by omega) (by omega) (by rw [← hE]; exact HL3.out)
              have HEsm := Lib.hid hEsm
              have hEtl := text_len hEall.okL (fun x hx => (hEsm.lns.1 x hx).2) hEsm.lns.2
              have HPE := Lib.hid (parse_text hEsm.many hEall.okL (by omega))
              have hEL : (linesB E).length = q + 1 := by rw [linesB_len, hEl1, hEl2]; have := HQ.out; omega
              have HEL := Lib.hid hEL
              obtain ⟨J, hJ⟩ : ∃ J, toB (Lib.join ((linesB E).map (·.data.toList)) []) = J := ⟨_, rfl⟩
              have hJs : J.size + 1 = (textP E).length := by
                rw [← join_all E, List.length_append, ← data_toB (Lib.join _ _), hJ, ← Lib.size_eq]
                rfl
              have hjn : Hid (Calls Tryd.prog 22 #[.slice (some ⟨w3.heap.size, 0, none⟩) (q + 1) (q + 1), .string ⟨#[]⟩] wD fun e w' => e = .returned (.string J) ∧ Below wD.heap.size wD w') := Lib.hid (by
                have h := Tryd.strings_Join w3.heap.size 0 (q + 1) (linesB E) ⟨#[]⟩ wD (fun j x hx => by
                  rw [Nat.zero_add]
                  exact (own_cl HRLD.out (by rw [List.getElem?_map, hx]; rfl)).cell) (by have h1 := own_lt HRLD.out (g := w3.heap.size) rfl; omega) (by rw [HEL.out]; omega) (by rw [HEL.out]; omega) (by
                    rw [show (⟨#[]⟩ : ByteArray).data.toList = [] from rfl, ← data_toB (Lib.join _ _), hJ, ← Lib.size_eq]
                    omega)
                rw [HEL.out, show (⟨#[]⟩ : ByteArray).data.toList = [] from rfl] at h
                rw [← hJ]
                exact h)
              obtain ⟨X2, hX2⟩ : ∃ X, (J ++ ⟨#[10]⟩ : ByteArray) = X := ⟨_, rfl⟩
              have HX2 : Hid (X2.data.toList = textP E) := Lib.hid (by rw [← hX2, cat_data, ← hJ, data_toB]; exact join_all E)
              have hX2s : X2.size ≤ 400000000 := by rw [Lib.size_eq, HX2.out]; omega
              have hcat : ¬9223372036854775807 < J.size + 1 := by omega
              have hJ4 : J.size ≤ 4000 := by omega
              clear hE hEall hEsm hEL hJ hJs hEtl hEl1 hEl2
              go_wp2_with fail
              refine hjn.out.mono ?_
              rintro e wE ⟨rfl, BE⟩
              have HDE := Lib.hid (HDD.out.later BE)
              have HGE := Lib.hid (block_later BE HGD.out)
              have HBE := Lib.hid (below_then HBD.out HBD.out.size BE)
              have HME := Lib.hid (cell_later BE HMD.out)
              clear BE HDD HGD HBD HMD HRLD hjn
              go_wp2_with fail
              clear hX2 hcat
              refine (parse_any X2 hX2s HME.out).mono ?_
              rw [HX2.out, HPE.out]
              rintro e wF ⟨BF, RF, rfl, hDF, hBF⟩
              obtain ⟨A7, c7, A8, c8, rfl, rfl⟩ := drw_shape hDF
              have hb8 : Below wF.heap.size wF (wF.alloc (.cells #[.slice A7 E.1.length c7, .slice A8 E.2.length c8] 45)) := (Below.refl _ _).alloc (Nat.le_refl _) _
              have HE4 := Lib.hid ((HDE.out.later hBF).later hb8)
              have HE5 := Lib.hid (hDF.later hb8)
              have hg4 := block_later hb8 (block_later hBF HGE.out)
              have hg5 : (wF.alloc (.cells #[.slice A7 E.1.length c7, .slice A8 E.2.length c8] 45)).heap[wF.heap.size]? = some (.cells #[.slice A7 E.1.length c7, .slice A8 E.2.length c8] 45) := heap_at rfl
              have HBG := Lib.hid (below_then (below_then HBE.out HBE.out.size hBF) (by have := HBE.out.size; have := hBF.size; omega) hb8)
              have q0 := (Cl.of_block hg4 (j := 0) rfl).cell
              have q1 := (Cl.of_block hg4 (j := 1) rfl).cell
              have q2 := (Cl.of_block hg5 (j := 0) rfl).cell
              have q3 := (Cl.of_block hg5 (j := 1) rfl).cell
              clear hDF hBF hb8 hg4 hg5 HDE HGE HBE HME
              go_wp2_with fail
              refine (same_any HE5.out HE4.out (by have := HEsm.out.bx; omega) (by have := HEsm.out.rt; omega) (fun r hr => by have := HEsm.out.pt r hr; omega)).mono ?_
              rw [show decide (E = E) = true by simp]
              rintro e wH ⟨rfl, BH⟩
              have HBH := Lib.hid (below_then HBG.out HBG.out.size BH)
              clear BH q0 q1 q2 q3 HE4 HE5 HBG
              go_wp2_with fail
              go_ret
              exact ⟨rfl, below_then HBr.out HBr.out.size HBH.out⟩
/-- Rows of uint8 in a slice, however long. -/
def RowsB (w : World) (V : Value) (rs : List (List Int)) : Prop := ∃ Vs : List Value, Vs.length = rs.length ∧ Sl 1 encV w V Vs ∧ ∀ (i : Nat) (U : Value) (r : List Int), Vs[i]? = some U → rs[i]? = some r → Sl 1 encH8 w U r
section
variable {H : Type} {enc : TypeId × Value → H} {W : World} {base : Nat} {A : Option Addr} {len cap : Nat}
theorem uint8_of {n : Int} (h : (Lit.int .u8 n).wf = true) : U8 n := by
  simp [Lit.wf, IntKind.min, IntKind.max, IntKind.signed, IntKind.bits] at h
  exact ⟨h.1, by omega⟩
theorem Rd.h8 {v : Value} (R : Rd enc Tryd.prog W base (fun _ => true) true 68 [v]) : ∃ L : List Int, (∀ a ∈ L, U8 a) ∧ Sl 1 encH8 W v L := by
  obtain ⟨A, len, cap, rfl, -⟩ := R.slice Tryd.underlying68 (sz := 1) (by_ := 1) (by kernel_rfl) (by kernel_rfl) (k := 3) (ps := [(0, 5)]) (by kernel_rfl) ⟨5, by simp⟩
  obtain ⟨L, h1, h2, h3, h4, _⟩ := Rd.sl encH8 U8 0 R Tryd.underlying68 (sz := 1) (by_ := 1) (by kernel_rfl) (by kernel_rfl) (k := 3) (ps := [(0, 5)]) (by kernel_rfl) ⟨5, by simp⟩ (fun cell hc => by
    obtain ⟨c, e0, r0⟩ := hc (0, 5) (by simp)
    obtain ⟨n, k0, w0⟩ := r0.int Tryd.underlying5
    cases k0
    refine ⟨n, uint8_of w0, fun r v hv => ?_⟩
    match r, hv with
    | 0, hv => simp [encH8] at hv; subst hv; exact e0)
  exact ⟨L, h2, h3⟩
theorem Rd.rows8 (R : Rd enc Tryd.prog W base (fun _ => true) true 63 [.slice A len cap]) : ∃ rs : List (List Int), RowsB W (.slice A len cap) rs ∧ (∀ r ∈ rs, ∀ n ∈ r, U8 n) ∧ rs.length ≤ 20000000000000 := by
  obtain ⟨L, h1, h2, h3, h4, _⟩ := Rd.sl (fun p : Value × List Int => [p.1]) (fun p => Sl 1 encH8 W p.1 p.2 ∧ ∀ n ∈ p.2, U8 n) (.slice none 0 0, []) R Tryd.underlying63 (sz := 1) (by_ := 24) (by kernel_rfl) (by kernel_rfl) (k := 3) (ps := [(0, 68)]) (by kernel_rfl) ⟨68, by simp⟩ (fun cell hc => by
    obtain ⟨c, e0, r0⟩ := hc (0, 68) (by simp)
    obtain ⟨q, k1, k2⟩ := Rd.h8 r0
    refine ⟨(c, q), ⟨k2, k1⟩, fun r v hv => ?_⟩
    match r, hv with
    | 0, hv => simp at hv; subst hv; exact e0)
  refine ⟨L.map (·.2), ⟨L.map (·.1), by simp, ?_, ?_⟩, ?_, by simp; omega⟩
  · obtain ⟨A', cap', e, h5, h6, h7⟩ := h3
    refine ⟨A', cap', by rw [e, List.length_map], by simpa using h5, by simpa using h6, fun hl => ?_⟩
    obtain ⟨b, off, e2, hc⟩ := h7 (by simpa using hl)
    refine ⟨b, off, e2, fun i a hi r v hv => ?_⟩
    rw [List.getElem?_map] at hi
    cases hz : L[i]? with
    | none => rw [hz] at hi; cases hi
    | some p =>
      rw [hz] at hi
      obtain rfl : p.1 = a := by simpa using hi
      exact hc i p hz r v hv
  · intro i U r hU hr
    rw [List.getElem?_map] at hU hr
    cases hz : L[i]? with
    | none => rw [hz] at hU; cases hU
    | some p =>
      rw [hz] at hU hr
      obtain rfl : p.1 = U := by simpa using hU
      obtain rfl : p.2 = r := by simpa using hr
      exact (h2 p (List.mem_of_getElem? hz)).1
  · intro r hr n hn
    obtain ⟨p, hp, rfl⟩ := List.mem_map.1 hr
    exact (h2 p hp).2 n hn
theorem Rd.quads8 (R : Rd enc Tryd.prog W base (fun _ => true) true 62 [.slice A len cap]) : ∃ L : List Q4t, Sl 4 encQ8 W (.slice A len cap) L ∧ (∀ q ∈ L, U8 q.1 ∧ U8 q.2.1 ∧ U8 q.2.2.1 ∧ U8 q.2.2.2) ∧ L.length ≤ 40000000000000 := by
  obtain ⟨L, h1, h2, h3, h4, _⟩ := Rd.sl encQ8 (fun q => U8 q.1 ∧ U8 q.2.1 ∧ U8 q.2.2.1 ∧ U8 q.2.2.2) (0, 0, 0, 0) R Tryd.underlying62 (sz := 4) (by_ := 4) (by kernel_rfl) (by kernel_rfl) (k := 3) (ps := [(0, 5), (1, 5), (2, 5), (3, 5)]) (by kernel_rfl) ⟨5, by simp⟩ (fun cell hc => by
    obtain ⟨c0, e0, r0⟩ := hc (0, 5) (by simp)
    obtain ⟨n0, k0, w0⟩ := r0.int Tryd.underlying5
    obtain ⟨c1, e1, r1⟩ := hc (1, 5) (by simp)
    obtain ⟨n1, k1, w1⟩ := r1.int Tryd.underlying5
    obtain ⟨c2, e2, r2⟩ := hc (2, 5) (by simp)
    obtain ⟨n2, k2, w2⟩ := r2.int Tryd.underlying5
    obtain ⟨c3, e3, r3⟩ := hc (3, 5) (by simp)
    obtain ⟨n3, k3, w3⟩ := r3.int Tryd.underlying5
    cases k0; cases k1; cases k2; cases k3
    refine ⟨(n0, n1, n2, n3), ⟨uint8_of w0, uint8_of w1, uint8_of w2, uint8_of w3⟩, fun r v hv => ?_⟩
    match r, hv with
    | 0, hv => simp [encQ8] at hv; subst hv; exact e0
    | 1, hv => simp [encQ8] at hv; subst hv; exact e1
    | 2, hv => simp [encQ8] at hv; subst hv; exact e2
    | 3, hv => simp [encQ8] at hv; subst hv; exact e3)
  exact ⟨L, h3, h2, by omega⟩
theorem bulk_mem {d : DataW H} : ∀ {l : List (DataW H)}, d ∈ l → Rows.uptoBulk d ≤ Rows.uptoBulkAll l
  | [], h => by cases h
  | x :: r, h => by
    simp only [Rows.uptoBulkAll]
    rcases List.mem_cons.1 h with e | e
    · subst e; omega
    · have := bulk_mem e; omega
theorem bulk_one (d : DataW H) : 1 ≤ Rows.uptoBulk d := by
  cases d with
  | lit l => cases l <;> simp [Rows.uptoBulk]
  | nil => simp [Rows.uptoBulk]
  | ptr d => simp [Rows.uptoBulk]
  | slice elems spare => simp [Rows.uptoBulk]
  | agg parts => simp [Rows.uptoBulk]
  | iface t d => simp [Rows.uptoBulk]
  | map entries => simp [Rows.uptoBulk]
  | held h => simp [Rows.uptoBulk]
theorem bulk_len : ∀ l : List (DataW H), l.length ≤ Rows.uptoBulkAll l
  | [] => by simp [Rows.uptoBulkAll]
  | x :: r => by
    have h1 := bulk_one x
    have h2 := bulk_len r
    simp only [Rows.uptoBulkAll, List.length_cons]
    omega
/-- No row is longer than the bulk. -/
theorem rows_bulk {n : Nat} {d : DataW H} {p : List MemPlace} {b off : Nat} (h : DataW.trod enc Tryd.prog W 0 (fun _ => true) true n 63 [.slice (some ⟨b, off, none⟩) len cap] = some (d, p)) {B : Nat} (hb : Rows.uptoBulk d ≤ B) {i : Nat} (hi : i < len)
    {U : Value} (hU : W.cell? ⟨b, off + i, none⟩ = some U) {A' : Option Addr} {l' c' : Nat} (hA : U = .slice A' l' c') : l' ≤ B := by
  have hco : Tryd.prog.cellsOf 68 = 1 := by kernel_rfl
  rcases Deep.open_slice Tryd.underlying63 h with ⟨h0, _⟩ | ⟨a, ln, cp, M, n', D, Pl, h0, hbb, hle, hm, hmm, hx, hc⟩
  · cases h0
  · cases h0
    have hlM : len ≤ M := by rw [hmm]; split <;> omega
    injection hx with hx1 hx2
    rw [hx1] at hb
    have hD : Rows.uptoBulk (D i) ≤ B := by
      have h1 := bulk_mem (H := H) (d := D i) (l := (List.range len).map D) (List.mem_map.2 ⟨i, by simpa using hi, rfl⟩)
      simp only [Rows.uptoBulk] at hb
      omega
    obtain ⟨cs, h1, h2⟩ := hc i (by omega)
    obtain ⟨_, hlen, hcell⟩ := World.cells?_some h1
    rw [hco] at hlen hcell
    match cs, hlen with
    | [c], _ =>
      have e0 := hcell 0 (by omega)
      have ad : ((⟨b, off, none⟩ : Addr).add (i * 1)).add 0 = ⟨b, off + i, none⟩ := by unfold Addr.add; simp
      rw [ad, hU] at e0
      obtain rfl : U = c := by simpa using e0
      subst hA
      rcases Deep.open_slice Tryd.underlying68 h2 with ⟨k0, _⟩ | ⟨a2, ln2, cp2, M2, n2, D2, Pl2, k0, _, hle2, _, hmm2, hx2', _⟩
      · cases k0
        omega
      · cases k0
        have hlM2 : l' ≤ M2 := by rw [hmm2]; split <;> omega
        injection hx2' with hy1 hy2
        rw [hy1] at hD
        simp only [Rows.uptoBulk] at hD
        have h3 := bulk_len (H := H) ((List.range l').map D2)
        rw [List.length_map, List.length_range] at h3
        omega
end
theorem plines_walk {H : Type} {enc : TypeId × Value → H} (A0 : Option Addr) (l0 c0 : Nat) (A1 : Option Addr) (l1 c1 : Nat) (cs2 : Array Value) (W : World)
    (R0 : Rd enc Tryd.prog W 0 (fun _ => true) true 62 [.slice A0 l0 c0]) (R1 : Rd enc Tryd.prog W 0 (fun _ => true) true 63 [.slice A1 l1 c1]) (hs2 : cs2.size = Tryd.prog.cellsOf 64) (R2 : Rd enc Tryd.prog W 0 (fun _ => true) true 64 cs2.toList)
    {n : Nat} {d : DataW H} {p : List MemPlace} (h1 : DataW.trod enc Tryd.prog W 0 (fun _ => true) true n 63 [.slice A1 l1 c1] = some (d, p)) (hb : Rows.uptoBulk d ≤ 1048576) {m0 : Int} (hM : W.cell? ⟨0, 0, none⟩ = some (.int .i64 m0)) (hT : Tab W) :
    Calls Tryd.prog 10 #[.slice A0 l0 c0, .slice A1 l1 c1, .agg cs2] W fun e w' => e = .returned (.bool true) ∧ Below W.heap.size W w' := by
  obtain ⟨qs, q1, q2, q3⟩ := Rd.quads8 R0
  obtain ⟨rs, ⟨Vs, r1, r2, r3⟩, r4, r5⟩ := Rd.rows8 R1
  have hco : Tryd.prog.cellsOf 64 = 2 := by kernel_rfl
  rw [hco] at hs2
  have hl := Rd.cells 3 R2 (ps := [(0, 5), (1, 5)]) (by kernel_rfl)
  obtain ⟨x0, e0, f0⟩ := hl (0, 5) (by simp)
  obtain ⟨x1, e1, f1⟩ := hl (1, 5) (by simp)
  obtain ⟨a0, k0, w0⟩ := f0.int Tryd.underlying5
  obtain ⟨a1, k1, w1⟩ := f1.int Tryd.underlying5
  cases k0
  cases k1
  obtain rfl : cs2 = #[.int .u8 a0, .int .u8 a1] := by
    obtain ⟨l⟩ := cs2
    match l, hs2 with
    | [y0, y1], _ =>
      obtain rfl : y0 = .int .u8 a0 := by simpa using e0
      obtain rfl : y1 = .int .u8 a1 := by simpa using e1
      rfl
  obtain ⟨AV, cV, hV, hcV, hnV, hVa⟩ := r2
  have hrows : Rows8 W (.slice A1 l1 c1) rs := by
    refine ⟨Vs, r1, ⟨AV, cV, hV, hcV, hnV, hVa⟩, fun i U r hU hr => ⟨r3 i U r hU hr, ?_⟩⟩
    have hi : i < Vs.length := (List.getElem?_eq_some_iff.1 hU).1
    obtain ⟨b, off, e2, hc⟩ := hVa (by omega)
    have hcell := hc i U hU 0 U rfl
    rw [Nat.mul_one, Nat.add_zero] at hcell
    have hV2 := hV
    injection hV2 with z1 z2 z3
    obtain ⟨AU, cU, hUe, -⟩ := r3 i U r hU hr
    subst e2
    subst z1
    exact rows_bulk h1 hb (by omega) hcell hUe
  exact plines_core q1 hrows q2 r4 q3 r5 a0 a1 (uint8_of w0) (uint8_of w1) hM hT
end Go.Proofs.YtkpgjgmlhcipeaaDoor
