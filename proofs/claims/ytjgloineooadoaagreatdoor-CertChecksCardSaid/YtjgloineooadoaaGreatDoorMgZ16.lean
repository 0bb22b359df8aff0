/- A search, walked. -/
import Derived.Test.YtjgloineooadoaaGreatDoorMgZ8
namespace Go.Proofs.YtjgloineooadoaaGreatDoor
open Go.RowKit
/-- What a search tells. -/
def SPost (s : Sv) (left fl x : Nat → Int) (w : World) (e : Ending) (w' : World) : Prop := ∃ (far : Nat → Int) (came : Nat → Stp) (cl : Nat → Bool), s.st w' left fl x far came cl ∧ Chg (fun b => b = s.br ∨ b = s.bm ∨ b = s.bc) w w' ∧
  ((∃ (z : Nat) (ord : List Nat) (D : Int), e = .returned (.int .i64 (z : Int)) ∧ Fnd s.G left fl x far came cl ord z D) ∨ (e = .returned (.int .i64 (-1)) ∧ Fin s.G left fl cl))
section
variable {s : Sv} {w : World} {left fl x far0 : Nat → Int} {came0 : Nat → Stp} {cl0 : Nat → Bool}
set_option maxRecDepth 100000 in
set_option maxHeartbeats 16000000 in
theorem search_any (h : s.st w left fl x far0 came0 cl0) (k : s.ok) (P : Pot s.G fl x) (hx : ∀ v, v < s.n → -1000000000000000 ≤ x v ∧ x v ≤ 1000000000000000) (hx0 : ∀ v, v < s.n → 0 < left v → 0 ≤ x v) :
    Calls Tryz.prog 19 #[.pointer (some ⟨s.sb, 0, none⟩)] w (SPost s left fl x w) := by
  have hn0 := k.g.n0
  have hn1 := k.g.n1
  have hm1 := k.g.m1
  have HS := Lib.hid h
  have HK := Lib.hid k
  have HP := Lib.hid P
  have HX := Lib.hid hx
  have HX0 := Lib.hid hx0
  have HLT := Lib.hid h.lt
  clear h k P hx hx0
  go_enter Tryz.func19, Tryz.ntmps19
  go_wp2_with fail
  refine (start_any HS.out HK.out).mono ?_
  rintro e w1 ⟨rfl, far1, came1, cl1, V1, t1, items1, S1, H1, B1, C1⟩
  have HS1 := Lib.hid S1
  have HH1 := Lib.hid H1
  have HB1 := Lib.hid B1
  have HC1 := Lib.hid C1
  have HR1 := Lib.hid (Srch.begin (G := s.G) (fl := fl) (x := x) B1.p1 B1.p2 B1.p3 B1.p4 B1.p5 HX0.out)
  obtain ⟨tb0, tb1, tb2⟩ := B1.tt
  clear S1 H1 B1 C1
  go_upto_region 2 with fail
  go_cut [4, 5] (fun p q wx => ∃ (node d : Int) (ok : Bool) (bx : Nat), p = .pointer (some ⟨bx, 0, none⟩) ∧ q = .bool ok ∧ SI s w left fl x w.heap.size (s.n * (2 * s.L.length + 1) + s.n + 1) node d ok bx wx)
  case first =>
    rcases items1 with _ | ⟨a, r⟩
    · go_wp2_with fail
      refine (HRch.pop_none HH1.out).mono ?_
      rintro e w2 ⟨rfl, B2⟩
      have HB2 := Lib.hid B2
      clear B2
      go_wp2_with fail
      have BA : Below w2.heap.size w2 (w2.alloc (.cells #[.int .i64 0, .int .i64 0] 85)) := (Below.refl _ _).alloc (Nat.le_refl _) _
      have BT := HB2.out.trans (BA.mono HB2.out.size)
      go_meet
      exact ⟨0, 0, false, w2.heap.size, rfl, rfl, SI.stop (HS1.out.later BT) (HH1.out.later BT) (by simp) tb0 (by simpa using tb1) (HC1.out.trans (chg_below BT (fun b => b = s.br ∨ b = s.bm ∨ b = s.bc)) (fun b _ h => h)) (heap_at rfl) (by have := HC1.out.size; have := HB2.out.size; omega) (by simp; omega) HR1.out⟩
    · go_wp2_with fail
      refine (HRch.pop_some lessR HH1.out (by simp at tb2; omega)).mono ?_
      rintro e w2 ⟨rfl, ⟨V', hV', H2⟩, C2⟩
      have hout : ∀ b, (s.R b ∨ b ∈ [s.bl, s.bf, s.bx, s.br, s.bm, s.bc]) → ¬ (b = w.heap.size ∨ V1.ownBlock = some b) := fun b hb' h => by
        have := HLT.out b hb'
        rcases h with h | h
        · omega
        · have := own_ge HH1.out.row h; omega
      have HS2 := Lib.hid (HS1.out.chg C2 hout)
      have HH2 := Lib.hid H2
      have HC2 := Lib.hid (HC1.out.trans C2 (fun b hb' h => by rcases h with h | h; exact absurd hb' (by omega); have := own_ge HH1.out.row h; exact absurd hb' (by omega)))
      clear C2 H2 hV' hout
      go_wp2_with fail
      have BA : Below w2.heap.size w2 (w2.alloc (.cells #[.int .i64 a.1.1, .int .i64 a.1.2] 85)) := (Below.refl _ _).alloc (Nat.le_refl _) _
      go_meet
      exact ⟨a.1.1, a.1.2, true, w2.heap.size, rfl, rfl, SI.pop (HS2.out.later BA) (HH2.out.later BA) HB1.out.hp (by simp) tb0 (by simpa using tb1) tb2 (HC2.out.trans (chg_below BA (fun b => b = s.br ∨ b = s.bm ∨ b = s.bc)) (fun b _ h => h)) (heap_at rfl) HC2.out.size (by simp at tb2 ⊢; omega) HR1.out⟩
  obtain ⟨node, d, ok, bx, rfl, rfl, hSI⟩ := hcut
  have HSI := Lib.hid hSI
  clear hSI tb0 tb1 tb2 HS1 HH1 HB1 HC1 HR1
  go_wp2_with fail
  go_loopg [4, 5] (s.n * (2 * s.L.length + 1) + s.n + 1) (fun g p q wr => ∃ (node d : Int) (ok : Bool) (bx : Nat), p = .pointer (some ⟨bx, 0, none⟩) ∧ q = .bool ok ∧ SI s w left fl x w.heap.size g node d ok bx wr)
  case atStart => exact ⟨node, d, ok, bx, rfl, rfl, HSI.out⟩
  case round =>
    obtain ⟨node, D, ok, bx, rfl, rfl, I⟩ := hrel
    obtain ⟨wX, rfl⟩ : ∃ q : World, q = wr := ⟨_, rfl⟩
    obtain ⟨far, came, cl, VX, t, itX, ordX, D0, st, H, hp, nn, t0, t1, t2, C, hbx, hb0, hg, main⟩ := I
    clear HSI
    cases ok
    · rw [if_neg (by simp)] at main
      have HF := Lib.hid (main.fin HK.out.g.g nn)
      have HSt := Lib.hid st
      have HCt := Lib.hid C
      clear st H hp nn C hbx hg main
      go_wp2_with fail
      go_ret
      exact ⟨far, came, cl, HSt.out, HCt.out, .inr ⟨rfl, HF.out⟩⟩
    · rw [if_pos rfl] at main
      rw [if_pos rfl] at hg
      obtain ⟨a, r, ha, pr, hmin, S⟩ := main
      have hlen := S.len
      have PTB : t ≤ 1000000000 := by
        have h1 : ordX.length ≤ s.n := hlen
        have := Nat.mul_le_mul hm1 (show ordX.length ≤ 4096 by omega)
        have e : 2 * (s.L.length : Int) * (ordX.length : Int) = ((2 * (s.L.length * ordX.length) : Nat) : Int) := by push_cast; rw [Int.mul_assoc]
        rw [e] at t1
        omega
      obtain ⟨v, hvn, hv, -, -, -⟩ := S.its a (by simp)
      have hnode : node = (v : Int) := by rw [ha] at hv; exact hv
      subst hnode
      have had : a.1.2 = D := by rw [ha]
      have v1 : (0 : Int) ≤ (v : Int) := by omega
      have v2 : (v : Int) < (s.n : Int) := by have : v < s.n := hvn; omega
      have c0 : wX.cell? ⟨bx, 0, none⟩ = some (.int .i64 (v : Int)) := (Cl.of_block hbx (j := 0) rfl).cell
      obtain ⟨-, -, -, -, -, -, -, -, d8⟩ := st.ro.cells
      have q1 := st.cl.cell (i := v) hvn
      have q2 := st.cl.frozen v
      have PST := Lib.hid st
      have PH := Lib.hid H
      have PHP := Lib.hid hp
      have PNN := Lib.hid nn
      have PC := Lib.hid C
      have PBX := Lib.hid hbx
      have HCLI := Lib.hid (S.cli v hvn)
      by_cases hc : v ∈ ordX
      · have hcl : cl v = true := (S.cli v hvn).2 hc
        have PS := Lib.hid (S.drop rfl pr hv hc)
        have PG : Hid ((s.n - ordX.length) * (2 * s.L.length + 1) + itX.length < gk) := Lib.hid (by omega)
        have PT0 := t0
        have PT1 := t1
        have PT2 := t2
        rw [hcl] at q1
        clear st H hp nn C hbx hg S hmin pr hc hcl
        have b0 : wX.cell? ⟨bx, 0, none⟩ = some (.int .i64 (v : Int)) := (Cl.of_block PBX.out (j := 0) rfl).cell
        have b1 : wX.cell? ⟨bx, 1, none⟩ = some (.int .i64 D) := (Cl.of_block PBX.out (j := 1) rfl).cell
        obtain ⟨wB, hwB⟩ : ∃ wB, wX.alloc (.cells #[.int .i64 (v : Int), .int .i64 D] 85) = wB := ⟨_, rfl⟩
        have BB : Below wX.heap.size wX wB := by rw [← hwB]; exact (Below.refl _ _).alloc (Nat.le_refl _) _
        have hnb : wB.heap[wX.heap.size]? = some (.cells #[.int .i64 (v : Int), .int .i64 D] 85) := by rw [← hwB]; exact heap_at rfl
        have HNB := Lib.hid hnb
        have hXs := PC.out.size
        have hbX : w.heap.size < wX.heap.size := by have := PH.out.lt; omega
        have PSTB := Lib.hid (PST.out.later BB)
        have PHB := Lib.hid (PH.out.later BB)
        have PCB := Lib.hid (PC.out.trans (chg_below BB (fun b => b = s.br ∨ b = s.bm ∨ b = s.bc)) (fun b _ h => h))
        have hVn : VX.ownBlock ≠ some wX.heap.size := fun e => by have := own_lt PH.out.row e; omega
        have HVN := Lib.hid hVn
        clear BB hnb hVn
        go_wp2_with fail
        clear b0 b1
        rcases itX with _ | ⟨a', r'⟩
        · refine (HRch.pop_none PHB.out).mono ?_
          rintro e wC ⟨rfl, BC⟩
          have hnC := block_later BC HNB.out
          have d0 : wC.cell? ⟨wX.heap.size, 0, none⟩ = some (.int .i64 (v : Int)) := (Cl.of_block hnC (j := 0) rfl).cell
          have d1 : wC.cell? ⟨wX.heap.size, 1, none⟩ = some (.int .i64 D) := (Cl.of_block hnC (j := 1) rfl).cell
          have d2 : wC.frozen? ⟨wX.heap.size, 0, none⟩ = false := (Cl.of_block hnC (j := 0) (v := .int .i64 (v : Int)) rfl).free
          have d3 : wC.frozen? ⟨wX.heap.size, 1, none⟩ = false := (Cl.of_block hnC (j := 1) (v := .int .i64 D) rfl).free
          have K1 := Lib.hid (carry (c0 := .int .i64 0) (c1 := .int .i64 0) (PSTB.out.later BC) (PHB.out.later BC) (PCB.out.trans (chg_below BC (fun b => b = s.br ∨ b = s.bm ∨ b = s.bc)) (fun b _ h => h)) HLT.out hnC (by omega) (by omega) HVN.out)
          clear BC hnC
          go_wp2_with fail
          go_roundg ((s.n - ordX.length) * (2 * s.L.length + 1))
          case measure => have := PG.out; simp at this; omega
          case rel => exact ⟨0, 0, false, wX.heap.size, rfl, rfl, SI.stop K1.out.1 K1.out.2.1 PNN.out PT0 PT1 K1.out.2.2.1 K1.out.2.2.2 (by omega) (Nat.le_refl _) PS.out⟩
        · refine (HRch.pop_some lessR PHB.out (by have h1 := PT2; have h2 := PTB; simp only [List.length_cons] at h1; omega)).mono ?_
          rintro e wC ⟨rfl, ⟨V', hV', HC⟩, CC⟩
          have hnC : wC.heap[wX.heap.size]? = some (.cells #[.int .i64 (v : Int), .int .i64 D] 85) := (CC.block _ (by rw [← hwB]; simp) (fun h => by rcases h with h | h; omega; exact HVN.out h)).trans HNB.out
          have d0 : wC.cell? ⟨wX.heap.size, 0, none⟩ = some (.int .i64 (v : Int)) := (Cl.of_block hnC (j := 0) rfl).cell
          have d1 : wC.cell? ⟨wX.heap.size, 1, none⟩ = some (.int .i64 D) := (Cl.of_block hnC (j := 1) rfl).cell
          have d2 : wC.frozen? ⟨wX.heap.size, 0, none⟩ = false := (Cl.of_block hnC (j := 0) (v := .int .i64 (v : Int)) rfl).free
          have d3 : wC.frozen? ⟨wX.heap.size, 1, none⟩ = false := (Cl.of_block hnC (j := 1) (v := .int .i64 D) rfl).free
          have hout : ∀ b, (s.R b ∨ b ∈ [s.bl, s.bf, s.bx, s.br, s.bm, s.bc]) → ¬ (b = w.heap.size ∨ VX.ownBlock = some b) := fun b hb' h => by
            have := HLT.out b hb'
            rcases h with h | h
            · omega
            · have := own_ge PHB.out.row h; omega
          have K1 := Lib.hid (carry (c0 := .int .i64 a'.1.1) (c1 := .int .i64 a'.1.2) (PSTB.out.chg CC hout) HC (PCB.out.trans CC (fun b hb' h => by rcases h with h | h; exact absurd hb' (by omega); have := own_ge PHB.out.row h; exact absurd hb' (by omega))) HLT.out hnC (by omega) (by omega) (by rw [hV']; exact HVN.out))
          clear CC HC hV' hnC hout
          go_wp2_with fail
          go_roundg ((s.n - ordX.length) * (2 * s.L.length + 1) + (a' :: r').length)
          case measure => exact PG.out
          case rel => exact ⟨a'.1.1, a'.1.2, true, wX.heap.size, rfl, rfl, SI.pop K1.out.1 K1.out.2.1 PHP.out PNN.out PT0 PT1 PT2 K1.out.2.2.1 K1.out.2.2.2 (by omega) (Nat.le_refl _) PS.out⟩
      · have hcl : cl v = false := by
          cases e : cl v with
          | false => rfl
          | true => exact absurd ((S.cli v hvn).1 e) hc
        rw [hcl] at q1
        obtain ⟨e5, S2⟩ := S.close rfl pr (by rw [had]; exact hmin) hv hvn hc
        rw [had] at e5
        rw [← e5] at S2
        have hlen2 := S2.len
        have hap := HK.out.ap
        simp only [List.nodup_cons, List.mem_cons, List.not_mem_nil, or_false, not_or] at hap
        obtain ⟨ap1, ap2, ap3, ap4, ap5, -⟩ := hap
        have cs := chg_set wX ⟨s.bc, v, none⟩ (.bool true)
        have S3 : s.st (wX.setCell ⟨s.bc, v, none⟩ (.bool true)) left fl x far came (upd cl v true) :=
          ⟨st.ro.chg cs (fun b hb' e => HK.out.rd b hb' (by rw [show b = s.bc from e]; simp)), row_set_ne st.left ap1.2.2.2.2, row_set_ne st.fl ap2.2.2.2, row_set_ne st.x ap3.2.2, row_set_ne st.far ap4.2, row_set_ne st.came ap5, row_updB st.cl v true⟩
        have hbc : s.bc < w.heap.size := HLT.out s.bc (.inr (by simp))
        have H3 : HRch.Rep (wX.setCell ⟨s.bc, v, none⟩ (.bool true)) w.heap.size LF VX t w.heap.size itX := H.chg cs (fun e => by have e' : w.heap.size = s.bc := e; omega) (fun q hq e => by have e' : q = s.bc := e; have := own_ge H.row hq; omega)
        have C3 : Chg (fun b => b = s.br ∨ b = s.bm ∨ b = s.bc) w (wX.setCell ⟨s.bc, v, none⟩ (.bool true)) := C.trans cs (fun b _ h => .inr (.inr h))
        have hbx3 : (wX.setCell ⟨s.bc, v, none⟩ (.bool true)).heap[bx]? = some (.cells #[.int .i64 (v : Int), .int .i64 D] 85) := (cs.block bx (Array.getElem?_eq_some_iff.1 hbx).1 (fun e => by have e' : bx = s.bc := e; omega)).trans hbx
        obtain ⟨-, e1, e2, e3, e4, -⟩ := S3.ro.cells
        have q3 := S3.left.cell (i := v) hvn
        have PG : Hid ((s.n - ordX.length) * (2 * s.L.length + 1) + itX.length + 1 ≤ gk) := Lib.hid hg
        have HS3 := Lib.hid S3
        have HH3 := Lib.hid H3
        have HC3 := Lib.hid C3
        have HBX3 := Lib.hid hbx3
        have HSR := Lib.hid S2
        have HE5 := Lib.hid e5
        have HLEN : ordX.length + 1 ≤ s.n := (by simpa using hlen2 : ordX.length + 1 ≤ s.G.n)
        clear st H hp nn C hbx hg S hmin pr hc hcl hlen hlen2 ap1 ap2 ap3 ap4 ap5 cs S3 H3 C3 hbx3 S2 e5 PST PH PC PBX HCLI
        by_cases hl : left v < 0
        · have hlt : decide (left v < 0) = true := by simp; exact hl
          go_wp2_with fail
          go_ret
          exact ⟨far, came, upd cl v true, HS3.out, HC3.out, .inl ⟨v, ordX ++ [v], D, rfl, HSR.out.found HK.out.g.g HP.out hvn (by simp) HE5.out.symm hl⟩⟩
        · have hlt : decide (left v < 0) = false := by simp; omega
          have PNN2 : Hid (∀ u ∈ ordX ++ [v], 0 ≤ left u) := Lib.hid (fun u hu => by
            rcases List.mem_append.1 hu with h | h
            · exact PNN.out u h
            · have : u = v := by simpa using h
              subst this; omega)
          have hidx : (ordX ++ [v]).idxOf v + 1 = (ordX ++ [v]).length := by
            have hvo : v ∉ ordX := fun h => by
              have := List.nodup_append.1 HSR.out.nd
              exact this.2.2 v h v (by simp) rfl
            rw [idx_last hvo]; simp
          obtain ⟨Ao, co, ho1, ho2⟩ := HS.out.ro.out v hvn
          obtain ⟨Ai, ci, hi1, hi2⟩ := HS.out.ro.inn v hvn
          have hnR : ∀ b, s.R b → ¬ (b = s.br ∨ b = s.bm ∨ b = s.bc) := fun b hb' h => HK.out.rd b hb' (by rcases h with h | h | h <;> rw [h] <;> simp)
          have o1 := cell_chg HC3.out ho1 (hnR _ HS.out.ro.ro)
          have HO1 := Lib.hid ho1
          have HO2 := Lib.hid ho2
          have HI1 := Lib.hid hi1
          have HI2 := Lib.hid hi2
          have HNR := Lib.hid hnR
          have HIDX := Lib.hid hidx
          have hol := HK.out.o3 v hvn
          have hil := HK.out.i3 v hvn
          obtain ⟨T0, hT0⟩ : ∃ T0 : Nat, t = T0 := ⟨t.toNat, by omega⟩
          have hT1 : (T0 : Int) ≤ 400000000 := by
            have := Nat.mul_le_mul hm1 (show ordX.length ≤ 4096 by omega)
            rw [hT0] at t1
            have e : 2 * (s.L.length : Int) * (ordX.length : Int) = ((2 * (s.L.length * ordX.length) : Nat) : Int) := by push_cast; rw [Int.mul_assoc]
            rw [e] at t1
            omega
          have hI0 : itX.length ≤ 400000000 := by omega
          have HT0 := Lib.hid hT0
          have HT1 := Lib.hid t1
          clear ho1 ho2 hi1 hi2 hnR hidx hT0 t1
          have M0 : MI s w left fl x w.heap.size (ordX ++ [v]) v D itX.length T0 bx (upd cl v true) (fun a i => a ≠ v ∨ i ∈ (s.outs v).take 0) (fun a _ => a ≠ v) 0 (wX.setCell ⟨s.bc, v, none⟩ (.bool true)) :=
            ⟨far, came, VX, t, itX, HS3.out, HH3.out, PHP.out, HSR.out.weak (fun a i _ _ h => by rcases h with h | h; exact h; simp at h) (fun a i _ _ h => h), HE5.out.symm, t0, by rw [HT0.out]; omega, by omega, t2, HC3.out, HBX3.out⟩
          have HM00 := Lib.hid M0
          clear M0 HS3 HH3 HC3 HBX3 HSR HE5
          go_wp2_with fail
          clear q1 q2 q3 c0 d8 e1 e2 e3 e4 o1
          go_loopw [56] (fun q wi => ∃ j : Nat, j ≤ (s.outs v).length ∧ q = .int .i64 j ∧ MI s w left fl x w.heap.size (ordX ++ [v]) v D itX.length T0 bx (upd cl v true) (fun a i => a ≠ v ∨ i ∈ (s.outs v).take j) (fun a _ => a ≠ v) j wi) (fun q _ => (s.outs v).length - (intOf q).toNat)
          case atStart => exact ⟨0, by omega, rfl, HM00.out⟩
          case round =>
            obtain ⟨j, hj, rfl, M⟩ := hrel
            obtain ⟨wo, rfl⟩ : ∃ q : World, q = wr := ⟨_, rfl⟩
            by_cases hjl : j < (s.outs v).length
            · have hd : decide ((j : Int) < (s.outs v).length) = true := by simp; omega
              obtain ⟨i, hji⟩ : ∃ i, (s.outs v)[j]? = some i := ⟨_, List.getElem?_eq_getElem hjl⟩
              obtain ⟨hi, hfi⟩ := HK.out.o1 v hvn i (List.mem_of_getElem? hji)
              obtain ⟨farj, camej, Vj, tj, itj, Sj, Hj, hpj, SRj, fuj, tj0, tj1, tj2, tj3, Cj, hbxj⟩ := M
              obtain ⟨og, oo, rfl, hoR, hoc⟩ := HO2.out (by omega)
              have o2 := cell_chg Cj (hoc j i hji) (HNR.out _ hoR)
              obtain ⟨a0, -⟩ := Sj.ro.cells
              obtain ⟨ab, aoff, hAA, hAR, hAc⟩ := Sj.ro.arcs (by omega)
              obtain ⟨hat, hfn, htn, -⟩ := HK.out.g.at_ hi
              obtain ⟨-, a1, -⟩ := hAc i _ hat
              have a2 : wo.cell? ⟨bx, 1, none⟩ = some (.int .i64 D) := (Cl.of_block hbxj (j := 1) rfl).cell
              rw [hAA] at a0
              have hq : ttL s.L i < s.n := htn
              have hsl := HP.out.sl i hi
              have hsb : -3000000000000000 ≤ slk s.G x i ∧ slk s.G x i ≤ 3000000000000000 := by
                have b1 := HX.out _ hfn
                have b2 := HX.out _ htn
                have e : slk s.G x i = x (ttL s.L i) - x (frL s.L i) - 1 := rfl
                omega
              have hDb : 0 ≤ D ∧ D ≤ 2000000000000000 := by
                have b1 := SRj.fup v hvn (by rw [fuj]; have := SRj.d0; omega)
                have b2 := HX.out v hvn
                have b3 := SRj.len
                have b4 := List.idxOf_lt_length_of_mem (a := v) (l := ordX ++ [v]) (by simp)
                have b5 := SRj.d0
                have b6 : (ordX ++ [v]).length ≤ s.n := b3
                omega
              have ew : IntKind.i64.wrap (D + slk s.G x i) = D + slk s.G x i := IntWalk.i64_in _ (by omega)
              have HNB5 : Hid (∀ b, (s.R b ∨ b = bx) → ¬ (b = s.br ∨ b = s.bm ∨ b = w.heap.size ∨ Vj.ownBlock = some b)) := Lib.hid (by
                rintro b (hb' | rfl) h
                · have := HLT.out b (.inl hb')
                  rcases h with h | h | h | h
                  · exact HNR.out b hb' (.inl h)
                  · exact HNR.out b hb' (.inr (.inl h))
                  · omega
                  · have := own_ge Hj.row h; omega
                · have := HLT.out s.br (.inr (by simp))
                  have := HLT.out s.bm (.inr (by simp))
                  rcases h with h | h | h | h
                  · omega
                  · omega
                  · subst h
                    exact ne_of_typ hbxj Hj.blk (by decide) rfl
                  · obtain ⟨cur, hcur⟩ := own_typ Hj.row h
                    exact ne_of_typ hbxj hcur (by decide) rfl)
              have HM0 : Hid (MB s left fl x (ordX ++ [v]) v D itX.length T0 (upd cl v true) (fun a i => a ≠ v ∨ i ∈ (s.outs v).take j) (fun a _ => a ≠ v) (fun a i => a ≠ v ∨ i ∈ (s.outs v).take (j + 1)) (fun a _ => a ≠ v) j farj camej tj itj ((i : Int), false) i (ttL s.L i) (D + slk s.G x i)) := Lib.hid
                ⟨hpj, SRj, fuj, tj0, tj1, tj2, tj3, HK.out, HP.out, by simp, HIDX.out, hi, rfl, rfl, hfi, (fun h => by cases h), rfl, fun f c it S1 h1 h2 h3 => (S1.same_out hi hfi h2 (by rw [h1]; exact h3)).weak (fun a b _ _ h => by
                  rcases h with h | h
                  · exact .inl (.inl h)
                  · obtain ⟨g1, g2⟩ := List.getElem?_eq_some_iff.1 hji
                    rw [List.take_succ_eq_append_getElem g1, g2, List.mem_append] at h
                    rcases h with h | h
                    · exact .inl (.inr h)
                    · by_cases e : a = v
                      · exact .inr ⟨e, by simpa using h⟩
                      · exact .inl (.inl e)) (fun a b _ _ h => h)⟩
              have HAPo := Lib.hid (apart_of HS.out Hj (Nat.le_refl _))
              have HSo := Lib.hid Sj
              have HHo := Lib.hid Hj
              have HCo := Lib.hid Cj
              have HBXo := Lib.hid hbxj
              have j1 : (0 : Int) ≤ (j : Int) := by omega
              have j2 : (j : Int) < ((s.outs v).length : Int) := by omega
              have i1 : (0 : Int) ≤ (i : Int) := by omega
              have i2 : (i : Int) < (s.L.length : Int) := by omega
              clear Sj Hj hpj SRj fuj Cj hbxj hoc hAA hAc hat hsl hji
              go_upto_region 13 with fail
              clear o2
              refine wp_region_heads [0, 1, 2, 3, 4, 5, 6, 7, 8, 9, 10, 11, 12, 13, 16, 17] (fun w' => w'.cell? ⟨s.sb, 0, none⟩ = some (.slice (some ⟨ab, aoff, none⟩) s.L.length s.cA) ∧ w'.cell? ⟨ab, aoff + i * 3 + 1, none⟩ = some (.int .i64 (ttL s.L i : Nat)) ∧ w'.cell? ⟨bx, 1, none⟩ = some (.int .i64 D)) (by kernel_rfl) (by kernel_rfl) ⟨a0, a1, a2⟩ ?_
              iterate 16 (refine wpHi_cons (v := ?_) rfl (by rfl) (fun wS hwS => ?_) ?_; rotate_left 1; focus ((try dsimp only at hwS); go_simp; try with_reducible rfl); (try simp only [Act.put, List.setIfInBounds_toArray, List.set_cons_zero, List.set_cons_succ]))
              refine wpHi_nil ?_
              change wpAnyH _ _ _ _ _ 3 _ _ _
              refine wpAnyH_ready (rs := [14]) (by kernel_rfl) (by simp) (AllReadyH.cons rfl (fun K hK => ?_) AllReadyH.nil)
              go_simp
              refine (slack_any (HSo.out.later (Below.refl _ _).drew) HK.out (fun a ha => by have := HX.out a ha; omega) i hi).mono ?_
              rintro e w4 ⟨rfl, B4⟩
              have B4 := (Below.refl wo.heap.size wo).drew.trans B4
              have g0 := cell_later B4 a0
              have g1 := cell_later B4 a1
              have g2 := cell_later B4 a2
              have HB4 := Lib.hid B4
              have H4 := Lib.hid (HHo.out.later B4)
              have S4 := Lib.hid (HSo.out.later B4)
              clear B4
              go_wp2_with fail
              refine hK.out _ _ ⟨g0, g1, g2⟩ (fun hHeld => ?_)
              clear hK K hHeld
              refine wpAnyH_ready (rs := [15]) (by kernel_rfl) (by simp) (AllReadyH.cons rfl (fun K hK => ?_) AllReadyH.nil)
              go_simp
              refine hK.out _ _ ⟨g0, g1, g2⟩ (fun hHeld => ?_)
              clear hK K hHeld
              refine wpAnyH_ready (rs := [18]) (by kernel_rfl) (by simp) (AllReadyH.cons rfl (fun K hK => ?_) AllReadyH.nil)
              go_simp
              by_cases hnew : farj (ttL s.L i) = -1 ∨ D + slk s.G x i < farj (ttL s.L i)
              · refine (meet_new S4.out HK.out H4.out HAPo.out (by omega) (by omega) (by omega) (by have := HB4.out.size; have := HCo.out.size; omega) (ttL s.L i) hq (D + slk s.G x i) ((i : Int), false) hnew).mono ?_
                rintro e w5 ⟨rfl, S5, ⟨V5, -, H5⟩, C5⟩
                have hab : ∀ b, (s.R b ∨ b = bx) → ¬ (b = s.br ∨ b = s.bm ∨ b = w.heap.size ∨ Vj.ownBlock = some b) := HNB5.out
                have k0 := cell_chg C5 g0 (hab _ (.inl HSo.out.ro.rs))
                have k1 := cell_chg C5 g1 (hab _ (.inl hAR))
                have k2 := cell_chg C5 g2 (hab _ (.inr rfl))
                have k3 : w5.heap[bx]? = some (.cells #[.int .i64 (v : Int), .int .i64 D] 85) := (C5.block bx (Nat.lt_of_lt_of_le (Array.getElem?_eq_some_iff.1 HBXo.out).1 HB4.out.size) (hab _ (.inr rfl))).trans (block_later HB4.out HBXo.out)
                have HM := Lib.hid (MI.new HM0.out hnew (And.intro S5 (And.intro H5 k3)) ((HCo.out.trans (chg_below HB4.out (fun b => b = s.br ∨ b = s.bm ∨ b = s.bc)) (fun b _ h => h)).trans C5 (fun b hb' h => by
                  rcases h with h | h | h | h
                  · exact .inl h
                  · exact .inr (.inl h)
                  · exact absurd hb' (by omega)
                  · have := own_ge HHo.out.row h; exact absurd hb' (by omega))))
                clear S5 H5 C5 k3 hab
                go_wp2_with fail
                refine hK.out _ _ ⟨k0, k1, k2⟩ (fun hHeld => ?_)
                clear hK K hHeld
                refine wpAnyH_done (by kernel_rfl) (NoPanic.normal ?_) _
                clear k0 k1 k2 g0 g1 g2 a0 a1 a2
                go_wp2_with fail
                exact ⟨⟨j + 1, by omega, by go_num, HM.out⟩, by simp [intOf]; omega⟩
              · have hold : farj (ttL s.L i) ≠ -1 ∧ farj (ttL s.L i) ≤ D + slk s.G x i := by omega
                refine (meet_old S4.out HK.out (ttL s.L i) hq (D + slk s.G x i) ((i : Int), false) hold).mono ?_
                rintro e w5 ⟨rfl, B5⟩
                have k0 := cell_later B5 g0
                have k1 := cell_later B5 g1
                have k2 := cell_later B5 g2
                have HM := Lib.hid (MI.old HM0.out hold HSo.out HHo.out HCo.out HBXo.out (HB4.out.trans (B5.mono HB4.out.size)))
                clear B5
                go_wp2_with fail
                refine hK.out _ _ ⟨k0, k1, k2⟩ (fun hHeld => ?_)
                clear hK K hHeld
                refine wpAnyH_done (by kernel_rfl) (NoPanic.normal ?_) _
                clear k0 k1 k2 g0 g1 g2 a0 a1 a2
                go_wp2_with fail
                exact ⟨⟨j + 1, by omega, by go_num, HM.out⟩, by simp [intOf]; omega⟩
            · obtain rfl : j = (s.outs v).length := by omega
              have hd : decide (((s.outs v).length : Int) < (s.outs v).length) = false := by simp
              have MW : MI s w left fl x w.heap.size (ordX ++ [v]) v D (itX.length + (s.outs v).length) (T0 + (s.outs v).length) bx (upd cl v true) (fun _ _ => True) (fun a i => a ≠ v ∨ i ∈ (s.ins v).take 0) 0 wo := by
                obtain ⟨farj, camej, Vj, tj, itj, Sj, Hj, hpj, SRj, fuj, tj0, tj1, tj2, tj3, Cj, hbxj⟩ := M
                refine ⟨farj, camej, Vj, tj, itj, Sj, Hj, hpj, SRj.weak2 (fun i hi _ _ => ?_) (fun i _ _ h => by rcases h with h | h; exact h; simp at h), fuj, tj0, by omega, by omega, tj3, Cj, hbxj⟩
                by_cases e : s.G.fr i = v
                · right
                  rw [List.take_of_length_le (Nat.le_refl _), ← e]
                  exact HK.out.o2 i hi
                · exact .inl e
              have HMW := Lib.hid MW
              obtain ⟨fj, cj, Vj, tj, ij, Sj, _, _, _, _, _, _, _, _, Cj, _⟩ := MW
              obtain ⟨-, -, d2, -⟩ := Sj.ro.cells
              have o1 := cell_chg Cj HI1.out (HNR.out _ HS.out.ro.ri)
              clear Sj Cj M
              go_wp2_with fail
              clear d2 o1
              obtain ⟨wp, rfl⟩ : ∃ q : World, q = wo := ⟨_, rfl⟩
              go_loopw [88] (fun q wi => ∃ j : Nat, j ≤ (s.ins v).length ∧ q = .int .i64 j ∧ MI s w left fl x w.heap.size (ordX ++ [v]) v D (itX.length + (s.outs v).length) (T0 + (s.outs v).length) bx (upd cl v true) (fun _ _ => True) (fun a i => a ≠ v ∨ i ∈ (s.ins v).take j) j wi) (fun q _ => (s.ins v).length - (intOf q).toNat)
              case atStart => exact ⟨0, by omega, rfl, HMW.out⟩
              case round =>
                obtain ⟨j, hj, rfl, M⟩ := hrel
                obtain ⟨wo, rfl⟩ : ∃ q : World, q = wr := ⟨_, rfl⟩
                by_cases hjl : j < (s.ins v).length
                · have hd : decide ((j : Int) < (s.ins v).length) = true := by simp; omega
                  obtain ⟨i, hji⟩ : ∃ i, (s.ins v)[j]? = some i := ⟨_, List.getElem?_eq_getElem hjl⟩
                  obtain ⟨hi, hfi⟩ := HK.out.i1 v hvn i (List.mem_of_getElem? hji)
                  have HMs := Lib.hid M
                  obtain ⟨farj, camej, Vj, tj, itj, Sj, Hj, hpj, SRj, fuj, tj0, tj1, tj2, tj3, Cj, hbxj⟩ := M
                  obtain ⟨og, oo, rfl, hoR, hoc⟩ := HI2.out (by omega)
                  have o2 := cell_chg Cj (hoc j i hji) (HNR.out _ hoR)
                  obtain ⟨a0, -, -, -, d4, -⟩ := Sj.ro.cells
                  obtain ⟨ab, aoff, hAA, hAR, hAc⟩ := Sj.ro.arcs (by omega)
                  obtain ⟨hat, hfn, htn, -⟩ := HK.out.g.at_ hi
                  obtain ⟨a1, -, -⟩ := hAc i _ hat
                  have a2 : wo.cell? ⟨bx, 1, none⟩ = some (.int .i64 D) := (Cl.of_block hbxj (j := 1) rfl).cell
                  rw [hAA] at a0
                  have q4 := Sj.fl.cell hi
                  have hq : frL s.L i < s.n := hfn
                  have hsl := HP.out.sl i hi
                  have hsb : -3000000000000000 ≤ slk s.G x i ∧ slk s.G x i ≤ 3000000000000000 := by
                    have b1 := HX.out _ hfn
                    have b2 := HX.out _ htn
                    have e : slk s.G x i = x (ttL s.L i) - x (frL s.L i) - 1 := rfl
                    omega
                  have hDb : 0 ≤ D ∧ D ≤ 2000000000000000 := by
                    have b1 := SRj.fup v hvn (by rw [fuj]; have := SRj.d0; omega)
                    have b2 := HX.out v hvn
                    have b3 := SRj.len
                    have b4 := List.idxOf_lt_length_of_mem (a := v) (l := ordX ++ [v]) (by simp)
                    have b5 := SRj.d0
                    have b6 : (ordX ++ [v]).length ≤ s.n := b3
                    omega
                  have ew : IntKind.i64.wrap (D - slk s.G x i) = D - slk s.G x i := IntWalk.i64_in _ (by omega)
                  have HNB5 : Hid (∀ b, (s.R b ∨ b = bx) → ¬ (b = s.br ∨ b = s.bm ∨ b = w.heap.size ∨ Vj.ownBlock = some b)) := Lib.hid (by
                    rintro b (hb' | rfl) h
                    · have := HLT.out b (.inl hb')
                      rcases h with h | h | h | h
                      · exact HNR.out b hb' (.inl h)
                      · exact HNR.out b hb' (.inr (.inl h))
                      · omega
                      · have := own_ge Hj.row h; omega
                    · have := HLT.out s.br (.inr (by simp))
                      have := HLT.out s.bm (.inr (by simp))
                      rcases h with h | h | h | h
                      · omega
                      · omega
                      · subst h
                        exact ne_of_typ hbxj Hj.blk (by decide) rfl
                      · obtain ⟨cur, hcur⟩ := own_typ Hj.row h
                        exact ne_of_typ hbxj hcur (by decide) rfl)
                  have HSW : Hid (∀ (f : Nat → Int) (c : Nat → Stp) (it : List Item), Srch s.G left fl x f c (upd cl v true) (ordX ++ [v]) D it (fun _ _ => True) (fun a i => a ≠ v ∨ i ∈ (s.ins v).take j) → (0 < fl i → f (frL s.L i) ≠ -1 ∧ f (frL s.L i) ≤ f v - slk s.G x i) → Srch s.G left fl x f c (upd cl v true) (ordX ++ [v]) D it (fun _ _ => True) (fun a i => a ≠ v ∨ i ∈ (s.ins v).take (j + 1))) := Lib.hid (fun f c it S1 h2 =>
                    (S1.same_inn hi hfi h2).weak (fun a b _ _ h => h) (fun a b _ _ h => by
                      rcases h with h | h
                      · exact .inl (.inl h)
                      · obtain ⟨g1, g2⟩ := List.getElem?_eq_some_iff.1 hji
                        rw [List.take_succ_eq_append_getElem g1, g2, List.mem_append] at h
                        rcases h with h | h
                        · exact .inl (.inr h)
                        · by_cases e : a = v
                          · exact .inr ⟨e, by simpa using h⟩
                          · exact .inl (.inl e)))
                  have HBASE := Lib.hid (And.intro hpj (And.intro SRj fuj))
                  have HAPo := Lib.hid (apart_of HS.out Hj (Nat.le_refl _))
                  have HSo := Lib.hid Sj
                  have HHo := Lib.hid Hj
                  have HCo := Lib.hid Cj
                  have HBXo := Lib.hid hbxj
                  have HFI := Lib.hid hfi
                  have j1 : (0 : Int) ≤ (j : Int) := by omega
                  have j2 : (j : Int) < ((s.ins v).length : Int) := by omega
                  have i1 : (0 : Int) ≤ (i : Int) := by omega
                  have i2 : (i : Int) < (s.L.length : Int) := by omega
                  clear Sj Hj hpj SRj fuj Cj hbxj hoc hAA hAc hat hsl hji hfi
                  by_cases hfl : 0 < fl i
                  · have hflt : decide (0 < fl i) = true := by simp; exact hfl
                    have HM0 : Hid (MB s left fl x (ordX ++ [v]) v D (itX.length + (s.outs v).length) (T0 + (s.outs v).length) (upd cl v true) (fun _ _ => True) (fun a i => a ≠ v ∨ i ∈ (s.ins v).take j) (fun _ _ => True) (fun a i => a ≠ v ∨ i ∈ (s.ins v).take (j + 1)) j farj camej tj itj ((i : Int), true) i (frL s.L i) (D - slk s.G x i)) := Lib.hid
                      ⟨HBASE.out.1, HBASE.out.2.1, HBASE.out.2.2, tj0, tj1, tj2, tj3, HK.out, HP.out, by simp, HIDX.out, hi, rfl, rfl, HFI.out, (fun _ => hfl), rfl, fun f c it S1 h1 h2 h3 => HSW.out f c it S1 (fun _ => ⟨h2, by rw [h1]; exact h3⟩)⟩
                    go_upto_region 19 with fail
                    clear o2 q4 d4
                    refine wp_region_heads [0, 1, 2, 3, 4, 5, 6, 7, 8, 9, 10, 11, 12, 13, 16, 17] (fun w' => w'.cell? ⟨s.sb, 0, none⟩ = some (.slice (some ⟨ab, aoff, none⟩) s.L.length s.cA) ∧ w'.cell? ⟨ab, aoff + i * 3, none⟩ = some (.int .i64 (frL s.L i : Nat)) ∧ w'.cell? ⟨bx, 1, none⟩ = some (.int .i64 D)) (by kernel_rfl) (by kernel_rfl) ⟨a0, a1, a2⟩ ?_
                    iterate 16 (refine wpHi_cons (v := ?_) rfl (by rfl) (fun wS hwS => ?_) ?_; rotate_left 1; focus ((try dsimp only at hwS); go_simp; try with_reducible rfl); (try simp only [Act.put, List.setIfInBounds_toArray, List.set_cons_zero, List.set_cons_succ]))
                    refine wpHi_nil ?_
                    change wpAnyH _ _ _ _ _ 3 _ _ _
                    refine wpAnyH_ready (rs := [14]) (by kernel_rfl) (by simp) (AllReadyH.cons rfl (fun K hK => ?_) AllReadyH.nil)
                    go_simp
                    refine (slack_any (HSo.out.later (Below.refl _ _).drew) HK.out (fun a ha => by have := HX.out a ha; omega) i hi).mono ?_
                    rintro e w4 ⟨rfl, B4⟩
                    have B4 := (Below.refl wo.heap.size wo).drew.trans B4
                    have g0 := cell_later B4 a0
                    have g1 := cell_later B4 a1
                    have g2 := cell_later B4 a2
                    have HB4 := Lib.hid B4
                    have H4 := Lib.hid (HHo.out.later B4)
                    have S4 := Lib.hid (HSo.out.later B4)
                    clear B4
                    go_wp2_with fail
                    refine hK.out _ _ ⟨g0, g1, g2⟩ (fun hHeld => ?_)
                    clear hK K hHeld
                    refine wpAnyH_ready (rs := [15]) (by kernel_rfl) (by simp) (AllReadyH.cons rfl (fun K hK => ?_) AllReadyH.nil)
                    go_simp
                    refine hK.out _ _ ⟨g0, g1, g2⟩ (fun hHeld => ?_)
                    clear hK K hHeld
                    refine wpAnyH_ready (rs := [18]) (by kernel_rfl) (by simp) (AllReadyH.cons rfl (fun K hK => ?_) AllReadyH.nil)
                    go_simp
                    by_cases hnew : farj (frL s.L i) = -1 ∨ D - slk s.G x i < farj (frL s.L i)
                    · refine (meet_new S4.out HK.out H4.out HAPo.out (by omega) (by omega) (by omega) (by have := HB4.out.size; have := HCo.out.size; omega) (frL s.L i) hq (D - slk s.G x i) ((i : Int), true) hnew).mono ?_
                      rintro e w5 ⟨rfl, S5, ⟨V5, -, H5⟩, C5⟩
                      have hab : ∀ b, (s.R b ∨ b = bx) → ¬ (b = s.br ∨ b = s.bm ∨ b = w.heap.size ∨ Vj.ownBlock = some b) := HNB5.out
                      have k0 := cell_chg C5 g0 (hab _ (.inl HSo.out.ro.rs))
                      have k1 := cell_chg C5 g1 (hab _ (.inl hAR))
                      have k2 := cell_chg C5 g2 (hab _ (.inr rfl))
                      have k3 : w5.heap[bx]? = some (.cells #[.int .i64 (v : Int), .int .i64 D] 85) := (C5.block bx (Nat.lt_of_lt_of_le (Array.getElem?_eq_some_iff.1 HBXo.out).1 HB4.out.size) (hab _ (.inr rfl))).trans (block_later HB4.out HBXo.out)
                      have HM := Lib.hid (MI.new HM0.out hnew (And.intro S5 (And.intro H5 k3)) ((HCo.out.trans (chg_below HB4.out (fun b => b = s.br ∨ b = s.bm ∨ b = s.bc)) (fun b _ h => h)).trans C5 (fun b hb' h => by
                        rcases h with h | h | h | h
                        · exact .inl h
                        · exact .inr (.inl h)
                        · exact absurd hb' (by omega)
                        · have := own_ge HHo.out.row h; exact absurd hb' (by omega))))
                      clear S5 H5 C5 k3 hab
                      go_wp2_with fail
                      refine hK.out _ _ ⟨k0, k1, k2⟩ (fun hHeld => ?_)
                      clear hK K hHeld
                      refine wpAnyH_done (by kernel_rfl) (NoPanic.normal ?_) _
                      clear k0 k1 k2 g0 g1 g2 a0 a1 a2
                      go_wp2_with fail
                      exact ⟨⟨j + 1, by omega, by go_num, HM.out⟩, by simp [intOf]; omega⟩
                    · have hold : farj (frL s.L i) ≠ -1 ∧ farj (frL s.L i) ≤ D - slk s.G x i := by omega
                      refine (meet_old S4.out HK.out (frL s.L i) hq (D - slk s.G x i) ((i : Int), true) hold).mono ?_
                      rintro e w5 ⟨rfl, B5⟩
                      have k0 := cell_later B5 g0
                      have k1 := cell_later B5 g1
                      have k2 := cell_later B5 g2
                      have HM := Lib.hid (MI.old HM0.out hold HSo.out HHo.out HCo.out HBXo.out (HB4.out.trans (B5.mono HB4.out.size)))
                      clear B5
                      go_wp2_with fail
                      refine hK.out _ _ ⟨k0, k1, k2⟩ (fun hHeld => ?_)
                      clear hK K hHeld
                      refine wpAnyH_done (by kernel_rfl) (NoPanic.normal ?_) _
                      clear k0 k1 k2 g0 g1 g2 a0 a1 a2
                      go_wp2_with fail
                      exact ⟨⟨j + 1, by omega, by go_num, HM.out⟩, by simp [intOf]; omega⟩
                  · have hflt : decide (0 < fl i) = false := by simp; omega
                    have HM := Lib.hid (MI.skip HMs.out (Below.refl _ _) (fun f c it S1 => HSW.out f c it S1 (fun h => absurd h hfl)))
                    go_wp2_with fail
                    exact ⟨⟨j + 1, by omega, by go_num, HM.out⟩, by simp [intOf]; omega⟩
                · obtain rfl : j = (s.ins v).length := by omega
                  have hd : decide (((s.ins v).length : Int) < (s.ins v).length) = false := by simp
                  obtain ⟨farj, camej, Vj, tj, itj, Sj, Hj, hpj, SRj, fuj, tj0, tj1, tj2, tj3, Cj, hbxj⟩ := M
                  have SF : Srch s.G left fl x farj camej (upd cl v true) (ordX ++ [v]) D itj (fun _ _ => True) (fun _ _ => True) := SRj.weak2 (fun i _ _ h => h) (fun i hi _ _ => by
                    by_cases e : s.G.tt i = v
                    · right
                      rw [List.take_of_length_le (Nat.le_refl _), ← e]
                      exact HK.out.i2 i hi
                    · exact .inl e)
                  have PST := Lib.hid Sj
                  have PH := Lib.hid Hj
                  have PHP := Lib.hid hpj
                  have PNN := PNN2
                  have PC := Lib.hid Cj
                  have PBX := Lib.hid hbxj
                  have PS := Lib.hid SF
                  have PT0 := tj0
                  have hl1 : (ordX ++ [v]).length = ordX.length + 1 := by simp
                  have PT1 : tj ≤ s.n + 2 * s.L.length * (ordX ++ [v]).length := by
                    rw [hl1]
                    have := HT1.out
                    rw [HT0.out] at this
                    have e : 2 * (s.L.length : Int) * ((ordX.length + 1 : Nat) : Int) = 2 * (s.L.length : Int) * (ordX.length : Int) + 2 * s.L.length := by push_cast; rw [Int.mul_add, Int.mul_one]
                    rw [e]
                    omega
                  have PT2 := tj3
                  have PTB2 : tj ≤ 1000000000 := by omega
                  have PG2 : Hid ((s.n - (ordX ++ [v]).length) * (2 * s.L.length + 1) + itj.length < gk) := Lib.hid (by
                    have h1 := PG.out
                    rw [hl1]
                    have e : s.n - ordX.length = (s.n - (ordX.length + 1)) + 1 := by omega
                    rw [e, Nat.add_mul, Nat.one_mul] at h1
                    omega)
                  obtain ⟨ordY, hoy⟩ : ∃ o, ordX ++ [v] = o := ⟨_, rfl⟩
                  rw [hoy] at PNN PS PT1 PG2
                  clear Sj Hj hpj SRj fuj Cj hbxj SF PTB PG hoy hl1
                  have PTB := PTB2
                  have PG := PG2
                  clear PTB2 PG2
                  have b0 : wo.cell? ⟨bx, 0, none⟩ = some (.int .i64 (v : Int)) := (Cl.of_block PBX.out (j := 0) rfl).cell
                  have b1 : wo.cell? ⟨bx, 1, none⟩ = some (.int .i64 D) := (Cl.of_block PBX.out (j := 1) rfl).cell
                  obtain ⟨wB, hwB⟩ : ∃ wB, wo.alloc (.cells #[.int .i64 (v : Int), .int .i64 D] 85) = wB := ⟨_, rfl⟩
                  have BB : Below wo.heap.size wo wB := by rw [← hwB]; exact (Below.refl _ _).alloc (Nat.le_refl _) _
                  have hnb : wB.heap[wo.heap.size]? = some (.cells #[.int .i64 (v : Int), .int .i64 D] 85) := by rw [← hwB]; exact heap_at rfl
                  have HNB := Lib.hid hnb
                  have hXs := PC.out.size
                  have hbX : w.heap.size < wo.heap.size := by have := PH.out.lt; omega
                  have PSTB := Lib.hid (PST.out.later BB)
                  have PHB := Lib.hid (PH.out.later BB)
                  have PCB := Lib.hid (PC.out.trans (chg_below BB (fun b => b = s.br ∨ b = s.bm ∨ b = s.bc)) (fun b _ h => h))
                  have hVn : Vj.ownBlock ≠ some wo.heap.size := fun e => by have := own_lt PH.out.row e; omega
                  have HVN := Lib.hid hVn
                  clear BB hnb hVn
                  go_wp2_with fail
                  clear b0 b1
                  rcases itj with _ | ⟨a', r'⟩
                  · refine (HRch.pop_none PHB.out).mono ?_
                    rintro e wC ⟨rfl, BC⟩
                    have hnC := block_later BC HNB.out
                    have d0 : wC.cell? ⟨wo.heap.size, 0, none⟩ = some (.int .i64 (v : Int)) := (Cl.of_block hnC (j := 0) rfl).cell
                    have d1 : wC.cell? ⟨wo.heap.size, 1, none⟩ = some (.int .i64 D) := (Cl.of_block hnC (j := 1) rfl).cell
                    have d2 : wC.frozen? ⟨wo.heap.size, 0, none⟩ = false := (Cl.of_block hnC (j := 0) (v := .int .i64 (v : Int)) rfl).free
                    have d3 : wC.frozen? ⟨wo.heap.size, 1, none⟩ = false := (Cl.of_block hnC (j := 1) (v := .int .i64 D) rfl).free
                    have K1 := Lib.hid (carry (c0 := .int .i64 0) (c1 := .int .i64 0) (PSTB.out.later BC) (PHB.out.later BC) (PCB.out.trans (chg_below BC (fun b => b = s.br ∨ b = s.bm ∨ b = s.bc)) (fun b _ h => h)) HLT.out hnC (by omega) (by omega) HVN.out)
                    clear BC hnC
                    go_wp2_with fail
                    go_roundg ((s.n - ordY.length) * (2 * s.L.length + 1))
                    case measure => have := PG.out; simp at this; omega
                    case rel => exact ⟨0, 0, false, wo.heap.size, rfl, rfl, SI.stop K1.out.1 K1.out.2.1 PNN.out PT0 PT1 K1.out.2.2.1 K1.out.2.2.2 (by omega) (Nat.le_refl _) PS.out⟩
                  · refine (HRch.pop_some lessR PHB.out (by have h1 := PT2; have h2 := PTB; simp only [List.length_cons] at h1; omega)).mono ?_
                    rintro e wC ⟨rfl, ⟨V', hV', HC⟩, CC⟩
                    have hnC : wC.heap[wo.heap.size]? = some (.cells #[.int .i64 (v : Int), .int .i64 D] 85) := (CC.block _ (by rw [← hwB]; simp) (fun h => by rcases h with h | h; omega; exact HVN.out h)).trans HNB.out
                    have d0 : wC.cell? ⟨wo.heap.size, 0, none⟩ = some (.int .i64 (v : Int)) := (Cl.of_block hnC (j := 0) rfl).cell
                    have d1 : wC.cell? ⟨wo.heap.size, 1, none⟩ = some (.int .i64 D) := (Cl.of_block hnC (j := 1) rfl).cell
                    have d2 : wC.frozen? ⟨wo.heap.size, 0, none⟩ = false := (Cl.of_block hnC (j := 0) (v := .int .i64 (v : Int)) rfl).free
                    have d3 : wC.frozen? ⟨wo.heap.size, 1, none⟩ = false := (Cl.of_block hnC (j := 1) (v := .int .i64 D) rfl).free
                    have hout : ∀ b, (s.R b ∨ b ∈ [s.bl, s.bf, s.bx, s.br, s.bm, s.bc]) → ¬ (b = w.heap.size ∨ Vj.ownBlock = some b) := fun b hb' h => by
                      have := HLT.out b hb'
                      rcases h with h | h
                      · omega
                      · have := own_ge PHB.out.row h; omega
                    have K1 := Lib.hid (carry (c0 := .int .i64 a'.1.1) (c1 := .int .i64 a'.1.2) (PSTB.out.chg CC hout) HC (PCB.out.trans CC (fun b hb' h => by rcases h with h | h; exact absurd hb' (by omega); have := own_ge PHB.out.row h; exact absurd hb' (by omega))) HLT.out hnC (by omega) (by omega) (by rw [hV']; exact HVN.out))
                    clear CC HC hV' hnC hout
                    go_wp2_with fail
                    go_roundg ((s.n - ordY.length) * (2 * s.L.length + 1) + (a' :: r').length)
                    case measure => exact PG.out
                    case rel => exact ⟨a'.1.1, a'.1.2, true, wo.heap.size, rfl, rfl, SI.pop K1.out.1 K1.out.2.1 PHP.out PNN.out PT0 PT1 PT2 K1.out.2.2.1 K1.out.2.2.2 (by omega) (Nat.le_refl _) PS.out⟩
end
end Go.Proofs.YtjgloineooadoaaGreatDoor
