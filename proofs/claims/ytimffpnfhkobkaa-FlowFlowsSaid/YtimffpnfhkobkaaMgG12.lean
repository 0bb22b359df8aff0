/- As much as goes is pushed along a way. -/
import Derived.Test.YtimffpnfhkobkaaMgG9
import Derived.StillTailTactics
import Derived.Deep.DeepCutAuto
import Derived.Test.YtimffpnfhkobkaaMgG7
import Derived.Test.YtimffpnfhkobkaaMgG8
import Derived.Test.YtimffpnfhkobkaaMgG11
import Derived.Test.YtimffpnfhkobkaaMgG2
namespace Go.Proofs.Ytimffpnfhkobkaa
open Go.RowKit
def pth (G : Gf) (came : Nat → Stp) (z : Nat) : Nat → Nat
  | 0 => z
  | k + 1 => prv G (came (pth G came z k))
/-- What a push leaves. -/
structure Pushed (s : Sv) (left fl x far : Nat → Int) (came : Nat → Stp) (cl : Nat → Bool) (ord : List Nat) (wt : Nat → Int) (z : Nat) (w w' : World) (N : Int) (v0 : Nat) (g : Nat → Int) : Prop where
  n1 : 1 ≤ N
  vn : v0 < s.n
  nl : N ≤ left v0
  nz : N ≤ -left z
  st : s.st w' (upd (upd left v0 (left v0 - N)) z (left z + N)) g x far came cl
  ch : Chg (fun b => b = s.bl ∨ b = s.bf) w w'
  nn : ∀ i, i < s.L.length → 0 ≤ g i
  bal : ∀ u, u < s.n → nf s.G wt u s.L.length - nf s.G g u s.L.length = upd (upd left v0 (left v0 - N)) z (left z + N) u
  sup : ∀ i, i < s.L.length → 0 < g i → 0 < fl i ∨ ∃ v ∈ ord, (came v).1 = i
  le : ∀ i, i < s.L.length → g i ≤ fl i + N
section
variable {s : Sv} {w : World} {left fl x far : Nat → Int} {came : Nat → Stp} {cl : Nat → Bool} {ord : List Nat}
set_option maxRecDepth 100000 in
set_option maxHeartbeats 4000000 in
theorem push_any (z : Nat) (wt : Nat → Int) (h : s.st w left fl x far came cl) (k : s.ok) (W : Path s.G left fl came ord) (hz : z ∈ ord) (hneg : left z < 0) (hb : ∀ v, v < s.n → -1000000000000 ≤ left v ∧ left v ≤ 1000000000000)
    (hf : ∀ i, i < s.L.length → 0 ≤ fl i ∧ fl i ≤ 1000000000000) (hbal : ∀ u, u < s.n → nf s.G wt u s.L.length - nf s.G fl u s.L.length = left u) :
    Calls Try.prog 48 #[.pointer (some ⟨s.sb, 0, none⟩), .int .i64 (z : Int)] w fun e w' => e = .returned (.tuple #[]) ∧ ∃ N v0 g, Pushed s left fl x far came cl ord wt z w w' N v0 g := by
  obtain ⟨-, -, -, d3, d4, -, -, d7, -⟩ := h.ro.cells
  have hn1 := k.g.n1
  have hm1 := k.g.m1
  have hzn := W.lt z hz
  have q0 := h.left.cell hzn
  have bz := hb z hzn
  have z1 : (0 : Int) ≤ (z : Int) := by omega
  have z2 : (z : Int) < (s.n : Int) := by have : z < s.n := hzn; omega
  have HB := Lib.hid hb
  have HF := Lib.hid hf
  have HS := Lib.hid h
  have HK := Lib.hid k
  have HW := Lib.hid W
  have HBal := Lib.hid hbal
  have HZ := Lib.hid hz
  clear hb hf h k W hbal hz
  go_enter Try.func48, Try.ntmps48
  go_wp2_with fail
  clear d3 d4 d7 q0
  go_loopw [4, 5] (fun nv vv wr => ∃ (j : Nat) (N : Int), nv = .int .i64 N ∧ vv = .int .i64 (pth s.G came z j : Nat) ∧ pth s.G came z j ∈ ord ∧ 1 ≤ N ∧ N ≤ -left z ∧ Hid (∀ q, q < j → (came (pth s.G came z q)).1 ≠ -1 ∧ ((came (pth s.G came z q)).2 = true → N ≤ fl (came (pth s.G came z q)).1.toNat)) ∧ Below w.heap.size w wr) (fun _ vv _ => ord.idxOf (intOf vv).toNat)
  case atStart => exact ⟨0, -left z, rfl, rfl, HZ.out, by omega, by omega, Lib.hid (fun q hq => absurd hq (by omega)), Below.refl _ _⟩
  case round =>
    obtain ⟨j, N, rfl, rfl, hvo, hN1, hN2, hq, B⟩ := hrel
    obtain ⟨wo, rfl⟩ : ∃ x : World, x = wr := ⟨_, rfl⟩
    obtain ⟨v, hv⟩ : ∃ v, pth s.G came z j = v := ⟨_, rfl⟩
    rw [hv] at hvo ⊢
    have HV := Lib.hid hv
    have HVO := Lib.hid hvo
    have hvn : v < s.n := HW.out.lt v hvo
    have HSo := Lib.hid (HS.out.later B)
    have HBo := Lib.hid B
    obtain ⟨-, -, -, d3, d4, -, -, d7, -⟩ := HSo.out.ro.cells
    obtain ⟨c0, c1⟩ := came_cells HSo.out.came hvn
    have v1 : (0 : Int) ≤ (v : Int) := by omega
    have v2 : (v : Int) < (s.n : Int) := by omega
    have hstp := HW.out.stp v hvo
    clear hv hvo B
    rcases hstp with ⟨hno, hl0⟩ | ⟨i, hi, hci, hhd, hpo, hbf, hix⟩
    · rw [hno] at c0
      have HNO := Lib.hid hno
      have q1 := HSo.out.left.cell hvn
      have q2 := HSo.out.left.frozen v
      have bv := HB.out v hvn
      have q3 := HSo.out.left.cell hzn
      have q4 := HSo.out.left.frozen z
      have hvz : v ≠ z := fun e => by subst e; omega
      have hvzi : (v : Int) ≠ (z : Int) := by omega
      clear hno
      go_upto_region 5 with fail
      go_cut [4] (fun nv wx => ∃ M : Int, nv = .int .i64 M ∧ (1 ≤ M ∧ M ≤ N ∧ M ≤ left v) ∧ wo = wx)
      case first =>
        go_wp2_with fail
        all_goals
          go_meet
          exact ⟨_, rfl, by omega, rfl⟩
      rename_i nv wx
      obtain ⟨M, rfl, hM1, rfl⟩ := hcut
      have R1 := HSo.out.left.set v (.int .i64 (left v - M))
      have q5 := R1.cell hzn
      have q6 := R1.frozen z
      simp only [if_neg (Ne.symm hvz)] at q5
      have e3 := cell_chg (chg_set wo ⟨s.bl, v, none⟩ (.int .i64 (left v - M))) d3 (fun e => HK.out.rd _ HSo.out.ro.rs (by have e' : s.sb = s.bl := e; rw [e']; simp))
      have R2 := R1.set z (.int .i64 (left z + M))
      obtain ⟨w2, hw2⟩ : ∃ w2, (wo.setCell ⟨s.bl, v, none⟩ (.int .i64 (left v - M))).setCell ⟨s.bl, z, none⟩ (.int .i64 (left z + M)) = w2 := ⟨_, rfl⟩
      have C2 : Chg (fun b => b = s.bl) wo w2 := by rw [← hw2]; exact (chg_set wo ⟨s.bl, v, none⟩ _).trans (chg_set _ ⟨s.bl, z, none⟩ _) (fun b _ h => h)
      obtain ⟨L', hL'⟩ : ∃ L', upd (upd left v (left v - M)) z (left z + M) = L' := ⟨_, rfl⟩
      have hrl : ∀ b, s.R b → b ≠ s.bl := fun b hb e => HK.out.rd b hb (by rw [e]; simp)
      have hap := HK.out.ap
      simp only [List.nodup_cons, List.mem_cons, List.not_mem_nil, or_false, not_or] at hap
      obtain ⟨ap1, ap2, ap3, ap4, ap5, -⟩ := hap
      have S2 : s.st w2 L' fl x far came cl := by
        refine ⟨HSo.out.ro.chg C2 (fun b hb => hrl b hb), ?_, row_chg HSo.out.fl C2 (fun e => ap1.1 e.symm), row_chg HSo.out.x C2 (fun e => ap1.2.1 e.symm), row_chg HSo.out.far C2 (fun e => ap1.2.2.1 e.symm), row_chg HSo.out.came C2 (fun e => ap1.2.2.2.1 e.symm), row_chg HSo.out.cl C2 (fun e => ap1.2.2.2.2 e.symm)⟩
        rw [← hw2, ← hL']
        refine R2.congr (fun u _ => ?_)
        unfold upd
        by_cases e1 : u = z
        · simp [e1]
        · by_cases e2 : u = v
          · simp [e2, hvz]
          · simp [e1, e2]
      have HS2 := Lib.hid S2
      have HL' := Lib.hid hL'
      have HW2 := Lib.hid hw2
      have HC2 := Lib.hid ((chg_below HBo.out (fun b => b = s.bl)).trans C2 (fun b _ h => h))
      have HP0 := Lib.hid (Psh.begin (G := s.G) (left := left) (fl := fl) (came := came) (w := wt) (N := M) (by omega) HZ.out (fun i hi => (HF.out i hi).1) HBal.out)
      clear R1 R2 C2 S2 hL' hw2 ap1 ap2 ap3 ap4 ap5
      go_wp2_with fail
      rw [HW2.out]
      clear d3 d4 d7 c0 c1 q1 q2 q3 q4 q5 q6 e3
      go_loopw [5] (fun vv wr => ∃ (q : Nat) (g : Nat → Int), q ≤ j ∧ vv = .int .i64 (pth s.G came z q : Nat) ∧ Hid (Psh s.G left fl came ord wt z M (pth s.G came z q) g) ∧ Hid (∀ i, i < s.L.length → 0 < g i → 0 < fl i ∨ ∃ v ∈ ord, (came v).1 = i) ∧ s.st wr L' g x far came cl ∧ Chg (fun b => b = s.bf) w2 wr) (fun vv _ => ord.idxOf (intOf vv).toNat)
      case atStart => exact ⟨0, fl, by omega, rfl, Lib.hid HP0.out, Lib.hid (fun i _ h => .inl h), HS2.out, Chg.refl _ _⟩
      case round =>
        obtain ⟨q, g, hqj, rfl, hP, hsup, S, C⟩ := hrel
        obtain ⟨wo', rfl⟩ : ∃ x : World, x = wr := ⟨_, rfl⟩
        obtain ⟨u, hu⟩ : ∃ u, pth s.G came z q = u := ⟨_, rfl⟩
        rw [hu] at hP ⊢
        have HU := Lib.hid hu
        have hun : u < s.n := HW.out.lt u hP.out.vo
        obtain ⟨-, -, -, d3, d4, -, -, d7, -⟩ := S.ro.cells
        obtain ⟨c0, c1⟩ := came_cells S.came hun
        have v3 : (0 : Int) ≤ (u : Int) := by omega
        have v4 : (u : Int) < (s.n : Int) := by omega
        have HSS := Lib.hid S
        have HCC := Lib.hid C
        clear hu S C
        by_cases hqe : q = j
        · subst hqe
          have huv : u = v := by rw [← HU.out, HV.out]
          subst huv
          rw [HNO.out] at c0
          go_wp2_with fail
          go_end0
          refine ⟨rfl, M, u, g, hM1.1, hun, hM1.2.2, by omega, by rw [HL'.out]; exact HSS.out, ?_, hP.out.nn, fun t ht => ?_, hsup.out, hP.out.le⟩
          · exact (HC2.out.mono (fun b _ h => .inl h)).trans HCC.out (fun b _ h => .inr h)
          · refine (hP.out.bal t ht).trans ?_
            unfold ind upd
            by_cases e1 : t = z
            · subst e1
              simp [Ne.symm hvz]
            · by_cases e2 : t = u
              · subst e2
                simp [e1]
              · simp [e1, e2]
        · obtain ⟨a1, a2⟩ := hq.out q (by omega)
          rw [HU.out] at a1 a2
          rcases HW.out.stp u hP.out.vo with ⟨h', _⟩ | ⟨i, hi, hci, hhd, hpo, hbf, hix⟩
          · exact absurd h' a1
          obtain ⟨y, hy⟩ : ∃ y, (came u).2 = y := ⟨_, rfl⟩
          have hce : came u = ((i : Int), y) := by rw [← hci, ← hy]
          have HCE := Lib.hid hce
          have hst := hP.out.step HW.out (by omega) hi hci (fun hb => by have := a2 hb; rw [hci] at this; have h3 : N ≤ fl i := (by simpa using this); omega)
          obtain ⟨P2, hgs, hlt⟩ := hst
          rw [hce] at P2 hlt c0 c1
          have hi' : i < s.L.length := hi
          have q5 := HSS.out.fl.cell hi'
          have q6 := HSS.out.fl.frozen i
          rw [hgs] at P2 q5
          have bf := HF.out i hi'
          have i1 : (0 : Int) ≤ (i : Int) := by omega
          have i2 : (i : Int) < (s.L.length : Int) := by omega
          have HP2 := Lib.hid P2
          have HLT := Lib.hid hlt
          have hne : ((i : Int) != -1) = true := by rw [bne_iff_ne]; omega
          have hpth : Hid (pth s.G came z (q + 1) = prv s.G ((i : Int), y)) := Lib.hid (by
            show prv s.G (came (pth s.G came z q)) = _
            rw [HU.out, HCE.out])
          have hap := HK.out.ap
          simp only [List.nodup_cons, List.mem_cons, List.not_mem_nil, or_false, not_or] at hap
          obtain ⟨ap1, ap2, -⟩ := hap
          have fin : ∀ (d : Int) (wa : World), Below wo'.heap.size wo' wa → s.st (wa.setCell ⟨s.bf, i, none⟩ (.int .i64 d)) L' (upd g i d) x far came cl ∧ Chg (fun b => b = s.bf) w2 (wa.setCell ⟨s.bf, i, none⟩ (.int .i64 d)) := by
            intro d wa Ba
            have c := chg_set wa ⟨s.bf, i, none⟩ (.int .i64 d)
            have Sa := HSS.out.later Ba
            exact ⟨⟨Sa.ro.chg c (fun b hb e => HK.out.rd b hb (by rw [e]; simp)), row_set_ne Sa.left ap1.1, row_upd (F := fun z => .int .i64 z) Sa.fl i d, row_set_ne Sa.x (fun e => ap2.1 e.symm), row_set_ne Sa.far (fun e => ap2.2.1 e.symm), row_set_ne Sa.came (fun e => ap2.2.2.1 e.symm), row_set_ne Sa.cl (fun e => ap2.2.2.2 e.symm)⟩, (HCC.out.trans (chg_below Ba (fun b => b = s.bf)) (fun b _ h => h)).trans c (fun b _ h => h)⟩
          have HFN := Lib.hid fin
          have hsup2 : ∀ d : Int, ∀ t, t < s.L.length → 0 < upd g i d t → 0 < fl t ∨ ∃ v ∈ ord, (came v).1 = t := by
            intro d t ht h0
            by_cases e : t = i
            · subst e; exact .inr ⟨u, hP.out.vo, hci⟩
            · have : upd g i d t = g t := by simp [upd, e]
              rw [this] at h0; exact hsup.out t ht h0
          have HSP := Lib.hid hsup2
          clear a1 a2 hci hhd hpo hbf hix hy hce P2 hgs hlt hsup2 fin ap1 ap2 hi hP hsup
          cases y
          · go_wp2_with fail
            go_still_tail 17, (by kernel_rfl)
            change wpList _ _ _ _ _ wo'.drew
            have BD : Below wo'.heap.size wo' wo'.drew := (Below.refl _ _).drew
            generalize wo'.drew = wa at *
            have q7 := (HSS.out.later BD).fl.frozen i
            have q8 := (HSS.out.later BD).fl.cell hi'
            obtain ⟨S2, C2⟩ := HFN.out (fl i + M) wa BD
            obtain ⟨-, -, -, -, -, -, -, g7, -⟩ := S2.ro.cells
            obtain ⟨h0, h1⟩ := came_cells S2.came hun
            rw [HCE.out] at h0 h1
            have HS2 := Lib.hid S2
            have HC2 := Lib.hid C2
            clear S2 C2
            go_wp2_with fail
            refine (back_any HS2.out.ro HK.out false i hi').mono ?_
            rintro e w1 ⟨rfl, B1⟩
            have HB1 := Lib.hid B1
            clear B1
            go_wp2_with fail
            exact ⟨⟨q + 1, _, by omega, by rw [hpth.out], Lib.hid (by rw [hpth.out]; exact HP2.out), Lib.hid (HSP.out _), HS2.out.later HB1.out, HC2.out.trans (chg_below HB1.out (fun b => b = s.bf)) (fun b _ h => h)⟩, by have := HLT.out; simp [intOf]; omega⟩
          · go_wp2_with fail
            go_still_tail 17, (by kernel_rfl)
            change wpList _ _ _ _ _ wo'.drew
            have BD : Below wo'.heap.size wo' wo'.drew := (Below.refl _ _).drew
            generalize wo'.drew = wa at *
            have q7 := (HSS.out.later BD).fl.frozen i
            have q8 := (HSS.out.later BD).fl.cell hi'
            obtain ⟨S2, C2⟩ := HFN.out (fl i - M) wa BD
            obtain ⟨-, -, -, -, -, -, -, g7, -⟩ := S2.ro.cells
            obtain ⟨h0, h1⟩ := came_cells S2.came hun
            rw [HCE.out] at h0 h1
            have HS2 := Lib.hid S2
            have HC2 := Lib.hid C2
            clear S2 C2
            go_wp2_with fail
            refine (back_any HS2.out.ro HK.out true i hi').mono ?_
            rintro e w1 ⟨rfl, B1⟩
            have HB1 := Lib.hid B1
            clear B1
            go_wp2_with fail
            exact ⟨⟨q + 1, _, by omega, by rw [hpth.out], Lib.hid (by rw [hpth.out]; exact HP2.out), Lib.hid (HSP.out _), HS2.out.later HB1.out, HC2.out.trans (chg_below HB1.out (fun b => b = s.bf)) (fun b _ h => h)⟩, by have := HLT.out; simp [intOf]; omega⟩
    · rw [hci] at c0
      have HPO := Lib.hid hpo
      have HCI := Lib.hid hci
      have HIX := Lib.hid hix
      have hne : ((i : Int) != -1) = true := by rw [bne_iff_ne]; omega
      obtain ⟨y, hy⟩ : ∃ y, (came v).2 = y := ⟨_, rfl⟩
      have HY := Lib.hid hy
      rw [hy] at c1
      have hi' : i < s.L.length := hi
      have hce : came v = ((i : Int), y) := by rw [← hci, ← hy]
      have HCE := Lib.hid hce
      have q5 := HSo.out.fl.cell hi'
      have bf := HF.out i hi'
      have i1 : (0 : Int) ≤ (i : Int) := by omega
      have i2 : (i : Int) < (s.L.length : Int) := by omega
      have hnext : ∀ M : Int, (y = true → M ≤ fl i) → M ≤ N → ∀ q, q < j + 1 → (came (pth s.G came z q)).1 ≠ -1 ∧ ((came (pth s.G came z q)).2 = true → M ≤ fl (came (pth s.G came z q)).1.toNat) := by
        intro M hM1 hM2 q hq2
        by_cases e : q = j
        · subst e
          rw [HV.out, HCE.out]
          exact ⟨by simp only; omega, fun hb => by simpa using hM1 hb⟩
        · obtain ⟨a1, a2⟩ := hq.out q (by omega)
          exact ⟨a1, fun hb => by have := a2 hb; omega⟩
      have HNX := Lib.hid hnext
      have HBF := Lib.hid hbf
      rw [hy] at HBF
      have hpth : pth s.G came z (j + 1) = prv s.G ((i : Int), y) := by
        show prv s.G (came (pth s.G came z j)) = _
        rw [HV.out, HCE.out]
      have HPT := Lib.hid hpth
      rw [HCE.out] at HPO HIX
      clear hci hpo hy hix hhd hbf hi hce hnext hpth hq
      cases y
      · go_wp2_with fail
        refine (back_any HSo.out.ro HK.out false i hi').mono ?_
        rintro e w1 ⟨rfl, B1⟩
        have HB1 := Lib.hid (below_then HBo.out HBo.out.size B1)
        clear B1
        go_wp2_with fail
        exact ⟨⟨j + 1, N, rfl, by rw [HPT.out], by rw [HPT.out]; exact HPO.out, hN1, hN2, Lib.hid (HNX.out N (by simp) (by omega)), HB1.out⟩, by have := HIX.out; simp [intOf]; omega⟩
      · have hfp : 0 < fl i := HBF.out rfl
        go_wp2_with fail
        go_quiet (fail)
        go_wp2_with fail
        all_goals
          refine (back_any (HSo.out.later (below_drewN (Below.refl _ _) _)).ro HK.out true i hi').mono ?_
          rintro e w1 ⟨rfl, B1⟩
          have HB1 := Lib.hid (below_then HBo.out HBo.out.size ((below_drewN (Below.refl wo.heap.size wo) _).trans B1))
          clear B1
          go_wp2_with fail
          exact ⟨⟨j + 1, _, rfl, by rw [HPT.out], by rw [HPT.out]; exact HPO.out, by omega, by omega, Lib.hid (HNX.out _ (fun _ => by omega) (by omega)), HB1.out⟩, by have := HIX.out; simp [intOf]; omega⟩
end
end Go.Proofs.Ytimffpnfhkobkaa
/- A region that draws its order: some operations that wait for nothing of one another, in whatever order. No program in sight. -/
namespace Go.Proofs.Ytimffpnfhkobkaa
section
variable {P : Program} {md : Region.Mode} {ops : Array Oper} {Q : Exit → Act → World → Prop} {S : World → Prop}
def allB : Nat → List (List Bool)
  | 0 => [[]]
  | n + 1 => (allB n).flatMap fun l => [false :: l, true :: l]
theorem mem_allB : ∀ {n : Nat} {bs : List Bool}, bs.length = n → bs ∈ allB n
  | 0, [], _ => by simp [allB]
  | n + 1, b :: bs, h => by
    refine List.mem_flatMap.2 ⟨bs, mem_allB (by simpa using h), ?_⟩
    cases b <;> simp
def bagMk (T : List Nat) (base : Array Bool) (bs : List Bool) : Array Bool := (T.zip bs).foldl (fun l p => if p.2 then l.setIfInBounds p.1 true else l) base
def bagOK (md : Region.Mode) (ops : Array Oper) (T : List Nat) (base : Array Bool) : Bool :=
  (allB T.length).all fun bs => bs.all id || (Region.ready md ops (bagMk T base bs) == (T.zip bs).filterMap (fun p => if p.2 then none else some p.1)) &&
    (List.range T.length).all fun j => (bs.getD j true) || (bagMk T base bs).setIfInBounds (T.getD j 0) true == bagMk T base (bs.set j true)
theorem bag_unset {T : List Nat} {bs : List Bool} (h : T.length = bs.length) {i : Nat} (hi : i ∈ (T.zip bs).filterMap (fun p => if p.2 then none else some p.1)) : ∃ j, j < T.length ∧ T[j]? = some i ∧ bs[j]? = some false := by
  obtain ⟨p, hp, hpi⟩ := List.mem_filterMap.1 hi
  obtain ⟨j, hj, hje⟩ := List.mem_iff_getElem.1 hp
  rw [List.length_zip] at hj
  rw [List.getElem_zip] at hje
  subst hje
  simp only at hpi
  split at hpi
  · cases hpi
  · rename_i hb
    refine ⟨j, by omega, ?_, ?_⟩
    · rw [List.getElem?_eq_getElem (by omega)]; exact hpi
    · rw [List.getElem?_eq_getElem (by omega)]; simpa using hb
theorem count_set_lt {bs : List Bool} {j : Nat} (h : bs[j]? = some false) : (bs.set j true).count false + 1 = bs.count false := by
  obtain ⟨h1, h2⟩ := List.getElem?_eq_some_iff.1 h
  induction bs generalizing j with
  | nil => simp at h1
  | cons b bs ih =>
    cases j with
    | zero => simp at h2; subst h2; simp
    | succ j =>
      simp only [List.set_cons_succ, List.count_cons]
      have := ih (j := j) (by simpa using h) (by simpa using h1) (by simpa using h2)
      omega
theorem count_zero {bs : List Bool} (h : bs.all id = true) : bs.count false = 0 := by
  rw [List.count_eq_zero]
  intro hm
  have := List.all_eq_true.1 h false hm
  simp at this
theorem wpAnyH_bag (T : List Nat) (base : Array Bool) (hB : bagOK md ops T base = true) (J : List Bool → Act → World → Prop) (fuel : Nat)
    (hstep : ∀ (bs : List Bool) (j i : Nat) (a : Act) (w : World), bs.length = T.length → T[j]? = some i → bs[j]? = some false → J bs a w → wpOp P ops Q i (fun a' w' => S w' ∧ J (bs.set j true) a' w') a w)
    (hend : ∀ (bs : List Bool) (a : Act) (w : World), bs.length = T.length → bs.all id = true → J bs a w → wpAnyH P md ops Q S fuel (bagMk T base bs) a w) :
    ∀ (k : Nat) (bs : List Bool) (a : Act) (w : World), bs.length = T.length → bs.count false = k → J bs a w → wpAnyH P md ops Q S (k + fuel) (bagMk T base bs) a w := by
  intro k
  induction k with
  | zero =>
    intro bs a w hl hc hJ
    rw [Nat.zero_add]
    refine hend bs a w hl (List.all_eq_true.2 (fun b hb => ?_)) hJ
    cases b with
    | true => rfl
    | false => exact absurd hb (List.count_eq_zero.1 hc)
  | succ k ih =>
    intro bs a w hl hc hJ
    have h0 := List.all_eq_true.1 hB bs (mem_allB hl)
    have hna : bs.all id = false := by
      cases e : bs.all id with
      | false => rfl
      | true => have := count_zero e; omega
    rw [hna, Bool.false_or, Bool.and_eq_true, beq_iff_eq] at h0
    obtain ⟨hr, hs⟩ := h0
    rw [show k + 1 + fuel = (k + fuel) + 1 by omega]
    have key : ∀ i ∈ Region.ready md ops (bagMk T base bs), wpOp P ops Q i (fun a' w' => S w' ∧ wpAnyH P md ops Q S (k + fuel) ((bagMk T base bs).setIfInBounds i true) a' w') a w := fun i hi => by
      rw [hr] at hi
      obtain ⟨j, hj, h1, h2⟩ := bag_unset hl.symm hi
      have hset := List.all_eq_true.1 hs j (List.mem_range.2 hj)
      have e1 : bs.getD j true = false := by rw [List.getD_eq_getElem?_getD, h2]; rfl
      have e2 : T.getD j 0 = i := by rw [List.getD_eq_getElem?_getD, h1]; rfl
      rw [e1, e2, Bool.false_or, beq_iff_eq] at hset
      rw [hset]
      refine wpOp_mono (fun a' w' h => ⟨h.1, ih _ a' w' (by simpa using hl) (by have := count_set_lt h2; omega) h.2⟩) (hstep bs j i a w hl h1 h2 hJ)
    refine ⟨fun h => ?_, key⟩
    exfalso
    rw [hr] at h
    have : bs.count false ≠ 0 := by omega
    have hm : false ∈ bs := by
      apply Classical.byContradiction
      intro hm
      exact this (List.count_eq_zero.2 hm)
    obtain ⟨j, hj, hje⟩ := List.mem_iff_getElem.1 hm
    have hz : (T[j]'(by omega), false) ∈ T.zip bs := by
      rw [List.mem_iff_getElem]
      exact ⟨j, by rw [List.length_zip]; omega, by rw [List.getElem_zip, hje]⟩
    have : T[j]'(by omega) ∈ (T.zip bs).filterMap (fun p => if p.2 then none else some p.1) := List.mem_filterMap.2 ⟨_, hz, by simp⟩
    rw [h] at this
    cases this
end
end Go.Proofs.Ytimffpnfhkobkaa
/- A graph whose arcs lead upwards, by any measure, is a dag: its order has all its nodes. -/
namespace Go.Proofs.Ytimffpnfhkobkaa
theorem exists_min (r : Nat → Nat) (P : Nat → Prop) : ∀ k v, r v ≤ k → P v → ∃ v, P v ∧ ∀ u, P u → r v ≤ r u := by
  intro k
  induction k with
  | zero => exact fun v hv hp => ⟨v, hp, fun u _ => by omega⟩
  | succ k ih =>
    intro v hv hp
    by_cases h : ∃ u, P u ∧ r u < r v
    · obtain ⟨u, hu, hlt⟩ := h
      exact ih u (by omega) hu
    · exact ⟨v, hp, fun u hu => by
        apply Classical.byContradiction
        intro hc
        exact h ⟨u, hu, by omega⟩⟩
theorem nodup_sub : ∀ (a b : List Nat), a.Nodup → (∀ x ∈ a, x ∈ b) → a.length ≤ b.length := by
  intro a
  induction a with
  | nil => intro b _ _; simp
  | cons x a ih =>
    intro b hn hs
    obtain ⟨hx, hn⟩ := List.nodup_cons.1 hn
    have hb : x ∈ b := hs x (by simp)
    have := ih (b.erase x) hn (fun y hy => (List.mem_erase_of_ne (by rintro rfl; exact hx hy)).2 (hs y (by simp [hy])))
    have h2 := List.length_erase_of_mem hb
    have h3 : 0 < b.length := List.length_pos_of_mem hb
    simp only [List.length_cons]
    omega
theorem gr_full {G : Gr} {n : Nat} (r : Nat → Nat) (hr : ∀ a ∈ G, r a.1 < r a.2) (hi : ∀ a ∈ G, a.1 < n) : ∀ k l, Tk G n l → n - l.length ≤ k → (gr G n k l).length = n := by
  intro k
  induction k with
  | zero => exact fun l h hk => by have := h.len; simp only [gr]; omega
  | succ k ih =>
    intro l h hk
    have hlen := h.len
    cases hx : nextN G n l with
    | some w =>
      have e : gr G n (k + 1) l = gr G n k (l ++ [w]) := by simp only [gr, hx]
      rw [e]
      unfold nextN at hx
      have h1 := List.find?_some hx
      have h2 : w < n := by simpa using List.mem_of_find?_eq_some hx
      exact ih _ (h.add h2 h1) (by simp; omega)
    | none =>
      have e : gr G n (k + 1) l = l := by simp only [gr, hx]
      rw [e]
      by_cases hl : l.length < n
      · exfalso
        obtain ⟨v, hv, hvl⟩ : ∃ v, v < n ∧ v ∉ l := by
          apply Classical.byContradiction
          intro hc
          have := nodup_sub (List.range n) l List.nodup_range (fun x hx => by
            apply Classical.byContradiction
            intro h2
            exact hc ⟨x, by simpa using hx, h2⟩)
          simp at this
          omega
        obtain ⟨v, ⟨hv, hvl⟩, hmin⟩ := exists_min r (fun v => v < n ∧ v ∉ l) (r v) v (Nat.le_refl _) ⟨hv, hvl⟩
        have hz : cnt G l v = 0 := List.countP_eq_zero.2 (fun a ha hc => by
          simp only [Bool.and_eq_true, beq_iff_eq, Bool.not_eq_true', List.contains_eq_mem, decide_eq_false_iff_not] at hc
          have h1 := hmin a.1 ⟨hi a ha, hc.2⟩
          have h2 := hr a ha
          rw [hc.1] at h2
          omega)
        unfold nextN at hx
        have := List.find?_eq_none.1 hx v (by simpa using hv)
        simp [rdy, hvl, hz] at this
      · omega
theorem ord_full {G : Gr} {n : Nat} (r : Nat → Nat) (hr : ∀ a ∈ G, r a.1 < r a.2) (hi : ∀ a ∈ G, a.1 < n) : (ordL G n).length = n := gr_full r hr hi n [] (Tk.nil _ _) (by simp)
theorem ordE_dag {n : Int} {L : List Arc} (hR : rightB n L = true) (r : Nat → Nat) (hr : ∀ a ∈ L, r a.1.toNat < r a.2.1.toNat) : ordE n L = 0 := by
  unfold ordE
  rw [if_pos hR, if_neg]
  obtain ⟨m, rfl, hm, hl, hG⟩ := right_gr hR
  rw [ord_full r]
  · omega
  · intro a ha
    unfold gOf at ha
    obtain ⟨b, hb, rfl⟩ := List.mem_map.1 ha
    exact hr b hb
  · intro a ha
    obtain ⟨i, hi⟩ := List.getElem?_of_mem ha
    unfold gOf at hi
    rw [List.getElem?_map] at hi
    cases hb : L[i]? with
    | none => rw [hb] at hi; cases hi
    | some b =>
      rw [hb] at hi
      obtain ⟨f, t, x, rfl, hf, ht, _⟩ := hG i b hb
      simp at hi
      subst hi
      simpa using hf
def manyL (c : Nat) : List Arc := List.replicate c (0, 1, 0)
theorem many_law (k c : Nat) : ordE k (manyL c) = if 4096 < k ∨ 16384 < c ∨ (k < 2 ∧ 0 < c) then 2 else 0 := by
  by_cases h : 4096 < k ∨ 16384 < c ∨ (k < 2 ∧ 0 < c)
  · rw [if_pos h]
    unfold ordE
    rw [if_neg]
    intro hR
    obtain ⟨m, hm0, hm, hl, hG⟩ := right_gr hR
    have hkm : k = m := by omega
    subst hkm
    simp only [manyL, List.length_replicate] at hl
    rcases h with h | h | ⟨h1, h2⟩
    · omega
    · omega
    · obtain ⟨f, t, x, e, hf, ht, _⟩ := hG 0 (0, 1, 0) (by simp [manyL, h2])
      simp only [Prod.mk.injEq] at e
      omega
  · rw [if_neg h]
    refine ordE_dag ?_ id ?_
    · have hb : (manyL c).any (badA k) = false := by
        rw [List.any_eq_false]
        intro a ha
        obtain ⟨hc, rfl⟩ := List.mem_replicate.1 ha
        simp [badA]
        omega
      unfold rightB
      rw [hb]
      simp [manyL]
      omega
    · intro a ha
      obtain ⟨hc, rfl⟩ := List.mem_replicate.1 ha
      decide
end Go.Proofs.Ytimffpnfhkobkaa
/- DagMany: a graph may have just so many nodes, and arcs. -/
namespace Go.Proofs.Ytimffpnfhkobkaa
open Go.RowKit
def manyF (k : Nat) (j : Nat) : Value := .int .i64 (if j < 3 * k ∧ j % 3 = 1 then 1 else 0)
theorem info_arc : (Try.prog.info? 52).map (fun i => (i.zero, i.size, i.bytes)) = some (some (.agg #[.int .i64 0, .int .i64 0, .int .i64 0]), 3, 24) := by kernel_rfl
theorem row_made3 (w : World) (n : Nat) (t : TypeId) : (w.alloc (.cells (madeCells #[.int .i64 0, .int .i64 0, .int .i64 0] (n * 3)) t)).rowIs w.heap.size t (n * 3) (manyF 0) := by
  refine ⟨_, heap_alloc_new w _, size_madeCells _ _, fun i hi => ?_⟩
  unfold madeCells manyF
  rw [Array.getElem?_map]
  have h3 : i % 3 = 0 ∨ i % 3 = 1 ∨ i % 3 = 2 := by omega
  rcases h3 with h | h | h <;> simp [hi, h]
theorem many_arcs {w : World} {b t c : Nat} (h : w.rowIs b t (c * 3) (manyF c)) : Arcs w (.slice (some ⟨b, 0, none⟩) c c) (manyL c) := by
  have hl : (manyL c).length = c := by simp [manyL]
  refine ⟨some ⟨b, 0, none⟩, c, by rw [hl], by omega, (fun h => by cases h), fun hp => ⟨b, 0, rfl, fun i a hi r v hv => ?_⟩⟩
  have hic : i < c := by have := (List.getElem?_eq_some_iff.1 hi).1; omega
  obtain ⟨_, rfl⟩ := List.mem_replicate.1 (List.mem_of_getElem? hi)
  have hr : r < 3 := by have := (List.getElem?_eq_some_iff.1 hv).1; rw [encA_length] at this; exact this
  have e := h.cell (i := i * 3 + r) (by omega)
  rw [Nat.zero_add, e]
  have h1 : i * 3 + r < 3 * c := by omega
  have h2 : (i * 3 + r) % 3 = r := by omega
  unfold manyF
  rw [h2]
  match r, hr, hv with
  | 0, _, hv => simpa [encA, h1] using hv
  | 1, _, hv => simpa [encA, h1] using hv
  | 2, _, hv => simpa [encA, h1] using hv
set_option maxRecDepth 100000 in
set_option maxHeartbeats 1000000 in
theorem many_walk (a0 : Int) (a1 : Int) (w0 : (Lit.int .u16 a0).wf = true) (w1 : (Lit.int .u16 a1).wf = true) (w : World) :
    Calls Try.prog 6 #[.int .u16 a0, .int .u16 a1] w fun e w' => e = .returned (.bool true) ∧ Below w.heap.size w w' := by
  have w0' : 0 ≤ a0 ∧ a0 ≤ 65535 := (by simpa [Lit.wf] using w0 : IntKind.u16.min ≤ a0 ∧ a0 ≤ IntKind.u16.max)
  have w1' : 0 ≤ a1 ∧ a1 ≤ 65535 := (by simpa [Lit.wf] using w1 : IntKind.u16.min ≤ a1 ∧ a1 ≤ IntKind.u16.max)
  have e0 : a0.tmod 5000 = ((a0 % 5000).toNat : Int) := by rw [Int.tmod_eq_emod_of_nonneg w0'.1]; omega
  have e1 : a1.tmod 20000 = ((a1 % 20000).toNat : Int) := by rw [Int.tmod_eq_emod_of_nonneg w1'.1]; omega
  obtain ⟨k, hk, hk5⟩ : ∃ k : Nat, a0.tmod 5000 = k ∧ k < 5000 := ⟨_, e0, by omega⟩
  obtain ⟨c, hc, hc2⟩ : ∃ c : Nat, a1.tmod 20000 = c ∧ c < 20000 := ⟨_, e1, by omega⟩
  clear e0 e1
  obtain ⟨i0, hi, hzz⟩ := Option.map_eq_some_iff.1 info_arc
  simp only [Prod.mk.injEq] at hzz
  obtain ⟨hz, hs, hb⟩ := hzz
  have hmk : ∀ w : World, (Instr.makeSlice 22 (.int .i64 (c : Int)) (.int .i64 (c : Int))).run Try.prog w = .ok (.slice (some ⟨w.heap.size, 0, none⟩) c c) (w.alloc (.cells (madeCells #[.int .i64 0, .int .i64 0, .int .i64 0] (c * 3)) 52)) := fun w => by
    have h := run_make (P := Try.prog) w 22 52 i0 _ Try.underlying22 hi hz .i64 .i64 c c (by omega) (by omega) (by rw [hb]; omega) (by omega)
    rw [hs] at h
    exact h
  clear hi hz hs hb
  go_enter Try.func6, Try.ntmps6
  go_wp2_with fail
  clear hmk w0' w1' hk hc
  go_loopw [20] (fun q wr => ∃ i : Nat, i ≤ c ∧ q = .int .i64 i ∧ wr.rowIs w.heap.size 52 (c * 3) (manyF i) ∧ Below w.heap.size w wr) (fun q _ => c - (intOf q).toNat)
  case atStart => exact ⟨0, by omega, rfl, row_made3 w c _, (Below.refl _ _).alloc (Nat.le_refl _) _⟩
  case round => as_aux_lemma =>
    obtain ⟨i, hi, rfl, R, B⟩ := hrel
    have HR := Lib.hid R
    have HB := Lib.hid B
    clear R B
    by_cases hic : i < c
    · have hd : decide ((i : Int) < c) = true := by simp; omega
      have i1 : (0 : Int) ≤ (i : Int) := by omega
      have i2 : (i : Int) < (c : Int) := by omega
      have k0 := HR.out.cell (i := i * 3) (by omega)
      have k1 := HR.out.cell (i := i * 3 + 1) (by omega)
      have k2 := HR.out.cell (i := i * 3 + 2) (by omega)
      have f0 := HR.out.frozen (i * 3)
      have f1 := HR.out.frozen (i * 3 + 1)
      have f2 := HR.out.frozen (i * 3 + 2)
      go_wp2_with fail
      have R2 := ((HR.out.set (i * 3) (.int .i64 0)).set (i * 3 + 1) (.int .i64 1)).set (i * 3 + 2) (.int .i64 0)
      have B2 := ((HB.out.setCell (p := ⟨w.heap.size, i * 3, none⟩) (Nat.le_refl _) (.int .i64 0)).setCell (p := ⟨w.heap.size, i * 3 + 1, none⟩) (Nat.le_refl _) (.int .i64 1)).setCell (p := ⟨w.heap.size, i * 3 + 2, none⟩) (Nat.le_refl _) (.int .i64 0)
      refine ⟨⟨i + 1, by omega, by go_num, R2.congr (fun v hv => ?_), B2⟩, by simp [intOf]; omega⟩
      unfold manyF
      by_cases e2 : v = i * 3 + 2
      · subst e2
        have : (i * 3 + 2) % 3 = 2 := by omega
        simp [this]
      · by_cases e1 : v = i * 3 + 1
        · subst e1
          have h1 : (i * 3 + 1) % 3 = 1 := by omega
          have h2 : i * 3 + 1 < 3 * (i + 1) := by omega
          simp [h1, h2]
        · by_cases e0 : v = i * 3
          · subst e0
            have h1 : (i * 3) % 3 = 0 := by omega
            simp [h1]
          · have : (v < 3 * (i + 1)) = (v < 3 * i) := by apply propext; omega
            simp [e0, e1, e2, this]
    · obtain rfl : i = c := by omega
      have hd : decide ((i : Int) < i) = false := by simp
      have HA := Lib.hid (many_arcs HR.out)
      have HQ := Lib.hid (many_law k i)
      go_wp2_with fail
      all_goals
        refine (dwakes_any _).mono ?_
        rintro e w5 ⟨rfl, B5⟩
        have HB5 := Lib.hid (below_then HB.out HB.out.size B5)
        have HA5 := Lib.hid (HA.out.later B5)
        clear B5
        go_wp2_with fail
        refine (check_any _ HA5.out).mono ?_
        rintro e w6 ⟨rfl, B6⟩
        have HB6 := Lib.hid (below_then HB5.out HB5.out.size B6)
        clear B6
        rw [HQ.out]
        go_wp2_with fail
        all_goals
          try go_ret
          refine ⟨?_, HB6.out⟩
          first | rfl | (exfalso; omega)
end Go.Proofs.Ytimffpnfhkobkaa
/- What a solver is made of, made in any order. -/
namespace Go.Proofs.Ytimffpnfhkobkaa
open Go.RowKit
def dTy (j : Nat) : TypeId := if j < 2 then 26 else if j = 5 then 108 else if j = 6 then 4 else 3
def dLen (n m j : Nat) : Nat := if j = 3 then m else n
def dSz (n m j : Nat) : Nat := if j = 3 then m else if j = 5 then n * 2 else n
def dFn (sup : Nat → Int) (j : Nat) : Nat → Value := if j < 2 then fun _ => .slice none 0 0 else if j = 2 then fun v => .int .i64 (sup v) else if j = 5 then cameV (fun _ => (0, false)) else if j = 6 then fun _ => .bool false else fun _ => .int .i64 0
structure KB (n m : Nat) (sup : Nat → Int) (w0 w : World) (bs : List Bool) (U : Nat → Value) : Prop where
  bel : Below w0.heap.size w0 w
  p : ∀ j, bs[j]? = some true → ∃ b, U j = .slice (some ⟨b, 0, none⟩) (dLen n m j) (dLen n m j) ∧ w0.heap.size ≤ b ∧ w.rowIs b (dTy j) (dSz n m j) (dFn sup j)
  d : ∀ j k, j ≠ k → bs[j]? = some true → bs[k]? = some true → (U j).ownBlock ≠ (U k).ownBlock
theorem KB.add {n m : Nat} {sup : Nat → Int} {w0 w w' : World} {bs : List Bool} {U : Nat → Value} (K : KB n m sup w0 w bs U) {j b : Nat} (B : Below w.heap.size w w') (hb : w.heap.size ≤ b) (row : w'.rowIs b (dTy j) (dSz n m j) (dFn sup j)) :
    KB n m sup w0 w' (bs.set j true) (upd U j (.slice (some ⟨b, 0, none⟩) (dLen n m j) (dLen n m j))) := by
  have hs := K.bel.size
  have get : ∀ i, i ≠ j → (bs.set j true)[i]? = bs[i]? := fun i hi => by rw [List.getElem?_set_ne (Ne.symm hi)]
  have old : ∀ i, i ≠ j → (bs.set j true)[i]? = some true → ∃ b', upd U j (.slice (some ⟨b, 0, none⟩) (dLen n m j) (dLen n m j)) i = .slice (some ⟨b', 0, none⟩) (dLen n m i) (dLen n m i) ∧ w0.heap.size ≤ b' ∧ b' < w.heap.size ∧ w'.rowIs b' (dTy i) (dSz n m i) (dFn sup i) := fun i hi h => by
    rw [get i hi] at h
    obtain ⟨b', h1, h2, h3⟩ := K.p i h
    exact ⟨b', by unfold upd; rw [if_neg hi]; exact h1, h2, h3.lt, h3.of_block (B.block b' h3.lt)⟩
  refine ⟨below_then K.bel hs B, fun i h => ?_, fun i k hik hi hk => ?_⟩
  · by_cases e : i = j
    · subst e
      exact ⟨b, by simp [upd], by omega, row⟩
    · obtain ⟨b', h1, h2, _, h4⟩ := old i e h
      exact ⟨b', h1, h2, h4⟩
  · have new : upd U j (.slice (some ⟨b, 0, none⟩) (dLen n m j) (dLen n m j)) j = .slice (some ⟨b, 0, none⟩) (dLen n m j) (dLen n m j) := by simp [upd]
    by_cases e1 : i = j
    · subst e1
      obtain ⟨b', h1, _, h3, _⟩ := old k (Ne.symm hik) hk
      rw [new, h1]
      intro h
      have : b = b' := by simpa [Value.ownBlock] using h
      omega
    · obtain ⟨b1, g1, _, g3, _⟩ := old i e1 hi
      by_cases e2 : k = j
      · subst e2
        rw [new, g1]
        intro h
        have : b1 = b := by simpa [Value.ownBlock] using h
        omega
      · have hi' := hi
        have hk' := hk
        rw [get i e1] at hi'
        rw [get k e2] at hk'
        have := K.d i k hik hi' hk'
        unfold upd
        rw [if_neg e1, if_neg e2]
        exact this
/-- The rows made, with their blocks. -/
structure Made (n : Nat) (L : List Arc) (w0 w : World) (AA : Option Addr) (cA bx sb bo bi bl bf br bm bc : Nat) : Prop where
  bel : Below w0.heap.size w0 w
  nd : [sb, bo, bi, bl, bf, br, bm, bc].Nodup
  ge : ∀ b ∈ [sb, bo, bi, bl, bf, br, bm, bc], w0.heap.size ≤ b
  top : w.heap[sb]? = some (.cells #[.slice AA L.length cA, .slice (some ⟨bo, 0, none⟩) n n, .slice (some ⟨bi, 0, none⟩) n n, .slice (some ⟨bl, 0, none⟩) n n, .slice (some ⟨bf, 0, none⟩) L.length L.length, .slice (some ⟨bx, 0, none⟩) n n, .slice (some ⟨br, 0, none⟩) n n, .slice (some ⟨bm, 0, none⟩) n n, .slice (some ⟨bc, 0, none⟩) n n] 83)
  o : w.rowIs bo 26 n (fun _ => .slice none 0 0)
  i : w.rowIs bi 26 n (fun _ => .slice none 0 0)
  l : w.rowIs bl 3 n (fun v => .int .i64 (nf (gfL n L) (wtL L) v L.length))
  f : w.rowIs bf 3 L.length (fun _ => .int .i64 0)
  r : w.rowIs br 3 n (fun _ => .int .i64 0)
  m : w.rowIs bm 108 (n * 2) (cameV (fun _ => (0, false)))
  c : w.rowIs bc 4 n (fun _ => .bool false)
theorem row_came (w : World) (n : Nat) (t : TypeId) : (w.alloc (.cells (madeCells #[.int .i64 0, .bool false] (n * 2)) t)).rowIs w.heap.size t (n * 2) (cameV (fun _ => (0, false))) := by
  refine ⟨_, heap_alloc_new w _, size_madeCells _ _, fun i hi => ?_⟩
  unfold madeCells cameV
  rw [Array.getElem?_map]
  have h3 : i % 2 = 0 ∨ i % 2 = 1 := by omega
  rcases h3 with h | h <;> simp [hi, h]
theorem KB.all {n : Nat} {L : List Arc} {w0 w : World} {U : Nat → Value} (K : KB n L.length (fun v => nf (gfL n L) (wtL L) v L.length) w0 w [true, true, true, true, true, true, true] U) :
    ∃ bo bi bl bf br bm bc : Nat, U 0 = .slice (some ⟨bo, 0, none⟩) n n ∧ U 1 = .slice (some ⟨bi, 0, none⟩) n n ∧ U 2 = .slice (some ⟨bl, 0, none⟩) n n ∧ U 3 = .slice (some ⟨bf, 0, none⟩) L.length L.length ∧ U 4 = .slice (some ⟨br, 0, none⟩) n n ∧ U 5 = .slice (some ⟨bm, 0, none⟩) n n ∧ U 6 = .slice (some ⟨bc, 0, none⟩) n n ∧
      ∀ (AA : Option Addr) (cA bx : Nat), Made n L w0 (w.alloc (.cells #[.slice AA L.length cA, .slice (some ⟨bo, 0, none⟩) n n, .slice (some ⟨bi, 0, none⟩) n n, .slice (some ⟨bl, 0, none⟩) n n, .slice (some ⟨bf, 0, none⟩) L.length L.length, .slice (some ⟨bx, 0, none⟩) n n, .slice (some ⟨br, 0, none⟩) n n, .slice (some ⟨bm, 0, none⟩) n n, .slice (some ⟨bc, 0, none⟩) n n] 83)) AA cA bx w.heap.size bo bi bl bf br bm bc := by
  obtain ⟨b0, e0, q0, r0⟩ := K.p 0 rfl
  obtain ⟨b1, e1, q1, r1⟩ := K.p 1 rfl
  obtain ⟨b2, e2, q2, r2⟩ := K.p 2 rfl
  obtain ⟨b3, e3, q3, r3⟩ := K.p 3 rfl
  obtain ⟨b4, e4, q4, r4⟩ := K.p 4 rfl
  obtain ⟨b5, e5, q5, r5⟩ := K.p 5 rfl
  obtain ⟨b6, e6, q6, r6⟩ := K.p 6 rfl
  have D : ∀ {j k bj bk : Nat} {l1 l2 l3 l4 : Nat}, j ≠ k → ([true, true, true, true, true, true, true] : List Bool)[j]? = some true → ([true, true, true, true, true, true, true] : List Bool)[k]? = some true → U j = .slice (some ⟨bj, 0, none⟩) l1 l2 → U k = .slice (some ⟨bk, 0, none⟩) l3 l4 → bj ≠ bk := fun hjk h1 h2 ej ek e => by
    refine K.d _ _ hjk h1 h2 ?_
    rw [ej, ek, e]
    rfl
  have d01 := D (by decide) rfl rfl e0 e1
  have d02 := D (by decide) rfl rfl e0 e2
  have d03 := D (by decide) rfl rfl e0 e3
  have d04 := D (by decide) rfl rfl e0 e4
  have d05 := D (by decide) rfl rfl e0 e5
  have d06 := D (by decide) rfl rfl e0 e6
  have d12 := D (by decide) rfl rfl e1 e2
  have d13 := D (by decide) rfl rfl e1 e3
  have d14 := D (by decide) rfl rfl e1 e4
  have d15 := D (by decide) rfl rfl e1 e5
  have d16 := D (by decide) rfl rfl e1 e6
  have d23 := D (by decide) rfl rfl e2 e3
  have d24 := D (by decide) rfl rfl e2 e4
  have d25 := D (by decide) rfl rfl e2 e5
  have d26 := D (by decide) rfl rfl e2 e6
  have d34 := D (by decide) rfl rfl e3 e4
  have d35 := D (by decide) rfl rfl e3 e5
  have d36 := D (by decide) rfl rfl e3 e6
  have d45 := D (by decide) rfl rfl e4 e5
  have d46 := D (by decide) rfl rfl e4 e6
  have d56 := D (by decide) rfl rfl e5 e6
  have l0 := r0.lt
  have l1 := r1.lt
  have l2 := r2.lt
  have l3 := r3.lt
  have l4 := r4.lt
  have l5 := r5.lt
  have l6 := r6.lt
  have hs := K.bel.size
  refine ⟨b0, b1, b2, b3, b4, b5, b6, e0, e1, e2, e3, e4, e5, e6, fun AA cA bx => ?_⟩
  generalize hc : Obj.cells _ _ = c
  have B : Below w.heap.size w (w.alloc c) := (Below.refl _ _).alloc (Nat.le_refl _) _
  refine ⟨below_then K.bel hs B, ?_, ?_, ?_, r0.of_block (B.block _ l0), r1.of_block (B.block _ l1), r2.of_block (B.block _ l2), r3.of_block (B.block _ l3), r4.of_block (B.block _ l4), r5.of_block (B.block _ l5), r6.of_block (B.block _ l6)⟩
  · simp only [List.nodup_cons, List.mem_cons, List.not_mem_nil, or_false, not_or, List.nodup_nil, and_true, not_false_eq_true]
    have f : ∀ {b : Nat}, b < w.heap.size → w.heap.size ≠ b := fun h e => Nat.lt_irrefl _ (e ▸ h)
    exact ⟨⟨f l0, f l1, f l2, f l3, f l4, f l5, f l6⟩, ⟨d01, d02, d03, d04, d05, d06⟩, ⟨d12, d13, d14, d15, d16⟩, ⟨d23, d24, d25, d26⟩, ⟨d34, d35, d36⟩, ⟨d45, d46⟩, d56⟩
  · intro b hb
    simp only [List.mem_cons, List.not_mem_nil, or_false] at hb
    rcases hb with rfl | rfl | rfl | rfl | rfl | rfl | rfl | rfl
    · exact hs
    · exact q0
    · exact q1
    · exact q2
    · exact q3
    · exact q4
    · exact q5
    · exact q6
  · rw [heap_alloc_new, ← hc]
end Go.Proofs.Ytimffpnfhkobkaa
/- The rows of arcs' numbers, put one arc after another. -/
namespace Go.Proofs.Ytimffpnfhkobkaa
open Go.RowKit
def rws (n : Nat) (L : List Arc) (j v : Nat) : List Nat := if v < n then (List.range j).filter (fun i => frL L i == v) else (List.range j).filter (fun i => ttL L i == v - n)
theorem rws_zero (n : Nat) (L : List Arc) (v : Nat) : rws n L 0 v = [] := by unfold rws; split <;> rfl
theorem rws_len (n : Nat) (L : List Arc) (j v : Nat) : (rws n L j v).length ≤ j := by
  unfold rws
  split
  · exact Nat.le_trans (List.length_filter_le _ _) (by simp)
  · exact Nat.le_trans (List.length_filter_le _ _) (by simp)
theorem rws_succ {n : Nat} {L : List Arc} {j : Nat} (hf : frL L j < n) (v : Nat) : rws n L (j + 1) v = if v = frL L j ∨ v = n + ttL L j then rws n L j v ++ [j] else rws n L j v := by
  unfold rws
  rw [List.range_succ, List.filter_append, List.filter_append]
  by_cases hv : v < n
  · rw [if_pos hv, if_pos hv]
    by_cases e : frL L j = v
    · rw [if_pos (.inl e.symm)]; simp [e]
    · rw [if_neg (by omega)]; simp [e]
  · rw [if_neg hv, if_neg hv]
    by_cases e : ttL L j = v - n
    · rw [if_pos (.inr (by omega))]; simp [e]
    · rw [if_neg (by omega)]; simp [e]
theorem rws_out {n : Nat} {L : List Arc} {v : Nat} (hv : v < n) {i : Nat} : i ∈ rws n L L.length v ↔ i < L.length ∧ frL L i = v := by
  unfold rws
  rw [if_pos hv]
  simp
theorem rws_in {n : Nat} {L : List Arc} {v : Nat} {i : Nat} : i ∈ rws n L L.length (n + v) ↔ i < L.length ∧ ttL L i = v := by
  unfold rws
  rw [if_neg (by omega)]
  simp
theorem RS.congr {w : World} {base E sz m : Nat} {VV V2 : Nat → Value} {K K2 : Nat → Nat} {X X2 : Nat → List Value} (h : RS w base E sz m VV K X) (e : ∀ j, j < m → VV j = V2 j ∧ K j = K2 j ∧ X j = X2 j) : RS w base E sz m V2 K2 X2 := by
  refine ⟨fun j hj => ?_, fun u v hu hv hne g hgu => ?_⟩
  · obtain ⟨e1, e2, e3⟩ := e j hj
    rw [← e1, ← e2, ← e3]
    exact h.rows j hj
  · rw [← (e u hu).1] at hgu
    rw [← (e v hv).1]
    exact h.apart u v hu hv hne g hgu
theorem RS.chg {w w' : World} {base E sz m : Nat} {VV : Nat → Value} {K : Nat → Nat} {X : Nat → List Value} {S : Nat → Prop} (h : RS w base E sz m VV K X) (c : Chg S w w') (hS : ∀ b, base ≤ b → ¬ S b) : RS w' base E sz m VV K X :=
  ⟨fun j hj => own_chg (h.rows j hj) c (fun _ hg => hS _ (own_ge (h.rows j hj) hg)), h.apart⟩
/-- Where the loop stands that puts the arcs. -/
structure Pt (n : Nat) (L : List Arc) (wM : World) (bo bi j : Nat) (w : World) (VV : Nat → Value) : Prop where
  chg : Chg (fun b => b = bo ∨ b = bi) wM w
  o : w.rowIs bo 26 n VV
  i : w.rowIs bi 26 n (fun v => VV (n + v))
  rs : RS w wM.heap.size 3 1 (2 * n) VV (fun v => (rws n L j v).length) (fun v => flat encN (rws n L j v))
theorem Pt.begin {n : Nat} {L : List Arc} {w0 wM : World} {A : Option Addr} {cap bx sb bo bi bl bf br bm bc : Nat} (h : Made n L w0 wM A cap bx sb bo bi bl bf br bm bc) : Pt n L wM bo bi 0 wM (fun _ => .slice none 0 0) := by
  refine ⟨Chg.refl _ _, h.o, h.i, fun j _ => ?_, fun u v _ _ _ g hg => by simp [Value.ownBlock] at hg⟩
  simp only [rws_zero]
  exact ⟨rfl, .inl ⟨rfl, rfl⟩⟩
theorem Pt.later {n : Nat} {L : List Arc} {wM w w' : World} {bo bi j : Nat} {VV : Nat → Value} (h : Pt n L wM bo bi j w VV) (b : Below w.heap.size w w') : Pt n L wM bo bi j w' VV :=
  ⟨h.chg.trans (chg_below b _) (fun _ _ h => h), h.o.of_block (b.block _ h.o.lt), h.i.of_block (b.block _ h.i.lt), h.rs.later b⟩
/-- Both rows have grown, and are stored. -/
theorem Pt.next {n : Nat} {L : List Arc} {wM wA wB : World} {bo bi j : Nat} {VV : Nat → Value} (h : Pt n L wM bo bi j wA VV) (hoi : bo ≠ bi) (ho : bo < wM.heap.size) (hi : bi < wM.heap.size)
    (hf : frL L j < n) (B : Below wM.heap.size wA wB) {V1 V2 : Value}
    (rs : RS wB wM.heap.size 3 1 (2 * n) (upd (upd VV (frL L j) V1) (n + ttL L j) V2) (upd (upd (fun v => (rws n L j v).length) (frL L j) ((rws n L j (frL L j)).length + 1)) (n + ttL L j) ((rws n L j (n + ttL L j)).length + 1))
      (upd (upd (fun v => flat encN (rws n L j v)) (frL L j) (flat encN (rws n L j (frL L j)) ++ encN j)) (n + ttL L j) (flat encN (rws n L j (n + ttL L j)) ++ encN j))) :
    Pt n L wM bo bi (j + 1) ((wB.setCell ⟨bo, frL L j, none⟩ V1).setCell ⟨bi, ttL L j, none⟩ V2) (upd (upd VV (frL L j) V1) (n + ttL L j) V2) := by
  have o1 := (h.o.of_block (B.block _ ho)).set (frL L j) V1
  have i1 := (row_set_ne (h.i.of_block (B.block _ hi)) (p := ⟨bo, frL L j, none⟩) (v := V1) (Ne.symm hoi)).set (ttL L j) V2
  have o2 := row_set_ne o1 (p := ⟨bi, ttL L j, none⟩) (v := V2) hoi
  refine ⟨?_, o2.congr (fun v hv => ?_), i1.congr (fun v hv => ?_), ?_⟩
  · have c1 : Chg (fun b => b = bo ∨ b = bi) wM wB := h.chg.trans (S' := fun b => wM.heap.size ≤ b) ⟨B.os, B.tape, B.output, B.size, fun b _ hn => B.block b (by omega)⟩ (fun b hb hge => by have : wM.heap.size ≤ b := hge; omega)
    exact (c1.trans (chg_set wB ⟨bo, frL L j, none⟩ V1) (fun b _ hb => .inl hb)).trans (chg_set _ ⟨bi, ttL L j, none⟩ V2) (fun b _ hb => .inr hb)
  · unfold upd
    rw [if_neg (show ¬ v = n + ttL L j by omega)]
  · unfold upd
    by_cases e : v = ttL L j
    · rw [if_pos e, if_pos (by omega)]
    · rw [if_neg e, if_neg (by omega), if_neg (by omega)]
  · have r1 := (rs.chg (chg_set wB ⟨bo, frL L j, none⟩ V1) (fun b hb e => by have : b = bo := e; omega)).chg (chg_set _ ⟨bi, ttL L j, none⟩ V2) (fun b hb e => by have : b = bi := e; omega)
    refine r1.congr (fun v _ => ⟨rfl, ?_, ?_⟩)
    · rw [rws_succ hf v]
      unfold upd
      by_cases e1 : v = n + ttL L j
      · rw [if_pos e1, if_pos (.inr e1), e1]; simp
      · rw [if_neg e1]
        by_cases e2 : v = frL L j
        · rw [if_pos e2, if_pos (.inl e2), e2]; simp
        · rw [if_neg e2, if_neg (by omega)]
    · rw [rws_succ hf v]
      unfold upd
      by_cases e1 : v = n + ttL L j
      · rw [if_pos e1, if_pos (.inr e1), e1, flat_append]; simp [flat]
      · rw [if_neg e1]
        by_cases e2 : v = frL L j
        · rw [if_pos e2, if_pos (.inl e2), e2, flat_append]; simp [flat]
        · rw [if_neg e2, if_neg (by omega)]
/-- A solver made of all that. -/
def svOf (n : Nat) (L : List Arc) (A : Option Addr) (cap sb bo bi bl bf bx br bm bc lo hi : Nat) : Sv :=
  { n := n, L := L, outs := fun v => rws n L L.length v, ins := fun v => rws n L L.length (n + v), sb := sb, bl := bl, bf := bf, bx := bx, br := br, bm := bm, bc := bc, AA := A, cA := cap, bo := bo, bi := bi, R := fun b => b = sb ∨ b = bo ∨ b = bi ∨ (lo ≤ b ∧ b < hi) ∨ (b < bx ∧ b < lo) }
theorem nodup_get {sb bo bi bl bf br bm bc : Nat} (h : [sb, bo, bi, bl, bf, br, bm, bc].Nodup) {w0 : Nat} (hg : ∀ b ∈ [sb, bo, bi, bl, bf, br, bm, bc], w0 ≤ b) {bx : Nat} (hx : bx < w0) : [bl, bf, bx, br, bm, bc].Nodup ∧ sb ∉ [bl, bf, bx, br, bm, bc] ∧ bo ∉ [bl, bf, bx, br, bm, bc] ∧ bi ∉ [bl, bf, bx, br, bm, bc] ∧ bo ≠ bi ∧ sb ≠ bo ∧ sb ≠ bi := by
  have f : ∀ b, b ∈ [sb, bo, bi, bl, bf, br, bm, bc] → bx ≠ b := fun b hb e => by have := hg b hb; omega
  have x0 := f sb (by simp)
  have x1 := f bo (by simp)
  have x2 := f bi (by simp)
  have x3 := f bl (by simp)
  have x4 := f bf (by simp)
  have x5 := f br (by simp)
  have x6 := f bm (by simp)
  have x7 := f bc (by simp)
  clear f hg hx
  simp only [List.nodup_cons, List.mem_cons, List.not_mem_nil, or_false, not_or, List.nodup_nil, and_true, not_false_eq_true] at h ⊢
  obtain ⟨⟨a1, a2, a3, a4, a5, a6, a7⟩, ⟨b2, b3, b4, b5, b6, b7⟩, ⟨c3, c4, c5, c6, c7⟩, ⟨d4, d5, d6, d7⟩, ⟨e5, e6, e7⟩, ⟨g6, g7⟩, g8⟩ := h
  exact ⟨⟨⟨d4, Ne.symm x3, d5, d6, d7⟩, ⟨Ne.symm x4, e5, e6, e7⟩, ⟨x5, x6, x7⟩, ⟨g6, g7⟩, g8⟩, ⟨a3, a4, Ne.symm x0, a5, a6, a7⟩, ⟨b3, b4, Ne.symm x1, b5, b6, b7⟩, ⟨c3, c4, Ne.symm x2, c5, c6, c7⟩, b2, a1, a2⟩
theorem rows_of {w : World} {base n : Nat} {VV : Nat → Value} {N : Nat → List Nat} {b : Nat} {R : Nat → Prop} (o : w.rowIs b 26 n VV) (rs : ∀ v, v < n → w.ownsRow base 3 1 (VV v) (N v).length (flat encN (N v))) (hR : ∀ g, base ≤ g → g < w.heap.size → R g) : RowsA w R b n N := by
  intro v hv
  have hr := rs v hv
  rcases hr.2 with ⟨h1, h2⟩ | ⟨g, cap, cur, h1, h2, h3, _⟩
  · refine ⟨none, 0, ?_, fun hl => by omega⟩
    rw [o.cell hv, h1, h2]
  · refine ⟨some ⟨g, 0, none⟩, cap, ?_, fun _ => ⟨g, 0, rfl, hR g h2 (Array.getElem?_eq_some_iff.1 h3).1, fun j i hj => ?_⟩⟩
    · rw [o.cell hv, h1]
    · rw [Nat.zero_add]
      exact own_nat hr h1 hj
theorem Pt.done {n : Nat} {L : List Arc} {w1 wM w : World} {A : Option Addr} {cap bx sb bo bi bl bf br bm bc : Nat} {VV : Nat → Value} (k : Okg n L) (M : Made n L w1 wM A cap bx sb bo bi bl bf br bm bc) (h : Pt n L wM bo bi L.length w VV)
    {X : Nat → Int} (RX : w1.rowIs bx 3 n (fun v => .int .i64 (X v)))
    (hA : 0 < L.length → ∃ b off, A = some ⟨b, off, none⟩ ∧ b < bx ∧ ∀ i a, L[i]? = some a → w1.cell? ⟨b, off + i * 3, none⟩ = some (.int .i64 a.1) ∧ w1.cell? ⟨b, off + i * 3 + 1, none⟩ = some (.int .i64 a.2.1) ∧ w1.cell? ⟨b, off + i * 3 + 2, none⟩ = some (.int .i64 a.2.2)) :
    (svOf n L A cap sb bo bi bl bf bx br bm bc wM.heap.size w.heap.size).ok ∧ (svOf n L A cap sb bo bi bl bf bx br bm bc wM.heap.size w.heap.size).st w (fun v => nf (gfL n L) (wtL L) v L.length) (fun _ => 0) X (fun _ => 0) (fun _ => (0, false)) (fun _ => false) := by
  have hx := RX.lt
  have hs := M.bel.size
  have hw := h.chg.size
  obtain ⟨n1, n2, n3, n4, n5, n6, n7⟩ := nodup_get M.nd M.ge hx
  have lM : ∀ b, b ∈ [bl, bf, bx, br, bm, bc] → b < wM.heap.size := fun b hb => by
    simp only [List.mem_cons, List.not_mem_nil, or_false] at hb
    rcases hb with rfl | rfl | rfl | rfl | rfl | rfl
    · exact M.l.lt
    · exact M.f.lt
    · omega
    · exact M.r.lt
    · exact M.m.lt
    · exact M.c.lt
  have ls : sb < wM.heap.size := (Array.getElem?_eq_some_iff.1 M.top).1
  have lo := M.o.lt
  have li := M.i.lt
  have gx : ∀ b, b ∈ [bl, bf, bx, br, bm, bc] → ¬ b < bx := fun b hb => by
    have hg := M.ge b
    simp only [List.mem_cons, List.not_mem_nil, or_false] at hb hg
    rcases hb with rfl | rfl | rfl | rfl | rfl | rfl
    · have := hg (by simp); omega
    · have := hg (by simp); omega
    · omega
    · have := hg (by simp); omega
    · have := hg (by simp); omega
    · have := hg (by simp); omega
  have keep : ∀ {b t : Nat} {m : Nat} {f : Nat → Value}, b ∈ [bl, bf, bx, br, bm, bc] → wM.rowIs b t m f → w.rowIs b t m f := fun hb r => row_chg r h.chg (by
    rintro (rfl | rfl)
    · exact n3 hb
    · exact n4 hb)
  have rb : ∀ {b : Nat}, b < bx → w.heap[b]? = w1.heap[b]? := fun {b} hb => by
    have hg1 := M.ge bo (by simp)
    have hg2 := M.ge bi (by simp)
    rw [h.chg.block b (by omega) (by omega), M.bel.block b (by omega)]
  refine ⟨⟨k, n1, ?_, ?_, ?_, ?_, ?_, ?_, ?_⟩, ⟨⟨?_, .inl rfl, .inr (.inl rfl), .inr (.inr (.inl rfl)), ?_, ?_, ?_, ?_⟩, ?_, ?_, ?_, ?_, ?_, ?_⟩⟩
  · intro b hb hm
    rcases hb with rfl | rfl | rfl | ⟨hb, _⟩ | ⟨hb, _⟩
    · exact n2 hm
    · exact n3 hm
    · exact n4 hm
    · have := lM b hm; omega
    · exact gx b hm hb
  · exact fun v hv i hi => (rws_out hv).1 hi
  · exact fun i hi => (rws_out (k.at_ hi).2.1).2 ⟨hi, rfl⟩
  · exact fun v hv => rws_len _ _ _ _
  · exact fun v hv i hi => rws_in.1 hi
  · exact fun i hi => rws_in.2 ⟨hi, rfl⟩
  · exact fun v hv => rws_len _ _ _ _
  · intro b hb
    rcases hb with rfl | rfl | rfl | ⟨_, hb⟩ | ⟨_, hb⟩ <;> omega
  · exact (h.chg.block sb ls (by rintro (e | e); exact n6 e; exact n7 e)).trans M.top
  · intro hl
    obtain ⟨b, off, e, hb, hc⟩ := hA hl
    refine ⟨b, off, e, .inr (.inr (.inr (.inr ⟨hb, by omega⟩))), fun i a hi => ?_⟩
    obtain ⟨c1, c2, c3⟩ := hc i a hi
    exact ⟨(World.cell?_of_block (rb hb)).trans c1, (World.cell?_of_block (rb hb)).trans c2, (World.cell?_of_block (rb hb)).trans c3⟩
  · exact rows_of (n := n) h.o (fun v (hv : v < n) => h.rs.rows v (by omega)) (fun g h1 h2 => .inr (.inr (.inr (.inl ⟨h1, h2⟩))))
  · exact rows_of (n := n) h.i (fun v (hv : v < n) => h.rs.rows (n + v) (by omega)) (fun g h1 h2 => .inr (.inr (.inr (.inl ⟨h1, h2⟩))))
  · exact keep (b := bl) (by simp) M.l
  · exact keep (b := bf) (by simp) M.f
  · exact keep (b := bx) (by simp) (RX.of_block (M.bel.block bx hx))
  · exact keep (b := br) (by simp) M.r
  · exact keep (b := bm) (by simp) M.m
  · exact keep (b := bc) (by simp) M.c
end Go.Proofs.Ytimffpnfhkobkaa
