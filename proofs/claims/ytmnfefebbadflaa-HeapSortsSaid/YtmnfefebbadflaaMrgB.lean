/- A heap that another one is merged into: what it has then. -/
import Derived.Test.YtmnfefebbadflaaMrgA
import Derived.LaidEqlPtr
namespace Go.Proofs.Ytmnfefebbadflaa
open Go.RowKit
theorem least_parts {m : List One} {p : Nat} {x : One} (hp : leastTo m m.length = p) (hl : p < m.length) (hx : m[p]? = some x) :
    m = m.take p ++ x :: m.drop (p + 1) ∧ wTo m p m.length = m.take p ++ m.drop (p + 1) ∧ (∀ a ∈ m.take p, kO x < kO a) ∧ (∀ b ∈ m.drop (p + 1), kO x ≤ kO b) := by
  obtain ⟨p', h1, h2, h3, h4⟩ := least_spec m m.length (Nat.le_refl _) (by omega)
  have e : p' = p := by omega
  subst e
  have hg : m[p'] = x := (List.getElem?_eq_some_iff.1 hx).2
  have hb : m[p']! = x := by rw [getElem!_pos m p' hl, hg]
  refine ⟨?_, ?_, ?_, ?_⟩
  · have h := (List.take_append_drop p' m).symm
    rw [List.drop_eq_getElem_cons hl, hg] at h
    exact h
  · rw [wTo_erase m p' m.length (Nat.le_refl _), List.take_length, List.eraseIdx_eq_take_drop_succ]
  · intro a ha
    obtain ⟨i, hi⟩ := List.getElem?_of_mem ha
    rw [List.getElem?_take] at hi
    split at hi
    · have hil := (List.getElem?_eq_some_iff.1 hi).1
      have h5 := h3 i (by assumption)
      rw [hb, getElem!_pos m i hil, (List.getElem?_eq_some_iff.1 hi).2] at h5
      exact h5
    · cases hi
  · intro a ha
    obtain ⟨i, hi⟩ := List.getElem?_of_mem ha
    rw [List.getElem?_drop] at hi
    have hil := (List.getElem?_eq_some_iff.1 hi).1
    have h5 := h4 (p' + 1 + i) hil
    rw [hb, getElem!_pos m _ hil, (List.getElem?_eq_some_iff.1 hi).2] at h5
    exact h5
theorem least_push {m N : List One} {p : Nat} {x : One} (hp : leastTo m m.length = p) (hl : p < m.length) (hx : m[p]? = some x) (h : Stb.Sts kO (wTo m p m.length) N) : Stb.Sts kO m (x :: N) := by
  obtain ⟨e1, e2, h3, h4⟩ := least_parts hp hl hx
  rw [e2] at h
  rw [e1]
  exact h.push h3 h4
theorem least_pop {m N : List One} {p : Nat} {x : One} (hp : leastTo m m.length = p) (hl : p < m.length) (hx : m[p]? = some x) (h : Stb.Sts kO m N) : ∃ N', N = x :: N' ∧ Stb.Sts kO (wTo m p m.length) N' := by
  obtain ⟨e1, e2, h3, h4⟩ := least_parts hp hl hx
  rw [e1] at h
  obtain ⟨N', h5, h6⟩ := h.pop h3 h4
  exact ⟨N', h5, by rw [e2]; exact h6⟩
/-- One has been taken out and is to be pushed, or there is none. -/
def Pend (ok : Bool) (x : One) (P mo m0 : List One) : Prop := if ok = true then ∀ N, Stb.Sts kO mo N → Stb.Sts kO m0 (P ++ x :: N) else mo = [] ∧ Stb.Sts kO m0 P
abbrev lf : Value := .func (.func 12) #[] #[]
theorem blk_apart {w : World} {hb xb base : Nat} {F V : Value} {t : Int} {l : List (One × Int)} {c : Array Value} (H : HOne.Rep w hb F V t base l) (hx : w.heap[xb]? = some (.cells c 26)) : ¬(xb = hb ∨ V.ownBlock = some xb) := by
  rintro (e | e)
  · subst e
    rw [H.blk] at hx; cases hx
  · obtain ⟨cur', hc'⟩ := row_block H.row e
    rw [hx] at hc'; cases hc'
theorem chg_block {w w' : World} {S : Nat → Prop} {b : Nat} {o : Obj} (h : w.heap[b]? = some o) (c : Chg S w w') (hs : ¬S b) : w'.heap[b]? = some o := (c.block b (Array.getElem?_eq_some_iff.1 h).1 hs).trans h
/-- What a pop says of what there was. -/
def PopR (ok : Bool) (x : One) (mo mo' : List One) : Prop := if ok = true then (∀ N, Stb.Sts kO mo' N → Stb.Sts kO mo (x :: N)) ∧ mo.length = mo'.length + 1 else mo = [] ∧ mo' = []
theorem pop1_any {w : World} {ob base : Nat} {Vo : Value} {tq : Int} {lo : List (One × Int)} {mo : List One} {so : List (One × Int)} (Ro : HOne.Rep w ob lf Vo tq base lo) (So : Sim lo tq mo so) (hl : mo.length ≤ 100000) :
    Calls Try.prog 14 #[.pointer (some ⟨ob, 0, none⟩)] w fun e w' => ∃ ok x Vo' lo' mo' so', e = .returned (.tuple #[.agg #[.int .i64 x.1, .int .i64 x.2], .bool ok]) ∧ Vo'.ownBlock = Vo.ownBlock ∧ HOne.Rep w' ob lf Vo' tq base lo' ∧ Sim lo' tq mo' so' ∧ PopR ok x mo mo' ∧ Chg (fun b => b = ob ∨ Vo.ownBlock = some b) w w' := by
  match lo, Ro, So with
  | [], Ro, So =>
    have hm : mo = [] := List.eq_nil_of_length_eq_zero (by rw [← So.len]; rfl)
    refine (HOne.pop_none Ro).mono ?_
    rintro e w' ⟨rfl, B⟩
    exact ⟨false, (0, 0), Vo, [], mo, so, rfl, rfl, Ro.later B, So, ⟨hm, hm⟩, chg_below B _⟩
  | a :: r, Ro, So =>
    have hlen := So.len
    obtain ⟨p, s', h1, h2, h3, h4⟩ := So.pop
    refine (HOne.pop_some lessO Ro (by simp at hlen; omega)).mono ?_
    rintro e w' ⟨rfl, ⟨V', hv, R'⟩, C⟩
    refine ⟨true, a.1, V', _, _, s', rfl, hv, R', h4, ⟨fun N hN => least_push h1 h2 h3 hN, ?_⟩, C⟩
    have h5 := h4.len
    rw [popL_one] at h5
    simp at hlen
    omega
theorem info_heap : (Try.prog.info? 78).map (fun i => i.size != 0) = some true := by kernel_rfl
theorem eql_heaps {w : World} {hb ob base base' : Nat} {F F' V V' : Value} {t t' : Int} {l l' : List (One × Int)} (H : HOne.Rep w hb F V t base l) (K : HOne.Rep w ob F' V' t' base' l') (hne : hb ≠ ob) :
    (binOp .eql 23 (.pointer (some ⟨hb, 0, none⟩)) (.pointer (some ⟨ob, 0, none⟩))).run Try.prog w = .ok (.bool false) w := by
  obtain ⟨j, hj, hs⟩ := Option.map_eq_some_iff.1 info_heap
  exact run_eql_ptr_other w (te := 78) (j := j) Try.underlying23 hj (by simpa using hs) (fun e => hne (by cases e; rfl)) H.blk K.blk
theorem eql_self (hb : Nat) (w : World) : (binOp .eql 23 (.pointer (some ⟨hb, 0, none⟩)) (.pointer (some ⟨hb, 0, none⟩))).run Try.prog w = .ok (.bool true) w := by
  obtain ⟨j, hj, hs⟩ := Option.map_eq_some_iff.1 info_heap
  exact run_eql_ptr_same w (te := 78) (j := j) _ Try.underlying23 hj
theorem rep_apart {w : World} {hb ob base base' : Nat} {F F' V V' : Value} {t t' : Int} {l l' : List (One × Int)} (H : HOne.Rep w hb F V t base l) (K : HOne.Rep w ob F' V' t' base' l') : V.ownBlock ≠ some ob := fun e => by
  obtain ⟨cur, hc⟩ := row_block H.row e
  have hb1 := K.blk
  rw [hb1] at hc
  cases hc
theorem rep_keep {w w' : World} {hb ob base base' : Nat} {F F' V V' : Value} {t t' : Int} {l l' : List (One × Int)} (H : HOne.Rep w hb F V t base l) (K : HOne.Rep w ob F' V' t' base' l') (hne : hb ≠ ob) (hV : ∀ g, V'.ownBlock = some g → V.ownBlock ≠ some g)
    (C : Chg (fun b => b = ob ∨ V'.ownBlock = some b) w w') : HOne.Rep w' hb F V t base l :=
  H.chg C (by rintro (e | e); exact hne e; exact rep_apart K H e) (fun g hg => by
    rintro (e | e)
    · subst e; exact rep_apart H K hg
    · exact hV g e hg)
/-- A round of a merge. -/
def MI (w wr : World) (hb ob baseh baseo : Nat) (Vh0 Vo0 : Value) (tq : Int) (mh mo0 : List One) (g : Nat) (ok : Bool) (x : One) (bx : Nat) : Prop :=
  ∃ Vh th lh sh P Vo lo mo so, Vo.ownBlock = Vo0.ownBlock ∧ (Vh.ownBlock = Vh0.ownBlock ∨ ∃ k, Vh.ownBlock = some k ∧ w.heap.size ≤ k) ∧ HOne.Rep wr hb lf Vh th baseh lh ∧ Sim lh th (mh ++ P) sh ∧ HOne.Rep wr ob lf Vo tq baseo lo ∧ Sim lo tq mo so ∧ Pend ok x P mo mo0 ∧
    0 ≤ th ∧ th + mo.length + (if ok then 1 else 0) ≤ 200000 ∧ mh.length + P.length + mo.length + (if ok then 1 else 0) ≤ 100000 ∧ wr.heap[bx]? = some (.cells #[.int .i64 x.1, .int .i64 x.2] 26) ∧ w.heap.size ≤ bx ∧
    Chg (fun b => b = hb ∨ b = ob ∨ Vh0.ownBlock = some b ∨ Vo0.ownBlock = some b) w wr ∧ mo.length + (if ok then 1 else 0) ≤ g
theorem pend_pop {ok : Bool} {x : One} {P mo mo' mo0 : List One} (h : ∀ N, Stb.Sts kO mo N → Stb.Sts kO mo0 (P ++ N)) (k : PopR ok x mo mo') : Pend ok x P mo' mo0 ∧ mo'.length + (if ok then 1 else 0) = mo.length := by
  cases ok
  · obtain ⟨rfl, rfl⟩ := k
    refine ⟨⟨rfl, ?_⟩, rfl⟩
    have := h [] ⟨by simp [Stb.Srt], Stb.Same.refl _⟩
    simpa using this
  · obtain ⟨k1, k2⟩ := k
    exact ⟨fun N hN => h _ (k1 N hN), by simp [k2]⟩
theorem mi_next {w wX wP wB wC : World} {hb ob baseh baseo g : Nat} {Vh0 Vo0 VX VY VP VC : Value} {tX tq : Int} {lX lY lC : List (One × Int)} {mh mo P mY mC : List One} {sX sC : List (One × Int)} {x x2 : One} {ok2 : Bool} {c0 c1 : Value}
    (hne : hb ≠ ob) (hap : ∀ g, VX.ownBlock = some g → VY.ownBlock ≠ some g) (RX : HOne.Rep wX hb lf VX tX baseh lX) (RY : HOne.Rep wX ob lf VY tq baseo lY) (SX : Sim lX tX (mh ++ P) sX)
    (RYP : HOne.Rep wP ob lf VY tq baseo lY) (RP : HOne.Rep wP hb lf VP (tX + 1) baseh (pushL ltO lX x (tX + 1))) (hvp : VP.ownBlock = VX.ownBlock ∨ ∃ k, VP.ownBlock = some k ∧ wX.heap.size ≤ k) (CP : Chg (fun b => b = hb ∨ VX.ownBlock = some b) wX wP)
    (BB : Below wP.heap.size wP wB) (hnb : wB.heap[wP.heap.size]? = some (.cells #[.int .i64 x.1, .int .i64 x.2] 26)) (hvc : VC.ownBlock = VY.ownBlock) (RC : HOne.Rep wC ob lf VC tq baseo lC) (SC : Sim lC tq mC sC) (hpr : PopR ok2 x2 mY mC)
    (CC : Chg (fun b => b = ob ∨ VY.ownBlock = some b) wB wC) (hnC : wC.heap[wP.heap.size]? = some (.cells #[.int .i64 x.1, .int .i64 x.2] 26)) (C : Chg (fun b => b = hb ∨ b = ob ∨ Vh0.ownBlock = some b ∨ Vo0.ownBlock = some b) w wX)
    (hvy : VY.ownBlock = Vo0.ownBlock) (hvx : VX.ownBlock = Vh0.ownBlock ∨ ∃ k, VX.ownBlock = some k ∧ w.heap.size ≤ k) (hpd : Pend true x P mY mo) (t0 : 0 ≤ tX) (t1 : tX + mY.length + (if true then 1 else 0) ≤ 200000) (l1 : mh.length + P.length + mY.length + (if true then 1 else 0) ≤ 100000) (hg : mY.length + (if true then 1 else 0) ≤ g)
    (e0 : c0 = .int .i64 x2.1) (e1 : c1 = .int .i64 x2.2) : MI w ((wC.setCell ⟨wP.heap.size, 0, none⟩ c0).setCell ⟨wP.heap.size, 1, none⟩ c1) hb ob baseh baseo Vh0 Vo0 tq mh mo (g - 1) ok2 x2 wP.heap.size := by
  subst e0 e1
  obtain ⟨hp, hpl⟩ := pend_pop (P := P ++ [x]) (mo0 := mo) (fun N h => by simpa using hpd N h) hpr
  obtain ⟨wD, hwD⟩ : ∃ wD, (wC.setCell ⟨wP.heap.size, 0, none⟩ (.int .i64 x2.1)).setCell ⟨wP.heap.size, 1, none⟩ (.int .i64 x2.2) = wD := ⟨_, rfl⟩
  rw [hwD]
  have c : Chg (fun b => b = wP.heap.size) wC wD := by rw [← hwD]; exact ((Chg.refl (fun b => b = wP.heap.size) wC).setCell (p := ⟨wP.heap.size, 0, none⟩) (fun _ => rfl) _).setCell (p := ⟨wP.heap.size, 1, none⟩) (fun _ => rfl) _
  have hPB : wP.heap.size < wB.heap.size := (Array.getElem?_eq_some_iff.1 hnb).1
  have hD : wD.heap[wP.heap.size]? = some (.cells #[.int .i64 x2.1, .int .i64 x2.2] 26) := by
    rw [← hwD]
    have h1 : (wC.setCell ⟨wP.heap.size, 0, none⟩ (.int .i64 x2.1)).heap[wP.heap.size]? = some (.cells #[.int .i64 x2.1, .int .i64 x.2] 26) := heap_setCell_same wC wP.heap.size 0 _ _ _ hnC
    exact heap_setCell_same _ wP.heap.size 1 _ _ _ h1
  have hVY : ∀ k, VY.ownBlock = some k → k < wX.heap.size := fun k h => own_lt RY.row h
  have hap2 : ∀ g, VY.ownBlock = some g → VP.ownBlock ≠ some g := fun g h1 h2 => by
    rcases hvp with h | ⟨k, h, hk⟩
    · exact hap g (h.symm.trans h2) h1
    · rw [h] at h2
      cases h2
      have := hVY _ h1
      omega
  have RB := RP.later BB
  have RYB := RYP.later BB
  have RD := rep_keep RB RYB hne hap2 CC
  have hsz : wX.heap.size ≤ wP.heap.size := CP.size
  have hb1 := RX.lt
  have ho1 := RY.lt
  simp only [if_true] at t1 l1 hg
  have SP := SX.push x
  rw [List.append_assoc] at SP
  refine ⟨VP, tX + 1, _, _, P ++ [x], VC, lC, mC, sC, hvc.trans hvy, ?_, RD.chg c (by omega) (fun q hq e => ?_), SP, RC.chg c (by omega) (fun q hq e => ?_), SC, hp, by omega, ?_, ?_, hD, Nat.le_trans C.size hsz, ?_, ?_⟩
  · rcases hvp with h | ⟨k, h, hk⟩
    · rw [h]; exact hvx
    · exact .inr ⟨k, h, Nat.le_trans C.size hk⟩
  · have := own_lt RP.row hq; omega
  · rw [hvc] at hq; have := hVY q hq; omega
  · split at hpl <;> simp_all <;> omega
  · split at hpl <;> simp_all <;> omega
  · have C1 := C.trans CP (fun b hb' h => by
      rcases h with h | h
      · exact .inl h
      · rcases hvx with e | ⟨k, e, hk⟩
        · exact .inr (.inr (.inl (by rw [← e]; exact h)))
        · rw [e] at h; cases h; omega)
    have C2 := C1.trans (chg_below BB (fun _ => False)) (fun _ _ h => h.elim)
    have C3 := C2.trans CC (fun b hb' h => by
      rcases h with h | h
      · exact .inr (.inl h)
      · exact .inr (.inr (.inr (by rw [← hvy]; exact h))))
    exact C3.trans c (fun b hb' h => by have := C.size; omega)
  · split at hpl <;> simp_all <;> omega
set_option maxRecDepth 100000 in
set_option maxHeartbeats 4000000 in
theorem merge_any {w : World} {hb ob baseh baseo : Nat} {Vh Vo : Value} {th tq : Int} {lh lo : List (One × Int)} {mh mo : List One} {sh so : List (One × Int)} (Rh : HOne.Rep w hb lf Vh th baseh lh) (Sh : Sim lh th mh sh) (Ro : HOne.Rep w ob lf Vo tq baseo lo) (So : Sim lo tq mo so)
    (hne : hb ≠ ob) (hV : ∀ g, Vo.ownBlock = some g → Vh.ownBlock ≠ some g) (hl1 : mh.length + mo.length ≤ 100000) (ht : 0 ≤ th ∧ th + mo.length ≤ 200000) (hbh : baseh ≤ w.heap.size) :
    Calls Try.prog 32 #[.pointer (some ⟨hb, 0, none⟩), .pointer (some ⟨ob, 0, none⟩)] w fun e w' => e = .returned (.tuple #[]) ∧ (∃ Vh' th' lh' sh' M Vo' so', HOne.Rep w' hb lf Vh' th' baseh lh' ∧ Sim lh' th' (mh ++ M) sh' ∧ Stb.Sts kO mo M ∧ HOne.Rep w' ob lf Vo' tq baseo [] ∧ Sim [] tq [] so') ∧ Chg (fun b => b = hb ∨ b = ob ∨ Vh.ownBlock = some b ∨ Vo.ownBlock = some b) w w' := by
  have HRh := Lib.hid Rh
  have HSh := Lib.hid Sh
  have HRo := Lib.hid Ro
  have HSo := Lib.hid So
  have HV := Lib.hid hV
  have HNE := Lib.hid hne
  have hlm : mo.length ≤ 100000 := by omega
  have hne' : ¬hb = ob := hne
  have hne2 : (hb == ob) = false := by simp [hne]
  obtain ⟨ht0, ht1⟩ := ht
  obtain ⟨M0, hM0⟩ : ∃ M0, mo.length = M0 := ⟨_, rfl⟩
  rw [hM0] at hl1 ht1
  have HM0 := Lib.hid hM0
  clear Rh Sh Ro So hV hne hM0
  have heq := eql_heaps HRh.out HRo.out HNE.out
  go_enter Try.func32, Try.ntmps32
  go_wp2_with fail
  refine (pop1_any HRo.out HSo.out hlm).mono ?_
  rintro e w1 ⟨ok, x, Vo', lo', mo', so', rfl, hvo, Ro1, So1, hpr, C1⟩
  have BA : Below w1.heap.size w1 (w1.alloc (.cells #[.int .i64 x.1, .int .i64 x.2] 26)) := (Below.refl _ _).alloc (Nat.le_refl _) _
  have HMI : Hid (MI w (w1.alloc (.cells #[.int .i64 x.1, .int .i64 x.2] 26)) hb ob baseh baseo Vh Vo tq mh mo (M0 + 1) ok x w1.heap.size) := Lib.hid (by
    obtain ⟨hp, hpl⟩ := pend_pop (P := []) (mo0 := mo) (fun N h => h) hpr
    have hpl' := HM0.out
    refine ⟨Vh, th, lh, sh, [], Vo', lo', mo', so', hvo, .inl rfl, (rep_keep HRh.out HRo.out HNE.out HV.out C1).later BA, by simpa using HSh.out, Ro1.later BA, So1, hp, ht0, ?_, ?_, heap_at rfl, C1.size, C1.trans (chg_below BA (fun _ => False)) (by simp) |>.mono ?_, ?_⟩
    · split at hpl <;> simp_all <;> omega
    · split at hpl <;> simp_all <;> omega
    · rintro k _ (h | h)
      · exact .inr (.inl h)
      · exact .inr (.inr (.inr h))
    · omega)
  clear BA hvo Ro1 So1 hpr C1 hne2 hne' heq
  go_wp2_with fail
  go_loopg [4, 5] (M0 + 1) (fun g p q wr => ∃ (x : One) (ok : Bool) (bx : Nat), p = .pointer (some ⟨bx, 0, none⟩) ∧ q = .bool ok ∧ MI w wr hb ob baseh baseo Vh Vo tq mh mo g ok x bx)
  case atStart => exact ⟨x, ok, w1.heap.size, rfl, rfl, HMI.out⟩
  case round =>
    obtain ⟨x, ok, bx, rfl, rfl, I⟩ := hrel
    obtain ⟨wX, rfl⟩ : ∃ q : World, q = wr := ⟨_, rfl⟩
    obtain ⟨VX, tX, lX, sX, P, VY, lY, mY, sY, hvy, hvx, RX, SX, RY, SY, hpd, t0, t1, l1, hbx, hb0, C, hg⟩ := I
    clear HMI
    have HVY := Lib.hid hvy
    have HVX := Lib.hid hvx
    have HRX := Lib.hid RX
    have HSX := Lib.hid SX
    have HRY := Lib.hid RY
    have HSY := Lib.hid SY
    have HPD := Lib.hid hpd
    have HT0 := Lib.hid t0
    have HT1 := Lib.hid t1
    have HL1 := Lib.hid l1
    have HBX := Lib.hid hbx
    have HB0 := Lib.hid hb0
    have HC := Lib.hid C
    have HG := Lib.hid hg
    clear hvy hvx RX SX RY SY hpd t0 t1 l1 hb0 C hg
    cases ok
    · clear hbx
      go_wp2_with fail
      obtain ⟨hm, hst⟩ := HPD.out
      subst hm
      have hl0 : lY = [] := List.eq_nil_of_length_eq_zero HSY.out.len
      subst hl0
      go_end0
      exact ⟨rfl, ⟨VX, tX, lX, sX, P, VY, sY, HRX.out, HSX.out, hst, HRY.out, HSY.out⟩, HC.out⟩
    · have c0 : wX.cell? ⟨bx, 0, none⟩ = some (.int .i64 x.1) := (Cl.of_block hbx (j := 0) rfl).cell
      have c1 : wX.cell? ⟨bx, 1, none⟩ = some (.int .i64 x.2) := (Cl.of_block hbx (j := 1) rfl).cell
      have hlx : lX.length ≤ 1000000000 := by have h1 := HSX.out.len; have h2 := HL1.out; simp at h1 h2; omega
      have htx : tX ≤ 1000000000 := by have h1 := HT1.out; simp at h1; omega
      have HAP : Hid (∀ g, VX.ownBlock = some g → VY.ownBlock ≠ some g) := Lib.hid (fun g hg1 hg2 => by
        have hy := HVY.out
        rw [hg2] at hy
        rcases HVX.out with h | ⟨k, h, hk⟩
        · exact HV.out g hy.symm (h.symm.trans hg1)
        · have := own_lt HRo.out.row hy.symm
          rw [h] at hg1
          cases hg1
          omega)
      clear hbx
      go_wp2_with fail
      refine (HOne.push_any lessO HRX.out hlx HT0.out htx (by have := HC.out.size; omega)).mono ?_
      rintro e wP ⟨rfl, ⟨VP, hvp, RP⟩, CP⟩
      have RYP := rep_keep HRY.out HRX.out HNE.out.symm HAP.out CP
      have hbP : wP.heap[bx]? = some (.cells #[.int .i64 x.1, .int .i64 x.2] 26) := chg_block HBX.out CP (blk_apart HRX.out HBX.out)
      have HRYP := Lib.hid RYP
      have HRP := Lib.hid RP
      have HVP := Lib.hid hvp
      have HCP := Lib.hid CP
      have c2 : wP.cell? ⟨bx, 0, none⟩ = some (.int .i64 x.1) := (Cl.of_block hbP (j := 0) rfl).cell
      have c3 : wP.cell? ⟨bx, 1, none⟩ = some (.int .i64 x.2) := (Cl.of_block hbP (j := 1) rfl).cell
      obtain ⟨wB, hwB⟩ : ∃ wB, wP.alloc (.cells #[.int .i64 x.1, .int .i64 x.2] 26) = wB := ⟨_, rfl⟩
      have BB : Below wP.heap.size wP wB := by rw [← hwB]; exact (Below.refl _ _).alloc (Nat.le_refl _) _
      have hnb : wB.heap[wP.heap.size]? = some (.cells #[.int .i64 x.1, .int .i64 x.2] 26) := by rw [← hwB]; exact heap_at rfl
      have HNB := Lib.hid hnb
      have HBB := Lib.hid BB
      clear RYP RP hvp CP hbP BB hnb c0 c1
      go_wp2_with fail
      refine (pop1_any (HRYP.out.later HBB.out) HSY.out (by have := HL1.out; omega)).mono ?_
      rintro e wC ⟨ok2, x2, VC, lC, mC, sC, rfl, hvc, RC, SC, hpr, CC⟩
      have hnC := chg_block HNB.out CC (blk_apart (HRYP.out.later HBB.out) HNB.out)
      have d0 : wC.cell? ⟨wP.heap.size, 0, none⟩ = some (.int .i64 x.1) := (Cl.of_block hnC (j := 0) rfl).cell
      have d1 : wC.cell? ⟨wP.heap.size, 1, none⟩ = some (.int .i64 x.2) := (Cl.of_block hnC (j := 1) rfl).cell
      have d2 : wC.frozen? ⟨wP.heap.size, 0, none⟩ = false := (Cl.of_block hnC (j := 0) (v := .int .i64 x.1) rfl).free
      have d3 : wC.frozen? ⟨wP.heap.size, 1, none⟩ = false := (Cl.of_block hnC (j := 1) (v := .int .i64 x.2) rfl).free
      have HK := Lib.hid (mi_next (c0 := .int .i64 x2.1) (c1 := .int .i64 x2.2) HNE.out HAP.out HRX.out HRY.out HSX.out HRYP.out HRP.out HVP.out HCP.out HBB.out HNB.out hvc RC SC hpr CC hnC HC.out HVY.out HVX.out HPD.out HT0.out HT1.out HL1.out HG.out rfl rfl)
      clear hvc RC SC hpr CC hnC HCP HRYP HRP HVP
      go_wp2_with fail
      go_roundg (gk - 1)
      case measure => have := HG.out; simp at this; omega
      case rel => exact ⟨x2, ok2, wP.heap.size, rfl, rfl, HK.out⟩
end Go.Proofs.Ytmnfefebbadflaa
