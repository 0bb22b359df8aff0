/- The order of a graph's nodes: first, the rows of what is next, and how many arcs are open. -/
import Derived.Test.YtjgloineooadoaaGreatDoorMgZ4
import Derived.Deep.RegionLaw
namespace Go.Proofs.YtjgloineooadoaaGreatDoor
open Go.RowKit
theorem nxt_snoc (G : Gr) (f t v : Nat) : nxt (G ++ [(f, t)]) v = if v = f then nxt G f ++ [t] else nxt G v := by
  unfold nxt
  rw [List.filter_append, List.map_append]
  by_cases h : v = f
  · subst h; simp
  · have : ¬ f = v := fun e => h e.symm
    simp [h, this]
theorem cnt_snoc (G : Gr) (f t v : Nat) : cnt (G ++ [(f, t)]) [] v = cnt G [] v + if v = t then 1 else 0 := by
  unfold cnt
  rw [List.countP_append]
  by_cases h : v = t
  · subst h; simp
  · have : ¬ t = v := fun e => h e.symm
    simp [h, this]
theorem cnt_len (G : Gr) (l : List Nat) (v : Nat) : cnt G l v ≤ G.length := List.countP_le_length
theorem nxt_len (G : Gr) (v : Nat) : (nxt G v).length ≤ G.length := by unfold nxt; rw [List.length_map]; exact List.length_filter_le _ _
theorem NX.push' {wA wx w' : World} {H n : Nat} {VV : Nat → Value} {N : Nat → List Nat} (h : NX wA H n VV N) (hb : Below wA.heap.size wA wx) {f t : Nat} (hf : f < n) {V : Value} (hV : VV f = V) {q cq : Nat}
    (hown : w'.ownsRow (H + 2) 3 1 (.slice (some ⟨q, 0, none⟩) ((N f).length + 1) cq) ((N f).length + 1) (flat encN (N f) ++ encN t)) (hg : wx.grownBy w' V.ownBlock) (hat : V.ownBlock = some q ∨ q = wx.heap.size)
    {ab : Nat} {ca : Array Value} {tA : TypeId} (hQ : wA.heap[ab]? = some (.cells ca tA)) (hne : tA ≠ 3) :
    NX (w'.setCell ⟨H, f, none⟩ (.slice (some ⟨q, 0, none⟩) ((N f).length + 1) cq)) H n (fun v => if v = f then .slice (some ⟨q, 0, none⟩) ((N f).length + 1) cq else VV v) (fun v => if v = f then N f ++ [t] else N v) ∧
      (∃ u, w'.cell? ⟨H, f, none⟩ = some u) ∧ w'.frozen? ⟨H, f, none⟩ = false ∧ Chg (fun b => b = H ∨ (VV f).ownBlock = some b) wA (w'.setCell ⟨H, f, none⟩ (.slice (some ⟨q, 0, none⟩) ((N f).length + 1) cq)) ∧ w'.heap[ab]? = some (.cells ca tA) := by
  subst hV
  have hx := h.later hb
  obtain ⟨p1, p2, p3, p4⟩ := hx.push hf hown hg (hat.imp id (fun e => by omega))
  refine ⟨p1, p2, p3, (chg_below hb _).trans p4 (fun _ _ h => h), ?_⟩
  have hlt := (Array.getElem?_eq_some_iff.1 hQ).1
  have h1 := (hb.block ab hlt).trans hQ
  refine (hg.block ab (Array.getElem?_eq_some_iff.1 h1).1 (fun e => ?_)).trans h1
  obtain ⟨cur, hc⟩ := own_typ (hx.rows f hf) e.symm
  exact ne_of_typ h1 hc hne rfl
theorem rep_blocks {w : World} {hb : Nat} {F V : Value} {t : Int} {base : Nat} {l : List (Int × Int)} (h : HInt.Rep w hb F V t base l) {b : Nat} {cb : Array Value} (hc : w.heap[b]? = some (.cells cb 3)) : ¬ (b = hb ∨ V.ownBlock = some b) := by
  rintro (rfl | e)
  · exact ne_of_typ hc h.blk (by decide) rfl
  · obtain ⟨cur, hc'⟩ := own_typ h.row e
    exact ne_of_typ hc hc' (by decide) rfl
theorem rep_chg {w w' : World} {hb : Nat} {F V : Value} {t : Int} {base : Nat} {l : List (Int × Int)} (h : HInt.Rep w hb F V t base l) {S : Nat → Prop} (c : Chg S w w') (hS : ∀ b, S b → b < w.heap.size → ∃ cb : Array Value, w.heap[b]? = some (.cells cb 3)) : HInt.Rep w' hb F V t base l := by
  refine HRep.chg h c (fun hs => ?_) (fun k hk hs => ?_)
  · obtain ⟨cb, hc⟩ := hS hb hs h.lt
    exact rep_blocks h hc (.inl rfl)
  · obtain ⟨cb, hc⟩ := hS k hs (own_lt h.row hk)
    exact rep_blocks h hc (.inr hk)
theorem rep_grow {w w' : World} {hb : Nat} {F V : Value} {t : Int} {base : Nat} {l : List (Int × Int)} (h : HInt.Rep w hb F V t base l) {B k : Nat} {Vl : Value} {xs : List Value} (o : w.ownsRow B 3 1 Vl k xs) (hg : w.grownBy w' Vl.ownBlock) : HInt.Rep w' hb F V t base l :=
  rep_chg h (Chg.of_grown hg (S := fun b => Vl.ownBlock = some b) (fun _ e => e)) (fun _ hb _ => own_typ o hb)
theorem own_push {w w' : World} {hb : Nat} {F V : Value} {t : Int} {base : Nat} {l : List (Int × Int)} (h : HInt.Rep w hb F V t base l) {B k : Nat} {Vl : Value} {xs : List Value} (o : w.ownsRow B 3 1 Vl k xs) (c : Chg (fun b => b = hb ∨ V.ownBlock = some b) w w') : w'.ownsRow B 3 1 Vl k xs :=
  own_chg o c (fun g hg => by obtain ⟨cur, hc⟩ := own_typ o hg; exact rep_blocks h hc)
theorem row_push {w w' : World} {hb : Nat} {F V : Value} {t : Int} {base : Nat} {l : List (Int × Int)} (h : HInt.Rep w hb F V t base l) {q k : Nat} {f : Nat → Value} (o : w.rowIs q 3 k f) (c : Chg (fun b => b = hb ∨ V.ownBlock = some b) w w') : w'.rowIs q 3 k f :=
  o.of_block (c.block _ o.lt (by obtain ⟨cur, hc⟩ := rowIs_typ o; exact rep_blocks h hc))
theorem rep_ge {w : World} {hb : Nat} {F V : Value} {t : Int} {l : List (Int × Int)} {Z : Nat} (h : HInt.Rep w hb F V t Z l) (hz : Z ≤ hb) : ∀ b, (b = hb ∨ V.ownBlock = some b) → Z ≤ b := fun b hb' => by
  rcases hb' with rfl | e
  · exact hz
  · exact own_ge h.row e
/-- Where the loop that takes nodes stands: one was popped, or none is left. -/
def LoopS (G : Gr) (m : Nat) (l : List Nat) (v : Nat) (ok : Bool) (hl : List (Int × Int)) : Prop :=
  (ok = true ∧ v < m ∧ rdy G l v = true ∧ (∀ u, u < v → rdy G l u = false) ∧ Ct hl (fun u => decide (u < m) && rdy G l u && u != v)) ∨ (ok = false ∧ hl = [] ∧ ∀ u, u < m → rdy G l u = false)
theorem loopS_pop {G : Gr} {m : Nat} {l : List Nat} {a : Int × Int} {r : List (Int × Int)} (C : Ct (a :: r) (fun u => decide (u < m) && rdy G l u)) : ∃ v : Nat, a.1 = v ∧ LoopS G m l v true (popL ltI (a :: r)) := by
  obtain ⟨v, e, hS, hmin, C2⟩ := C.pop
  simp only [Bool.and_eq_true, decide_eq_true_eq] at hS
  refine ⟨v, e, .inl ⟨rfl, hS.1, hS.2, fun u hu => ?_, C2⟩⟩
  have := hmin u hu
  simp only [Bool.and_eq_false_iff, decide_eq_false_iff_not] at this
  rcases this with h | h
  · omega
  · exact h
theorem loopS_none {G : Gr} {m : Nat} {l : List Nat} (C : Ct [] (fun u => decide (u < m) && rdy G l u)) : LoopS G m l 0 false [] :=
  .inr ⟨rfl, rfl, fun u hu => by
    have := C.none u
    simpa [hu] using this⟩
set_option maxHeartbeats 1000000 in
theorem pop_state {G : Gr} {m : Nat} {l : List Nat} {w : World} {Z : Nat} {V : Value} {T : Int} {hl : List (Int × Int)} (R : HInt.Rep w Z (.func (.func 55) #[] #[]) V T Z hl) (C : Ct hl (fun u => decide (u < m) && rdy G l u)) (hlen : hl.length ≤ 1000000) :
    Calls Tryz.prog 57 #[.pointer (some ⟨Z, 0, none⟩)] w fun e w' => ∃ (v : Nat) (ok : Bool) (V2 : Value) (h2 : List (Int × Int)), e = .returned (.tuple #[.int .i64 v, .bool ok]) ∧ LoopS G m l v ok h2 ∧ HInt.Rep w' Z (.func (.func 55) #[] #[]) V2 T Z h2 ∧ h2.length + (if ok = true then 1 else 0) = hl.length ∧ Chg (fun b => b = Z ∨ V.ownBlock = some b) w w' := by
  cases hl with
  | nil =>
    refine (HInt.pop_none R).mono ?_
    rintro e w' ⟨rfl, b⟩
    exact ⟨0, false, V, [], rfl, loopS_none C, R.later b, by simp, chg_below b _⟩
  | cons a r =>
    refine (HInt.pop_some lessO R (by simp at hlen; omega)).mono ?_
    rintro e w' ⟨rfl, ⟨V2, _, R2⟩, c⟩
    obtain ⟨v, hv, S⟩ := loopS_pop C
    exact ⟨v, true, V2, _, by rw [hv], S, R2, by rw [popL_one]; simp, c⟩
def OrdT (w : World) (n : Nat) (G : Gr) (e : Ending) (w' : World) : Prop :=
  ∃ V er, e = .returned (.tuple #[V, .int .i64 er]) ∧ Below w.heap.size w w' ∧ (((ordL G n).length < n ∧ V = .slice none 0 0 ∧ er = 11) ∨ ((ordL G n).length = n ∧ w'.ownsRow w.heap.size 3 1 V (ordL G n).length (flat encN (ordL G n)) ∧ er = 0))
set_option maxRecDepth 100000 in
set_option maxHeartbeats 4000000 in
theorem order_right {w : World} {V : Value} {L : List Arc} (n : Int) (h : Arcs w V L) (hr : rightB n L = true) :
    Calls Tryz.prog 34 #[.int .i64 n, V] w fun e w' => OrdT w n.toNat (gOf L) e w' := by
  obtain ⟨m, rfl, hm, hL, hG⟩ := right_gr hr
  have HR := Lib.hid hr
  have HG := Lib.hid hG
  have HGL : Hid ((gOf L).length = L.length) := Lib.hid (by simp [gOf])
  have HH := Lib.hid h
  clear hr hG
  obtain ⟨A, cap, rfl, -, hN, hA⟩ := h.at_
  clear h
  have hmk1 := run_make_row' (P := Tryz.prog) 60 29 (.slice none 0 0) 24 Tryz.underlying60 info_ints rfl .i64 .i64 m (by omega) (by omega)
  have hmk2 := run_make_row' (P := Tryz.prog) 29 3 (.int .i64 0) 8 Tryz.underlying29 info_int rfl .i64 .i64 m (by omega) (by omega)
  go_enter Tryz.func34, Tryz.ntmps34
  go_wp2_with fail
  refine (right_any _ HH.out).mono ?_
  rw [HR.out]
  rintro e w0 ⟨rfl, B0⟩
  have HH0 := Lib.hid (HH.out.later B0)
  have HB0 := Lib.hid B0
  have hA0 : 0 < L.length → ∃ b off, A = some ⟨b, off, none⟩ ∧ Hid (∀ (i : Nat) (a : Arc), L[i]? = some a → w0.cell? ⟨b, off + i * 3, none⟩ = some (.int .i64 a.1) ∧ w0.cell? ⟨b, off + i * 3 + 1, none⟩ = some (.int .i64 a.2.1) ∧ w0.cell? ⟨b, off + i * 3 + 2, none⟩ = some (.int .i64 a.2.2)) := fun hl => by
    obtain ⟨b, off, e, hc⟩ := hA hl
    exact ⟨b, off, e, Lib.hid (fun i a hi => by obtain ⟨c0, c1, c2⟩ := hc i a hi; exact ⟨cell_later B0 c0, cell_later B0 c1, cell_later B0 c2⟩)⟩
  clear hA B0
  go_wp2_with fail
  clear hmk1 hmk2
  have hb1 : Below w0.heap.size w0 ((w0.alloc (.cells (madeCells #[.slice none 0 0] m) 29)).alloc (.cells (madeCells #[.int .i64 0] m) 3)) := ((Below.refl _ _).alloc (Nat.le_refl _) _).alloc (by simp) _
  have hnx : NX ((w0.alloc (.cells (madeCells #[.slice none 0 0] m) 29)).alloc (.cells (madeCells #[.int .i64 0] m) 3)) w0.heap.size m (fun _ => .slice none 0 0) (fun v => nxt ((gOf L).take 0) v) :=
    (NX.made ((World.rowIs_made w0 (.slice none 0 0) m 29).alloc _)).congr (fun v _ => by simp [nxt])
  have hop : ((w0.alloc (.cells (madeCells #[.slice none 0 0] m) 29)).alloc (.cells (madeCells #[.int .i64 0] m) 3)).rowIs (w0.heap.size + 1) 3 m (fun v => .int .i64 (cnt ((gOf L).take 0) [] v : Nat)) := by
    have := World.rowIs_made (w0.alloc (.cells (madeCells #[.slice none 0 0] m) 29)) (.int .i64 0) m 3
    rw [World.size_alloc] at this
    exact this.congr (fun v _ => by simp [cnt])
  have HN1 := Lib.hid hnx
  have HO1 := Lib.hid hop
  have HB1 := Lib.hid hb1
  clear hnx hop hb1
  go_loopw [28] (fun s wr => ∃ (i : Nat) (VV : Nat → Value), i ≤ L.length ∧ s = .int .i64 i ∧ NX wr w0.heap.size m VV (fun v => nxt ((gOf L).take i) v) ∧ wr.rowIs (w0.heap.size + 1) 3 m (fun v => .int .i64 (cnt ((gOf L).take i) [] v : Nat)) ∧ Below w0.heap.size w0 wr ∧ w0.heap.size + 2 ≤ wr.heap.size) (fun s _ => L.length - (intOf s).toNat)
  case atStart => exact ⟨0, _, by omega, rfl, HN1.out, HO1.out, HB1.out, by simp⟩
  case round => as_aux_lemma =>
    clear HN1 HO1 HB1
    obtain ⟨i, VV, hi, rfl, NXX, OP, Bl, hsz⟩ := hrel
    by_cases hil : i < L.length
    · obtain ⟨b, off, rfl, hcc⟩ := hA0 (by omega)
      obtain ⟨a, ha⟩ : ∃ a, L[i]? = some a := ⟨_, List.getElem?_eq_getElem hil⟩
      obtain ⟨f, t, x, rfl, hf, ht, hx, hg⟩ := HG.out i a ha
      obtain ⟨c0, c1, c2⟩ := hcc.out i _ ha
      have c0 := cell_later Bl c0
      have c1 := cell_later Bl c1
      have c2 := cell_later Bl c2
      simp only at c0 c1 c2
      have HS : Hid ((gOf L).take (i + 1) = (gOf L).take i ++ [(f, t)]) := Lib.hid (by
        obtain ⟨h1, h2⟩ := List.getElem?_eq_some_iff.1 hg
        rw [List.take_succ_eq_append_getElem h1, h2])
      have hcl := cnt_len ((gOf L).take i) [] t
      have hnl := nxt_len ((gOf L).take i) f
      have htl : ((gOf L).take i).length ≤ 16384 := by rw [List.length_take, HGL.out]; omega
      have hcl2 : cnt ((gOf L).take i) [] t ≤ 16384 := by omega
      have hnl2 : (nxt ((gOf L).take i) f).length ≤ 16384 := by omega
      have HNX := Lib.hid NXX
      have HOP := Lib.hid OP
      have HBl := Lib.hid Bl
      have hs := Bl.size
      clear NXX OP Bl hcc ha hg hcl hnl htl
      obtain ⟨i0, hi0, hz0, hz1, hz2⟩ := info_parts info_int
      have BA : Below wr.heap.size wr (wr.alloc (.cells #[.int .i64 (f : Nat), .int .i64 (t : Nat), .int .i64 (x : Nat)] 40)) := (Below.refl _ _).alloc (Nat.le_refl _) _
      have q0 : (wr.alloc (.cells #[.int .i64 (f : Nat), .int .i64 (t : Nat), .int .i64 (x : Nat)] 40)).cell? ⟨wr.heap.size, 0, none⟩ = some (.int .i64 (f : Nat)) := (Cl.new rfl).cell
      have q1 : (wr.alloc (.cells #[.int .i64 (f : Nat), .int .i64 (t : Nat), .int .i64 (x : Nat)] 40)).cell? ⟨wr.heap.size, 1, none⟩ = some (.int .i64 (t : Nat)) := (Cl.new rfl).cell
      have q2 : (wr.alloc (.cells #[.int .i64 (f : Nat), .int .i64 (t : Nat), .int .i64 (x : Nat)] 40)).heap[wr.heap.size]? = some (.cells #[.int .i64 (f : Nat), .int .i64 (t : Nat), .int .i64 (x : Nat)] 40) := heap_at rfl
      have HNA := Lib.hid (HNX.out.later BA)
      have HOA := Lib.hid (HOP.out.of_block (BA.block _ (by omega)))
      have HBA := Lib.hid (below_then HBl.out hs BA)
      have hsA : wr.heap.size < (wr.alloc (.cells #[.int .i64 (f : Nat), .int .i64 (t : Nat), .int .i64 (x : Nat)] 40)).heap.size := by simp
      have HQ2 := Lib.hid q2
      go_upto_region 8 with fail
      clear c0 c1 c2 q2 BA
      generalize wr.alloc (.cells #[.int .i64 (f : Nat), .int .i64 (t : Nat), .int .i64 (x : Nat)] 40) = wA at *
      obtain ⟨r0, AV, cV, hVf, -⟩ := HNA.out.read hf
      rw [hVf] at r0
      have r3 : ∀ o, (wA.alloc o).cell? ⟨w0.heap.size, f, none⟩ = some (.slice AV (nxt ((gOf L).take i) f).length cV) := fun o => cell_later ((Below.refl _ _).alloc (Nat.le_refl _) o) r0
      have r4 : ∀ o, (wA.alloc o).cell? ⟨wr.heap.size, 0, none⟩ = some (.int .i64 (f : Nat)) := fun o => cell_later ((Below.refl _ _).alloc (Nat.le_refl _) o) q0
      have r1 : ∀ o, (wA.drew.alloc o).cell? ⟨w0.heap.size, f, none⟩ = some (.slice AV (nxt ((gOf L).take i) f).length cV) := fun o => cell_later (((Below.refl _ _).drew).alloc (Nat.le_refl _) o) r0
      have r2 : ∀ o, (wA.drew.alloc o).cell? ⟨wr.heap.size, 0, none⟩ = some (.int .i64 (f : Nat)) := fun o => cell_later (((Below.refl _ _).drew).alloc (Nat.le_refl _) o) q0
      have HVf := Lib.hid hVf
      clear hVf
      go_cut [] (fun wx => ∃ VV', NX wx w0.heap.size m VV' (fun v => nxt ((gOf L).take (i + 1)) v) ∧ Chg (fun b => b = w0.heap.size ∨ (VV f).ownBlock = some b) wA wx)
      case first =>
        go_region_law (refine step_append_lies _ rfl (.tmp 39) (.tmp 42) 29 rfl (w0.heap.size + 2) 3 i0 (.int .i64 0) 1 8 Tryz.underlying29 hi0 hz0 hz1 hz2 rfl (by decide) (.slice AV (nxt ((gOf L).take i) f).length cV) (nxt ((gOf L).take i) f).length (flat encN (nxt ((gOf L).take i) f)) (by rfl) (HVf.out ▸ (HNA.out.later (((Below.refl _ _).drew).alloc (Nat.le_refl _) _)).rows f hf) ⟨wA.heap.size, 0, none⟩ 1 1 (encN t) (by rfl) rfl (World.news_of_block (heap_at rfl)) (by intro u hu; simp [encN] at hu; subst hu; rfl) (by omega) (by simp only [maxLen]; omega) (by omega) (by simp; omega) _ rfl ?_; intro q cq w2 hown hgrow hat hlt; obtain ⟨PN, ⟨u0, k1⟩, k2, PC, hab⟩ := HNA.out.push' (((Below.refl _ _).drew).alloc (Nat.le_refl _) _) hf HVf.out hown hgrow hat HQ2.out (by decide); have k3 := (Cl.of_block hab (j := 0) rfl).cell; have HPN := Lib.hid PN; have HPC := Lib.hid PC; clear hown hgrow hat hlt PN PC)
        all_goals
          go_wp2_with fail
          go_meet
          refine ⟨_, HPN.out.congr (fun v _ => ?_), HPC.out⟩
          rw [HS.out, nxt_snoc]
      case rest =>
        rename World => wx
        obtain ⟨VV', NX2, C2⟩ := hcut
        have hnS : ∀ b, (b = w0.heap.size ∨ (VV f).ownBlock = some b) → b = w0.heap.size ∨ w0.heap.size + 2 ≤ b := fun b h => h.imp id (fun e => own_ge (HNA.out.rows f hf) e)
        have hab : wx.heap[wr.heap.size]? = some (.cells #[.int .i64 (f : Nat), .int .i64 (t : Nat), .int .i64 (x : Nat)] 40) := (C2.block _ hsA (fun h => by
          rcases h with h | h
          · omega
          · obtain ⟨cur, hc⟩ := own_typ (HNA.out.rows f hf) h
            exact ne_of_typ HQ2.out hc (by decide) rfl)).trans HQ2.out
        have hop2 : wx.rowIs (w0.heap.size + 1) 3 m (fun v => .int .i64 (cnt ((gOf L).take i) [] v : Nat)) := HOA.out.of_block (C2.block _ (by omega) (fun h => by have := hnS _ h; omega))
        have B2 : Below w0.heap.size w0 wx := HBA.out.trans (C2.below HBA.out.size (fun b h => by have := hnS _ h; omega))
        have k3 := (Cl.of_block hab (j := 1) rfl).cell
        have k4 := hop2.cell ht
        have k5 := hop2.frozen t
        have HN2 := Lib.hid NX2
        have HO2 := Lib.hid hop2
        have HB2 := Lib.hid B2
        have hsz2 := C2.size
        clear NX2 C2 hop2 B2 hab q0 q1 r0 r1 r2 r3 r4 HNA HOA
        go_wp2_with fail
        have N3 : NX (wx.setCell ⟨w0.heap.size + 1, t, none⟩ (.int .i64 ((cnt ((gOf L).take i) [] t : Nat) + 1))) w0.heap.size m VV' (fun v => nxt ((gOf L).take (i + 1)) v) :=
          HN2.out.chg ((Chg.refl (fun b => b = w0.heap.size + 1) wx).setCell (p := ⟨w0.heap.size + 1, t, none⟩) (fun _ => rfl) _) (by omega) (fun v g hv hg => by have := own_ge (HN2.out.rows v hv) hg; omega)
        have O3 := (HO2.out.set t (.int .i64 ((cnt ((gOf L).take i) [] t : Nat) + 1))).congr (g := fun v => .int .i64 (cnt ((gOf L).take (i + 1)) [] v : Nat)) (fun v _ => by
          rw [HS.out, cnt_snoc]
          by_cases e : v = t
          · subst e; simp
          · simp [e])
        exact ⟨⟨i + 1, VV', by omega, by go_num, N3, O3, HB2.out.setCell (p := ⟨w0.heap.size + 1, t, none⟩) (by simp) _, by simp [World.setCell]; omega⟩, by simp [intOf]; omega⟩
    · obtain rfl : i = L.length := by omega
      have hfull : (gOf L).take L.length = gOf L := List.take_of_length_le (by rw [HGL.out]; omega)
      rw [hfull] at NXX OP
      generalize hGe : gOf L = G at *
      have hcb : ∀ l v, cnt G l v ≤ 16384 := fun l v => by have := cnt_len G l v; have := HGL.out; omega
      have HNX := Lib.hid NXX
      have HOP := Lib.hid OP
      have HBl := Lib.hid Bl
      have HCB := Lib.hid hcb
      have HGe := Lib.hid hGe
      have hs := Bl.size
      clear NXX OP Bl hA0 hN hfull hcb hGe
      obtain ⟨wo, rfl⟩ : ∃ v : World, v = wr := ⟨_, rfl⟩
      go_wp2_with fail
      refine (HInt.new_any 55 _).mono ?_
      rintro e w1 ⟨rfl, hw1⟩
      have R1 := HInt.new_rep (.func (.func 55) #[] #[]) wo wo.heap.size
      rw [← hw1] at R1
      have B1 : Below wo.heap.size wo w1 := by rw [hw1]; exact (Below.refl _ _).alloc (Nat.le_refl _) _
      have HR1 := Lib.hid R1
      have HB1 := Lib.hid B1
      have HO1 := Lib.hid (HOP.out.of_block (B1.block _ HOP.out.lt))
      clear R1 B1 hw1
      go_wp2_with fail
      go_loopw [56] (fun s wr => ∃ (i : Nat) (Vh : Value) (hl : List (Int × Int)), i ≤ m ∧ s = .int .i64 i ∧ HInt.Rep wr wo.heap.size (.func (.func 55) #[] #[]) Vh hl.length wo.heap.size hl ∧ Ct hl (fun v => decide (v < i) && cnt G [] v == 0) ∧ Below wo.heap.size wo wr) (fun s _ => m - (intOf s).toNat)
      case atStart => exact ⟨0, _, [], by omega, rfl, HR1.out, Ct.nil.congr (fun v => by simp), HB1.out⟩
      case round => as_aux_lemma =>
        clear HR1 HB1 HO1
        obtain ⟨i, Vh, hl, hi, rfl, R, C, Bl⟩ := hrel
        have HO := Lib.hid (HOP.out.of_block (Bl.block _ HOP.out.lt))
        have HRh := Lib.hid R
        have HC := Lib.hid C
        have HBl2 := Lib.hid Bl
        have hs2 := Bl.size
        have hlen := C.len (n := m) (fun v h => by simp at h; omega)
        clear R C Bl
        by_cases him : i < m
        · have k0 := HO.out.cell him
          have hcc := HCB.out [] i
          by_cases hz : cnt G [] i = 0
          · have hzz : Hid (cnt G [] i = 0) := Lib.hid hz
            rw [hz] at k0
            clear hz hcc
            go_wp2_with fail
            refine (HInt.push_any lessO (x := (i : Int)) HRh.out (by omega) (by omega) (by omega) hs2).mono ?_
            rintro e w2 ⟨rfl, ⟨V2, hV2, R2⟩, C2⟩
            have HR2 : Hid (HInt.Rep w2 wo.heap.size (.func (.func 55) #[] #[]) V2 (pushL ltI hl i (hl.length + 1)).length wo.heap.size (pushL ltI hl i (hl.length + 1))) := Lib.hid (by
              have e : ((pushL ltI hl i (hl.length + 1)).length : Int) = (hl.length : Int) + 1 := by
                have := (push_perm (lt := ltI) hl (i : Int) (hl.length + 1)).length_eq
                simp at this; omega
              rw [e]; exact R2)
            have HC2 := Lib.hid ((HC.out.push i (hl.length + 1) (by simp)).congr (T := fun v => decide (v < i + 1) && cnt G [] v == 0) (fun v => by
              rw [Bool.eq_iff_iff]
              simp only [Bool.or_eq_true, Bool.and_eq_true, decide_eq_true_eq, beq_iff_eq]
              constructor
              · rintro (⟨h1, h2⟩ | rfl)
                · exact ⟨by omega, h2⟩
                · exact ⟨by omega, hzz.out⟩
              · rintro ⟨h1, h2⟩
                by_cases e : v = i
                · exact .inr e
                · exact .inl ⟨by omega, h2⟩))
            have HB2 := Lib.hid (HBl2.out.trans (C2.below hs2 (fun b h => by
              rcases h with h | h
              · omega
              · exact own_ge HRh.out.row h)))
            clear R2 C2 hV2
            go_wp2_with fail
            exact ⟨⟨i + 1, V2, _, by omega, by go_num, HR2.out, HC2.out, HB2.out⟩, by simp [intOf]; omega⟩
          · have hzz : (((cnt G [] i : Nat) : Int) == 0) = false := by simp; omega
            have HC2 := Lib.hid (HC.out.congr (T := fun v => decide (v < i + 1) && cnt G [] v == 0) (fun v => by
              rw [Bool.eq_iff_iff]
              simp only [Bool.and_eq_true, decide_eq_true_eq, beq_iff_eq]
              constructor
              · rintro ⟨h1, h2⟩
                exact ⟨by omega, h2⟩
              · rintro ⟨h1, h2⟩
                exact ⟨by by_cases e : v = i; (· subst e; exact absurd h2 hz); omega, h2⟩))
            clear hz
            go_wp2_with fail
            exact ⟨⟨i + 1, Vh, _, by omega, by go_num, HRh.out, HC2.out, HBl2.out⟩, by simp [intOf]; omega⟩
        · obtain rfl : i = m := by omega
          have HC0 := Lib.hid (HC.out.congr (T := fun u => decide (u < i) && rdy G [] u) (fun v => by simp [rdy]))
          have HO0 : Hid (wr.rowIs (w0.heap.size + 1) 3 i (fun v => .int .i64 (cnt G [] v : Nat))) := Lib.hid HO.out
          have HK0 : Hid (Chg (fun b => b = w0.heap.size + 1) wo wr) := Lib.hid (chg_below HBl2.out _)
          have HGR : Hid (∀ p ∈ G, p.1 < i ∧ p.2 < i) := Lib.hid (by
            intro p hp
            rw [← HGe.out] at hp
            obtain ⟨j, hj⟩ := List.getElem?_of_mem hp
            unfold gOf at hj
            rw [List.getElem?_map] at hj
            obtain ⟨a, ha, hap⟩ := Option.map_eq_some_iff.1 hj
            obtain ⟨f, t, x, e, h1, h2, _, h4⟩ := HG.out j a ha
            subst e
            rw [← hap]
            exact ⟨by simpa using h1, by simpa using h2⟩)
          obtain ⟨wp, rfl⟩ : ∃ v : World, v = wr := ⟨_, rfl⟩
          clear HC HO HBl2 him hil
          go_wp2_with fail
          refine (pop_state HRh.out HC0.out (by omega)).mono ?_
          rintro e w2 ⟨v, ok, V2, h2, rfl, S2, R2, hl2, C2⟩
          have HS2 := Lib.hid S2
          have HR2 : Hid (HInt.Rep w2 wo.heap.size (.func (.func 55) #[] #[]) V2 (h2.length + (if ok = true then 1 else 0) + ([] : List Nat).length : Nat) wo.heap.size h2) := Lib.hid (by
            rw [hl2]
            simpa using R2)
          have HO2 := Lib.hid (row_push HRh.out HO0.out C2)
          have HK2 := Lib.hid (HK0.out.trans C2 (fun b hb h => by have := rep_ge HRh.out (Nat.le_refl _) b h; omega))
          clear S2 R2 C2 hl2 HRh HC0 HO0 HK0
          go_wp2_with fail
          go_loopw [13, 14, 15] (fun Vl sv sk wx => ∃ (l : List Nat) (v : Nat) (ok : Bool) (V2 : Value) (h2 : List (Int × Int)), sv = .int .i64 v ∧ sk = .bool ok ∧ wx.ownsRow wo.heap.size 3 1 Vl l.length (flat encN l) ∧ Tk G i l ∧ ordL G i = gr G i (i - l.length) l ∧
            LoopS G i l v ok h2 ∧ HInt.Rep wx wo.heap.size (.func (.func 55) #[] #[]) V2 (h2.length + (if ok = true then 1 else 0) + l.length : Nat) wo.heap.size h2 ∧ wx.rowIs (w0.heap.size + 1) 3 i (fun v => .int .i64 (cnt G l v : Nat)) ∧ Chg (fun b => b = w0.heap.size + 1) wo wx) (fun Vl _ sk _ => 2 * (i - (match Vl with | .slice _ k _ => k | _ => 0)) + (match sk with | .bool true => 1 | _ => 0))
          case atStart => exact ⟨[], v, ok, V2, h2, rfl, rfl, World.ownsRow_nil _ _ _ _, Tk.nil _ _, rfl, HS2.out, HR2.out, HO2.out, HK2.out⟩
          case round => as_aux_lemma =>
            clear HS2 HR2 HO2 HK2
            obtain ⟨l, v, ok, V2, h2, rfl, rfl, OL, TK, hord, S2, R2, O2, K2⟩ := hrel
            obtain ⟨Vl, rfl⟩ : ∃ x : Value, x = u13 := ⟨_, rfl⟩
            obtain ⟨AV, cV, rfl, -⟩ := own_shape OL
            have HOL := Lib.hid OL
            have HTK := Lib.hid TK
            have HORD := Lib.hid hord
            have HR2 := Lib.hid R2
            have HO2 := Lib.hid O2
            have HK2 := Lib.hid K2
            have hlm := TK.len
            have hsk := K2.size
            clear OL TK hord R2 O2 K2
            rcases S2 with ⟨rfl, hv, hrd, hmin, CC⟩ | ⟨rfl, rfl, hno⟩
            · have hll := rdy_lt HTK.out hv hrd
              have hnl : (nxt G v).length ≤ 16384 := by have := nxt_len G v; have := HGL.out; omega
              have HTK2 := Lib.hid (HTK.out.add hv hrd)
              have HORD2 : Hid (ordL G i = gr G i (i - (l ++ [v]).length) (l ++ [v])) := Lib.hid (by
                rw [HORD.out, gr_step (by omega) hv hrd hmin, List.length_append]
                rfl)
              have HTGT : Hid (∀ u ∈ nxt G v, u ∉ l ++ [v] ∧ u < i) := Lib.hid (fun u hu => ⟨target_new HTK.out hrd hu, (HGR.out _ (nxt_mem hu)).2⟩)
              have hvl : Hid (v ∉ l) := Lib.hid (by have : v ∉ l ∧ cnt G l v = 0 := by simpa [rdy] using hrd
                                                    exact this.1)
              have HCC := Lib.hid CC
              have HHM := Lib.hid hmin
              have HHR := Lib.hid hrd
              clear CC hmin hrd
              obtain ⟨i0, hi0, hz0, hz1, hz2⟩ := info_parts info_int
              have BA : Below wr.heap.size wr (wr.alloc (.cells #[.int .i64 (v : Nat)] 3)) := (Below.refl _ _).alloc (Nat.le_refl _) _
              have HRA := Lib.hid (HR2.out.later BA)
              have HOA := Lib.hid (HO2.out.of_block (BA.block _ HO2.out.lt))
              have HLA := Lib.hid (own_later HOL.out BA)
              have HKA := Lib.hid (HK2.out.trans (chg_below BA (fun b => b = w0.heap.size + 1)) (fun _ _ h => h))
              clear BA
              go_wp2_with (refine wpList_append_lies _ rfl (.tmp 78) (.tmp 80) 29 rfl wo.heap.size 3 i0 (.int .i64 0) 1 8 Tryz.underlying29 hi0 hz0 hz1 hz2 rfl (by decide) (.slice AV l.length cV) l.length (flat encN l) rfl HLA.out ⟨wr.heap.size, 0, none⟩ 1 1 (encN v) rfl rfl (World.news_of_block (heap_at rfl)) (by intro u hu; simp [encN] at hu; subst hu; rfl) (by omega) (by simp only [maxLen]; omega) (by omega) (by simp; omega) _ rfl ?_; intro q cq w3 hown hgrow hat hlt; have HK3 := Lib.hid (HKA.out.trans (Chg.of_grown hgrow (S := fun b => (Value.slice AV l.length cV).ownBlock = some b) (fun _ e => e)) (fun b hb h => by have := own_ge HLA.out h; omega)); have hr3 := (HNX.out.chg HK3.out (by omega) (fun u g hu hg => by have := own_ge (HNX.out.rows u hu) hg; omega)).read hv; obtain ⟨r0, AN, cN, hVN, -⟩ := hr3; rw [hVN] at r0)
              have R3 := rep_grow HRA.out HLA.out hgrow
              have O3 := HOA.out.of_block (hgrow.block _ HOA.out.lt (fun e => by have := own_ge HLA.out e.symm; omega))
              have HR3 : Hid (HInt.Rep w3 wo.heap.size (.func (.func 55) #[] #[]) V2 (h2.length + (l ++ [v]).length : Nat) wo.heap.size h2) := Lib.hid (by
                have e : h2.length + (if true = true then 1 else 0) + l.length = h2.length + (l ++ [v]).length := by simp; omega
                rw [← e]
                exact R3)
              have HO3 := Lib.hid (O3.congr (g := fun u => .int .i64 (opJ G l v 0 u : Nat)) (fun u _ => by rw [opJ_zero G l v u hvl.out]))
              have HL3 : Hid (w3.ownsRow wo.heap.size 3 1 (.slice (some ⟨q, 0, none⟩) (l.length + 1) cq) (l ++ [v]).length (flat encN (l ++ [v]))) := Lib.hid (by
                rw [flat_append, List.length_append]
                simpa [flat] using hown)
              have HC3 := Lib.hid (HCC.out.congr (fun u => sJ_zero G i l v u hvl.out))
              have HVN := Lib.hid hVN
              clear R3 O3 hVN hown hgrow hat hlt r0 HRA HOA HLA HKA HCC HR2 HO2 HOL HK2
              go_loopw [87] (fun c wx => ∃ (j : Nat) (Vh : Value) (hl : List (Int × Int)), j ≤ (nxt G v).length ∧ c = .int .i64 j ∧ HInt.Rep wx wo.heap.size (.func (.func 55) #[] #[]) Vh (hl.length + (l ++ [v]).length : Nat) wo.heap.size hl ∧ Ct hl (sJ G i l v j) ∧
                wx.rowIs (w0.heap.size + 1) 3 i (fun u => .int .i64 (opJ G l v j u : Nat)) ∧ wx.ownsRow wo.heap.size 3 1 (.slice (some ⟨q, 0, none⟩) (l.length + 1) cq) (l ++ [v]).length (flat encN (l ++ [v])) ∧ Chg (fun b => b = w0.heap.size + 1) wo wx) (fun c _ => (nxt G v).length - (intOf c).toNat)
              case atStart => exact ⟨0, V2, h2, by omega, rfl, HR3.out, HC3.out, HO3.out, HL3.out, HK3.out⟩
              case round => as_aux_lemma =>
                clear HR3 HC3 HO3 HL3 HK3
                obtain ⟨j, Vj, hj, hjl, rfl, R4, C4, O4, L4, K4⟩ := hrel
                obtain ⟨wx, rfl⟩ : ∃ x : World, x = wr := ⟨_, rfl⟩
                have HR4 := Lib.hid R4
                have HC4 := Lib.hid C4
                have HO4 := Lib.hid O4
                have HL4 := Lib.hid L4
                have HK4 := Lib.hid K4
                have hs4 := K4.size
                have hlen4 := C4.len (n := i) (fun u h => by simp only [sJ, Bool.and_eq_true, decide_eq_true_eq] at h; exact h.1.1)
                have hlen5 : (l ++ [v]).length ≤ i := HTK2.out.len
                clear R4 C4 O4 L4 K4
                by_cases hjn : j < (nxt G v).length
                · obtain ⟨u, hu⟩ : ∃ u, (nxt G v)[j]? = some u := ⟨_, List.getElem?_eq_getElem hjn⟩
                  obtain ⟨ht1, ht2⟩ := HTGT.out u (List.mem_of_getElem? hu)
                  have hr4 := (HNX.out.chg HK4.out (by omega) (fun u g hu hg => by have := own_ge (HNX.out.rows u hu) hg; omega)).read hv
                  obtain ⟨-, AM, cM, hVM, hcell⟩ := hr4
                  rw [HVN.out] at hVM
                  cases hVM
                  obtain ⟨gN, rfl, hcell2⟩ := hcell (by omega)
                  have k0 := hcell2 j u hu
                  have k1 := HO4.out.cell ht2
                  have k2 := HO4.out.frozen u
                  have hst := opJ_step G l v u hu
                  rw [if_pos rfl] at hst
                  have hob := opJ_le G l v (j + 1) u
                  have hgl := HGL.out
                  obtain ⟨k, hk⟩ : ∃ k, k = opJ G l v (j + 1) u := ⟨_, rfl⟩
                  rw [← hk] at hst hob
                  rw [hst] at k1
                  have hkb : k ≤ 32768 := by omega
                  have k1' : wx.cell? ⟨w0.heap.size + 1, u, none⟩ = some (.int .i64 ((k : Int) + 1)) := by rw [k1]; rfl
                  have HU := Lib.hid hu
                  have HT1 : Hid (u ∉ l ++ [v]) := Lib.hid ht1
                  have HKK := Lib.hid hk
                  have R5 := rep_chg HR4.out ((Chg.refl (fun b => b = w0.heap.size + 1) wx).setCell (p := ⟨w0.heap.size + 1, u, none⟩) (fun _ => rfl) (.int .i64 (k : Nat))) (fun b hb _ => by subst hb; exact rowIs_typ HO4.out)
                  have O5 := (HO4.out.set u (.int .i64 (k : Nat))).congr (g := fun x => .int .i64 (opJ G l v (j + 1) x : Nat)) (fun x _ => by
                    by_cases e : x = u
                    · subst e; rw [if_pos rfl, HKK.out]
                    · rw [if_neg e, opJ_step G l v x HU.out, if_neg e]; rfl)
                  have L5 := own_chg HL4.out ((Chg.refl (fun b => b = w0.heap.size + 1) wx).setCell (p := ⟨w0.heap.size + 1, u, none⟩) (fun _ => rfl) (.int .i64 (k : Nat))) (fun g hg h => by have := own_ge HL4.out hg; omega)
                  have K5 := HK4.out.setCell (p := ⟨w0.heap.size + 1, u, none⟩) (fun _ => rfl) (.int .i64 (k : Nat))
                  have HR5 := Lib.hid R5
                  have HO5 := Lib.hid O5
                  have HL5 := Lib.hid L5
                  have HK5 := Lib.hid K5
                  have hs5 := K5.size
                  clear hcell hcell2 hu ht1 k1 hst hob hk R5 O5 L5 K5 hgl
                  by_cases hk0 : k = 0
                  · have hkd : ((k : Int) == 0) = true := by simp [hk0]
                    obtain ⟨T, hT⟩ : ∃ T : Nat, T = hj.length + (l ++ [v]).length := ⟨_, rfl⟩
                    rw [← hT] at HR5
                    have HT := Lib.hid hT
                    have hTb : T ≤ 1000000 := by omega
                    clear hT
                    have HC5 := Lib.hid ((HC4.out.push u ((T : Nat) + 1) (sJ_target G i l v HU.out)).congr (fun x => sJ_push G i l v HU.out HT1.out ht2 (by rw [← HKK.out, hk0]) x))
                    clear hk0
                    go_wp2_with fail
                    refine (HInt.push_any lessO (x := (u : Int)) HR5.out (by omega) (by omega) (by omega) (by omega)).mono ?_
                    rintro e w6 ⟨rfl, ⟨V6, _, R6⟩, C6⟩
                    have HR6 : Hid (HInt.Rep w6 wo.heap.size (.func (.func 55) #[] #[]) V6 ((pushL ltI hj u ((T : Nat) + 1)).length + (l ++ [v]).length : Nat) wo.heap.size (pushL ltI hj u ((T : Nat) + 1))) := Lib.hid (by
                      have e : (((pushL ltI hj u ((T : Nat) + 1)).length + (l ++ [v]).length : Nat) : Int) = (T : Int) + 1 := by
                        have h1 := (push_perm (lt := ltI) hj (u : Int) ((T : Nat) + 1)).length_eq
                        have h2 : (hj ++ [((u : Int), ((T : Nat) : Int) + 1)]).length = hj.length + 1 := by simp
                        have h3 := HT.out
                        omega
                      rw [e]
                      exact R6)
                    have HO6 := Lib.hid (row_push HR5.out HO5.out C6)
                    have HL6 := Lib.hid (own_push HR5.out HL5.out C6)
                    have HK6 := Lib.hid (HK5.out.trans C6 (fun b hb h => by have := rep_ge HR5.out (Nat.le_refl _) b h; omega))
                    clear R6 C6
                    go_wp2_with fail
                    exact ⟨⟨j + 1, V6, _, by omega, by go_num, HR6.out, HC5.out, HO6.out, HL6.out, HK6.out⟩, by simp [intOf]; omega⟩
                  · have hkd : ((k : Int) == 0) = false := by simp; omega
                    have HC5 := Lib.hid (HC4.out.congr (fun x => sJ_stay G i l v HU.out (by rw [← HKK.out]; exact hk0) x))
                    clear hk0
                    go_wp2_with fail
                    exact ⟨⟨j + 1, Vj, hj, by omega, by go_num, HR5.out, HC5.out, HO5.out, HL5.out, HK5.out⟩, by simp [intOf]; omega⟩
                · obtain rfl : j = (nxt G v).length := by omega
                  have HC5 := Lib.hid (HC4.out.congr (fun x => sJ_end G i l v x))
                  have HO5 := Lib.hid (HO4.out.congr (g := fun x => .int .i64 (cnt G (l ++ [v]) x : Nat)) (fun x _ => by rw [opJ_end]))
                  clear HC4 HO4
                  go_wp2_with fail
                  refine (pop_state HR4.out HC5.out (by omega)).mono ?_
                  rintro e w6 ⟨v6, ok6, V6, h6, rfl, S6, R6, hl6, C6⟩
                  have R6' : HInt.Rep w6 wo.heap.size (.func (.func 55) #[] #[]) V6 (h6.length + (if ok6 = true then 1 else 0) + (l ++ [v]).length : Nat) wo.heap.size h6 := by
                    rw [hl6]
                    exact R6
                  have O6 := row_push HR4.out HO5.out C6
                  have L6 := own_push HR4.out HL4.out C6
                  have K6 := HK4.out.trans C6 (fun b hb h => by have := rep_ge HR4.out (Nat.le_refl _) b h; omega)
                  clear C6 R6 hl6
                  go_wp2_with fail
                  refine ⟨⟨l ++ [v], v6, ok6, V6, h6, rfl, rfl, L6, HTK2.out, HORD2.out, S6, R6', O6, K6⟩, ?_⟩
                  show 2 * (i - (l.length + 1)) + (match Value.bool ok6 with | .bool true => 1 | _ => 0) < 2 * (i - l.length) + 1
                  cases ok6 <;> simp <;> omega
            · have hfin : Hid (ordL G i = l) := Lib.hid (by rw [HORD.out, gr_stop hno])
              clear hno
              have hb2 : Below w.heap.size w wr := below_then HB0.out HB0.out.size (HBl.out.trans (HK2.out.below hs (fun b h => by omega)))
              have HBF := Lib.hid hb2
              have hz0 := HB0.out.size
              clear hb2
              by_cases hll : l.length < i
              · have hld : decide ((l.length : Int) < i) = true := by simp; omega
                go_wp2_with fail
                refine bodyPost_ret (v := .tuple #[.slice none 0 0, .int .i64 11]) (by simp [results, Tryz.results34, go_sem]) rfl ?_
                refine ⟨_, _, rfl, HBF.out, .inl ⟨?_, rfl, rfl⟩⟩
                rw [Int.toNat_natCast, HGe.out, hfin.out]
                exact hll
              · have hld : decide ((l.length : Int) < i) = false := by simp; omega
                go_wp2_with fail
                refine bodyPost_ret (v := .tuple #[.slice AV l.length cV, .int .i64 0]) (by simp [results, Tryz.results34, go_sem]) rfl ?_
                refine ⟨_, _, rfl, HBF.out, .inr ?_⟩
                rw [Int.toNat_natCast, HGe.out, hfin.out]
                exact ⟨by omega, row_rebase HOL.out (by omega), rfl⟩
end Go.Proofs.YtjgloineooadoaaGreatDoor
