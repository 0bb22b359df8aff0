/- The least coordinates of a dag fit. -/
import Derived.Test.YtjgloineooadoaaGreatDoorMgZ12
import Derived.Test.YtjgloineooadoaaGreatDoorMgZ10
import Derived.Test.YtjgloineooadoaaGreatDoorMgZ14
namespace Go.Proofs.YtjgloineooadoaaGreatDoor
open Go.RowKit
/-- Each node comes behind those that lead to it. -/
def Topo (G : Gr) (l : List Nat) : Prop := ∀ (k v : Nat), l[k]? = some v → cnt G (l.take k) v = 0
theorem Topo.snoc {G : Gr} {l : List Nat} {v : Nat} (h : Topo G l) (hr : rdy G l v = true) : Topo G (l ++ [v]) := by
  intro k u hk
  rcases Nat.lt_or_ge k l.length with hl | hl
  · rw [List.getElem?_append_left hl] at hk
    rw [List.take_append_of_le_length (by omega)]
    exact h k u hk
  · rw [List.getElem?_append_right hl] at hk
    have : k - l.length = 0 := by
      have := (List.getElem?_eq_some_iff.1 hk).1
      simp at this
      omega
    rw [this] at hk
    simp at hk
    subst hk
    have e : k = l.length := by omega
    rw [e, List.take_left]
    unfold rdy at hr
    simp only [Bool.and_eq_true, beq_iff_eq] at hr
    exact hr.2
theorem nextN_rdy {G : Gr} {n : Nat} {l : List Nat} {v : Nat} (h : nextN G n l = some v) : rdy G l v = true := by
  unfold nextN at h
  exact List.find?_some h
theorem gr_topo {G : Gr} {n : Nat} : ∀ (f : Nat) (l : List Nat), Topo G l → Topo G (gr G n f l)
  | 0, l, h => h
  | f + 1, l, h => by
    unfold gr
    cases e : nextN G n l with
    | none => exact h
    | some v => exact gr_topo f _ (h.snoc (nextN_rdy e))
theorem ordL_topo (G : Gr) (n : Nat) : Topo G (ordL G n) := gr_topo n [] (fun k v h => by simp at h)
theorem cnt_mem {G : Gr} {l : List Nat} {f t : Nat} (h : cnt G l t = 0) (hm : (f, t) ∈ G) : f ∈ l := by
  unfold cnt at h
  have := List.countP_eq_zero.1 h (f, t) hm
  simpa using this
theorem all_in {l : List Nat} {n : Nat} (hn : l.Nodup) (hl : ∀ u ∈ l, u < n) (hlen : n ≤ l.length) {v : Nat} (hv : v < n) : v ∈ l := by
  apply Classical.byContradiction
  intro h
  have := nodup_lt n (v :: l) (List.nodup_cons.2 ⟨h, hn⟩) (fun u hu => by
    rcases List.mem_cons.1 hu with rfl | hu
    · exact hv
    · exact hl u hu)
  simp at this
  omega
/-- A target of the k-th node is not among the first ones. -/
theorem topo_target {G : Gr} {l : List Nat} (T : Topo G l) (hn : l.Nodup) {k v t : Nat} (hk : l[k]? = some v) (hm : (v, t) ∈ G) : t ∉ l.take (k + 1) := by
  intro ht
  obtain ⟨p, hp, hpe⟩ := List.mem_iff_getElem.1 ht
  rw [List.length_take] at hp
  have h1 : l[p]? = some t := by rw [List.getElem_take] at hpe; rw [List.getElem?_eq_getElem (by omega), hpe]
  have h2 := cnt_mem (T p t h1) hm
  obtain ⟨q, hq, hqe⟩ := List.mem_iff_getElem.1 h2
  rw [List.length_take] at hq
  rw [List.getElem_take] at hqe
  obtain ⟨k1, k2⟩ := List.getElem?_eq_some_iff.1 hk
  exact List.pairwise_iff_getElem.1 hn q k (by omega) k1 (by omega) (by rw [hqe, k2])
/-- What holds of the coordinates when the first k nodes have been gone through, and j targets of the next one. -/
structure Lay (G : Gr) (n : Nat) (l : List Nat) (k : Nat) (X : Nat → Int) : Prop where
  b : ∀ v, v < n → 0 ≤ X v ∧ X v ≤ k
  f : ∀ a ∈ G, a.1 ∈ l.take k → X a.1 + 1 ≤ X a.2
structure LayJ (G : Gr) (n : Nat) (l : List Nat) (k v j : Nat) (X : Nat → Int) : Prop where
  b : ∀ u, u < n → 0 ≤ X u ∧ X u ≤ k + 1
  xv : X v ≤ k
  f : ∀ a ∈ G, a.1 ∈ l.take k → X a.1 + 1 ≤ X a.2
  t : ∀ u ∈ (nxt G v).take j, X v + 1 ≤ X u
theorem Lay.begin {G : Gr} {n : Nat} {l : List Nat} {k v : Nat} {X : Nat → Int} (h : Lay G n l k X) (hv : v < n) : LayJ G n l k v 0 X :=
  ⟨fun u hu => by have := h.b u hu; omega, (h.b v hv).2, h.f, by simp⟩
theorem nxt_of {G : Gr} {v t : Nat} (h : (v, t) ∈ G) : t ∈ nxt G v := by
  unfold nxt
  exact List.mem_map.2 ⟨(v, t), List.mem_filter.2 ⟨h, by simp⟩, rfl⟩
theorem LayJ.done {G : Gr} {n : Nat} {l : List Nat} {k v : Nat} {X : Nat → Int} (h : LayJ G n l k v (nxt G v).length X) (hk : l[k]? = some v) : Lay G n l (k + 1) X := by
  refine ⟨fun u hu => by have := h.b u hu; omega, fun a ha hm => ?_⟩
  obtain ⟨k1, k2⟩ := List.getElem?_eq_some_iff.1 hk
  rw [List.take_succ_eq_append_getElem k1, k2, List.mem_append] at hm
  rcases hm with hm | hm
  · exact h.f a ha hm
  · have e : a.1 = v := by simpa using hm
    have ht := h.t a.2 (by rw [List.take_of_length_le (Nat.le_refl _)]; exact nxt_of (by rw [← e]; exact ha))
    rw [e]; exact ht
theorem LayJ.step {G : Gr} {n : Nat} {l : List Nat} {k v j t : Nat} {X : Nat → Int} (h : LayJ G n l k v j X) (T : Topo G l) (hn : l.Nodup) (hk : l[k]? = some v) (hv : v < n) (hj : (nxt G v)[j]? = some t) : LayJ G n l k v (j + 1) (upd X t (max (X t) (X v + 1))) := by
  have hm : (v, t) ∈ G := nxt_mem (List.mem_of_getElem? hj)
  have htk := topo_target T hn hk hm
  have hvt : v ≠ t := fun e => htk (by
    obtain ⟨k1, k2⟩ := List.getElem?_eq_some_iff.1 hk
    rw [List.take_succ_eq_append_getElem k1, k2, ← e]; simp)
  have ge : ∀ u, X u ≤ upd X t (max (X t) (X v + 1)) u := fun u => by
    unfold upd
    by_cases e : u = t
    · rw [if_pos e, e]; omega
    · rw [if_neg e]; exact Int.le_refl _
  have same : ∀ u, u ∈ l.take (k + 1) → upd X t (max (X t) (X v + 1)) u = X u := fun u hu => by
    unfold upd; rw [if_neg (fun e : u = t => htk (by rw [← e]; exact hu))]
  have sv : upd X t (max (X t) (X v + 1)) v = X v := by unfold upd; rw [if_neg hvt]
  refine ⟨fun u hu => ?_, by rw [sv]; exact h.xv, fun a ha hm' => ?_, fun u hu => ?_⟩
  · have h1 := h.b u hu
    have h2 := h.b v hv
    have h3 := h.xv
    unfold upd
    by_cases e : u = t
    · rw [if_pos e, ← e]; omega
    · rw [if_neg e]; exact h1
  · have h1 := h.f a ha hm'
    have h2 := ge a.2
    have hm2 : a.1 ∈ l.take (k + 1) := by
      obtain ⟨k1, k2⟩ := List.getElem?_eq_some_iff.1 hk
      rw [List.take_succ_eq_append_getElem k1, List.mem_append]; exact .inl hm'
    rw [same a.1 hm2]; omega
  · obtain ⟨g1, g2⟩ := List.getElem?_eq_some_iff.1 hj
    rw [List.take_succ_eq_append_getElem g1, g2, List.mem_append] at hu
    rw [sv]
    rcases hu with hu | hu
    · have := h.t u hu; have := ge u; omega
    · have : u = t := by simpa using hu
      subst this
      simp [upd]; omega
theorem gOf_get {n : Nat} {L : List Arc} (k : Okg n L) {i : Nat} (hi : i < L.length) : (gOf L)[i]? = some (frL L i, ttL L i) := by
  obtain ⟨h, _⟩ := k.at_ hi
  unfold gOf
  rw [List.getElem?_map, h]
  simp
/-- What Layers tells of a dag. -/
def LPost (n : Nat) (L : List Arc) (w : World) (e : Ending) (w' : World) : Prop := ∃ (b : Nat) (X : Nat → Int), e = .returned (.tuple #[.slice (some ⟨b, 0, none⟩) n n, .int .i64 0]) ∧ w.heap.size ≤ b ∧ w'.rowIs b 3 n (fun v => .int .i64 (X v)) ∧ (∀ v, v < n → 0 ≤ X v ∧ X v ≤ n) ∧ (∀ i, i < L.length → X (frL L i) + 1 ≤ X (ttL L i)) ∧ Below w.heap.size w w'
section
variable {w : World} {V : Value} {L : List Arc}
set_option maxRecDepth 100000 in
set_option maxHeartbeats 4000000 in
theorem layers_any (n : Nat) (h : Arcs w V L) (k : Okg n L) (he : ordE n L = 0) :
    Calls Tryz.prog 17 #[.int .i64 (n : Int), V] w (LPost n L w) := by
  have hn0 := k.n0
  have hn1 := k.n1
  have hm1 := k.m1
  have HK := Lib.hid k
  have HH := Lib.hid h
  obtain ⟨A, cap, rfl, -, -, hA⟩ := h.at_
  have HA := Lib.hid hA
  obtain ⟨l, hl⟩ : ∃ l, ordL (gOf L) n = l := ⟨_, rfl⟩
  have hor : ordR n L = l := by unfold ordR; rw [if_pos he]; simpa using hl
  have hll : l.length = n := by
    have h1 := Tk.len (ordL_tk (gOf L) n)
    rw [hl] at h1
    have h2 := he
    unfold ordE at h2
    rw [if_pos (ordE_right he)] at h2
    split at h2
    · cases h2
    · rename_i h3
      have : ((n : Int)).toNat = n := by simp
      rw [this, hl] at h3
      omega
  have HTK := Lib.hid (ordL_tk (gOf L) n)
  have HTP := Lib.hid (ordL_topo (gOf L) n)
  rw [hl] at HTK HTP
  have HLL := Lib.hid hll
  have HOR := Lib.hid hor
  have HE := Lib.hid he
  have hmk1 := run_make_row' (P := Tryz.prog) 60 29 (.slice none 0 0) 24 Tryz.underlying60 info_ints rfl .i64 .i64 n (by omega) (by omega)
  have hmk2 := run_make_row' (P := Tryz.prog) 29 3 (.int .i64 0) 8 Tryz.underlying29 info_int rfl .i64 .i64 n (by omega) (by omega)
  have HMK2 := Lib.hid hmk2
  obtain ⟨i0, hi0, hz0, hz1, hz2⟩ := info_parts info_int
  clear h hA k he hl hor hll hmk2
  go_enter Tryz.func17, Tryz.ntmps17
  go_wp2_with fail
  refine (order_any _ HH.out).mono ?_
  rintro e w0 ⟨V0, rfl, B0, R0⟩
  rw [HE.out]
  rw [HOR.out] at R0
  obtain ⟨A0, c0, rfl, -⟩ := own_shape R0
  have HI0 := Lib.hid (Ints.of_ord R0)
  have HB0 := Lib.hid B0
  clear B0 R0
  go_wp2_with fail
  clear hmk1
  obtain ⟨w1, hw1⟩ : ∃ w1, w0.alloc (.cells (madeCells #[.slice none 0 0] n) 29) = w1 := ⟨_, rfl⟩
  have hnx : NX w1 w0.heap.size n (fun _ => .slice none 0 0) (fun v => nxt ((gOf L).take 0) v) := by
    rw [← hw1]
    exact (NX.made (World.rowIs_made w0 (.slice none 0 0) n 29)).congr (fun v _ => by simp [nxt])
  have HNX := Lib.hid hnx
  have HB1 : Hid (Below w0.heap.size w0 w1) := Lib.hid (by rw [← hw1]; exact (Below.refl _ _).alloc (Nat.le_refl _) _)
  have hs1 : w0.heap.size + 1 ≤ w1.heap.size := by rw [← hw1]; simp
  rw [hw1]
  clear hnx hw1
  go_loopw [29] (fun q wr => ∃ (i : Nat) (VV : Nat → Value), i ≤ L.length ∧ q = .int .i64 i ∧ NX wr w0.heap.size n VV (fun v => nxt ((gOf L).take i) v) ∧ Below w0.heap.size w0 wr ∧ w0.heap.size + 1 ≤ wr.heap.size) (fun q _ => L.length - (intOf q).toNat)
  case atStart => exact ⟨0, _, by omega, rfl, HNX.out, HB1.out, hs1⟩
  case round =>
    clear HNX HB1
    obtain ⟨i, VV, hi, rfl, NXX, Bl, hsz⟩ := hrel
    obtain ⟨wo, rfl⟩ : ∃ q : World, q = wr := ⟨_, rfl⟩
    by_cases hil : i < L.length
    · have hd : decide ((i : Int) < L.length) = true := by simp; omega
      obtain ⟨ba, off, rfl, hc⟩ := HA.out (by omega)
      obtain ⟨hat0, hf, ht, -⟩ := HK.out.at_ hil
      obtain ⟨c0', c1', c2'⟩ := hc i _ hat0
      have c0 := cell_later Bl (cell_later HB0.out c0')
      have c1 := cell_later Bl (cell_later HB0.out c1')
      have c2 := cell_later Bl (cell_later HB0.out c2')
      have HS : Hid ((gOf L).take (i + 1) = (gOf L).take i ++ [(frL L i, ttL L i)]) := Lib.hid (by
        obtain ⟨h1, h2⟩ := List.getElem?_eq_some_iff.1 (gOf_get HK.out hil)
        rw [List.take_succ_eq_append_getElem h1, h2])
      have hnl2 : (nxt ((gOf L).take i) (frL L i)).length ≤ 16384 := by
        have := nxt_len ((gOf L).take i) (frL L i)
        rw [List.length_take] at this
        omega
      generalize frL L i = f at *
      generalize ttL L i = t at *
      generalize wtL L i = x at *
      simp only at c0 c1 c2
      clear c0' c1' c2' hc hat0
      obtain ⟨wA, hwA⟩ : ∃ wA, wo.alloc (.cells #[.int .i64 (f : Nat), .int .i64 (t : Nat), .int .i64 x] 40) = wA := ⟨_, rfl⟩
      have BA : Below wo.heap.size wo wA := by rw [← hwA]; exact (Below.refl _ _).alloc (Nat.le_refl _) _
      have hG : wA.heap[wo.heap.size]? = some (.cells #[.int .i64 (f : Nat), .int .i64 (t : Nat), .int .i64 x] 40) := by rw [← hwA]; exact heap_at rfl
      have g0 : wA.cell? ⟨wo.heap.size, 0, none⟩ = some (.int .i64 (f : Nat)) := (Cl.of_block hG (j := 0) rfl).cell
      have g1 : wA.cell? ⟨wo.heap.size, 1, none⟩ = some (.int .i64 (t : Nat)) := (Cl.of_block hG (j := 1) rfl).cell
      have hszA : wo.heap.size + 1 ≤ wA.heap.size := by rw [← hwA]; simp
      have NA := NXX.later BA
      obtain ⟨r0, AV, cV, hVf, -⟩ := NA.read hf
      rw [hVf] at r0
      have HNA := Lib.hid NA
      have HVf := Lib.hid hVf
      have HG := Lib.hid hG
      have HBA := Lib.hid (Bl.trans (BA.mono (by omega)))
      have i1 : (0 : Int) ≤ (i : Int) := by omega
      have i2 : (i : Int) < (L.length : Int) := by omega
      have i3 : (0 : Int) ≤ (f : Int) := by omega
      have i4 : (f : Int) < (n : Int) := by omega
      clear hG BA NA hVf Bl NXX
      go_upto_region 8 with fail
      clear hwA c0 c1 c2
      refine wp_region_headsW [0, 1, 2, 3, 4, 5, 6, 7, 8, 9] [13] (fun w' => w'.cell? ⟨wo.heap.size, 0, none⟩ = some (.int .i64 (f : Nat)) ∧ w'.cell? ⟨wo.heap.size, 1, none⟩ = some (.int .i64 (t : Nat)) ∧ w'.cell? ⟨w0.heap.size, f, none⟩ = some (.slice AV (nxt ((gOf L).take i) f).length cV)) (by kernel_rfl) (by kernel_rfl) ⟨g0, g1, r0⟩ ?_
      iterate 10 (refine wpHi_cons (v := ?_) rfl (by rfl) (fun wS hwS => ?_) ?_; rotate_left 1; focus ((try dsimp only at hwS); go_simp; try with_reducible rfl); (try simp only [Act.put, List.setIfInBounds_toArray, List.set_cons_zero, List.set_cons_succ]))
      refine wpHi_nil ?_
      change wpW _ _ _ _ _ _ 4 _ _ _
      refine wpW_one (k := 10) (by kernel_rfl) rfl (fun K hK => ?_)
      go_simp
      have BX : Below wA.heap.size wA (wA.alloc (.cells #[.int .i64 (t : Nat)] 3)).drew := ((Below.refl _ _).alloc (Nat.le_refl _) _).drew
      refine hK.out _ _ (fun _ => ⟨cell_later BX g0, cell_later BX g1, cell_later BX r0⟩) ?_
      clear hK K
      refine wpW_one (k := 11) (by kernel_rfl) rfl (fun K hK => ?_)
      refine step_append_lies _ (by rfl) (.tmp 40) (.tmp 43) 29 (by rfl) (w0.heap.size + 2) 3 i0 (.int .i64 0) 1 8 Tryz.underlying29 hi0 hz0 hz1 hz2 rfl (by decide) (.slice AV (nxt ((gOf L).take i) f).length cV) (nxt ((gOf L).take i) f).length (flat encN (nxt ((gOf L).take i) f)) (by rfl) (HVf.out ▸ (HNA.out.later BX).rows f hf) ⟨wA.heap.size, 0, none⟩ 1 1 (encN t) (by rfl) rfl (World.news_of_block (heap_alloc_new wA (.cells #[.int .i64 (t : Nat)] 3))) (by intro u hu; simp [encN] at hu; subst hu; rfl) (by omega) (by simp only [maxLen]; omega) (by omega) (by have := BX.size; simp; omega) _ rfl ?_
      intro q cq w2 hown hgrow hat hlt
      obtain ⟨PN, ⟨u0, k1⟩, k2, PC, hab⟩ := HNA.out.push' BX hf HVf.out hown hgrow (hat.imp id (fun e => by have := BX.size; omega)) HG.out (by decide)
      have hne : (Value.slice AV (nxt ((gOf L).take i) f).length cV).ownBlock ≠ some w0.heap.size := fun e => by
        have := own_ge (HNA.out.rows f hf) (by rw [HVf.out]; exact e)
        omega
      have hbk := hgrow.block w0.heap.size (by have := BX.size; omega) (Ne.symm hne)
      have b0 : w2.cell? ⟨wo.heap.size, 0, none⟩ = some (.int .i64 (f : Nat)) := (Cl.of_block hab (j := 0) rfl).cell
      have b1 : w2.cell? ⟨wo.heap.size, 1, none⟩ = some (.int .i64 (t : Nat)) := (Cl.of_block hab (j := 1) rfl).cell
      have b2 : w2.cell? ⟨w0.heap.size, f, none⟩ = some (.slice AV (nxt ((gOf L).take i) f).length cV) := (World.cell?_of_block hbk).trans (cell_later BX r0)
      refine hK.out _ _ (fun _ => ⟨b0, b1, b2⟩) ?_
      clear hK K
      have HPN := Lib.hid PN
      have HPC := Lib.hid PC
      clear PN PC hown hgrow hat hlt hab hbk hne BX
      refine wpW_one (k := 12) (by kernel_rfl) rfl (fun K hK => ?_)
      go_simp
      refine hK.out _ _ (fun _ => ⟨b0, b1, b2⟩) ?_
      clear hK K
      refine wpW_one (k := 13) (by kernel_rfl) rfl (fun K hK => ?_)
      go_simp
      refine hK.out _ _ (fun h => absurd (by simp) h) ?_
      clear hK K
      refine wpW_done (by kernel_rfl) (NoPanic.normal ?_)
      clear b0 b1 b2 k1 k2 g0 g1 r0
      go_wp2_with fail
      have hS : ∀ b, (b = w0.heap.size ∨ (VV f).ownBlock = some b) → w0.heap.size ≤ b := fun b h => by
        rcases h with h | h
        · omega
        · have := own_ge (HNA.out.rows f hf) h; omega
      refine ⟨⟨i + 1, _, by omega, by go_num, HPN.out.congr (fun v _ => by rw [HS.out, nxt_snoc]), HBA.out.trans (HPC.out.below HBA.out.size hS), by have := HPC.out.size; omega⟩, by simp [intOf]; omega⟩
    · obtain rfl : i = L.length := by omega
      have hd : decide ((L.length : Int) < L.length) = false := by simp
      have hfull : (gOf L).take L.length = gOf L := List.take_of_length_le (by simp [gOf])
      rw [hfull] at NXX
      have HNX := Lib.hid NXX
      have HBl := Lib.hid Bl
      have hmk2 := HMK2.out
      clear NXX Bl hfull
      go_wp2_with fail
      clear hmk2
      obtain ⟨w2, hw2⟩ : ∃ w2, wo.alloc (.cells (madeCells #[.int .i64 0] n) 3) = w2 := ⟨_, rfl⟩
      have B2 : Below wo.heap.size wo w2 := by rw [← hw2]; exact (Below.refl _ _).alloc (Nat.le_refl _) _
      have R2 : w2.rowIs wo.heap.size 3 n (fun v => .int .i64 ((fun _ => 0) v)) := by rw [← hw2]; exact World.rowIs_made wo (.int .i64 0) n 3
      have HR2 := Lib.hid R2
      have HN2 := Lib.hid (HNX.out.later B2)
      have HI2 := Lib.hid (HI0.out.later ((HBl.out.mono (Nat.le_refl _)).trans (B2.mono (by omega))))
      have HB2 := Lib.hid (HBl.out.trans (B2.mono (by omega)))
      have hs2 : wo.heap.size + 1 ≤ w2.heap.size := by rw [← hw2]; simp
      have HNB := HNX
      have HBW : Hid (Below w0.heap.size w0 w2) := HB2
      rw [hw2]
      clear hw2 R2 B2 HNX HBl
      obtain ⟨AI, cI, e, -, -, hIA⟩ := Ints.at_ HI0.out
      have eA : A0 = AI := by injection e
      subst eA
      have HIA := Lib.hid hIA
      have HVB : Hid (∀ v g, v < n → (VV v).ownBlock = some g → g ≠ wo.heap.size) := Lib.hid (fun v g hv hg => by
        have := own_lt (HNB.out.rows v hv) hg
        omega)
      clear hIA e HNB
      go_loopw [51] (fun q wr => ∃ (k : Nat) (X : Nat → Int), k ≤ l.length ∧ q = .int .i64 k ∧ wr.rowIs wo.heap.size 3 n (fun v => .int .i64 (X v)) ∧ Hid (Lay (gOf L) n l k X) ∧ Chg (fun b => b = wo.heap.size) w2 wr) (fun q _ => l.length - (intOf q).toNat)
      case atStart => exact ⟨0, fun _ => 0, by omega, rfl, HR2.out, Lib.hid ⟨fun v _ => by simp, fun a _ h => by simp at h⟩, Chg.refl _ _⟩
      case round =>
        obtain ⟨k, X, hk, rfl, R, hLay, C⟩ := hrel
        obtain ⟨wk, rfl⟩ : ∃ q : World, q = wr := ⟨_, rfl⟩
        have HRk := Lib.hid R
        have HCk := Lib.hid C
        clear R C
        by_cases hkl : k < l.length
        · have hd : decide ((k : Int) < l.length) = true := by simp; omega
          obtain ⟨v, hv⟩ : ∃ v, l[k]? = some v := ⟨_, List.getElem?_eq_getElem hkl⟩
          have hvn : v < n := HTK.out.2.1 v (List.mem_of_getElem? hv)
          obtain ⟨bo, oo, rfl, hoc⟩ := HIA.out (by simp; omega)
          have o0 := hoc k (v : Int) (by rw [List.getElem?_map, hv]; rfl)
          have hbo := World.block_lt_of_cell? _ _ o0
          have o1 := cell_chg HCk.out (cell_later (HBW.out) o0) (fun e => by have e' : bo = wo.heap.size := e; have : bo < w0.heap.size := hbo; omega)
          obtain ⟨m0, Av, cv, hVv, hAv⟩ := HN2.out.read hvn
          have n0 := cell_chg HCk.out m0 (fun e => by have e' : w0.heap.size = wo.heap.size := e; omega)
          rw [hVv] at n0
          have HAv := Lib.hid hAv
          have HVV := Lib.hid hVv
          have hnv : (nxt (gOf L) v).length ≤ 16384 := by
            have := nxt_len (gOf L) v
            have e : (gOf L).length = L.length := by simp [gOf]
            omega
          have hkn : k < n := by rw [← HLL.out]; exact hkl
          have HLK := Lib.hid hv
          have HJ0 := Lib.hid (hLay.out.begin hvn)
          have k1 : (0 : Int) ≤ (k : Int) := by omega
          have k2 : (k : Int) < (l.length : Int) := by omega
          have v1 : (0 : Int) ≤ (v : Int) := by omega
          have v2 : (v : Int) < (n : Int) := by omega
          clear hv hoc o0 hVv hAv m0
          go_wp2_with fail
          clear o1 n0
          go_loopw [60] (fun q wj => ∃ (j : Nat) (X : Nat → Int), j ≤ (nxt (gOf L) v).length ∧ q = .int .i64 j ∧ wj.rowIs wo.heap.size 3 n (fun v => .int .i64 (X v)) ∧ Hid (LayJ (gOf L) n l k v j X) ∧ Chg (fun b => b = wo.heap.size) w2 wj) (fun q _ => (nxt (gOf L) v).length - (intOf q).toNat)
          case atStart => exact ⟨0, X, by omega, rfl, HRk.out, HJ0, HCk.out⟩
          case round =>
            obtain ⟨j, X, hj, rfl, R, HJ, C⟩ := hrel
            obtain ⟨wj, rfl⟩ : ∃ q : World, q = wr := ⟨_, rfl⟩
            have HRj := Lib.hid R
            have HCj := Lib.hid C
            clear R C
            by_cases hjl : j < (nxt (gOf L) v).length
            · have hd : decide ((j : Int) < (nxt (gOf L) v).length) = true := by simp; omega
              obtain ⟨t, htj⟩ : ∃ t, (nxt (gOf L) v)[j]? = some t := ⟨_, List.getElem?_eq_getElem hjl⟩
              have HNJ := Lib.hid htj
              obtain ⟨gA, rfl, hgc⟩ := HAv.out (by omega)
              have htn : t < n := by
                obtain ⟨q, hq1, hq2⟩ := List.mem_iff_getElem.1 (nxt_mem (List.mem_of_getElem? htj))
                have hql : q < L.length := by simpa [gOf] using hq1
                have h2 := gOf_get HK.out hql
                rw [List.getElem?_eq_getElem hq1, hq2] at h2
                have h3 : t = ttL L q := by injection h2 with h2; exact congrArg Prod.snd h2
                rw [h3]
                exact (HK.out.at_ hql).2.2.1
              obtain ⟨b1, b2, -, -⟩ := HJ.out
              have bt := b1 t htn
              have bv := b1 v hvn
              have q0 := HRj.out.cell htn
              have q1 := HRj.out.cell hvn
              have g0 : wj.cell? ⟨gA, j, none⟩ = some (.int .i64 (t : Nat)) := cell_chg HCj.out (hgc j t htj) (fun e => HVB.out v gA hvn (by rw [HVV.out]; rfl) e)
              have j1 : (0 : Int) ≤ (j : Int) := by omega
              have j2 : (j : Int) < ((nxt (gOf L) v).length : Int) := by omega
              have t1 : (0 : Int) ≤ (t : Int) := by omega
              have t2 : (t : Int) < (n : Int) := by omega
              have ew : IntKind.i64.wrap (X v + 1) = X v + 1 := IntWalk.i64_in _ (by omega)
              have HST := Lib.hid (LayJ.step HJ.out HTP.out HTK.out.1 HLK.out hvn HNJ.out)
              clear htj hgc
              obtain ⟨M, hM⟩ : ∃ M, max (X t) (X v + 1) = M := ⟨_, rfl⟩
              rw [hM] at HST
              go_upto_region 17 with fail
              go_still_tail 13, (by kernel_rfl)
              change wpList _ _ _ _ _ wj.drew
              have BD : Below wj.heap.size wj wj.drew := (Below.refl _ _).drew
              generalize wj.drew = wd at *
              have RD := HRj.out.of_block (BD.block _ HRj.out.lt)
              have f3 := RD.frozen t
              have f4 := RD.cell htn
              have HRD := Lib.hid RD
              have HCD := Lib.hid (HCj.out.trans (chg_below BD (fun b => b = wo.heap.size)) (fun b _ h => h))
              clear BD RD q0 q1 g0
              go_wp2_with fail
              all_goals
                refine ⟨⟨j + 1, upd X t M, by omega, by go_num, ?_, HST, HCD.out.trans (chg_set wd ⟨wo.heap.size, t, none⟩ _) (fun b _ h => h)⟩, by simp [intOf]; omega⟩
                first
                  | exact row_upd (F := fun z => .int .i64 z) HRD.out t M
                  | (have e : X t = M := by omega
                     rw [← e]; exact row_upd (F := fun z => .int .i64 z) HRD.out t (X t))
                  | (have e : X v + 1 = M := by omega
                     rw [← e]; exact row_upd (F := fun z => .int .i64 z) HRD.out t (X v + 1))
            · obtain rfl : j = (nxt (gOf L) v).length := by omega
              have hd : decide (((nxt (gOf L) v).length : Int) < (nxt (gOf L) v).length) = false := by simp
              have HD := Lib.hid (LayJ.done HJ.out HLK.out)
              go_wp2_with fail
              exact ⟨⟨k + 1, X, by omega, by go_num, HRj.out, HD, HCj.out⟩, by simp [intOf]; omega⟩
        · obtain rfl : k = l.length := by omega
          have hd : decide ((l.length : Int) < l.length) = false := by simp
          have HF : Hid ((∀ v, v < n → 0 ≤ X v ∧ X v ≤ n) ∧ ∀ i, i < L.length → X (frL L i) + 1 ≤ X (ttL L i)) := Lib.hid (by
            refine ⟨fun v hv => by have := hLay.out.b v hv; have := HLL.out; omega, fun i hi => ?_⟩
            have hg := gOf_get HK.out hi
            have hfn := (HK.out.at_ hi).2.1
            refine hLay.out.f (frL L i, ttL L i) (List.mem_of_getElem? hg) ?_
            rw [List.take_of_length_le (Nat.le_refl _)]
            exact all_in HTK.out.1 HTK.out.2.1 (by rw [HLL.out]; exact Nat.le_refl _) hfn)
          have HZ := Lib.hid (HB0.out.trans (HB2.out.trans (HCk.out.below HB2.out.size (fun b h => by omega)) |>.mono HB0.out.size))
          have hwo : w.heap.size ≤ wo.heap.size := by have := HB0.out.size; omega
          go_wp2_with fail
          refine bodyPost_ret (v := .tuple #[.slice (some ⟨wo.heap.size, 0, none⟩) n n, .int .i64 0]) (by simp [results, Tryz.results17, go_sem]) rfl ?_
          exact ⟨wo.heap.size, X, rfl, hwo, HRk.out, HF.out.1, HF.out.2, HZ.out⟩
end
end Go.Proofs.YtjgloineooadoaaGreatDoor
