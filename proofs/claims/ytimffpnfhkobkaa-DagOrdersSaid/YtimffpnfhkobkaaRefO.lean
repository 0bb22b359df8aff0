/- The document's own order of a graph's nodes. -/
import Derived.Test.YtimffpnfhkobkaaRefD
namespace Go.Proofs.Ytimffpnfhkobkaa
open Go.RowKit
def frB (G : Gr) (l : List Nat) (v i : Nat) : Bool := !l.contains v && (G.take i).all (fun a => a.2 != v || l.contains a.1)
theorem frB_rdy (G : Gr) (l : List Nat) (v : Nat) : frB G l v G.length = rdy G l v := by
  unfold frB rdy cnt
  rw [List.take_of_length_le (Nat.le_refl _), Bool.eq_iff_iff]
  simp only [Bool.and_eq_true, beq_iff_eq]
  constructor
  · rintro ⟨h1, h2⟩
    refine ⟨h1, List.countP_eq_zero.2 (fun a ha => ?_)⟩
    have := List.all_eq_true.1 h2 a ha
    simp at this ⊢
    intro e
    rcases this with h | h
    · exact absurd e h
    · exact h
  · rintro ⟨h1, h2⟩
    refine ⟨h1, List.all_eq_true.2 (fun a ha => ?_)⟩
    have := List.countP_eq_zero.1 h2 a ha
    simp at this ⊢
    by_cases e : a.2 = v
    · exact .inr (this e)
    · exact .inl e
theorem frB_zero (G : Gr) (l : List Nat) (v : Nat) : frB G l v 0 = !l.contains v := by simp [frB]
theorem frB_step {G : Gr} {l : List Nat} {v i : Nat} {a : Nat × Nat} (h : G[i]? = some a) : frB G l v (i + 1) = (frB G l v i && (a.2 != v || l.contains a.1)) := by
  unfold frB
  obtain ⟨h1, h2⟩ := List.getElem?_eq_some_iff.1 h
  rw [List.take_succ_eq_append_getElem h1, List.all_append, h2, Bool.and_assoc]
  simp
theorem frB_down {G : Gr} {l : List Nat} {v i : Nat} (h : frB G l v i = false) : rdy G l v = false := by
  rw [← frB_rdy]
  cases e : frB G l v G.length with
  | false => rfl
  | true =>
    have : frB G l v i = true := by
      unfold frB at *
      simp only [Bool.and_eq_true, List.all_eq_true] at *
      refine ⟨e.1, fun a ha => e.2 a ?_⟩
      rw [List.take_of_length_le (Nat.le_refl _)]
      exact List.mem_of_mem_take ha
    rw [h] at this; cases this
/-- The least that is free behind c. -/
def NextS (G : Gr) (m : Nat) (l : List Nat) (nx c : Int) : Prop :=
  (nx = -1 ∧ ∀ u : Nat, c < u → u < m → rdy G l u = false) ∨ (∃ p : Nat, nx = p ∧ c < p ∧ p < m ∧ rdy G l p = true ∧ ∀ u : Nat, c < u → u < p → rdy G l u = false)
theorem info_bool : (Try.prog.info? 4).map (fun i => (i.zero, i.size, i.bytes)) = some (some (.bool false), 1, 1) := by kernel_rfl
set_option maxRecDepth 100000 in
set_option maxHeartbeats 4000000 in
theorem refOrder_right {w : World} {V : Value} {L : List Arc} (n : Int) (h : Arcs w V L) (hr : rightB n L = true) :
    Calls Try.prog 15 #[.int .i64 n, V] w fun e w' => OrdT w n.toNat (gOf L) e w' := by
  obtain ⟨m, rfl, hm, hL, hG⟩ := right_gr hr
  have HR := Lib.hid hr
  have HG := Lib.hid hG
  have HGL : Hid ((gOf L).length = L.length) := Lib.hid (by simp [gOf])
  have HH := Lib.hid h
  clear hr hG
  obtain ⟨A, cap, rfl, -, hN, hA⟩ := h.at_
  have HA := Lib.hid hA
  clear h hA hN
  have hmk1 := run_make_row' (P := Try.prog) 41 4 (.bool false) 1 Try.underlying41 info_bool rfl .i64 .i64 m (by omega) (by omega)
  go_enter Try.func15, Try.ntmps15
  go_wp2_with fail
  refine (refRight_any _ HH.out).mono ?_
  rw [HR.out]
  rintro e w0 ⟨rfl, B0⟩
  have HB0 := Lib.hid B0
  clear B0
  go_wp2_with fail
  clear hmk1
  have HG0 : Hid (∀ i a, L[i]? = some a → ∃ f t x : Nat, a = ((f : Int), (t : Int), (x : Int)) ∧ f < m ∧ t < m ∧ (gOf L)[i]? = some (f, t)) := Lib.hid (fun i a ha => by
    obtain ⟨f, t, x, h1, h2, h3, _, h5⟩ := HG.out i a ha
    exact ⟨f, t, x, h1, h2, h3, h5⟩)
  generalize hGe : gOf L = G at *
  have HGe := Lib.hid hGe
  clear hGe HG
  go_loopw [8] (fun Vl wr => ∃ l : List Nat, wr.ownsRow (w0.heap.size + 1) 3 1 Vl l.length (flat encN l) ∧ Tk G m l ∧ ordL G m = gr G m (m - l.length) l ∧ wr.rowIs w0.heap.size 4 m (fun v => .bool (l.contains v)) ∧ Below w0.heap.size w0 wr ∧ w0.heap.size + 1 ≤ wr.heap.size) (fun Vl _ => m - (match Vl with | .slice _ k _ => k | _ => 0))
  case atStart => exact ⟨[], World.ownsRow_nil _ _ _ _, Tk.nil _ _, rfl, (World.rowIs_made w0 (.bool false) m 4).congr (fun v _ => by simp), (Below.refl _ _).alloc (Nat.le_refl _) _, by simp⟩
  case round => as_aux_lemma =>
    obtain ⟨l, OL, TK, hord, RB, Bl, hsz⟩ := hrel
    obtain ⟨Vl, rfl⟩ : ∃ x : Value, x = u8 := ⟨_, rfl⟩
    obtain ⟨AV, cV, rfl, -⟩ := own_shape OL
    have HOL := Lib.hid OL
    have HTK := Lib.hid TK
    have HORD := Lib.hid hord
    have HRB := Lib.hid RB
    have HBl := Lib.hid Bl
    have hlm := TK.len
    clear OL TK hord RB Bl
    obtain ⟨wo, rfl⟩ : ∃ x : World, x = wr := ⟨_, rfl⟩
    by_cases hll : l.length < m
    · have hld : decide ((l.length : Int) < m) = true := by simp; omega
      go_wp2_with fail
      go_loopw [9, 10] (fun nx c wx => ∃ (p q : Int), nx = .int .i64 p ∧ c = .int .i64 q ∧ -1 ≤ q ∧ q < m ∧ NextS G m l p q ∧ wx = wo) (fun _ c _ => (intOf c + 1).toNat)
      case atStart => exact ⟨-1, (m : Int) - 1, rfl, rfl, by omega, by omega, .inl ⟨rfl, fun u h1 h2 => by omega⟩, rfl⟩
      case round => as_aux_lemma =>
        obtain ⟨p, q, rfl, rfl, hq0, hq1, hnx, hwx⟩ := hrel
        replace hwx := hwx.symm
        subst hwx
        have HNX := Lib.hid hnx
        clear hnx
        by_cases hq : 0 ≤ q
        · obtain ⟨v, rfl⟩ := Int.eq_ofNat_of_zero_le hq
          have hvm : v < m := by omega
          have hqd : decide ((0 : Int) ≤ (v : Int)) = true := by simp
          have k0 := HRB.out.cell hvm
          go_wp2_with fail
          go_loopw [11, 12] (fun fv c wx => ∃ i : Nat, i ≤ L.length ∧ c = .int .i64 i ∧ fv = .bool (frB G l v i) ∧ wx = wo) (fun _ c _ => L.length - (intOf c).toNat)
          case atStart => exact ⟨0, by omega, rfl, by rw [frB_zero]; simp, rfl⟩
          case round => as_aux_lemma =>
            obtain ⟨i, hi, rfl, rfl, hwx⟩ := hrel
            replace hwx := hwx.symm
            subst hwx
            by_cases hil : i < L.length
            · have hid : decide ((i : Int) < L.length) = true := by simp; omega
              obtain ⟨fb, hfb⟩ : ∃ fb, frB G l v i = fb := ⟨_, rfl⟩
              have HFB := Lib.hid hfb
              rw [hfb]
              clear hfb
              cases fb
              · have hrd : Hid (rdy G l v = false) := Lib.hid (frB_down HFB.out)
                go_wp2_with fail
                refine ⟨⟨p, (v : Int) - 1, rfl, rfl, by omega, by omega, ?_, trivial⟩, by simp [intOf]⟩
                rcases HNX.out with ⟨h1, h2⟩ | ⟨pp, h1, h2, h3, h4, h5⟩
                · refine .inl ⟨h1, fun u hu1 hu2 => ?_⟩
                  by_cases e : u = v
                  · subst e; exact hrd.out
                  · exact h2 u (by omega) hu2
                · refine .inr ⟨pp, h1, by omega, h3, h4, fun u hu1 hu2 => ?_⟩
                  by_cases e : u = v
                  · subst e; exact hrd.out
                  · exact h5 u (by omega) hu2
              · obtain ⟨b, off, rfl, hc⟩ := HA.out (by omega)
                obtain ⟨a, ha⟩ : ∃ a, L[i]? = some a := ⟨_, List.getElem?_eq_getElem hil⟩
                obtain ⟨c0, c1, c2⟩ := hc i a ha
                obtain ⟨f, t, x, rfl, hf, ht, hg⟩ := HG0.out i a ha
                have bch : Below w.heap.size w wo := below_then HB0.out HB0.out.size HBl.out
                have c0 := cell_later bch c0
                have c1 := cell_later bch c1
                simp only at c0 c1
                have k1 := HRB.out.cell hf
                have HST := Lib.hid (frB_step (l := l) (v := v) hg)
                have i1 : (0 : Int) ≤ (f : Int) := by omega
                have i2 : (f : Int) < (m : Int) := by omega
                obtain ⟨cb, hcb⟩ : ∃ cb, l.contains f = cb := ⟨_, rfl⟩
                rw [hcb] at k1
                have HCB := Lib.hid hcb
                clear hc ha hg bch hcb k0
                by_cases htv : t = v
                · have htd : ((t : Int) != (v : Int)) = false := by simp [htv]
                  have HTV := Lib.hid htv
                  clear htv
                  go_wp2_with fail
                  (try go_quiet (fail))
                  (try go_wp2_with fail)
                  exact ⟨⟨i + 1, by omega, by go_num, by rw [HST.out, HFB.out, HCB.out]; simp [HTV.out], trivial⟩, by simp [intOf]; omega⟩
                · have htd : ((t : Int) != (v : Int)) = true := by simp; omega
                  have HTV : Hid ((t != v) = true) := Lib.hid (by simp [htv])
                  clear htv
                  go_wp2_with fail
                  (try go_quiet (fail))
                  (try go_wp2_with fail)
                  exact ⟨⟨i + 1, by omega, by go_num, by rw [HST.out, HFB.out]; simp only [HTV.out]; simp, trivial⟩, by simp [intOf]; omega⟩
            · obtain rfl : i = L.length := by omega
              have hfr : frB G l v L.length = rdy G l v := by rw [← frB_rdy, HGL.out]
              rw [hfr]
              obtain ⟨fb, hfb⟩ : ∃ fb, rdy G l v = fb := ⟨_, rfl⟩
              have HFB := Lib.hid hfb
              rw [hfb]
              clear hfb hfr
              cases fb
              · go_wp2_with fail
                refine ⟨⟨p, (v : Int) - 1, rfl, rfl, by omega, by omega, ?_, trivial⟩, by simp [intOf]⟩
                rcases HNX.out with ⟨h1, h2⟩ | ⟨pp, h1, h2, h3, h4, h5⟩
                · refine .inl ⟨h1, fun u hu1 hu2 => ?_⟩
                  by_cases e : u = v
                  · subst e; exact HFB.out
                  · exact h2 u (by omega) hu2
                · refine .inr ⟨pp, h1, by omega, h3, h4, fun u hu1 hu2 => ?_⟩
                  by_cases e : u = v
                  · subst e; exact HFB.out
                  · exact h5 u (by omega) hu2
              · go_wp2_with fail
                exact ⟨⟨(v : Int), (v : Int) - 1, rfl, rfl, by omega, by omega, .inr ⟨v, rfl, by omega, hvm, HFB.out, fun u h1 h2 => by omega⟩, trivial⟩, by simp [intOf]⟩
        · obtain rfl : q = -1 := by omega
          rcases HNX.out with ⟨rfl, hno⟩ | ⟨pp, rfl, h2, h3, h4, h5⟩
          · have hstop : Hid (ordL G m = l) := Lib.hid (by rw [HORD.out, gr_stop (fun u hu => hno u (by omega) hu)])
            clear hno
            go_wp2_with fail
            refine bodyPost_ret (v := .tuple #[.slice none 0 0, .int .i64 11]) (by simp [results, Try.results15, go_sem]) rfl ?_
            refine ⟨_, _, rfl, below_then HB0.out HB0.out.size HBl.out, .inl ⟨?_, rfl, rfl⟩⟩
            first | rw [Int.toNat_natCast, HGe.out, hstop.out] | rw [HGe.out, hstop.out]
            exact hll
          · have HTK2 := Lib.hid (HTK.out.add h3 h4)
            have HORD2 : Hid (ordL G m = gr G m (m - (l ++ [pp]).length) (l ++ [pp])) := Lib.hid (by
              rw [HORD.out, gr_step (by omega) h3 h4 (fun u hu => h5 u (by omega) hu), List.length_append]
              rfl)
            have k1 := HRB.out.cell h3
            have k2 := HRB.out.frozen pp
            have i1 : (0 : Int) ≤ (pp : Int) := by omega
            have i2 : (pp : Int) < (m : Int) := by omega
            clear h4 h5
            obtain ⟨i0, hi0, hz0, hz1, hz2⟩ := info_parts info_int
            have RB2 := (HRB.out.set pp (.bool true)).congr (g := fun v => .bool ((l ++ [pp]).contains v)) (fun v _ => by
              by_cases e : v = pp
              · subst e; simp
              · simp [e])
            have OL2 := own_chg HOL.out ((Chg.refl (fun b => b = w0.heap.size) wo).setCell (p := ⟨w0.heap.size, pp, none⟩) (fun _ => rfl) (.bool true)) (fun g hg h => by have := own_ge HOL.out hg; omega)
            have B2 := HBl.out.setCell (p := ⟨w0.heap.size, pp, none⟩) (Nat.le_refl _) (.bool true)
            have hs2 : w0.heap.size + 1 ≤ (wo.setCell ⟨w0.heap.size, pp, none⟩ (.bool true)).heap.size := by simp [World.setCell]; omega
            have hs3 := B2.size
            have BA : Below (wo.setCell ⟨w0.heap.size, pp, none⟩ (.bool true)).heap.size (wo.setCell ⟨w0.heap.size, pp, none⟩ (.bool true)) ((wo.setCell ⟨w0.heap.size, pp, none⟩ (.bool true)).alloc (.cells #[.int .i64 (pp : Nat)] 3)) := (Below.refl _ _).alloc (Nat.le_refl _) _
            have HOL3 := Lib.hid (own_later OL2 BA)
            have HRB3 := Lib.hid (RB2.of_block (BA.block _ RB2.lt))
            have HB3 := Lib.hid (B2.trans (BA.mono hs3))
            have hs4 := BA.size
            clear RB2 OL2 B2 BA
            go_upto_region 21 with fail
            generalize wo.setCell ⟨w0.heap.size, pp, none⟩ (.bool true) = ws at *
            go_wp2_with (refine wpList_append_lies _ rfl (.tmp 68) (.tmp 70) 26 rfl (w0.heap.size + 1) 3 i0 (.int .i64 0) 1 8 Try.underlying26 hi0 hz0 hz1 hz2 rfl (by decide) (.slice AV l.length cV) l.length (flat encN l) rfl HOL3.out ⟨ws.heap.size, 0, none⟩ 1 1 (encN pp) rfl rfl (World.news_of_block (heap_at rfl)) (by intro u hu; simp [encN] at hu; subst hu; rfl) (by omega) (by simp only [maxLen]; omega) (by omega) (by simp; omega) _ rfl ?_; intro g cq w3 hown hgrow hat hlt)
            have R4 := HRB3.out.of_block (hgrow.block _ HRB3.out.lt (fun e => by have := own_ge HOL3.out e.symm; omega))
            have B4 := HB3.out.grown hgrow (by simp; omega) (fun q hq => by have := own_ge HOL3.out hq; omega)
            have hs5 := hgrow.size
            refine ⟨⟨l ++ [pp], ?_, HTK2.out, HORD2.out, R4, B4, by omega⟩, ?_⟩
            · rw [flat_append, List.length_append]
              simpa [flat] using hown
            · show m - (l.length + 1) < m - l.length
              omega
    · have hld : decide ((l.length : Int) < m) = false := by simp; omega
      have hstop : Hid (ordL G m = l) := Lib.hid (by
        rw [HORD.out, show m - l.length = 0 by omega]
        rfl)
      go_wp2_with fail
      refine bodyPost_ret (v := .tuple #[.slice AV l.length cV, .int .i64 0]) (by simp [results, Try.results15, go_sem]) rfl ?_
      have hz0 := HB0.out.size
      refine ⟨_, _, rfl, below_then HB0.out HB0.out.size HBl.out, .inr ?_⟩
      first | rw [Int.toNat_natCast, HGe.out, hstop.out] | rw [HGe.out, hstop.out]
      exact ⟨by omega, row_rebase HOL.out (by omega), rfl⟩
end Go.Proofs.Ytimffpnfhkobkaa
