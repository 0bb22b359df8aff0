/- page.points: numbers by twos. -/
import Derived.Test.YtkpgjgmlhcipeaaDoorPgC
namespace Go.Proofs.YtkpgjgmlhcipeaaDoor
open Go.RowKit Go.Shelf
attribute [local go_sem] Oper.semAt_some
section
variable {F : Fence} {n : Nat} {P : Program} {ops : Array Oper} {Q : Exit → Act → World → Prop} {md : Region.Mode}
/-- What no operation of the region defers is carried out in a round as everywhere. -/
theorem wpOpIn_round {i l : Nat} {K : Act → World → Prop} {a : Act} {w : World} (hnd : ∀ (j : Nat) (o : Oper), ops[j]? = some o → ∀ c, o.op ≠ .defer c) (h : wpOpIn F n P ops Q i K a w) : wpOpIn (F.inRound l) n P ops Q i K a w := by
  unfold wpOpIn at *
  cases ho : ops[i]? with
  | none => simpa [ho] using h
  | some o =>
    simp only [ho] at h ⊢
    split at h
    · rename_i hw
      rw [if_pos hw]
      unfold Oper.wpIn at *
      rw [Oper.semAt_plain F _ _ (hnd i o ho)] at h
      rw [Oper.semAt_plain (F.inRound l) _ _ (hnd i o ho)]
      exact h
    · rename_i hw
      rw [if_neg hw]
      exact h
theorem wpAnyIn_round {l : Nat} (hnd : ∀ (j : Nat) (o : Oper), ops[j]? = some o → ∀ c, o.op ≠ .defer c) : ∀ (fuel : Nat) (listed : Array Bool) (a : Act) (w : World) (_ : wpAnyIn F n P md ops Q fuel listed a w), wpAnyIn (F.inRound l) n P md ops Q fuel listed a w
  | 0, _, _, _, h => h
  | fuel + 1, _, _, _, h => ⟨h.1, fun i hi => wpOpIn_round hnd (wpOpIn_mono (fun a w h => wpAnyIn_round hnd fuel _ a w h) (h.2 i hi))⟩
def noDefer (ops : Array Oper) : Bool := ops.all fun o => match o.op with
  | .defer _ => false
  | _ => true
theorem noDefer_spec (h : noDefer ops = true) : ∀ (j : Nat) (o : Oper), ops[j]? = some o → ∀ c, o.op ≠ .defer c := by
  intro j o ho c hc
  unfold noDefer at h
  rw [Array.all_eq_true] at h
  obtain ⟨hj, e⟩ := Array.getElem?_eq_some_iff.1 ho
  have := h j hj
  rw [e, hc] at this
  cases this
theorem op_append_in {o : Oper} {a : Act} {K : Act → World → Prop} {w : World} (s x : Operand) (t : TypeId)
    (ho : o.op = .call { callee := .builtin .append, args := #[s, x], argTypes := #[t, t] })
    (base : Nat) (e : TypeId) (i : TypeInfo) (z : Value) (size bytes : Nat) (ht : P.underlying t = some (.slice e)) (hi : P.info? e = some i) (hz : i.zero = some z)
    (hsize : i.size = size) (hby : i.bytes = bytes) (hzs : z.cells.size = size) (hsz : 0 < size)
    (v : Value) (m : Nat) (xs : List Value) (hs : a.eval s = v) (hown : w.ownsRow base e size v m xs)
    (ad : Addr) (k c : Nat) (news : List Value) (hx : a.eval x = .slice (some ad) k c) (hl : news.length = k * size) (hnews : ∀ j u, news[j]? = some u → w.cell? (ad.add j) = some u) (h1 : ∀ u ∈ news, u.oneCell' = true)
    (h63 : m + k ≤ maxLen) (hbytes : (m + k) * bytes ≤ 140737488355328) (hbase : base ≤ w.heap.size)
    (h : ∀ v' w', w'.ownsRow base e size v' (m + k) (xs ++ news) → w.grownBy w' v.ownBlock → (v' = .slice none 0 0 ↔ v = .slice none 0 0 ∧ k = 0) → K (a.put o.dst v') w') : o.wpIn F n P a w K Q := by
  obtain ⟨v', w', hr, h2, h3, h4⟩ := run_append_own (P := P) w base t o.type e i z size bytes ht hi hz hsize hby hzs hsz v m xs hown ad k c news hl hnews h1 h63 hbytes hbase
  unfold Oper.wpIn
  refine ⟨?_, ?_⟩
  · simp [Oper.about, ho, resolve, Target.leads, Sem.run_pure]
  · rw [Oper.semAt_plain F _ _ (by rw [ho]; intro c hc'; cases hc')]
    simp [execOp, ho, resolve, invoke, builtin, hs, hx, hr, Result.andThen]
    exact h v' w' h2 h3 h4
end
theorem box_own {β : Type} (B : Nat) (t : TypeId) (v : Value) : Own (fun (_ : β) W => Boxed W B t v) := by
  rintro s X Y row hv hg hrow
  refine hv.kept hg (fun e' => ?_)
  obtain ⟨o, ho, hc⟩ := hrow B e'.symm
  rw [show X.heap[B]? = _ from hv] at ho; cases ho; cases hc
/-- Another variable's box stays where a row of one's own has grown and one's own box is written. -/
theorem box_beside {W w1 : World} {n₀ B B' size m : Nat} {t e : TypeId} {u v v' : Value} {xs : List Value} {tmp : Obj} (h : Boxed W B' t u) (hte : t ≠ e) (hrow : W.ownsRow n₀ e size v m xs) (hgrow : (W.alloc tmp).grownBy w1 v.ownBlock) (hne : B' ≠ B) : Boxed (w1.setCell ⟨B, 0, none⟩ v') B' t u :=
  ((h.alloc tmp).kept hgrow (h.not_row hte hrow)).kept (grownBy_setCell' w1 B v') (by simpa using hne)
theorem keeps_drew (W : World) : KeepsOthers W W.drew := KeepsOthers.of_grownBy (row := none) ⟨rfl, rfl, rfl, Nat.le_refl _, fun _ _ _ => rfl⟩ (fun _ _ e => by cases e)
def pairA (f : Nat → Int) (k : Nat) : Pt := (f (2 * k), f (2 * k + 1))
theorem info_point : (Tryd.prog.info? 73).map (fun i => (i.zero, i.size, i.bytes)) = some (some (.agg #[.int .i64 0, .int .i64 0]), 2, 16) := by kernel_rfl
set_option maxRecDepth 100000 in
set_option maxHeartbeats 2000000 in
theorem points_in {w : World} (A : Option Addr) (cap k b off : Nat) (f : Nat → Int) (hk : k ≤ 1000000000) (hV : VSl (.slice A (2 * k) cap) k b off) (hc : ∀ j, j < 2 * k → w.cell? ⟨b, off + j, none⟩ = some (.int .i64 (f j))) :
    CallsIn Fence.wide 6 Tryd.prog 76 #[.slice A (2 * k) cap] w fun e w' => ∃ v, e = .returned v ∧ w'.ownsRow w.heap.size 73 2 v k (flat encP ((List.range k).map (pairA f))) ∧ Below w.heap.size w w' := by
  obtain ⟨i0, hi, hz0, hz1, hz2⟩ := info_parts info_point
  have f1 : Fence.wide.fn 92 := trivial
  refine callsIn_of_wp_marks Tryd.func76 rfl trivial ?_ rfl
  simp only [Tryd.ntmps76, List.size_toArray, List.length_cons, List.length_nil, Nat.reduceAdd, Nat.reduceSub, Array.replicate_succ, Array.replicate_zero, List.push_toArray, List.append_toArray, List.nil_append, List.cons_append]
  gi_wp2_with (gi_at_call 92; refine (chunk_in 5 A (2 * k) cap _).mono ?_; rintro e w' ⟨rfl, rfl⟩)
  have bO := (Boxed.new w 76 (.slice none 0 0))
  refine wpIn_rangeFunc_ownG rfl (by omega) (gf := 103) (lb := #[.pointer (some ⟨w.heap.size + 1, 0, none⟩), .pointer (some ⟨w.heap.size + 2, 0, none⟩)]) rfl trivial (enters_of Tryd.func103 (by kernel_rfl) rfl)
    (chunk_stops 5 (w.heap.size + 1) (w.heap.size + 2) (.slice A (2 * k) cap) k b off (by omega) _ ?_ ?_ ?_ ?_ hV) (fun h k => h.trans k) (fun W l o o' _ h hc _ => KC.putObj W l o o' h hc) (Below.refl _ _) (fun _ => rfl)
    (fun (pre : List (Ix k)) W => ((∃ v, Boxed W w.heap.size 76 v ∧ W.ownsRow w.heap.size 73 2 v pre.length (flat encP (pre.map fun x => pairA f x.1)) ∧ True) ∧ Below w.heap.size w W) ∧ (Boxed W (w.heap.size + 1) 101 (.slice A (2 * k) cap) ∧ Boxed W (w.heap.size + 2) 3 (.int .i64 2)))
    (fun _ _ _ => False)
    (OwnFrom.and (OwnFrom.and (Own.from (holdsRow_own w.heap.size w.heap.size 76 73 2 (fun (pre : List (Ix k)) => pre.length) (fun (pre : List (Ix k)) => flat encP (pre.map fun x => pairA f x.1)) (fun (_ : List (Ix k)) _ => True)) _) (ownFrom_below (Nat.le_refl _) (by simp; omega))) (OwnFrom.and (Own.from (box_own _ _ _) _) (Own.from (box_own _ _ _) _)))
    (fun _ _ _ _ _ hs _ _ => hs)
    ?start
    (fun (x : Ix k) => { tmps := #[.slice A (2 * k) cap, undef, .slice none 0 0, .pointer (some ⟨w.heap.size, 0, none⟩), .slice (some ⟨b, off + 2 * x.1, none⟩) 2 2, .slice A (2 * k) cap, .func (.func 103) #[] #[.pointer (some ⟨w.heap.size + 1, 0, none⟩), .pointer (some ⟨w.heap.size + 2, 0, none⟩)], .slice (some ⟨b, off + 2 * x.1, none⟩) 2 2, undef, undef, undef, undef, undef, undef, undef, undef, undef, undef, undef], defers := [] }) ?assign ?body ?done ?stop
  · simp
  · simp
  · have := (Boxed.new (w.alloc (.cells #[.slice none 0 0] 76)) 101 (.slice A (2 * k) cap)).alloc (.cells #[.int .i64 2] 3)
    simpa using this.cell
  · have := Boxed.new ((w.alloc (.cells #[.slice none 0 0] 76)).alloc (.cells #[.slice A (2 * k) cap] 101)) 3 (.int .i64 2)
    simpa using this.cell
  case start =>
    refine ⟨⟨⟨_, (bO.alloc _).alloc _, World.ownsRow_nil _ _ _ _, trivial⟩, (((Below.refl _ _).alloc (Nat.le_refl _) _).alloc (by simp) _).alloc (by simp; omega) _⟩, ?_, ?_⟩
    · have := (Boxed.new (w.alloc (.cells #[.slice none 0 0] 76)) 101 (.slice A (2 * k) cap)).alloc (.cells #[.int .i64 2] 3)
      simpa using this
    · have := Boxed.new ((w.alloc (.cells #[.slice none 0 0] 76)).alloc (.cells #[.slice A (2 * k) cap] 101)) 3 (.int .i64 2)
      simpa using this
  case assign =>
    intro l x W K hK
    gi_wp2
    exact hK
  case body =>
    rintro l pre x W ⟨⟨⟨v, hv, hrow, -⟩, hB⟩, hbs, hbn⟩ hlt
    have hv0 := hv.cell
    have c0 := cell_later hB (hc (2 * x.1) (by have := x.2; omega))
    have c1 := cell_later hB (hc (2 * x.1 + 1) (by have := x.2; omega))
    rw [← Nat.add_assoc] at c1
    have hvd : Boxed W.drew w.heap.size 76 v := hv
    have hrowd : W.drew.ownsRow w.heap.size 73 2 v pre.length (flat encP (pre.map fun x => pairA f x.1)) := hrow
    have hBd := hB.drew
    have hva := (hv.alloc (.cells #[.int .i64 (f (2 * x.1)), .int .i64 (f (2 * x.1 + 1))] 73)).cell
    gi_wp2
    refine wpIn_region_any (by kernel_rfl) (wpAnyIn_round (noDefer_spec (by kernel_rfl)) _ _ _ _ ?_)
    change wpAnyIn _ _ _ _ _ _ 11 _ _ (World.drew _)
    refine wpAnyIn_take (i := 1) (v := ?v1) rfl rfl (by kernel_rfl) (by kernel_rfl) (by kernel_rfl) (fun _ _ _ h => h) ⟨Or.inl ⟨by rfl, ?y1⟩, fun _ => rfl⟩ ?r1
    case y1 => intro w; go_simp; (try with_reducible rfl)
    refine wpAnyIn_take (i := 2) (v := ?v2) rfl rfl (by kernel_rfl) (by kernel_rfl) (by kernel_rfl) (fun _ _ _ h => h) ⟨Or.inl ⟨by rfl, ?y2⟩, fun _ => rfl⟩ ?r2
    case y2 => intro w; go_simp; (try with_reducible rfl)
    refine wpAnyIn_take (i := 4) (v := ?v4) rfl rfl (by kernel_rfl) (by kernel_rfl) (by kernel_rfl) (fun _ _ _ h => h) ⟨Or.inl ⟨by rfl, ?y4⟩, fun _ => rfl⟩ ?r4
    case y4 => intro w; go_simp; (try with_reducible rfl)
    refine wpAnyIn_take (i := 5) (v := ?v5) rfl rfl (by kernel_rfl) (by kernel_rfl) (by kernel_rfl) (fun _ _ _ h => h) ⟨Or.inl ⟨by rfl, ?y5⟩, fun _ => rfl⟩ ?r5
    case y5 => intro w; go_simp; (try with_reducible rfl)
    refine wpAnyIn_ready (rs := [0, 3, 6]) (by kernel_rfl) (by simp) ?_
    refine AllReadyIn.cons rfl (fun K hK => ?_) ?_
    · go_simp
      refine hK _ _ ?_
      clear hK K
      refine wpAnyIn_ready (rs := [3, 6]) (by kernel_rfl) (by simp) ?_
      refine AllReadyIn.cons rfl (fun K hK => ?_) ?_
      · go_simp
        refine hK _ _ ?_
        clear hK K
        refine wpAnyIn_ready (rs := [6]) (by kernel_rfl) (by simp) ?_
        refine AllReadyIn.cons rfl (fun K hK => ?_) ?_
        · go_simp
          refine hK _ _ ?_
          clear hK K
          refine wpAnyIn_ready (rs := [7]) (by kernel_rfl) (by simp) ?_
          refine AllReadyIn.cons rfl (fun K hK => ?_) ?_
          · go_simp
            refine hK _ _ ?_
            clear hK K
            refine wpAnyIn_ready (rs := [8]) (by kernel_rfl) (by simp) ?_
            refine AllReadyIn.cons rfl (fun K hK => ?_) ?_
            · go_simp
              refine hK _ _ ?_
              clear hK K
              refine wpAnyIn_ready (rs := [9]) (by kernel_rfl) (by simp) ?_
              refine AllReadyIn.cons rfl (fun K hK => ?_) AllReadyIn.nil
              rw [if_pos (by rfl)]
              refine op_append_in _ _ _ rfl w.heap.size 73 i0 _ 2 16 Tryd.underlying76 hi hz0 hz1 hz2 rfl (by decide) v pre.length _ rfl (hrowd.alloc _) ⟨W.drew.heap.size, 0, none⟩ 1 1 [.int .i64 (f (2 * x.1)), .int .i64 (f (2 * x.1 + 1))] rfl rfl (World.news_of_block (heap_at rfl)) (by intro u hu; simp at hu; rcases hu with rfl | rfl <;> rfl) (by simp only [maxLen]; omega) (by omega) (by have := hB.size; simp; omega) ?_
              intro v' w1 hown' hgrow _
              obtain ⟨g', cap', rfl⟩ := ownsRow_succ hown'
              obtain ⟨hv1, hv2, hr2, hk2, hb2⟩ := hvd.appended (by decide) hrowd hBd.size (Nat.le_refl _) hown' hgrow
              have hc1 := hv1.cell
              have hf1 := hv1.frozen
              refine hK _ _ ?_
              clear hK K
              refine wpAnyIn_ready (rs := [10]) (by kernel_rfl) (by simp) ?_
              refine AllReadyIn.cons rfl (fun K hK => ?_) AllReadyIn.nil
              go_simp
              refine hK _ _ ?_
              clear hK K
              refine wpAnyIn_done (by kernel_rfl) ?_ _
              have k1 := box_beside (B := w.heap.size) (v' := .slice (some ⟨g', 0, none⟩) (pre.length + 1) cap') (show Boxed W.drew _ _ _ from hbs) (by decide) hrowd hgrow (by omega)
              have k2 := box_beside (B := w.heap.size) (v' := .slice (some ⟨g', 0, none⟩) (pre.length + 1) cap') (show Boxed W.drew _ _ _ from hbn) (by decide) hrowd hgrow (by omega)
              exact ⟨((keeps_drew W).trans hk2).from _, ⟨fun u hu => by rw [hbs.cell] at hu; cases hu; exact k1.cell, fun u hu => by rw [hbn.cell] at hu; cases hu; exact k2.cell⟩, ⟨⟨_, hv2, by rw [List.map_append, flat_append, List.length_append]; exact hr2, trivial⟩, hBd.trans hb2⟩, k1, k2⟩
            exact AllReadyIn.nil
          exact AllReadyIn.nil
        exact AllReadyIn.nil
      refine AllReadyIn.cons rfl (fun K hK => ?_) ?_
      · go_simp
        refine hK _ _ ?_
        clear hK K
        refine wpAnyIn_ready (rs := [3]) (by kernel_rfl) (by simp) ?_
        refine AllReadyIn.cons rfl (fun K hK => ?_) ?_
        · go_simp
          refine hK _ _ ?_
          clear hK K
          refine wpAnyIn_ready (rs := [7]) (by kernel_rfl) (by simp) ?_
          refine AllReadyIn.cons rfl (fun K hK => ?_) ?_
          · go_simp
            refine hK _ _ ?_
            clear hK K
            refine wpAnyIn_ready (rs := [8]) (by kernel_rfl) (by simp) ?_
            refine AllReadyIn.cons rfl (fun K hK => ?_) ?_
            · go_simp
              refine hK _ _ ?_
              clear hK K
              refine wpAnyIn_ready (rs := [9]) (by kernel_rfl) (by simp) ?_
              refine AllReadyIn.cons rfl (fun K hK => ?_) AllReadyIn.nil
              rw [if_pos (by rfl)]
              refine op_append_in _ _ _ rfl w.heap.size 73 i0 _ 2 16 Tryd.underlying76 hi hz0 hz1 hz2 rfl (by decide) v pre.length _ rfl (hrowd.alloc _) ⟨W.drew.heap.size, 0, none⟩ 1 1 [.int .i64 (f (2 * x.1)), .int .i64 (f (2 * x.1 + 1))] rfl rfl (World.news_of_block (heap_at rfl)) (by intro u hu; simp at hu; rcases hu with rfl | rfl <;> rfl) (by simp only [maxLen]; omega) (by omega) (by have := hB.size; simp; omega) ?_
              intro v' w1 hown' hgrow _
              obtain ⟨g', cap', rfl⟩ := ownsRow_succ hown'
              obtain ⟨hv1, hv2, hr2, hk2, hb2⟩ := hvd.appended (by decide) hrowd hBd.size (Nat.le_refl _) hown' hgrow
              have hc1 := hv1.cell
              have hf1 := hv1.frozen
              refine hK _ _ ?_
              clear hK K
              refine wpAnyIn_ready (rs := [10]) (by kernel_rfl) (by simp) ?_
              refine AllReadyIn.cons rfl (fun K hK => ?_) AllReadyIn.nil
              go_simp
              refine hK _ _ ?_
              clear hK K
              refine wpAnyIn_done (by kernel_rfl) ?_ _
              have k1 := box_beside (B := w.heap.size) (v' := .slice (some ⟨g', 0, none⟩) (pre.length + 1) cap') (show Boxed W.drew _ _ _ from hbs) (by decide) hrowd hgrow (by omega)
              have k2 := box_beside (B := w.heap.size) (v' := .slice (some ⟨g', 0, none⟩) (pre.length + 1) cap') (show Boxed W.drew _ _ _ from hbn) (by decide) hrowd hgrow (by omega)
              exact ⟨((keeps_drew W).trans hk2).from _, ⟨fun u hu => by rw [hbs.cell] at hu; cases hu; exact k1.cell, fun u hu => by rw [hbn.cell] at hu; cases hu; exact k2.cell⟩, ⟨⟨_, hv2, by rw [List.map_append, flat_append, List.length_append]; exact hr2, trivial⟩, hBd.trans hb2⟩, k1, k2⟩
            exact AllReadyIn.nil
          exact AllReadyIn.nil
        exact AllReadyIn.nil
      exact AllReadyIn.nil
    refine AllReadyIn.cons rfl (fun K hK => ?_) ?_
    · go_simp
      refine hK _ _ ?_
      clear hK K
      refine wpAnyIn_ready (rs := [0, 6]) (by kernel_rfl) (by simp) ?_
      refine AllReadyIn.cons rfl (fun K hK => ?_) ?_
      · go_simp
        refine hK _ _ ?_
        clear hK K
        refine wpAnyIn_ready (rs := [6]) (by kernel_rfl) (by simp) ?_
        refine AllReadyIn.cons rfl (fun K hK => ?_) ?_
        · go_simp
          refine hK _ _ ?_
          clear hK K
          refine wpAnyIn_ready (rs := [7]) (by kernel_rfl) (by simp) ?_
          refine AllReadyIn.cons rfl (fun K hK => ?_) ?_
          · go_simp
            refine hK _ _ ?_
            clear hK K
            refine wpAnyIn_ready (rs := [8]) (by kernel_rfl) (by simp) ?_
            refine AllReadyIn.cons rfl (fun K hK => ?_) ?_
            · go_simp
              refine hK _ _ ?_
              clear hK K
              refine wpAnyIn_ready (rs := [9]) (by kernel_rfl) (by simp) ?_
              refine AllReadyIn.cons rfl (fun K hK => ?_) AllReadyIn.nil
              rw [if_pos (by rfl)]
              refine op_append_in _ _ _ rfl w.heap.size 73 i0 _ 2 16 Tryd.underlying76 hi hz0 hz1 hz2 rfl (by decide) v pre.length _ rfl (hrowd.alloc _) ⟨W.drew.heap.size, 0, none⟩ 1 1 [.int .i64 (f (2 * x.1)), .int .i64 (f (2 * x.1 + 1))] rfl rfl (World.news_of_block (heap_at rfl)) (by intro u hu; simp at hu; rcases hu with rfl | rfl <;> rfl) (by simp only [maxLen]; omega) (by omega) (by have := hB.size; simp; omega) ?_
              intro v' w1 hown' hgrow _
              obtain ⟨g', cap', rfl⟩ := ownsRow_succ hown'
              obtain ⟨hv1, hv2, hr2, hk2, hb2⟩ := hvd.appended (by decide) hrowd hBd.size (Nat.le_refl _) hown' hgrow
              have hc1 := hv1.cell
              have hf1 := hv1.frozen
              refine hK _ _ ?_
              clear hK K
              refine wpAnyIn_ready (rs := [10]) (by kernel_rfl) (by simp) ?_
              refine AllReadyIn.cons rfl (fun K hK => ?_) AllReadyIn.nil
              go_simp
              refine hK _ _ ?_
              clear hK K
              refine wpAnyIn_done (by kernel_rfl) ?_ _
              have k1 := box_beside (B := w.heap.size) (v' := .slice (some ⟨g', 0, none⟩) (pre.length + 1) cap') (show Boxed W.drew _ _ _ from hbs) (by decide) hrowd hgrow (by omega)
              have k2 := box_beside (B := w.heap.size) (v' := .slice (some ⟨g', 0, none⟩) (pre.length + 1) cap') (show Boxed W.drew _ _ _ from hbn) (by decide) hrowd hgrow (by omega)
              exact ⟨((keeps_drew W).trans hk2).from _, ⟨fun u hu => by rw [hbs.cell] at hu; cases hu; exact k1.cell, fun u hu => by rw [hbn.cell] at hu; cases hu; exact k2.cell⟩, ⟨⟨_, hv2, by rw [List.map_append, flat_append, List.length_append]; exact hr2, trivial⟩, hBd.trans hb2⟩, k1, k2⟩
            exact AllReadyIn.nil
          exact AllReadyIn.nil
        exact AllReadyIn.nil
      refine AllReadyIn.cons rfl (fun K hK => ?_) ?_
      · go_simp
        refine hK _ _ ?_
        clear hK K
        refine wpAnyIn_ready (rs := [0, 7]) (by kernel_rfl) (by simp) ?_
        refine AllReadyIn.cons rfl (fun K hK => ?_) ?_
        · go_simp
          refine hK _ _ ?_
          clear hK K
          refine wpAnyIn_ready (rs := [7]) (by kernel_rfl) (by simp) ?_
          refine AllReadyIn.cons rfl (fun K hK => ?_) ?_
          · go_simp
            refine hK _ _ ?_
            clear hK K
            refine wpAnyIn_ready (rs := [8]) (by kernel_rfl) (by simp) ?_
            refine AllReadyIn.cons rfl (fun K hK => ?_) ?_
            · go_simp
              refine hK _ _ ?_
              clear hK K
              refine wpAnyIn_ready (rs := [9]) (by kernel_rfl) (by simp) ?_
              refine AllReadyIn.cons rfl (fun K hK => ?_) AllReadyIn.nil
              rw [if_pos (by rfl)]
              refine op_append_in _ _ _ rfl w.heap.size 73 i0 _ 2 16 Tryd.underlying76 hi hz0 hz1 hz2 rfl (by decide) v pre.length _ rfl (hrowd.alloc _) ⟨W.drew.heap.size, 0, none⟩ 1 1 [.int .i64 (f (2 * x.1)), .int .i64 (f (2 * x.1 + 1))] rfl rfl (World.news_of_block (heap_at rfl)) (by intro u hu; simp at hu; rcases hu with rfl | rfl <;> rfl) (by simp only [maxLen]; omega) (by omega) (by have := hB.size; simp; omega) ?_
              intro v' w1 hown' hgrow _
              obtain ⟨g', cap', rfl⟩ := ownsRow_succ hown'
              obtain ⟨hv1, hv2, hr2, hk2, hb2⟩ := hvd.appended (by decide) hrowd hBd.size (Nat.le_refl _) hown' hgrow
              have hc1 := hv1.cell
              have hf1 := hv1.frozen
              refine hK _ _ ?_
              clear hK K
              refine wpAnyIn_ready (rs := [10]) (by kernel_rfl) (by simp) ?_
              refine AllReadyIn.cons rfl (fun K hK => ?_) AllReadyIn.nil
              go_simp
              refine hK _ _ ?_
              clear hK K
              refine wpAnyIn_done (by kernel_rfl) ?_ _
              have k1 := box_beside (B := w.heap.size) (v' := .slice (some ⟨g', 0, none⟩) (pre.length + 1) cap') (show Boxed W.drew _ _ _ from hbs) (by decide) hrowd hgrow (by omega)
              have k2 := box_beside (B := w.heap.size) (v' := .slice (some ⟨g', 0, none⟩) (pre.length + 1) cap') (show Boxed W.drew _ _ _ from hbn) (by decide) hrowd hgrow (by omega)
              exact ⟨((keeps_drew W).trans hk2).from _, ⟨fun u hu => by rw [hbs.cell] at hu; cases hu; exact k1.cell, fun u hu => by rw [hbn.cell] at hu; cases hu; exact k2.cell⟩, ⟨⟨_, hv2, by rw [List.map_append, flat_append, List.length_append]; exact hr2, trivial⟩, hBd.trans hb2⟩, k1, k2⟩
            exact AllReadyIn.nil
          exact AllReadyIn.nil
        refine AllReadyIn.cons rfl (fun K hK => ?_) ?_
        · go_simp
          refine hK _ _ ?_
          clear hK K
          refine wpAnyIn_ready (rs := [0, 8]) (by kernel_rfl) (by simp) ?_
          refine AllReadyIn.cons rfl (fun K hK => ?_) ?_
          · go_simp
            refine hK _ _ ?_
            clear hK K
            refine wpAnyIn_ready (rs := [8]) (by kernel_rfl) (by simp) ?_
            refine AllReadyIn.cons rfl (fun K hK => ?_) ?_
            · go_simp
              refine hK _ _ ?_
              clear hK K
              refine wpAnyIn_ready (rs := [9]) (by kernel_rfl) (by simp) ?_
              refine AllReadyIn.cons rfl (fun K hK => ?_) AllReadyIn.nil
              rw [if_pos (by rfl)]
              refine op_append_in _ _ _ rfl w.heap.size 73 i0 _ 2 16 Tryd.underlying76 hi hz0 hz1 hz2 rfl (by decide) v pre.length _ rfl (hrowd.alloc _) ⟨W.drew.heap.size, 0, none⟩ 1 1 [.int .i64 (f (2 * x.1)), .int .i64 (f (2 * x.1 + 1))] rfl rfl (World.news_of_block (heap_at rfl)) (by intro u hu; simp at hu; rcases hu with rfl | rfl <;> rfl) (by simp only [maxLen]; omega) (by omega) (by have := hB.size; simp; omega) ?_
              intro v' w1 hown' hgrow _
              obtain ⟨g', cap', rfl⟩ := ownsRow_succ hown'
              obtain ⟨hv1, hv2, hr2, hk2, hb2⟩ := hvd.appended (by decide) hrowd hBd.size (Nat.le_refl _) hown' hgrow
              have hc1 := hv1.cell
              have hf1 := hv1.frozen
              refine hK _ _ ?_
              clear hK K
              refine wpAnyIn_ready (rs := [10]) (by kernel_rfl) (by simp) ?_
              refine AllReadyIn.cons rfl (fun K hK => ?_) AllReadyIn.nil
              go_simp
              refine hK _ _ ?_
              clear hK K
              refine wpAnyIn_done (by kernel_rfl) ?_ _
              have k1 := box_beside (B := w.heap.size) (v' := .slice (some ⟨g', 0, none⟩) (pre.length + 1) cap') (show Boxed W.drew _ _ _ from hbs) (by decide) hrowd hgrow (by omega)
              have k2 := box_beside (B := w.heap.size) (v' := .slice (some ⟨g', 0, none⟩) (pre.length + 1) cap') (show Boxed W.drew _ _ _ from hbn) (by decide) hrowd hgrow (by omega)
              exact ⟨((keeps_drew W).trans hk2).from _, ⟨fun u hu => by rw [hbs.cell] at hu; cases hu; exact k1.cell, fun u hu => by rw [hbn.cell] at hu; cases hu; exact k2.cell⟩, ⟨⟨_, hv2, by rw [List.map_append, flat_append, List.length_append]; exact hr2, trivial⟩, hBd.trans hb2⟩, k1, k2⟩
            exact AllReadyIn.nil
          refine AllReadyIn.cons rfl (fun K hK => ?_) ?_
          · go_simp
            refine hK _ _ ?_
            clear hK K
            refine wpAnyIn_ready (rs := [0]) (by kernel_rfl) (by simp) ?_
            refine AllReadyIn.cons rfl (fun K hK => ?_) ?_
            · go_simp
              refine hK _ _ ?_
              clear hK K
              refine wpAnyIn_ready (rs := [9]) (by kernel_rfl) (by simp) ?_
              refine AllReadyIn.cons rfl (fun K hK => ?_) AllReadyIn.nil
              rw [if_pos (by rfl)]
              refine op_append_in _ _ _ rfl w.heap.size 73 i0 _ 2 16 Tryd.underlying76 hi hz0 hz1 hz2 rfl (by decide) v pre.length _ rfl (hrowd.alloc _) ⟨W.drew.heap.size, 0, none⟩ 1 1 [.int .i64 (f (2 * x.1)), .int .i64 (f (2 * x.1 + 1))] rfl rfl (World.news_of_block (heap_at rfl)) (by intro u hu; simp at hu; rcases hu with rfl | rfl <;> rfl) (by simp only [maxLen]; omega) (by omega) (by have := hB.size; simp; omega) ?_
              intro v' w1 hown' hgrow _
              obtain ⟨g', cap', rfl⟩ := ownsRow_succ hown'
              obtain ⟨hv1, hv2, hr2, hk2, hb2⟩ := hvd.appended (by decide) hrowd hBd.size (Nat.le_refl _) hown' hgrow
              have hc1 := hv1.cell
              have hf1 := hv1.frozen
              refine hK _ _ ?_
              clear hK K
              refine wpAnyIn_ready (rs := [10]) (by kernel_rfl) (by simp) ?_
              refine AllReadyIn.cons rfl (fun K hK => ?_) AllReadyIn.nil
              go_simp
              refine hK _ _ ?_
              clear hK K
              refine wpAnyIn_done (by kernel_rfl) ?_ _
              have k1 := box_beside (B := w.heap.size) (v' := .slice (some ⟨g', 0, none⟩) (pre.length + 1) cap') (show Boxed W.drew _ _ _ from hbs) (by decide) hrowd hgrow (by omega)
              have k2 := box_beside (B := w.heap.size) (v' := .slice (some ⟨g', 0, none⟩) (pre.length + 1) cap') (show Boxed W.drew _ _ _ from hbn) (by decide) hrowd hgrow (by omega)
              exact ⟨((keeps_drew W).trans hk2).from _, ⟨fun u hu => by rw [hbs.cell] at hu; cases hu; exact k1.cell, fun u hu => by rw [hbn.cell] at hu; cases hu; exact k2.cell⟩, ⟨⟨_, hv2, by rw [List.map_append, flat_append, List.length_append]; exact hr2, trivial⟩, hBd.trans hb2⟩, k1, k2⟩
            exact AllReadyIn.nil
          exact AllReadyIn.nil
        exact AllReadyIn.nil
      exact AllReadyIn.nil
    refine AllReadyIn.cons rfl (fun K hK => ?_) ?_
    · go_simp
      refine hK _ _ ?_
      clear hK K
      refine wpAnyIn_ready (rs := [0, 3]) (by kernel_rfl) (by simp) ?_
      refine AllReadyIn.cons rfl (fun K hK => ?_) ?_
      · go_simp
        refine hK _ _ ?_
        clear hK K
        refine wpAnyIn_ready (rs := [3]) (by kernel_rfl) (by simp) ?_
        refine AllReadyIn.cons rfl (fun K hK => ?_) ?_
        · go_simp
          refine hK _ _ ?_
          clear hK K
          refine wpAnyIn_ready (rs := [7]) (by kernel_rfl) (by simp) ?_
          refine AllReadyIn.cons rfl (fun K hK => ?_) ?_
          · go_simp
            refine hK _ _ ?_
            clear hK K
            refine wpAnyIn_ready (rs := [8]) (by kernel_rfl) (by simp) ?_
            refine AllReadyIn.cons rfl (fun K hK => ?_) ?_
            · go_simp
              refine hK _ _ ?_
              clear hK K
              refine wpAnyIn_ready (rs := [9]) (by kernel_rfl) (by simp) ?_
              refine AllReadyIn.cons rfl (fun K hK => ?_) AllReadyIn.nil
              rw [if_pos (by rfl)]
              refine op_append_in _ _ _ rfl w.heap.size 73 i0 _ 2 16 Tryd.underlying76 hi hz0 hz1 hz2 rfl (by decide) v pre.length _ rfl (hrowd.alloc _) ⟨W.drew.heap.size, 0, none⟩ 1 1 [.int .i64 (f (2 * x.1)), .int .i64 (f (2 * x.1 + 1))] rfl rfl (World.news_of_block (heap_at rfl)) (by intro u hu; simp at hu; rcases hu with rfl | rfl <;> rfl) (by simp only [maxLen]; omega) (by omega) (by have := hB.size; simp; omega) ?_
              intro v' w1 hown' hgrow _
              obtain ⟨g', cap', rfl⟩ := ownsRow_succ hown'
              obtain ⟨hv1, hv2, hr2, hk2, hb2⟩ := hvd.appended (by decide) hrowd hBd.size (Nat.le_refl _) hown' hgrow
              have hc1 := hv1.cell
              have hf1 := hv1.frozen
              refine hK _ _ ?_
              clear hK K
              refine wpAnyIn_ready (rs := [10]) (by kernel_rfl) (by simp) ?_
              refine AllReadyIn.cons rfl (fun K hK => ?_) AllReadyIn.nil
              go_simp
              refine hK _ _ ?_
              clear hK K
              refine wpAnyIn_done (by kernel_rfl) ?_ _
              have k1 := box_beside (B := w.heap.size) (v' := .slice (some ⟨g', 0, none⟩) (pre.length + 1) cap') (show Boxed W.drew _ _ _ from hbs) (by decide) hrowd hgrow (by omega)
              have k2 := box_beside (B := w.heap.size) (v' := .slice (some ⟨g', 0, none⟩) (pre.length + 1) cap') (show Boxed W.drew _ _ _ from hbn) (by decide) hrowd hgrow (by omega)
              exact ⟨((keeps_drew W).trans hk2).from _, ⟨fun u hu => by rw [hbs.cell] at hu; cases hu; exact k1.cell, fun u hu => by rw [hbn.cell] at hu; cases hu; exact k2.cell⟩, ⟨⟨_, hv2, by rw [List.map_append, flat_append, List.length_append]; exact hr2, trivial⟩, hBd.trans hb2⟩, k1, k2⟩
            exact AllReadyIn.nil
          exact AllReadyIn.nil
        exact AllReadyIn.nil
      refine AllReadyIn.cons rfl (fun K hK => ?_) ?_
      · go_simp
        refine hK _ _ ?_
        clear hK K
        refine wpAnyIn_ready (rs := [0, 7]) (by kernel_rfl) (by simp) ?_
        refine AllReadyIn.cons rfl (fun K hK => ?_) ?_
        · go_simp
          refine hK _ _ ?_
          clear hK K
          refine wpAnyIn_ready (rs := [7]) (by kernel_rfl) (by simp) ?_
          refine AllReadyIn.cons rfl (fun K hK => ?_) ?_
          · go_simp
            refine hK _ _ ?_
            clear hK K
            refine wpAnyIn_ready (rs := [8]) (by kernel_rfl) (by simp) ?_
            refine AllReadyIn.cons rfl (fun K hK => ?_) ?_
            · go_simp
              refine hK _ _ ?_
              clear hK K
              refine wpAnyIn_ready (rs := [9]) (by kernel_rfl) (by simp) ?_
              refine AllReadyIn.cons rfl (fun K hK => ?_) AllReadyIn.nil
              rw [if_pos (by rfl)]
              refine op_append_in _ _ _ rfl w.heap.size 73 i0 _ 2 16 Tryd.underlying76 hi hz0 hz1 hz2 rfl (by decide) v pre.length _ rfl (hrowd.alloc _) ⟨W.drew.heap.size, 0, none⟩ 1 1 [.int .i64 (f (2 * x.1)), .int .i64 (f (2 * x.1 + 1))] rfl rfl (World.news_of_block (heap_at rfl)) (by intro u hu; simp at hu; rcases hu with rfl | rfl <;> rfl) (by simp only [maxLen]; omega) (by omega) (by have := hB.size; simp; omega) ?_
              intro v' w1 hown' hgrow _
              obtain ⟨g', cap', rfl⟩ := ownsRow_succ hown'
              obtain ⟨hv1, hv2, hr2, hk2, hb2⟩ := hvd.appended (by decide) hrowd hBd.size (Nat.le_refl _) hown' hgrow
              have hc1 := hv1.cell
              have hf1 := hv1.frozen
              refine hK _ _ ?_
              clear hK K
              refine wpAnyIn_ready (rs := [10]) (by kernel_rfl) (by simp) ?_
              refine AllReadyIn.cons rfl (fun K hK => ?_) AllReadyIn.nil
              go_simp
              refine hK _ _ ?_
              clear hK K
              refine wpAnyIn_done (by kernel_rfl) ?_ _
              have k1 := box_beside (B := w.heap.size) (v' := .slice (some ⟨g', 0, none⟩) (pre.length + 1) cap') (show Boxed W.drew _ _ _ from hbs) (by decide) hrowd hgrow (by omega)
              have k2 := box_beside (B := w.heap.size) (v' := .slice (some ⟨g', 0, none⟩) (pre.length + 1) cap') (show Boxed W.drew _ _ _ from hbn) (by decide) hrowd hgrow (by omega)
              exact ⟨((keeps_drew W).trans hk2).from _, ⟨fun u hu => by rw [hbs.cell] at hu; cases hu; exact k1.cell, fun u hu => by rw [hbn.cell] at hu; cases hu; exact k2.cell⟩, ⟨⟨_, hv2, by rw [List.map_append, flat_append, List.length_append]; exact hr2, trivial⟩, hBd.trans hb2⟩, k1, k2⟩
            exact AllReadyIn.nil
          exact AllReadyIn.nil
        refine AllReadyIn.cons rfl (fun K hK => ?_) ?_
        · go_simp
          refine hK _ _ ?_
          clear hK K
          refine wpAnyIn_ready (rs := [0, 8]) (by kernel_rfl) (by simp) ?_
          refine AllReadyIn.cons rfl (fun K hK => ?_) ?_
          · go_simp
            refine hK _ _ ?_
            clear hK K
            refine wpAnyIn_ready (rs := [8]) (by kernel_rfl) (by simp) ?_
            refine AllReadyIn.cons rfl (fun K hK => ?_) ?_
            · go_simp
              refine hK _ _ ?_
              clear hK K
              refine wpAnyIn_ready (rs := [9]) (by kernel_rfl) (by simp) ?_
              refine AllReadyIn.cons rfl (fun K hK => ?_) AllReadyIn.nil
              rw [if_pos (by rfl)]
              refine op_append_in _ _ _ rfl w.heap.size 73 i0 _ 2 16 Tryd.underlying76 hi hz0 hz1 hz2 rfl (by decide) v pre.length _ rfl (hrowd.alloc _) ⟨W.drew.heap.size, 0, none⟩ 1 1 [.int .i64 (f (2 * x.1)), .int .i64 (f (2 * x.1 + 1))] rfl rfl (World.news_of_block (heap_at rfl)) (by intro u hu; simp at hu; rcases hu with rfl | rfl <;> rfl) (by simp only [maxLen]; omega) (by omega) (by have := hB.size; simp; omega) ?_
              intro v' w1 hown' hgrow _
              obtain ⟨g', cap', rfl⟩ := ownsRow_succ hown'
              obtain ⟨hv1, hv2, hr2, hk2, hb2⟩ := hvd.appended (by decide) hrowd hBd.size (Nat.le_refl _) hown' hgrow
              have hc1 := hv1.cell
              have hf1 := hv1.frozen
              refine hK _ _ ?_
              clear hK K
              refine wpAnyIn_ready (rs := [10]) (by kernel_rfl) (by simp) ?_
              refine AllReadyIn.cons rfl (fun K hK => ?_) AllReadyIn.nil
              go_simp
              refine hK _ _ ?_
              clear hK K
              refine wpAnyIn_done (by kernel_rfl) ?_ _
              have k1 := box_beside (B := w.heap.size) (v' := .slice (some ⟨g', 0, none⟩) (pre.length + 1) cap') (show Boxed W.drew _ _ _ from hbs) (by decide) hrowd hgrow (by omega)
              have k2 := box_beside (B := w.heap.size) (v' := .slice (some ⟨g', 0, none⟩) (pre.length + 1) cap') (show Boxed W.drew _ _ _ from hbn) (by decide) hrowd hgrow (by omega)
              exact ⟨((keeps_drew W).trans hk2).from _, ⟨fun u hu => by rw [hbs.cell] at hu; cases hu; exact k1.cell, fun u hu => by rw [hbn.cell] at hu; cases hu; exact k2.cell⟩, ⟨⟨_, hv2, by rw [List.map_append, flat_append, List.length_append]; exact hr2, trivial⟩, hBd.trans hb2⟩, k1, k2⟩
            exact AllReadyIn.nil
          refine AllReadyIn.cons rfl (fun K hK => ?_) ?_
          · go_simp
            refine hK _ _ ?_
            clear hK K
            refine wpAnyIn_ready (rs := [0]) (by kernel_rfl) (by simp) ?_
            refine AllReadyIn.cons rfl (fun K hK => ?_) ?_
            · go_simp
              refine hK _ _ ?_
              clear hK K
              refine wpAnyIn_ready (rs := [9]) (by kernel_rfl) (by simp) ?_
              refine AllReadyIn.cons rfl (fun K hK => ?_) AllReadyIn.nil
              rw [if_pos (by rfl)]
              refine op_append_in _ _ _ rfl w.heap.size 73 i0 _ 2 16 Tryd.underlying76 hi hz0 hz1 hz2 rfl (by decide) v pre.length _ rfl (hrowd.alloc _) ⟨W.drew.heap.size, 0, none⟩ 1 1 [.int .i64 (f (2 * x.1)), .int .i64 (f (2 * x.1 + 1))] rfl rfl (World.news_of_block (heap_at rfl)) (by intro u hu; simp at hu; rcases hu with rfl | rfl <;> rfl) (by simp only [maxLen]; omega) (by omega) (by have := hB.size; simp; omega) ?_
              intro v' w1 hown' hgrow _
              obtain ⟨g', cap', rfl⟩ := ownsRow_succ hown'
              obtain ⟨hv1, hv2, hr2, hk2, hb2⟩ := hvd.appended (by decide) hrowd hBd.size (Nat.le_refl _) hown' hgrow
              have hc1 := hv1.cell
              have hf1 := hv1.frozen
              refine hK _ _ ?_
              clear hK K
              refine wpAnyIn_ready (rs := [10]) (by kernel_rfl) (by simp) ?_
              refine AllReadyIn.cons rfl (fun K hK => ?_) AllReadyIn.nil
              go_simp
              refine hK _ _ ?_
              clear hK K
              refine wpAnyIn_done (by kernel_rfl) ?_ _
              have k1 := box_beside (B := w.heap.size) (v' := .slice (some ⟨g', 0, none⟩) (pre.length + 1) cap') (show Boxed W.drew _ _ _ from hbs) (by decide) hrowd hgrow (by omega)
              have k2 := box_beside (B := w.heap.size) (v' := .slice (some ⟨g', 0, none⟩) (pre.length + 1) cap') (show Boxed W.drew _ _ _ from hbn) (by decide) hrowd hgrow (by omega)
              exact ⟨((keeps_drew W).trans hk2).from _, ⟨fun u hu => by rw [hbs.cell] at hu; cases hu; exact k1.cell, fun u hu => by rw [hbn.cell] at hu; cases hu; exact k2.cell⟩, ⟨⟨_, hv2, by rw [List.map_append, flat_append, List.length_append]; exact hr2, trivial⟩, hBd.trans hb2⟩, k1, k2⟩
            exact AllReadyIn.nil
          exact AllReadyIn.nil
        exact AllReadyIn.nil
      exact AllReadyIn.nil
    exact AllReadyIn.nil
  case done =>
    rintro D ys W hD hys ⟨⟨⟨v, hv, hrow, -⟩, hB⟩, -⟩ hK
    have hc := hv.cell
    gi_wp2
    refine ⟨by simp, .inl ⟨_, _, rfl, run_takeDeferred hK, ?_⟩⟩
    refine ⟨_, results_tmp rfl _ _ _, v, rfl, ?_, hB.trans (belowK_b (w := w) (Nat.le_refl _) W D _ _ (by simp at hD; omega) hK rfl rfl)⟩
    have e : ys.map (fun x => pairA f x.1) = (List.range k).map (pairA f) := by rw [← hys, List.map_map]; rfl
    have el : ys.length = k := by have := congrArg List.length hys; simpa using this
    rw [e, el] at hrow
    exact ownsRow_putObj hrow _ hK rfl
  case stop =>
    rintro D c pre W _ _ h _
    exact h.elim
theorem pairs_of (xs : List Int) (k : Nat) (hk : xs.length = 2 * k) : (List.range k).map (pairA fun j => xs[j]?.getD 0) = pairs xs := by
  apply List.ext_getElem?
  intro i
  by_cases hi : i < k
  · rw [pairs_get xs i (by omega), List.getElem?_map, List.getElem?_range hi]
    rfl
  · rw [List.getElem?_eq_none (by simp; omega), List.getElem?_eq_none (by rw [pairs_len k xs hk]; omega)]
theorem points_any {w : World} {V : Value} {xs : List Int} (h : Ints w V xs) (k : Nat) (hk : xs.length = 2 * k) (hk2 : k ≤ 1000000000) :
    Calls Tryd.prog 76 #[V] w fun e w' => ∃ v, e = .returned v ∧ w'.ownsRow w.heap.size 73 2 v k (flat encP (pairs xs)) ∧ Below w.heap.size w w' := by
  obtain ⟨A, cap, rfl, h1, h2, hc⟩ := h.at_
  rw [hk] at h1 ⊢
  by_cases h0 : 0 < xs.length
  · obtain ⟨b, off, rfl, hcc⟩ := hc h0
    have H := points_in (w := w) (some ⟨b, off, none⟩) cap k b off (fun j => xs[j]?.getD 0) hk2 (.inr ⟨cap, rfl, h1⟩) (fun j hj => by
      rw [List.getElem?_eq_getElem (by omega)]
      exact hcc j _ (List.getElem?_eq_getElem (by omega)))
    rw [pairs_of xs k hk] at H
    exact callsIn_wide.1 H
  · have hk0 : k = 0 := by omega
    subst hk0
    have H := points_in (w := w) A cap 0 0 0 (fun j => xs[j]?.getD 0) hk2 (.inl ⟨rfl, A, cap, rfl⟩) (fun j hj => by omega)
    rw [pairs_of xs 0 hk] at H
    exact callsIn_wide.1 H
end Go.Proofs.YtkpgjgmlhcipeaaDoor
