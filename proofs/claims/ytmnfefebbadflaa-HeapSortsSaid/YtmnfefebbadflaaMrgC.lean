/- The law HeapMerges, walked. -/
import Derived.Test.YtmnfefebbadflaaMrgD
import Derived.Laws.AppendOwnNone
namespace Go.Proofs.Ytmnfefebbadflaa
open Go.RowKit
/-- What a loop of pushes has: the heap and the list alike. -/
def LI (wL : World) (hb : Nat) (wr : World) (k : Nat) (o : Value) (l : List One) : Prop :=
  ∃ V t hl s, HOne.Rep wr hb lf V t wL.heap.size hl ∧ Sim hl t l s ∧ wr.ownsRow wL.heap.size 26 2 o l.length (flat encO l) ∧ t = (k : Int) ∧ l.length = k ∧ (∀ x ∈ l, Sm x) ∧ Chg (fun b => b = hb) wL wr
theorem li_nil {w : World} {hb base : Nat} (H : HOne.Rep w hb lf (.slice none 0 0) 0 base []) : LI w hb w 0 (.slice none 0 0) [] :=
  ⟨_, _, _, _, ⟨H.blk, World.ownsRow_nil _ _ _ _, H.ne⟩, Sim.nil, World.ownsRow_nil _ _ _ _, rfl, rfl, by simp, Chg.refl _ _⟩
theorem LI.below {wL wr : World} {hb k B : Nat} {o : Value} {l : List One} (h : LI wL hb wr k o l) (hB : B ≤ hb) (hw : B ≤ wL.heap.size) : Below B wL wr := by
  obtain ⟨V, t, hl, s, -, -, -, -, -, -, C⟩ := h
  exact C.below hw (fun k e => by omega)
theorem row_pushed {wo w2 : World} {hb base base' : Nat} {V o F : Value} {t : Int} {hl : List (One × Int)} {l : List One} {c : Array Value} (R : HOne.Rep wo hb F V t base hl) (O : wo.ownsRow base' 26 2 o l.length (flat encO l)) (C2 : Chg (fun b => b = hb ∨ V.ownBlock = some b) (wo.alloc (.cells c 26)) w2) :
    w2.ownsRow base' 26 2 o l.length (flat encO l) := by
  have BX : Below wo.heap.size wo (wo.alloc (.cells c 26)) := (Below.refl _ _).alloc (Nat.le_refl _) _
  exact row_chg (row_later O BX) C2 (apart_row (R.later BX) (row_later O BX))
theorem cell_pushed {wo w2 : World} {hb base j : Nat} {V F v : Value} {t : Int} {hl : List (One × Int)} {c : Array Value} (R : HOne.Rep wo hb F V t base hl) (C2 : Chg (fun b => b = hb ∨ V.ownBlock = some b) (wo.alloc (.cells c 26)) w2) (hv : c[j]? = some v) : w2.cell? ⟨wo.heap.size, j, none⟩ = some v := by
  have BX : Below wo.heap.size wo (wo.alloc (.cells c 26)) := (Below.refl _ _).alloc (Nat.le_refl _) _
  have h := chg_block (heap_at rfl) C2 (blk_apart (R.later BX) (heap_at rfl))
  exact (Cl.of_block h (j := j) hv).cell
theorem li_round {wL wo w2 w' : World} {hb k : Nat} {V V2 o o' : Value} {hl : List (One × Int)} {l : List One} {s : List (One × Int)} {x : One} {c : Array Value} {Y : Obj} (R : HOne.Rep wo hb lf V k wL.heap.size hl) (S : Sim hl k l s) (O : wo.ownsRow wL.heap.size 26 2 o l.length (flat encO l))
    (hlk : l.length = k) (hsm : ∀ x ∈ l, Sm x) (C : Chg (fun b => b = hb) wL wo) (hx : Sm x) (R2 : HOne.Rep w2 hb lf V2 ((k : Int) + 1) wL.heap.size (pushL ltO hl x ((k : Int) + 1))) (C2 : Chg (fun b => b = hb ∨ V.ownBlock = some b) (wo.alloc (.cells c 26)) w2)
    (hgrow : (w2.alloc Y).grownBy w' o.ownBlock) (hown' : w'.ownsRow wL.heap.size 26 2 o' (l.length + 1) (flat encO l ++ encO x)) : LI wL hb w' (k + 1) o' (l ++ [x]) := by
  have BX : Below wo.heap.size wo (wo.alloc (.cells c 26)) := (Below.refl _ _).alloc (Nat.le_refl _) _
  have BY : Below w2.heap.size w2 (w2.alloc Y) := (Below.refl _ _).alloc (Nat.le_refl _) _
  have O2 := row_pushed R O C2
  have RA := R2.later BY
  have OA := row_later O2 BY
  have CG : Chg (fun b => o.ownBlock = some b) (w2.alloc Y) w' := Chg.of_grown hgrow (fun k e => e)
  have R3 := RA.chg CG (fun h => apart_row RA OA _ h (.inl rfl)) (fun q hq h => apart_row RA OA q h (.inr hq))
  refine ⟨V2, _, _, _, R3, S.push x, ?_, by push_cast; rfl, by simp [hlk], ?_, ?_⟩
  · rw [flat_append, List.length_append]; simpa [flat] using hown'
  · intro y hy
    rcases List.mem_append.1 hy with h | h
    · exact hsm y h
    · rw [List.mem_singleton.1 h]; exact hx
  · have C1 := C.trans (chg_below BX (fun _ => False)) (fun _ _ h => h.elim)
    have C3 := C1.trans C2 (fun b hb' h => by
      rcases h with h | h
      · exact h
      · have := own_ge R.row h; omega)
    have C4 := C3.trans (chg_below BY (fun _ => False)) (fun _ _ h => h.elim)
    exact C4.trans CG (fun b hb' h => by have := own_ge O2 h; omega)
/-- Both heaps and both lists, before the merge. -/
def J0 (wr : World) (B hb ob : Nat) (u7 u8 : Value) (l m : List One) : Prop :=
  ∃ Vh th lh sh Vo tq lo so, HOne.Rep wr hb lf Vh th B lh ∧ Sim lh th l sh ∧ HOne.Rep wr ob lf Vo tq B lo ∧ Sim lo tq m so ∧ wr.ownsRow B 26 2 u7 l.length (flat encO l) ∧ wr.ownsRow B 26 2 u8 m.length (flat encO m) ∧
    (∀ g, u7.ownBlock = some g → u8.ownBlock ≠ some g) ∧ (∀ g, Vo.ownBlock = some g → Vh.ownBlock ≠ some g) ∧ th = (l.length : Int) ∧ (∀ x ∈ l, Sm x) ∧ (∀ x ∈ m, Sm x)
theorem rep_base {w : World} {hb base base' : Nat} {F V : Value} {t : Int} {l : List (One × Int)} (H : HOne.Rep w hb F V t base l) (h : base' ≤ base) : HOne.Rep w hb F V t base' l := ⟨H.blk, row_base H.row h, H.ne⟩
theorem j0_of {w2 wo wp w3 : World} {hb ob k j B base : Nat} {F u7 u8 : Value} {l m : List One} (HLI : LI w2 hb wo k u7 l) (HO1 : HOne.Rep wo ob F (.slice none 0 0) 0 base []) (HLJ : LI wo ob wp j u8 m) (B3 : Below wp.heap.size wp w3) (hne : hb ≠ ob) (hB : B ≤ w2.heap.size) : J0 w3 B hb ob u7 u8 l m := by
  obtain ⟨V1, t1, l1, s1, R1, S1, O1, hj1, hm1, hsm1, C1⟩ := HLJ
  obtain ⟨V0, t0, l0, s0, R0, S0, O0, hk0, hl0, hsm0, C0⟩ := HLI
  have hs0 := C0.size
  have R0' := (R0.chg C1 hne (fun g hg e => rep_apart R0 HO1 (by rw [hg, e]))).later B3
  have O0' := row_later (row_chg O0 C1 (fun g hg e => apart_row HO1 O0 g hg (.inl e))) B3
  refine ⟨V0, t0, l0, s0, V1, t1, l1, s1, rep_base R0' hB, S0, rep_base (R1.later B3) (by omega), S1, row_base O0' hB, row_base (row_later O1 B3) (by omega), ?_, ?_, by rw [hk0, hl0], hsm0, hsm1⟩
  · intro g h1 h2
    have := own_lt O0 h1
    have := own_ge O1 h2
    omega
  · intro g h1 h2
    have := own_lt R0.row h2
    have := own_ge R1.row h1
    omega
theorem len_sim {w : World} {hb base : Nat} {F V : Value} {t : Int} {hl : List (One × Int)} {m : List One} {s : List (One × Int)} (H : HOne.Rep w hb F V t base hl) (S : Sim hl t m s) : Calls Try.prog 18 #[.pointer (some ⟨hb, 0, none⟩)] w fun e w' => e = .returned (.int .i64 m.length) ∧ w = w' := by
  have h := HOne.len_any H
  rw [S.len] at h
  exact h
theorem row_shape' {w : World} {B : Nat} {u : Value} {l : List One} (h : w.ownsRow B 26 2 u l.length (flat encO l)) : ∃ A c, u = .slice A l.length c := by
  obtain ⟨A, c, e, _⟩ := own_shape h
  exact ⟨A, c, e⟩
theorem row_merged {w w' : World} {B hb ob : Nat} {Vh Vo F F' V : Value} {t t' : Int} {lh lo : List (One × Int)} {l : List One} (O : w.ownsRow B 26 2 V l.length (flat encO l)) (R : HOne.Rep w hb F Vh t B lh) (Ro : HOne.Rep w ob F' Vo t' B lo)
    (C : Chg (fun b => b = hb ∨ b = ob ∨ Vh.ownBlock = some b ∨ Vo.ownBlock = some b) w w') : w'.ownsRow B 26 2 V l.length (flat encO l) :=
  row_chg O C (fun g hg h => by
    rcases h with h | h | h | h
    · exact apart_row R O g hg (.inl h)
    · exact apart_row Ro O g hg (.inl h)
    · exact apart_row R O g hg (.inr h)
    · exact apart_row Ro O g hg (.inr h))
theorem below_merged {w w' : World} {B hb ob : Nat} {Vh Vo F F' : Value} {t t' : Int} {lh lo : List (One × Int)} (hB : B ≤ w.heap.size) (h1 : B ≤ hb) (h2 : B ≤ ob) (R : HOne.Rep w hb F Vh t B lh) (Ro : HOne.Rep w ob F' Vo t' B lo)
    (C : Chg (fun b => b = hb ∨ b = ob ∨ Vh.ownBlock = some b ∨ Vo.ownBlock = some b) w w') : Below B w w' :=
  C.below hB (fun k h => by
    rcases h with h | h | h | h
    · omega
    · omega
    · exact own_ge R.row h
    · exact own_ge Ro.row h)
theorem rep_grown {w w' : World} {B B' n hb : Nat} {F Vh V : Value} {t : Int} {lh : List (One × Int)} {xs : List Value} (R : HOne.Rep w hb F Vh t B lh) (O : w.ownsRow B' 26 2 V n xs) (h : w.grownBy w' V.ownBlock) : HOne.Rep w' hb F Vh t B lh :=
  R.chg (Chg.of_grown h (S := fun b => V.ownBlock = some b) (fun _ e => e)) (fun h => apart_row R O _ h (.inl rfl)) (fun q hq h => apart_row R O q h (.inr hq))
theorem below_grown {w w' : World} {B n : Nat} {V : Value} {xs : List Value} (hB : B ≤ w.heap.size) (O : w.ownsRow B 26 2 V n xs) (h : w.grownBy w' V.ownBlock) : Below B w w' :=
  (Chg.of_grown h (S := fun b => V.ownBlock = some b) (fun _ e => e)).below hB (fun _ h => own_ge O h)
theorem row_grown {w w' : World} {B n : Nat} {V V' : Value} {xs : List Value} (O : w.ownsRow B 26 2 V n xs) (hd : ∀ g, V.ownBlock = some g → V'.ownBlock ≠ some g) (h : w.grownBy w' V'.ownBlock) : w'.ownsRow B 26 2 V n xs :=
  row_chg O (Chg.of_grown h (S := fun b => V'.ownBlock = some b) (fun _ e => e)) (fun g hg h => hd g hg h)
theorem one_pairs (M : List One) : ∀ u ∈ flat encO M, u.oneCell' = true := by
  intro u hu
  simp only [flat, List.mem_flatMap] at hu
  obtain ⟨a, _, h⟩ := hu
  simp [encO] at h
  rcases h with rfl | rfl <;> rfl
set_option maxRecDepth 100000 in
set_option maxHeartbeats 4000000 in
theorem merges_walk (A B : Option Addr) (la ca lb cb : Nat) (w : World) (ra : la ≤ ca) (rb : lb ≤ cb) (qa : ca ≤ 140737488351232) (qb : cb ≤ 140737488351232)
    (hA : 0 < la → ∃ b off, A = some ⟨b, off, none⟩ ∧ ∀ i, i < la → ∃ k : Int, -128 ≤ k ∧ k ≤ 127 ∧ w.cell? ⟨b, off + i, none⟩ = some (.int .i8 k))
    (hB : 0 < lb → ∃ b off, B = some ⟨b, off, none⟩ ∧ ∀ i, i < lb → ∃ k : Int, -128 ≤ k ∧ k ≤ 127 ∧ w.cell? ⟨b, off + i, none⟩ = some (.int .i8 k)) :
    Calls Try.prog 9 #[.slice A la ca, .slice B lb cb] w fun e w' => e = .returned (.bool true) ∧ Below w.heap.size w w' := by
  go_enter Try.func9, Try.ntmps9
  go_wp2_with fail
  refine (HOne.new_any 12 _).mono ?_
  rintro e w1 ⟨rfl, hw⟩
  have R0 := HOne.new_rep (.func (.func 12) #[] #[]) w w.heap.size
  rw [← hw] at R0
  have B0 : Below w.heap.size w w1 := by rw [hw]; exact (Below.refl _ _).alloc (Nat.le_refl _) _
  have HR0 := Lib.hid R0
  have HB0 := Lib.hid B0
  clear hw R0 B0
  go_wp2_with fail
  refine (HOne.new_any 12 _).mono ?_
  rintro e w2 ⟨rfl, hw⟩
  have R1 := HOne.new_rep (.func (.func 12) #[] #[]) w1 w.heap.size
  rw [← hw] at R1
  have B1 : Below w1.heap.size w1 w2 := by rw [hw]; exact (Below.refl _ _).alloc (Nat.le_refl _) _
  have HR0' := Lib.hid (HR0.out.later B1)
  have HR1 := Lib.hid R1
  have HB1 := Lib.hid (below_then HB0.out HB0.out.size B1)
  have hs1 := HB0.out.size
  have hh1 := HR0.out.lt
  have hs1' : w.heap.size ≤ w2.heap.size := HB1.out.size
  have hh2 := R1.lt
  clear hw R1 B1 HR0 HB0
  obtain ⟨N, hNe⟩ : ∃ N : Nat, N = min la 60 := ⟨min la 60, rfl⟩
  have hN1 : N ≤ la := by omega
  have hN2 : N ≤ 60 := by omega
  go_upto_region 3 with fail
  go_cut [25, 26, 27, 28] (fun q s n c wx => s = .slice A N ca ∧ n = .int .i64 N ∧ c = .int .i64 0 ∧ w2 = wx)
  case first =>
    by_cases h : (la : Int) ≤ 60
    · obtain rfl : N = la := by omega
      clear hNe
      go_wp2_with fail
      go_meet
      exact ⟨rfl, congrArg (Value.int .i64) (by omega), rfl, rfl⟩
    · obtain rfl : N = 60 := by omega
      clear hNe
      go_wp2_with fail
      go_meet
      exact ⟨rfl, by rfl, rfl, rfl⟩
  case rest =>
    obtain ⟨rfl, rfl, rfl, rfl⟩ := hcut
    clear hNe
    go_wp2_with fail
    go_loopw [7, 28] (fun o c wr => ∃ (k : Nat) (l : List One), k ≤ N ∧ c = .int .i64 k ∧ LI w2 w.heap.size wr k o l) (fun _ c _ => N - (intOf c).toNat)
    case atStart => exact ⟨0, [], by omega, rfl, li_nil HR0'.out⟩
    case round =>
      obtain ⟨k, l, hk, rfl, I⟩ := hrel
      obtain ⟨wo, rfl⟩ : ∃ q : World, q = wr := ⟨_, rfl⟩
      by_cases hlt : k < N
      · obtain ⟨b, off, rfl, hcells⟩ := hA (by omega)
        obtain ⟨ky, hky0, hky1, c0⟩ := hcells k (by omega)
        have c0 := cell_later (HB1.out.trans (I.below (Nat.le_refl _) HB1.out.size)) c0
        obtain ⟨V, t, hl, s, R, S, O, rfl, hlk, hsm, C⟩ := I
        have HR := Lib.hid R
        have HS := Lib.hid S
        have HO := Lib.hid O
        have HC := Lib.hid C
        have HSM := Lib.hid hsm
        have HLK := Lib.hid hlk
        clear R S O C hsm hlk hcells hA hB HR0' HR1 HB1
        go_wp2_with fail
        have BXB : Below wo.heap.size wo (wo.alloc (.cells #[.int .i64 ky, .int .i64 k] 26)) := (Below.refl _ _).alloc (Nat.le_refl _) _
        refine (HOne.push_any lessO (x := (ky, (k : Int))) (HR.out.later BXB) (by rw [HS.out.len, HLK.out]; omega) (by omega) (by omega) (by have := HC.out.size; have := BXB.size; omega)).mono ?_
        rintro e w3 ⟨rfl, ⟨V2, _, R2⟩, C2⟩
        have HO2 := Lib.hid (row_pushed HR.out HO.out C2)
        have y0c := cell_pushed HR.out C2 (j := 0) (v := .int .i64 ky) rfl
        have y1c := cell_pushed HR.out C2 (j := 1) (v := .int .i64 k) rfl
        have hs3 : w2.heap.size ≤ w3.heap.size := by have h1 := HC.out.size; have h2 := BXB.size; have h3 := C2.size; omega
        have HR2 := Lib.hid R2
        have HC2 := Lib.hid C2
        have hl60 : l.length ≤ 60 := by rw [HLK.out]; omega
        obtain ⟨i0, hi, hz0, hz1, hz2⟩ := info_parts info_one
        clear R2 C2 BXB c0
        go_wp2_with (refine wpList_append_lies _ rfl (.tmp 40) (.tmp 42) 28 rfl w2.heap.size 26 i0 (.agg #[.int .i64 0, .int .i64 0]) 2 16 Try.underlying28 hi hz0 hz1 hz2 rfl (by decide) _ l.length (flat encO l) rfl (HO2.out.alloc _) ⟨w3.heap.size, 0, none⟩ 1 1 (encO (ky, (k : Int))) rfl rfl (World.news_of_block (heap_at rfl)) (by intro u hu; simp [encO] at hu; rcases hu with rfl | rfl <;> rfl) (by omega) (by simp only [maxLen]; omega) (by omega) (by simp; omega) _ rfl ?_; intro g' cap' w' hown' hgrow hat hlt')
        have HLI := Lib.hid (li_round HR.out HS.out HO.out HLK.out HSM.out HC.out (x := (ky, (k : Int))) (by simp [Sm]; omega) HR2.out HC2.out hgrow hown')
        clear hown' hgrow hat
        go_wp2_with fail
        exact ⟨⟨k + 1, _, by omega, by go_num, HLI.out⟩, by simp [intOf]; omega⟩
      · obtain rfl : k = N := by omega
        have HLI := Lib.hid I
        obtain ⟨V, t, hl, s, R, S, O, rfl, hlk, hsm, C⟩ := I
        have HO1 := Lib.hid (HR1.out.chg C (by omega) (by simp [Value.ownBlock]))
        have HB2 := Lib.hid (HB1.out.trans (HLI.out.below (Nat.le_refl _) HB1.out.size))
        have hso : w2.heap.size ≤ wo.heap.size := C.size
        clear R S O hlk hsm C HR0' HR1 HB1 hA hlt
        obtain ⟨N', hNe'⟩ : ∃ N' : Nat, N' = min lb 60 := ⟨min lb 60, rfl⟩
        have hN1' : N' ≤ lb := by omega
        have hN2' : N' ≤ 60 := by omega
        go_upto_region 10 with fail
        go_cut [48, 49, 50, 51] (fun q s n c wx => s = .slice B N' cb ∧ n = .int .i64 N' ∧ c = .int .i64 0 ∧ wo = wx)
        case first =>
          by_cases h : (lb : Int) ≤ 60
          · obtain rfl : N' = lb := by omega
            clear hNe'
            go_wp2_with fail
            go_meet
            exact ⟨rfl, congrArg (Value.int .i64) (by omega), rfl, rfl⟩
          · obtain rfl : N' = 60 := by omega
            clear hNe'
            go_wp2_with fail
            go_meet
            exact ⟨rfl, by rfl, rfl, rfl⟩
        case rest =>
          obtain ⟨rfl, rfl, rfl, rfl⟩ := hcut
          clear hNe'
          go_wp2_with fail
          go_loopw [8, 51] (fun o c wr => ∃ (j : Nat) (m : List One), j ≤ N' ∧ c = .int .i64 j ∧ LI wo w1.heap.size wr j o m ∧ (j = 0 → o = .slice none 0 0)) (fun _ c _ => N' - (intOf c).toNat)
          case atStart => exact ⟨0, [], by omega, rfl, li_nil HO1.out, fun _ => rfl⟩
          case round =>
            obtain ⟨j, m, hj, rfl, I, hE⟩ := hrel
            obtain ⟨wp, rfl⟩ : ∃ q : World, q = wr := ⟨_, rfl⟩
            by_cases hlt : j < N'
            · obtain ⟨b, off, rfl, hcells⟩ := hB (by omega)
              obtain ⟨ky, hky0, hky1, c0⟩ := hcells j (by omega)
              have c0 := cell_later (HB2.out.trans (I.below (by omega) HB2.out.size)) c0
              obtain ⟨V, t, hl, s, R, S, O, rfl, hlk, hsm, C⟩ := I
              have HR := Lib.hid R
              have HS := Lib.hid S
              have HO := Lib.hid O
              have HC := Lib.hid C
              have HSM := Lib.hid hsm
              have HLK := Lib.hid hlk
              have hml : (1000 : Int) + (j : Int) ≤ 2000 := by omega
              clear R S O C hsm hlk hcells hB HO1 HB2 HLI hE
              go_wp2_with fail
              have BXB : Below wp.heap.size wp (wp.alloc (.cells #[.int .i64 ky, .int .i64 (1000 + (j : Int))] 26)) := (Below.refl _ _).alloc (Nat.le_refl _) _
              refine (HOne.push_any lessO (x := (ky, 1000 + (j : Int))) (HR.out.later BXB) (by rw [HS.out.len, HLK.out]; omega) (by omega) (by omega) (by have := HC.out.size; have := BXB.size; omega)).mono ?_
              rintro e w3 ⟨rfl, ⟨V2, _, R2⟩, C2⟩
              have HO2 := Lib.hid (row_pushed HR.out HO.out C2)
              have y0c := cell_pushed HR.out C2 (j := 0) (v := .int .i64 ky) rfl
              have y1c := cell_pushed HR.out C2 (j := 1) (v := .int .i64 (1000 + (j : Int))) rfl
              have hs3 : wo.heap.size ≤ w3.heap.size := by have h1 := HC.out.size; have h2 := BXB.size; have h3 := C2.size; omega
              have HR2 := Lib.hid R2
              have HC2 := Lib.hid C2
              have hl60 : m.length ≤ 60 := by rw [HLK.out]; omega
              obtain ⟨i0, hi, hz0, hz1, hz2⟩ := info_parts info_one
              clear R2 C2 BXB c0
              go_wp2_with (refine wpList_append_lies _ rfl (.tmp 64) (.tmp 66) 28 rfl wo.heap.size 26 i0 (.agg #[.int .i64 0, .int .i64 0]) 2 16 Try.underlying28 hi hz0 hz1 hz2 rfl (by decide) _ m.length (flat encO m) rfl (HO2.out.alloc _) ⟨w3.heap.size, 0, none⟩ 1 1 (encO (ky, 1000 + (j : Int))) rfl rfl (World.news_of_block (heap_at rfl)) (by intro u hu; simp [encO] at hu; rcases hu with rfl | rfl <;> rfl) (by omega) (by simp only [maxLen]; omega) (by omega) (by simp; omega) _ rfl ?_; intro g' cap' w' hown' hgrow hat hlt')
              have HLJ := Lib.hid (li_round HR.out HS.out HO.out HLK.out HSM.out HC.out (x := (ky, 1000 + (j : Int))) (by simp [Sm]; omega) HR2.out HC2.out hgrow hown')
              clear hown' hgrow hat
              go_wp2_with fail
              exact ⟨⟨j + 1, _, by omega, by go_num, HLJ.out, fun h => absurd h (by omega)⟩, by simp [intOf]; omega⟩
            · obtain rfl : j = N' := by omega
              clear hlt
              have HLJ := Lib.hid I
              have HE := Lib.hid hE
              clear hE
              go_wp2_with fail
              refine (merge_none _ _).mono ?_
              rintro e wq ⟨rfl, rfl⟩
              go_wp2_with fail
              refine (merge_self _ _).mono ?_
              rintro e wq ⟨rfl, rfl⟩
              go_wp2_with fail
              refine (merge_nil _ _).mono ?_
              rintro e w3 ⟨rfl, B3⟩
              have HB3 : Hid (Below w.heap.size w w3) := Lib.hid (HB2.out.trans ((HLJ.out.below (by omega) HB2.out.size).trans (B3.mono (by
                obtain ⟨_, _, _, _, -, -, -, -, -, -, C1⟩ := HLJ.out
                have h1 := HB2.out.size; have h2 := C1.size; omega))))
              have HJM : Hid (m.length = j) := Lib.hid (by
                obtain ⟨_, _, _, _, -, -, -, -, hm1, -, -⟩ := HLJ.out
                exact hm1)
              have hml1 : m.length ≤ 60 := by
                obtain ⟨_, _, _, _, -, -, -, -, hm1, -, -⟩ := HLJ.out
                omega
              have hll1 : l.length ≤ 60 := by
                obtain ⟨_, _, _, _, -, -, -, -, hl1, -, -⟩ := HLI.out
                omega
              obtain ⟨Vh, th, lh, sh, Vo, tq, lo, so, R, S, Ro, So, O7, O8, hd, hdv, hth, hs7, hs8⟩ := j0_of HLI.out HO1.out HLJ.out B3 (by omega) hs1'
              obtain ⟨A7, c7, rfl⟩ := row_shape' O7
              obtain ⟨A8, c8, rfl⟩ := row_shape' O8
              have HR := Lib.hid R
              have HS := Lib.hid S
              have HRo := Lib.hid Ro
              have HSo := Lib.hid So
              have HO7 := Lib.hid O7
              have HO8 := Lib.hid O8
              have HD := Lib.hid hd
              have HDV := Lib.hid hdv
              have HTH := Lib.hid hth
              have HS7 := Lib.hid hs7
              have HS8 := Lib.hid hs8
              clear HLI HLJ HO1 HB2 B3 R S Ro So O7 O8 hd hdv hth hs7 hs8 I hB
              go_wp2_with fail
              refine (len_sim HRo.out HSo.out).mono ?_
              rintro e wq ⟨rfl, rfl⟩
              go_wp2_with fail
              refine (len_sim HR.out HS.out).mono ?_
              rintro e wq ⟨rfl, rfl⟩
              go_wp2_with fail
              refine (merge_any HR.out HS.out HRo.out HSo.out (by omega) HDV.out (by omega) (by rw [HTH.out]; omega) HB3.out.size).mono ?_
              rintro e w4 ⟨rfl, ⟨Vh', th', lh', sh', M, Vo', so', R', S', hM, Ro', So'⟩, C4⟩
              have hh1' : w.heap.size ≤ w1.heap.size := by omega
              have O7 := row_merged HO7.out HR.out HRo.out C4
              have O8 := row_merged HO8.out HR.out HRo.out C4
              have HB4 := Lib.hid (HB3.out.trans (below_merged HB3.out.size (Nat.le_refl _) hh1' HR.out HRo.out C4))
              have HR' := Lib.hid R'
              have HS' := Lib.hid S'
              have HRo' := Lib.hid Ro'
              have HSo' := Lib.hid So'
              have HM := Lib.hid hM
              have HO7' := Lib.hid O7
              have HO8' := Lib.hid O8
              clear R' S' hM Ro' So' C4 O7 O8 HR HS HRo HSo HTH HDV HO7 HO8 HB3
              go_wp2_with fail
              refine (sortStable_any HO8'.out cmp34 HS8.out (by omega)).mono ?_
              rintro e w5 ⟨rfl, ⟨M2, hst, hr⟩, hg⟩
              obtain rfl : M2 = M := hst.uniq HM.out
              have HO7 := Lib.hid (row_grown HO7'.out HD.out hg)
              have HO8 := Lib.hid hr
              have HR := Lib.hid (rep_grown HR'.out HO8'.out hg)
              have HRo := Lib.hid (rep_grown HRo'.out HO8'.out hg)
              have HB5 := Lib.hid (HB4.out.trans (below_grown HB4.out.size HO8'.out hg))
              have HSM2 : Hid (∀ x ∈ M2, Sm x) := Lib.hid (fun x hx => HS8.out x (hst.same.symm.mem hx))
              have HL2 : Hid (M2.length = m.length) := Lib.hid hst.len
              clear hst hr hg HO7' HO8' HR' HRo' HB4
              obtain ⟨LM, hLM⟩ : ∃ LM, l ++ M2 = LM := ⟨_, rfl⟩
              have hLMl : LM.length = l.length + m.length := by rw [← hLM, List.length_append, HL2.out]
              have HSLM : Hid (∀ x ∈ LM, Sm x) := Lib.hid (fun x hx => by
                rw [← hLM] at hx
                rcases List.mem_append.1 hx with h | h
                · exact HS7.out x h
                · exact HSM2.out x h)
              have HLMN := Lib.hid hLM
              have HLML := Lib.hid hLMl
              have HS9 : Hid (Sim lh' th' LM sh') := Lib.hid (by rw [← hLM]; exact HS'.out)
              have hlm : LM.length ≤ 120 := by omega
              clear hLMl hLM HS'
              go_upto_region 25 with fail
              go_cut [7, 95, 96, 97] (fun p q r s wx => wx.ownsRow w.heap.size 26 2 p LM.length (flat encO LM) ∧ HOne.Rep wx w.heap.size lf Vh' th' w.heap.size lh' ∧ HOne.Rep wx w1.heap.size lf Vo' tq w.heap.size [] ∧ Below w.heap.size w wx)
              case first =>
                by_cases hj0 : j = 0
                · have hm0 : M2 = [] := List.eq_nil_of_length_eq_zero (by rw [HL2.out, HJM.out, hj0])
                  have HV8 := Lib.hid (HE.out hj0)
                  have hL := HLMN.out
                  rw [hm0, List.append_nil] at hL
                  subst hL
                  clear hj0 hm0
                  obtain ⟨i0, hi, hz0, hz1, hz2⟩ := info_parts info_one
                  go_wp2_with (refine wpList_append_own_none rfl (.tmp 95) (.tmp 96) 28 rfl w.heap.size 26 i0 2 Try.underlying28 hi (.slice A7 l.length c7) l.length (flat encO l) rfl HO7.out HV8.out ?_)
                  go_meet
                  exact ⟨HO7.out, HR.out, HRo.out, HB5.out⟩
                · obtain ⟨g8, c8', hv8, -, -⟩ := HO8.out.form (by rw [HJM.out]; omega)
                  cases hv8
                  obtain ⟨i0, hi, hz0, hz1, hz2⟩ := info_parts info_one
                  have hmj : 0 < m.length := by rw [HJM.out]; omega
                  have hs5 := HB5.out.size
                  clear hj0
                  go_wp2_with (refine wpList_append_lies _ rfl (.tmp 95) (.tmp 96) 28 rfl w.heap.size 26 i0 (.agg #[.int .i64 0, .int .i64 0]) 2 16 Try.underlying28 hi hz0 hz1 hz2 rfl (by decide) _ l.length (flat encO l) rfl HO7.out ⟨g8, 0, none⟩ m.length _ (flat encO M2) rfl (by rw [flat_length (sz := 2) (fun _ => rfl), HL2.out]) (HO8.out.cells rfl) (one_pairs M2) hmj (by simp only [maxLen]; omega) (by omega) hs5 _ rfl ?_; intro g' cap' w' hown' hgrow hat hlt')
                  go_meet
                  refine ⟨?_, rep_grown HR.out HO7.out hgrow, rep_grown HRo.out HO7.out hgrow, HB5.out.trans (below_grown HB5.out.size HO7.out hgrow)⟩
                  rw [← HLMN.out, List.length_append, HL2.out, flat_append]
                  exact hown'
              case rest =>
                obtain ⟨h9, hr9, hro9, hb9⟩ := hcut
                obtain ⟨A9, c9, rfl⟩ := row_shape' h9
                have HO9 := Lib.hid h9
                have HR9 := Lib.hid hr9
                have HRo9 := Lib.hid hro9
                have HB9 := Lib.hid hb9
                clear h9 hr9 hro9 hb9 HO7 HO8 HR HRo HB5 HE HJM HL2 HSM2 HM HS7 HS8 HD HLMN HLML
                go_wp2_with fail
                refine (sortStable_any HO9.out cmp35 HSLM.out (by omega)).mono ?_
                rintro e w7 ⟨rfl, ⟨L2, hst, hr⟩, hg⟩
                have HO := Lib.hid hr
                have HR := Lib.hid (rep_grown HR9.out HO9.out hg)
                have HRo := Lib.hid (rep_grown HRo9.out HO9.out hg)
                have HB := Lib.hid (HB9.out.trans (below_grown HB9.out.size HO9.out hg))
                have HST := Lib.hid hst
                have HLL : Hid (L2.length = LM.length) := Lib.hid hst.len
                clear hst hr hg HO9 HR9 HRo9 HB9 HSLM
                go_wp2_with fail
                refine (len_sim HRo.out HSo'.out).mono ?_
                rintro e wq ⟨rfl, rfl⟩
                rw [show (([] : List One).length : Int) = 0 from rfl]
                go_wp2_with fail
                refine (len_sim HR.out HS9.out).mono ?_
                rintro e wq ⟨rfl, rfl⟩
                go_wp2_with fail
                go_loopw [112] (fun c wr => ∃ (i : Nat) (Vx : Value) (lx : List (One × Int)) (mx : List One) (sx : List (One × Int)), c = .int .i64 i ∧ i ≤ LM.length ∧ HOne.Rep wr w.heap.size lf Vx th' w.heap.size lx ∧ Sim lx th' mx sx ∧ Stb.Sts kO mx (L2.drop i) ∧ wr.ownsRow w.heap.size 26 2 (.slice A9 LM.length c9) LM.length (flat encO L2) ∧ Below w.heap.size w wr) (fun c _ => LM.length - (intOf c).toNat)
                case atStart => exact ⟨0, _, _, _, _, rfl, Nat.zero_le _, HR.out, HS9.out, HST.out, HO.out, HB.out⟩
                case round =>
                  obtain ⟨i, Vx, lx, mx, sx, rfl, hi, Rx, Sx, Tx, Ox, Bx⟩ := hrel
                  obtain ⟨wo, rfl⟩ : ∃ q : World, q = wr := ⟨_, rfl⟩
                  have HRx := Lib.hid Rx
                  have HSx := Lib.hid Sx
                  have HTx := Lib.hid Tx
                  have HOx := Lib.hid Ox
                  have HBx := Lib.hid Bx
                  clear Rx Sx Tx Ox Bx HR HS9 HST HO HB HRo HSo'
                  by_cases hlt : i < LM.length
                  · obtain ⟨g9, c9', hv9, hg9, hgl9⟩ := HOx.out.form (by omega)
                    cases hv9
                    obtain ⟨y, hy⟩ : ∃ y, L2[i]? = some y := ⟨L2[i]'(by rw [HLL.out]; exact hlt), List.getElem?_eq_getElem _⟩
                    have hdrop : L2.drop i = y :: L2.drop (i + 1) := by
                      have h := List.getElem?_eq_some_iff.1 hy
                      rw [List.drop_eq_getElem_cons h.1, h.2]
                    have HT2 : Hid (Stb.Sts kO mx (y :: L2.drop (i + 1))) := Lib.hid (by rw [← hdrop]; exact HTx.out)
                    have q0 : wo.cell? ⟨g9, i * 2, none⟩ = some (.int .i64 y.1) := by
                      rw [HOx.out.cellAt (i * 2) (by omega)]
                      have := flat_get (enc := encO) (sz := 2) (fun _ => rfl) L2 i 0 (by omega) y hy
                      simpa [encO] using this
                    have q1 : wo.cell? ⟨g9, i * 2 + 1, none⟩ = some (.int .i64 y.2) := by
                      rw [HOx.out.cellAt (i * 2 + 1) (by omega)]
                      have := flat_get (enc := encO) (sz := 2) (fun _ => rfl) L2 i 1 (by omega) y hy
                      simpa [encO] using this
                    have hmx : mx.length ≤ 120 := by
                      have h1 := HT2.out.len
                      have h2 := HLL.out
                      rw [← hdrop, List.length_drop] at h1
                      omega
                    obtain ⟨wB, hwB⟩ : ∃ wB, wo.alloc (.cells #[.int .i64 y.1, .int .i64 y.2] 26) = wB := ⟨_, rfl⟩
                    have BB : Below wo.heap.size wo wB := by rw [← hwB]; exact (Below.refl _ _).alloc (Nat.le_refl _) _
                    have hnb : wB.heap[wo.heap.size]? = some (.cells #[.int .i64 y.1, .int .i64 y.2] 26) := by rw [← hwB]; exact heap_at rfl
                    have HNB := Lib.hid hnb
                    have HBB := Lib.hid BB
                    clear hy hdrop BB hnb
                    go_wp2_with fail
                    refine (pop2_any (HRx.out.later HBB.out) HSx.out (by omega) HT2.out).mono ?_
                    rintro e wC ⟨rfl, VC, lC, mC, sC, hvc, RC, SC, TC, CC⟩
                    have hnC := chg_block HNB.out CC (blk_apart (HRx.out.later HBB.out) HNB.out)
                    obtain ⟨wD, hwD⟩ : ∃ wD, wC.alloc (.cells #[.int .i64 y.1, .int .i64 y.2] 26) = wD := ⟨_, rfl⟩
                    have BD : Below wC.heap.size wC wD := by rw [← hwD]; exact (Below.refl _ _).alloc (Nat.le_refl _) _
                    have hnD : wD.heap[wC.heap.size]? = some (.cells #[.int .i64 y.1, .int .i64 y.2] 26) := by rw [← hwD]; exact heap_at rfl
                    have hnX := block_later BD hnC
                    have z0 : wD.cell? ⟨wo.heap.size, 0, none⟩ = some (.int .i64 y.1) := (Cl.of_block hnX (j := 0) rfl).cell
                    have z1 : wD.cell? ⟨wo.heap.size, 1, none⟩ = some (.int .i64 y.2) := (Cl.of_block hnX (j := 1) rfl).cell
                    have z2 : wD.cell? ⟨wC.heap.size, 0, none⟩ = some (.int .i64 y.1) := (Cl.of_block hnD (j := 0) rfl).cell
                    have z3 : wD.cell? ⟨wC.heap.size, 1, none⟩ = some (.int .i64 y.2) := (Cl.of_block hnD (j := 1) rfl).cell
                    have OC := row_chg (row_later HOx.out HBB.out) CC (fun g hg => apart_row (HRx.out.later HBB.out) (row_later HOx.out HBB.out) g hg)
                    have BC : Below w.heap.size w wC := HBx.out.trans ((HBB.out.mono HBx.out.size).trans (CC.below (by have h1 := HBx.out.size; have h2 := HBB.out.size; omega) (fun k h => by
                      rcases h with h | h
                      · omega
                      · exact own_ge HRx.out.row h)))
                    have HK1 := Lib.hid (RC.later BD)
                    have HK2 := Lib.hid SC
                    have HK3 := Lib.hid TC
                    have HK4 := Lib.hid (row_later OC BD)
                    have HK5 := Lib.hid (BC.trans (BD.mono BC.size))
                    clear hvc RC SC TC CC hnC hnD hnX OC BC BD HT2 HTx HRx HSx HOx HBx q0 q1
                    go_wp2_with fail
                    exact ⟨⟨i + 1, VC, lC, mC, sC, by go_num, by omega, HK1.out, HK2.out, HK3.out, HK4.out, HK5.out⟩, by simp [intOf]; omega⟩
                  · obtain rfl : i = LM.length := by omega
                    go_wp2_with fail
                    refine (wakes_any _).mono ?_
                    rintro e w9 ⟨rfl, hb9⟩
                    go_wp2_with fail
                    go_ret
                    exact ⟨rfl, HBx.out.trans (hb9.mono HBx.out.size)⟩
end Go.Proofs.Ytmnfefebbadflaa
