/- May a graph be? What the program says of it. -/
import Derived.Test.YtjgloineooadoaaGreatDoorMgZ0
import Derived.Test.YtjgloineooadoaaGreatDoorMgZ2
import Derived.Test.YtjgloineooadoaaGreatDoorMgZ3
namespace Go.Proofs.YtjgloineooadoaaGreatDoor
open Go.RowKit
/-- A function value that tells of one thing: what it says, whatever lies in new memory. -/
structure Pred {α : Type} (lf : Nat) (bound : Array Value) (val : α → Value) (p : α → Bool) (ok : α → Prop) (w : World) : Prop where
  enter : ∀ (args : Array Value) (w : World), (callFunc lf args).run Tryz.prog w = .ok (.enter lf args) w
  calls : ∀ (a : α) (w' : World), ok a → Below w.heap.size w w' → Calls Tryz.prog lf (#[val a] ++ bound) w' fun e w'' => e = .returned (.bool (p a)) ∧ Below w'.heap.size w' w''
def arcV (a : Arc) : Value := .agg #[.int .i64 a.1, .int .i64 a.2.1, .int .i64 a.2.2]
def findI {α : Type} (p : α → Bool) (L : List α) : Int := match L.findIdx? p with | some i => i | none => -1
theorem findI_ge {α : Type} (p : α → Bool) (L : List α) : decide (0 ≤ findI p L) = L.any p := by
  unfold findI
  cases h : L.findIdx? p with
  | none =>
    have h1 := List.findIdx?_eq_none_iff.1 h
    have : L.any p = false := List.any_eq_false.2 (fun x hx => by simp [h1 x hx])
    rw [this]; rfl
  | some i =>
    have h1 := List.findIdx?_eq_some_iff_getElem.1 h
    obtain ⟨hi, hp, _⟩ := h1
    have : L.any p = true := List.any_eq_true.2 ⟨L[i], List.getElem_mem hi, hp⟩
    rw [this]
    simp
theorem find_stop {α : Type} {p : α → Bool} {L : List α} {k : Nat} (hk : k < L.length) (hn : ∀ (i : Nat) (a : α), i < k → L[i]? = some a → p a = false) (h : p L[k] = true) : findI p L = k := by
  unfold findI
  have : L.findIdx? p = some k := List.findIdx?_eq_some_iff_getElem.2 ⟨hk, h, fun j hj => by
    have := hn j L[j] hj (List.getElem?_eq_getElem (by omega))
    simp [this]⟩
  rw [this]
theorem find_none {α : Type} {p : α → Bool} {L : List α} (hn : ∀ (i : Nat) (a : α), L[i]? = some a → p a = false) : findI p L = -1 := by
  unfold findI
  have : L.findIdx? p = none := List.findIdx?_eq_none_iff.2 (fun x hx => by
    obtain ⟨i, hi⟩ := List.getElem?_of_mem hx
    exact hn i x hi)
  rw [this]
set_option maxRecDepth 100000 in
set_option maxHeartbeats 1000000 in
theorem indexArcs_any {w : World} {V : Value} {L : List Arc} {lf : Nat} {bound : Array Value} {p : Arc → Bool} {ok : Arc → Prop} (h : Arcs w V L) (P : Pred lf bound arcV p ok w) (hok : ∀ a ∈ L, ok a) (hl : L.length ≤ 1000000000000) :
    Calls Tryz.prog 96 #[V, .func (.func lf) #[] bound] w fun e w' => e = .returned (.int .i64 (findI p L)) ∧ Below w.heap.size w w' := by
  obtain ⟨A, cap, rfl, h1, h2, hA⟩ := h.at_
  clear h
  have HE := P.enter
  have HP := Lib.hid P
  have HO := Lib.hid hok
  clear P hok
  go_enter Tryz.func96, Tryz.ntmps96
  go_wp2_with fail
  go_loopw [8] (fun s wr => ∃ k : Nat, k ≤ L.length ∧ s = .int .i64 k ∧ Hid (∀ (i : Nat) (a : Arc), i < k → L[i]? = some a → p a = false) ∧ Below w.heap.size w wr) (fun s _ => L.length - (intOf s).toNat)
  case atStart => exact ⟨0, by omega, rfl, Lib.hid (fun i a hi _ => absurd hi (by omega)), Below.refl _ _⟩
  case round =>
    obtain ⟨k, hk, rfl, hn, Bl⟩ := hrel
    by_cases hkn : k < L.length
    · obtain ⟨b, off, rfl, hc⟩ := hA (by omega)
      obtain ⟨a, ha⟩ : ∃ a, L[k]? = some a := ⟨_, List.getElem?_eq_getElem hkn⟩
      obtain ⟨c0, c1, c2⟩ := hc k a ha
      have c0 := cell_later Bl c0
      have c1 := cell_later Bl c1
      have c2 := cell_later Bl c2
      have hC := HP.out.calls a wr (HO.out a (List.mem_of_getElem? ha)) Bl
      obtain ⟨pa, hpa⟩ : ∃ pa, p a = pa := ⟨_, rfl⟩
      rw [hpa] at hC
      have HC := Lib.hid hC
      have HPA := Lib.hid hpa
      have HAA := Lib.hid ha
      have HBl := Lib.hid Bl
      have hs := Bl.size
      have hld : decide ((k : Int) < L.length) = true := by simp; omega
      clear hc hA hC hpa ha Bl
      go_wp2_with fail
      refine HC.out.mono ?_
      rintro e w1 ⟨rfl, B1⟩
      have HB1 := Lib.hid (below_then HBl.out hs B1)
      clear B1
      cases pa
      · go_wp2_with fail
        exact ⟨⟨k + 1, by omega, by go_num, Lib.hid (fun i x hi hx => by
          by_cases e : i = k
          · subst e; rw [HAA.out] at hx; cases hx; exact HPA.out
          · exact hn.out i x (by omega) hx), HB1.out⟩, by simp [intOf]; omega⟩
      · go_wp2_with fail
        go_ret
        refine ⟨ret_int ?_, HB1.out⟩
        have e : L[k] = a := by have := HAA.out; rw [List.getElem?_eq_getElem hkn] at this; exact Option.some.inj this
        exact (find_stop hkn hn.out (by rw [e]; exact HPA.out)).symm
    · obtain rfl : k = L.length := by omega
      go_wp2_with fail
      go_ret
      exact ⟨ret_int (find_none (fun i a ha => hn.out i a (List.getElem?_eq_some_iff.1 ha).1 ha)).symm, Bl⟩
set_option maxHeartbeats 1000000 in
theorem anyArcs_any {w : World} {V : Value} {L : List Arc} {lf : Nat} {bound : Array Value} {p : Arc → Bool} {ok : Arc → Prop} (h : Arcs w V L) (P : Pred lf bound arcV p ok w) (hok : ∀ a ∈ L, ok a) (hl : L.length ≤ 1000000000000) :
    Calls Tryz.prog 75 #[V, .func (.func lf) #[] bound] w fun e w' => e = .returned (.bool (L.any p)) ∧ Below w.heap.size w w' := by
  have HH := Lib.hid h
  have HP := Lib.hid P
  have HO := Lib.hid hok
  clear h P hok
  go_enter Tryz.func75, Tryz.ntmps75
  go_wp2_with fail
  refine (indexArcs_any HH.out HP.out HO.out hl).mono ?_
  rintro e w1 ⟨rfl, B1⟩
  have HB1 := Lib.hid B1
  clear B1
  go_wp2_with fail
  go_ret
  exact ⟨ret_bool (findI_ge p L), HB1.out⟩
def badA (n : Int) (a : Arc) : Bool := decide (a.1 < 0) || decide (n ≤ a.1) || decide (a.2.1 < 0) || decide (n ≤ a.2.1) || decide (a.2.2 < 0) || decide (1000000 < a.2.2)
theorem enterR : ∀ (args : Array Value) (w : World), (callFunc 76 args).run Tryz.prog w = .ok (.enter 76 args) w := by
  intro args w; kernel_rfl
set_option maxRecDepth 100000 in
set_option maxHeartbeats 2000000 in
theorem badA_any (a : Arc) (n : Int) (nb : Nat) (w : World) (hn : w.cell? ⟨nb, 0, none⟩ = some (.int .i64 n)) :
    Calls Tryz.prog 76 #[arcV a, .pointer (some ⟨nb, 0, none⟩)] w fun e w' => e = .returned (.bool (badA n a)) ∧ Below w.heap.size w w' := by
  obtain ⟨f, t, x⟩ := a
  have hb : Below w.heap.size w (w.alloc (.cells #[.int .i64 f, .int .i64 t, .int .i64 x] 40)) := (Below.refl _ _).alloc (Nat.le_refl _) _
  have hn' := cell_later hb hn
  have g0 : (w.alloc (.cells #[.int .i64 f, .int .i64 t, .int .i64 x] 40)).cell? ⟨w.heap.size, 0, none⟩ = some (.int .i64 f) := (Cl.new rfl).cell
  have g1 : (w.alloc (.cells #[.int .i64 f, .int .i64 t, .int .i64 x] 40)).cell? ⟨w.heap.size, 1, none⟩ = some (.int .i64 t) := (Cl.new rfl).cell
  have g2 : (w.alloc (.cells #[.int .i64 f, .int .i64 t, .int .i64 x] 40)).cell? ⟨w.heap.size, 2, none⟩ = some (.int .i64 x) := (Cl.new rfl).cell
  have HB := Lib.hid hb
  clear hb hn
  unfold arcV
  simp only
  by_cases b0 : f < 0
  · have hr : Hid (badA n (f, t, x) = true) := by show _ = _; simp [badA, b0]
    go_enter Tryz.func76, Tryz.ntmps76
    go_wp2_with fail
    go_ret
    exact ⟨ret_bool hr.out.symm, HB.out⟩
  by_cases b1 : n ≤ f
  · have hr : Hid (badA n (f, t, x) = true) := by show _ = _; simp [badA, b1]
    go_enter Tryz.func76, Tryz.ntmps76
    go_wp2_with fail
    go_ret
    exact ⟨ret_bool hr.out.symm, HB.out⟩
  by_cases b2 : t < 0
  · have hr : Hid (badA n (f, t, x) = true) := by show _ = _; simp [badA, b2]
    go_enter Tryz.func76, Tryz.ntmps76
    go_wp2_with fail
    go_ret
    exact ⟨ret_bool hr.out.symm, HB.out⟩
  by_cases b3 : n ≤ t
  · have hr : Hid (badA n (f, t, x) = true) := by show _ = _; simp [badA, b3]
    go_enter Tryz.func76, Tryz.ntmps76
    go_wp2_with fail
    go_ret
    exact ⟨ret_bool hr.out.symm, HB.out⟩
  by_cases b4 : x < 0
  · have hr : Hid (badA n (f, t, x) = true) := by show _ = _; simp [badA, b4]
    go_enter Tryz.func76, Tryz.ntmps76
    go_wp2_with fail
    go_ret
    exact ⟨ret_bool hr.out.symm, HB.out⟩
  have hr : Hid (badA n (f, t, x) = decide (1000000 < x)) := by show _ = _; simp [badA, b0, b1, b2, b3, b4]
  go_enter Tryz.func76, Tryz.ntmps76
  go_wp2_with fail
  go_ret
  exact ⟨ret_bool hr.out.symm, HB.out⟩
theorem predR {w : World} {n : Int} {nb : Nat} (h : w.cell? ⟨nb, 0, none⟩ = some (.int .i64 n)) : Pred 76 #[.pointer (some ⟨nb, 0, none⟩)] arcV (badA n) (fun _ => True) w :=
  ⟨enterR, fun a w' _ b => by
    have e : (#[arcV a] ++ #[.pointer (some ⟨nb, 0, none⟩)] : Array Value) = #[arcV a, .pointer (some ⟨nb, 0, none⟩)] := rfl
    rw [e]
    exact badA_any a n nb w' (cell_later b h)⟩
/-- A graph that may be. -/
def rightB (n : Int) (L : List Arc) : Bool := decide (0 ≤ n) && decide (n ≤ 4096) && decide (L.length ≤ 16384) && !L.any (badA n)
set_option maxRecDepth 100000 in
set_option maxHeartbeats 1000000 in
theorem right_any {w : World} {V : Value} {L : List Arc} (n : Int) (h : Arcs w V L) :
    Calls Tryz.prog 53 #[.int .i64 n, V] w fun e w' => e = .returned (.bool (rightB n L)) ∧ Below w.heap.size w w' := by
  have hb : Below w.heap.size w (w.alloc (.cells #[.int .i64 n] 3)) := (Below.refl _ _).alloc (Nat.le_refl _) _
  have g0 : (w.alloc (.cells #[.int .i64 n] 3)).cell? ⟨w.heap.size, 0, none⟩ = some (.int .i64 n) := (Cl.new rfl).cell
  have h' := h.later hb
  obtain ⟨A, cap, rfl, -⟩ := h.at_
  have HH := Lib.hid h'
  have HB := Lib.hid hb
  have HG := Lib.hid g0
  clear h h' hb
  by_cases n0 : n < 0
  · have hr : Hid (rightB n L = false) := by show _ = _; simp [rightB]; omega
    go_enter Tryz.func53, Tryz.ntmps53
    go_wp2_with fail
    go_ret
    exact ⟨ret_bool hr.out.symm, HB.out⟩
  by_cases n1 : 4096 < n
  · have hr : Hid (rightB n L = false) := by show _ = _; simp [rightB]; omega
    go_enter Tryz.func53, Tryz.ntmps53
    go_wp2_with fail
    go_ret
    exact ⟨ret_bool hr.out.symm, HB.out⟩
  by_cases n2 : 16384 < (L.length : Int)
  · have hr : Hid (rightB n L = false) := by show _ = _; simp [rightB]; omega
    go_enter Tryz.func53, Tryz.ntmps53
    go_wp2_with fail
    go_ret
    exact ⟨ret_bool hr.out.symm, HB.out⟩
  have hr : Hid (rightB n L = !L.any (badA n)) := by
    show _ = _
    have e1 : decide (0 ≤ n) = true := by simp; omega
    have e2 : decide (n ≤ 4096) = true := by simp; omega
    have e3 : decide (L.length ≤ 16384) = true := by simp; omega
    simp only [rightB, e1, e2, e3, Bool.true_and]
  go_enter Tryz.func53, Tryz.ntmps53
  go_wp2_with fail
  refine (anyArcs_any HH.out (p := badA n) (ok := fun _ => True) (predR HG.out) (fun _ _ => trivial) (by omega)).mono ?_
  rintro e w1 ⟨rfl, B1⟩
  have HB1 := Lib.hid (below_then HB.out HB.out.size B1)
  clear B1
  go_wp2_with fail
  go_ret
  exact ⟨ret_bool hr.out.symm, HB1.out⟩
end Go.Proofs.YtjgloineooadoaaGreatDoor
/- The order of a graph's nodes: the least that is free, again and again. Plain laws: no walk. -/
namespace Go.Proofs.YtjgloineooadoaaGreatDoor
abbrev Gr := List (Nat × Nat)
/-- Arcs to v from what isn't in l. -/
def cnt (G : Gr) (l : List Nat) (v : Nat) : Nat := G.countP fun a => a.2 == v && !l.contains a.1
def nxt (G : Gr) (v : Nat) : List Nat := (G.filter fun a => a.1 == v).map (·.2)
def rdy (G : Gr) (l : List Nat) (v : Nat) : Bool := !l.contains v && cnt G l v == 0
def nextN (G : Gr) (n : Nat) (l : List Nat) : Option Nat := (List.range n).find? (rdy G l)
def gr (G : Gr) (n : Nat) : Nat → List Nat → List Nat
  | 0, l => l
  | k + 1, l => match nextN G n l with
    | none => l
    | some v => gr G n k (l ++ [v])
def ordL (G : Gr) (n : Nat) : List Nat := gr G n n []
theorem cnt_append (G : Gr) (l : List Nat) (v w : Nat) (hv : v ∉ l) : cnt G l w = cnt G (l ++ [v]) w + (nxt G v).count w := by
  unfold cnt nxt
  induction G with
  | nil => rfl
  | cons a G ih =>
    rw [List.countP_cons, List.countP_cons, ih]
    by_cases h1 : a.1 = v
    · have h2 : l.contains a.1 = false := by rw [h1]; simpa using hv
      have h3 : (l ++ [v]).contains a.1 = true := by simp [h1]
      rw [List.filter_cons_of_pos (by simp [h1]), List.map_cons, List.count_cons, h2, h3]
      simp only [Bool.not_false, Bool.and_true, Bool.not_true, Bool.and_false]
      split <;> simp_all <;> omega
    · have h3 : (l ++ [v]).contains a.1 = l.contains a.1 := by simp [h1]
      rw [List.filter_cons_of_neg (by simp [h1]), h3]
      split <;> omega
theorem cnt_le (G : Gr) (l : List Nat) (v w : Nat) (hv : v ∉ l) : cnt G (l ++ [v]) w ≤ cnt G l w := by rw [cnt_append G l v w hv]; omega
theorem nxt_mem {G : Gr} {v w : Nat} (h : w ∈ nxt G v) : (v, w) ∈ G := by
  unfold nxt at h
  obtain ⟨a, ha, rfl⟩ := List.mem_map.1 h
  obtain ⟨h1, h2⟩ := List.mem_filter.1 ha
  have : a.1 = v := by simpa using h2
  rw [← this]; exact h1
/-- What was taken is free of all ahead of it. -/
def Tk (G : Gr) (n : Nat) (l : List Nat) : Prop := l.Nodup ∧ (∀ u ∈ l, u < n) ∧ ∀ u ∈ l, cnt G l u = 0
theorem Tk.nil (G : Gr) (n : Nat) : Tk G n [] := ⟨List.nodup_nil, by simp, by simp⟩
theorem Tk.add {G : Gr} {n : Nat} {l : List Nat} (h : Tk G n l) {v : Nat} (hv : v < n) (hr : rdy G l v = true) : Tk G n (l ++ [v]) := by
  obtain ⟨h1, h2, h3⟩ := h
  have hr' : v ∉ l ∧ cnt G l v = 0 := by simpa [rdy] using hr
  refine ⟨?_, ?_, ?_⟩
  · rw [List.nodup_append]
    exact ⟨h1, by simp, fun a ha b hb => by simp at hb; subst hb; exact fun e => hr'.1 (e ▸ ha)⟩
  · intro u hu
    rcases List.mem_append.1 hu with hu | hu
    · exact h2 u hu
    · simp at hu; subst hu; exact hv
  · intro u hu
    have hle := cnt_le G l v u hr'.1
    rcases List.mem_append.1 hu with hu | hu
    · have := h3 u hu; omega
    · simp at hu; subst hu; omega
/-- A target of what is taken now was not taken. -/
theorem target_new {G : Gr} {n : Nat} {l : List Nat} (h : Tk G n l) {v : Nat} (hr : rdy G l v = true) {w : Nat} (hw : w ∈ nxt G v) : w ∉ l ++ [v] := by
  have hr' : v ∉ l ∧ cnt G l v = 0 := by simpa [rdy] using hr
  have hpos : 0 < cnt G l w := by
    rw [cnt_append G l v w hr'.1]
    have := List.count_pos_iff.2 hw
    omega
  intro hc
  rcases List.mem_append.1 hc with hc | hc
  · have := h.2.2 w hc; omega
  · simp at hc; subst hc; omega
theorem nextN_some {G : Gr} {n : Nat} {l : List Nat} {v : Nat} (hv : v < n) (hr : rdy G l v = true) (hmin : ∀ u, u < v → rdy G l u = false) : nextN G n l = some v := by
  unfold nextN
  rw [List.find?_range_eq_some]
  exact ⟨hr, by simpa using hv, fun j hj => by simp [hmin j hj]⟩
theorem nextN_none {G : Gr} {n : Nat} {l : List Nat} (h : ∀ u, u < n → rdy G l u = false) : nextN G n l = none := by
  unfold nextN
  rw [List.find?_range_eq_none]
  intro i hi
  simp [h i hi]
theorem gr_step {G : Gr} {n k : Nat} {l : List Nat} {v : Nat} (hk : 0 < k) (hv : v < n) (hr : rdy G l v = true) (hmin : ∀ u, u < v → rdy G l u = false) : gr G n k l = gr G n (k - 1) (l ++ [v]) := by
  obtain ⟨k, rfl⟩ : ∃ m, k = m + 1 := ⟨k - 1, by omega⟩
  simp only [gr, nextN_some hv hr hmin, Nat.add_sub_cancel]
theorem gr_stop {G : Gr} {n k : Nat} {l : List Nat} (h : ∀ u, u < n → rdy G l u = false) : gr G n k l = l := by
  cases k with
  | zero => rfl
  | succ k => simp only [gr, nextN_none h]
theorem nodup_lt : ∀ (n : Nat) (l : List Nat), l.Nodup → (∀ u ∈ l, u < n) → l.length ≤ n
  | 0, l, _, h => by
    cases l with
    | nil => exact Nat.le_refl _
    | cons a l => exact absurd (h a (by simp)) (by omega)
  | n + 1, l, hd, h => by
    have h1 := nodup_lt n (l.erase n) (hd.erase n) (fun u hu => by
      have h2 := (List.Nodup.mem_erase_iff hd).1 hu
      have := h u h2.2
      have := h2.1
      omega)
    have h2 := List.length_erase (a := n) (l := l)
    split at h2 <;> omega
theorem Tk.len {G : Gr} {n : Nat} {l : List Nat} (h : Tk G n l) : l.length ≤ n := nodup_lt n l h.1 h.2.1
theorem rdy_lt {G : Gr} {n : Nat} {l : List Nat} (h : Tk G n l) {v : Nat} (hv : v < n) (hr : rdy G l v = true) : l.length < n := by
  have := (h.add hv hr).len
  simp at this
  omega
theorem gr_tk {G : Gr} {n : Nat} : ∀ (k : Nat) (l : List Nat), Tk G n l → Tk G n (gr G n k l)
  | 0, l, h => h
  | k + 1, l, h => by
    simp only [gr]
    split
    · exact h
    · rename_i v hv
      unfold nextN at hv
      rw [List.find?_range_eq_some] at hv
      exact gr_tk k _ (h.add (by simpa using hv.2.1) hv.1)
theorem ordL_tk (G : Gr) (n : Nat) : Tk G n (ordL G n) := gr_tk n [] (Tk.nil G n)
/-- How many arcs are open while j of those from v have been met. -/
def opJ (G : Gr) (l : List Nat) (v j u : Nat) : Nat := cnt G (l ++ [v]) u + ((nxt G v).drop j).count u
theorem opJ_zero (G : Gr) (l : List Nat) (v u : Nat) (hv : v ∉ l) : opJ G l v 0 u = cnt G l u := by unfold opJ; rw [cnt_append G l v u hv]; simp
theorem opJ_end (G : Gr) (l : List Nat) (v u : Nat) : opJ G l v (nxt G v).length u = cnt G (l ++ [v]) u := by unfold opJ; rw [List.drop_length]; simp
theorem opJ_step (G : Gr) (l : List Nat) (v u : Nat) {j w : Nat} (h : (nxt G v)[j]? = some w) : opJ G l v j u = opJ G l v (j + 1) u + if u = w then 1 else 0 := by
  unfold opJ
  obtain ⟨hj, rfl⟩ := List.getElem?_eq_some_iff.1 h
  rw [List.drop_eq_getElem_cons hj, List.count_cons]
  by_cases e : (nxt G v)[j] = u
  · rw [if_pos (by simpa using e), if_pos e.symm]; omega
  · rw [if_neg (by simpa using e), if_neg (fun h => e h.symm)]; omega
theorem opJ_le (G : Gr) (l : List Nat) (v j u : Nat) : opJ G l v j u ≤ G.length + G.length := by
  unfold opJ
  have h1 : cnt G (l ++ [v]) u ≤ G.length := List.countP_le_length
  have h2 := List.count_le_length (a := u) (l := (nxt G v).drop j)
  have h3 : ((nxt G v).drop j).length ≤ (nxt G v).length := by rw [List.length_drop]; omega
  have h4 : (nxt G v).length ≤ G.length := by unfold nxt; rw [List.length_map]; exact List.length_filter_le _ _
  omega
def sJ (G : Gr) (m : Nat) (l : List Nat) (v j u : Nat) : Bool := decide (u < m) && !(l ++ [v]).contains u && opJ G l v j u == 0
theorem sJ_zero (G : Gr) (m : Nat) (l : List Nat) (v u : Nat) (hv : v ∉ l) : (decide (u < m) && rdy G l u && u != v) = sJ G m l v 0 u := by
  unfold sJ rdy
  rw [opJ_zero G l v u hv, Bool.eq_iff_iff]
  simp only [Bool.and_eq_true, decide_eq_true_eq, Bool.not_eq_true', List.contains_eq_mem, decide_eq_false_iff_not, beq_iff_eq, bne_iff_ne, List.mem_append, List.mem_singleton, not_or]
  constructor
  · rintro ⟨⟨h1, h2, h3⟩, h4⟩; exact ⟨⟨h1, h2, h4⟩, h3⟩
  · rintro ⟨⟨h1, h2, h4⟩, h3⟩; exact ⟨⟨h1, h2, h3⟩, h4⟩
theorem sJ_end (G : Gr) (m : Nat) (l : List Nat) (v u : Nat) : sJ G m l v (nxt G v).length u = (decide (u < m) && rdy G (l ++ [v]) u) := by
  unfold sJ rdy
  rw [opJ_end, Bool.and_assoc]
theorem sJ_push (G : Gr) (m : Nat) (l : List Nat) (v : Nat) {j w : Nat} (h : (nxt G v)[j]? = some w) (hw : w ∉ l ++ [v]) (hm : w < m) (hz : opJ G l v (j + 1) w = 0) (u : Nat) : (sJ G m l v j u || u == w) = sJ G m l v (j + 1) u := by
  have hs := opJ_step G l v u h
  unfold sJ
  rw [Bool.eq_iff_iff]
  simp only [Bool.or_eq_true, Bool.and_eq_true, decide_eq_true_eq, Bool.not_eq_true', List.contains_eq_mem, decide_eq_false_iff_not, beq_iff_eq]
  constructor
  · rintro (⟨⟨h1, h2⟩, h3⟩ | rfl)
    · exact ⟨⟨h1, h2⟩, by omega⟩
    · exact ⟨⟨hm, hw⟩, hz⟩
  · rintro ⟨⟨h1, h2⟩, h3⟩
    by_cases e : u = w
    · exact .inr e
    · rw [if_neg e] at hs
      exact .inl ⟨⟨h1, h2⟩, by omega⟩
theorem sJ_stay (G : Gr) (m : Nat) (l : List Nat) (v : Nat) {j w : Nat} (h : (nxt G v)[j]? = some w) (hz : opJ G l v (j + 1) w ≠ 0) (u : Nat) : sJ G m l v j u = sJ G m l v (j + 1) u := by
  have hs := opJ_step G l v u h
  unfold sJ
  rw [Bool.eq_iff_iff]
  simp only [Bool.and_eq_true, decide_eq_true_eq, beq_iff_eq]
  by_cases e : u = w
  · subst e
    constructor
    · rintro ⟨_, h3⟩; omega
    · rintro ⟨_, h3⟩; omega
  · rw [if_neg e] at hs
    constructor
    · rintro ⟨h1, h3⟩; exact ⟨h1, by omega⟩
    · rintro ⟨h1, h3⟩; exact ⟨h1, by omega⟩
theorem sJ_target (G : Gr) (m : Nat) (l : List Nat) (v : Nat) {j w : Nat} (h : (nxt G v)[j]? = some w) : sJ G m l v j w = false := by
  have hs := opJ_step G l v w h
  rw [if_pos rfl] at hs
  unfold sJ
  have : (opJ G l v j w == 0) = false := by simp; omega
  rw [this, Bool.and_false]
end Go.Proofs.YtjgloineooadoaaGreatDoor
/- A search for the nearest node that lacks something: what holds at each step. No program in sight. -/
namespace Go.Proofs.YtjgloineooadoaaGreatDoor
def slk (G : Gf) (x : Nat → Int) (i : Nat) : Int := x (G.tt i) - x (G.fr i) - 1
/-- Coordinates that fit a flow: each arc is long enough, and just so long where something flows. -/
structure Pot (G : Gf) (fl x : Nat → Int) : Prop where
  sl : ∀ i, i < G.m → 0 ≤ slk G x i
  nn : ∀ i, i < G.m → 0 ≤ fl i
  cs : ∀ i, i < G.m → 0 < fl i → slk G x i = 0
abbrev Stp := Int × Bool
def prv (G : Gf) (s : Stp) : Nat := if s.2 = true then G.tt s.1.toNat else G.fr s.1.toNat
def hdv (G : Gf) (s : Stp) : Nat := if s.2 = true then G.fr s.1.toNat else G.tt s.1.toNat
def cst (G : Gf) (x : Nat → Int) (s : Stp) : Int := if s.2 = true then -slk G x s.1.toNat else slk G x s.1.toNat
/-- The step by which a node was met. -/
def Came (G : Gf) (left fl x : Nat → Int) (far : Nat → Int) (ord : List Nat) (v : Nat) (s : Stp) : Prop :=
  (s.1 = -1 ∧ 0 < left v) ∨ (∃ i : Nat, i < G.m ∧ s.1 = i ∧ hdv G s = v ∧ prv G s ∈ ord ∧ far v = far (prv G s) + cst G x s ∧ (s.2 = true → 0 < fl i) ∧ (v ∈ ord → ord.idxOf (prv G s) < ord.idxOf v))
structure Srch (G : Gf) (left fl x : Nat → Int) (far : Nat → Int) (came : Nat → Stp) (cl : Nat → Bool) (ord : List Nat) (D : Int) (items : List ((Int × Int) × Int)) (DO DI : Nat → Nat → Prop) : Prop where
  lt : ∀ v ∈ ord, v < G.n
  nd : ord.Nodup
  cli : ∀ v, v < G.n → (cl v = true ↔ v ∈ ord)
  d0 : 0 ≤ D
  fcl : ∀ v ∈ ord, 0 ≤ far v ∧ far v ≤ D
  its : ∀ p ∈ items, ∃ v : Nat, v < G.n ∧ p.1.1 = v ∧ D ≤ p.1.2 ∧ far v ≠ -1 ∧ far v ≤ p.1.2
  met : ∀ v, v < G.n → far v ≠ -1 → v ∉ ord → ∃ p ∈ items, p.1 = ((v : Int), far v)
  fv : ∀ v, v < G.n → far v = -1 ∨ 0 ≤ far v
  fup : ∀ v, v < G.n → far v ≠ -1 → far v ≤ x v + ord.idxOf v
  st : ∀ v, v < G.n → 0 < left v → far v = 0
  out : ∀ v ∈ ord, ∀ i, i < G.m → G.fr i = v → DO v i → far (G.tt i) ≠ -1 ∧ far (G.tt i) ≤ far v + slk G x i
  inn : ∀ v ∈ ord, ∀ i, i < G.m → G.tt i = v → DI v i → 0 < fl i → far (G.fr i) ≠ -1 ∧ far (G.fr i) ≤ far v - slk G x i
  cam : ∀ v, v < G.n → far v ≠ -1 → Came G left fl x far ord v (came v)
section
variable {G : Gf} {left fl x far : Nat → Int} {came : Nat → Stp} {cl : Nat → Bool} {ord : List Nat} {D : Int} {items : List ((Int × Int) × Int)} {DO DI : Nat → Nat → Prop}
theorem Srch.fD (S : Srch G left fl x far came cl ord D items DO DI) {v : Nat} (hv : v < G.n) (hf : far v ≠ -1) (ho : v ∉ ord) : D ≤ far v := by
  obtain ⟨p, hp, e⟩ := S.met v hv hf ho
  obtain ⟨u, _, e1, e2, _, _⟩ := S.its p hp
  rw [e] at e2
  exact e2
theorem Srch.len (S : Srch G left fl x far came cl ord D items DO DI) : ord.length ≤ G.n := nodup_lt G.n ord S.nd S.lt
/-- An item that is no news is dropped. -/
theorem Srch.drop (S : Srch G left fl x far came cl ord D items DO DI) {a : (Int × Int) × Int} {r items' : List ((Int × Int) × Int)} (hi : items = a :: r) (hp : items'.Perm r) {v : Nat} (hv : a.1.1 = v) (hc : v ∈ ord) :
    Srch G left fl x far came cl ord D items' DO DI := by
  refine { S with its := fun p hp' => S.its p (by rw [hi]; exact List.mem_cons_of_mem _ (hp.mem_iff.1 hp')), met := fun u hu hf ho => ?_ }
  obtain ⟨p, hp1, hp2⟩ := S.met u hu hf ho
  rw [hi] at hp1
  rcases List.mem_cons.1 hp1 with rfl | hp1
  · exfalso
    have e : p.1.1 = (u : Int) := by rw [hp2]
    have : v = u := by omega
    subst this
    exact ho hc
  · exact ⟨p, hp.mem_iff.2 hp1, hp2⟩
theorem idx_snoc {l : List Nat} {v u : Nat} (h : u ∈ l) : (l ++ [v]).idxOf u = l.idxOf u := by
  rw [List.idxOf_append, if_pos h]
theorem idx_last {l : List Nat} {v : Nat} (h : v ∉ l) : (l ++ [v]).idxOf v = l.length := by
  rw [List.idxOf_append, if_neg h]; simp
/-- The nearest node is closed. -/
theorem Srch.close (S : Srch G left fl x far came cl ord D items (fun _ _ => True) (fun _ _ => True)) {a : (Int × Int) × Int} {r items' : List ((Int × Int) × Int)} (hi : items = a :: r) (hp : items'.Perm r) (hmin : ∀ p ∈ items, a.1.2 ≤ p.1.2)
    {v : Nat} (hv : a.1.1 = v) (hn : v < G.n) (hc : v ∉ ord) :
    a.1.2 = far v ∧ Srch G left fl x far came (upd cl v true) (ord ++ [v]) (far v) items' (fun u _ => u ≠ v) (fun u _ => u ≠ v) := by
  obtain ⟨u, hu, e1, e2, e3, e4⟩ := S.its a (by rw [hi]; simp)
  have : u = v := by omega
  subst this
  obtain ⟨p, hp1, hp2⟩ := S.met u hn e3 hc
  have h1 := hmin p hp1
  rw [hp2] at h1
  simp only at h1
  have e5 : a.1.2 = far u := by omega
  have hDf : D ≤ far u := by omega
  refine ⟨e5, ?_⟩
  have memi : ∀ p ∈ items', p ∈ items := fun p hp' => by rw [hi]; exact List.mem_cons_of_mem _ (hp.mem_iff.1 hp')
  refine ⟨fun w hw => ?_, ?_, fun w hw => ?_, Int.le_trans S.d0 hDf, fun w hw => ?_, fun p hp' => ?_, fun w hw hf ho => ?_, S.fv, fun w hw hf => ?_, S.st, fun w hw i hi' e hd => ?_, fun w hw i hi' e hd => ?_, fun w hw hf => ?_⟩
  · rcases List.mem_append.1 hw with h | h
    · exact S.lt w h
    · have : w = u := by simpa using h
      subst this; exact hn
  · rw [List.nodup_append]
    refine ⟨S.nd, by simp, fun x hx y hy => ?_⟩
    have : y = u := by simpa using hy
    subst this
    rintro rfl
    exact hc hx
  · unfold upd
    by_cases e : w = u
    · subst e; simp
    · rw [if_neg e, S.cli w hw]; simp [e]
  · rcases List.mem_append.1 hw with h | h
    · have := S.fcl w h; omega
    · have : w = u := by simpa using h
      subst this
      have := S.d0
      omega
  · obtain ⟨w, h1, h2, h3, h4, h5⟩ := S.its p (memi p hp')
    have := hmin p (memi p hp')
    exact ⟨w, h1, h2, by omega, h4, h5⟩
  · have hne : w ≠ u := fun e => ho (by simp [e])
    have hwo : w ∉ ord := fun h => ho (by simp [h])
    obtain ⟨p, h1, h2⟩ := S.met w hw hf hwo
    rw [hi] at h1
    rcases List.mem_cons.1 h1 with rfl | h1
    · exfalso
      have e : p.1.1 = (w : Int) := by rw [h2]
      omega
    · exact ⟨p, hp.mem_iff.2 h1, h2⟩
  · have h1 := S.fup w hw hf
    have h2 : ord.idxOf w ≤ (ord ++ [u]).idxOf w := by
      by_cases h : w ∈ ord
      · rw [idx_snoc h]; exact Nat.le_refl _
      · rw [List.idxOf_append, if_neg h]
        have := List.idxOf_le_length (l := ord) (a := w)
        omega
    omega
  · have hw' : w ∈ ord := by
      rcases List.mem_append.1 hw with h | h
      · exact h
      · exact absurd (by simpa using h) hd
    exact S.out w hw' i hi' e trivial
  · have hw' : w ∈ ord := by
      rcases List.mem_append.1 hw with h | h
      · exact h
      · exact absurd (by simpa using h) hd
    exact S.inn w hw' i hi' e trivial
  · rcases S.cam w hw hf with h | ⟨i, h1, h2, h3, h4, h5, h6, h7⟩
    · exact .inl h
    · refine .inr ⟨i, h1, h2, h3, by simp [h4], h5, h6, fun hw' => ?_⟩
      rw [idx_snoc h4]
      rcases List.mem_append.1 hw' with h | h
      · rw [idx_snoc h]; exact h7 h
      · have : w = u := by simpa using h
        subst this
        rw [idx_last hc]
        exact List.idxOf_lt_length_of_mem h4
theorem Srch.weak {DO' DI' : Nat → Nat → Prop} (S : Srch G left fl x far came cl ord D items DO DI) (h1 : ∀ v i, v ∈ ord → i < G.m → DO' v i → DO v i) (h2 : ∀ v i, v ∈ ord → i < G.m → DI' v i → DI v i) : Srch G left fl x far came cl ord D items DO' DI' :=
  { S with out := fun v hv i hi e hd => S.out v hv i hi e (h1 v i hv hi hd), inn := fun v hv i hi e hd => S.inn v hv i hi e (h2 v i hv hi hd) }
/-- A node is met on a way that is no news: nothing changes. -/
theorem Srch.same_out (S : Srch G left fl x far came cl ord D items DO DI) {u i : Nat} (hi : i < G.m) (hu : G.fr i = u) (h1 : far (G.tt i) ≠ -1) (h2 : far (G.tt i) ≤ far u + slk G x i) :
    Srch G left fl x far came cl ord D items (fun v j => DO v j ∨ (v = u ∧ j = i)) DI := by
  refine { S with out := fun v hv j hj e hd => ?_ }
  rcases hd with hd | ⟨rfl, rfl⟩
  · exact S.out v hv j hj e hd
  · exact ⟨h1, h2⟩
theorem Srch.same_inn (S : Srch G left fl x far came cl ord D items DO DI) {u i : Nat} (hi : i < G.m) (hu : G.tt i = u) (h1 : 0 < fl i → far (G.fr i) ≠ -1 ∧ far (G.fr i) ≤ far u - slk G x i) :
    Srch G left fl x far came cl ord D items DO (fun v j => DI v j ∨ (v = u ∧ j = i)) := by
  refine { S with inn := fun v hv j hj e hd hf => ?_ }
  rcases hd with hd | ⟨rfl, rfl⟩
  · exact S.inn v hv j hj e hd hf
  · exact h1 hf
/-- A node is met on a way that is shorter. -/
theorem Srch.meet (S : Srch G left fl x far came cl ord D items DO DI) (hG : G.ok) (P : Pot G fl x) {s : Stp} {i u w : Nat} {d t : Int} {items' : List ((Int × Int) × Int)} (hi : i < G.m) (hs : s.1 = i) (hw : hdv G s = w) (hu : prv G s = u) (huo : u ∈ ord) (hud : far u = D)
    (hlast : ord.idxOf u + 1 = ord.length) (hb : s.2 = true → 0 < fl i) (hd : d = far u + cst G x s) (hnew : far w = -1 ∨ d < far w) (hp : items'.Perm (items ++ [(((w : Int), d), t)])) :
    Srch G left fl x (upd far w d) (upd came w s) cl ord D items' (fun v j => DO v j) (fun v j => DI v j) ∧ upd far w d w = d ∧ D ≤ d ∧ w ∉ ord := by
  have hst : s.1.toNat = i := by omega
  have hwn : w < G.n := by
    rw [← hw]; unfold hdv; rw [hst]
    split
    · exact hG.f i hi
    · exact hG.t i hi
  have hc0 : 0 ≤ cst G x s := by
    unfold cst; rw [hst]
    split
    · have := P.cs i hi (hb (by assumption)); omega
    · exact P.sl i hi
  have hDd : D ≤ d := by omega
  have hwo : w ∉ ord := fun h => by
    have := S.fcl w h
    rcases hnew with h' | h' <;> omega
  have huw : u ≠ w := fun e => hwo (by rw [← e]; exact huo)
  have hx : x w = x u + cst G x s + (if s.2 = true then -1 else 1) := by
    rw [← hw, ← hu]; unfold hdv prv cst slk; rw [hst]
    split <;> omega
  have hd0 := S.d0
  have hle : ∀ v, far v ≠ -1 → upd far w d v ≤ far v ∧ upd far w d v ≠ -1 := fun v hv => by
    unfold upd
    by_cases e : v = w
    · rw [if_pos e]; subst e; rcases hnew with h | h <;> omega
    · rw [if_neg e]; exact ⟨Int.le_refl _, hv⟩
  have hord : ∀ v ∈ ord, upd far w d v = far v := fun v hv => by
    unfold upd
    rw [if_neg (fun e : v = w => hwo (by rw [← e]; exact hv))]
  have memi : ∀ p ∈ items, p ∈ items' := fun p h => hp.mem_iff.2 (by simp [h])
  refine ⟨⟨S.lt, S.nd, S.cli, S.d0, fun v hv => by rw [hord v hv]; exact S.fcl v hv, fun p hp' => ?_, fun v hv hf ho => ?_, fun v hv => ?_, fun v hv hf => ?_, fun v hv hl => ?_, fun v hv j hj e hd' => ?_, fun v hv j hj e hd' hf => ?_, fun v hv hf => ?_⟩, by simp [upd], hDd, hwo⟩
  · rcases List.mem_append.1 (hp.mem_iff.1 hp') with h | h
    · obtain ⟨v, h1, h2, h3, h4, h5⟩ := S.its p h
      have := hle v h4
      exact ⟨v, h1, h2, h3, this.2, by omega⟩
    · have : p = (((w : Int), d), t) := by simpa using h
      subst this
      exact ⟨w, hwn, rfl, hDd, by simp [upd]; omega, by simp [upd]⟩
  · by_cases e : v = w
    · subst e
      exact ⟨(((v : Int), d), t), hp.mem_iff.2 (by simp), by simp [upd]⟩
    · have e1 : upd far w d v = far v := by simp [upd, e]
      rw [e1] at hf ⊢
      obtain ⟨p, h1, h2⟩ := S.met v hv hf ho
      exact ⟨p, memi p h1, h2⟩
  · unfold upd
    by_cases e : v = w
    · rw [if_pos e]; right; omega
    · rw [if_neg e]; exact S.fv v hv
  · by_cases e : v = w
    · subst e
      have e1 : upd far v d v = d := by simp [upd]
      rw [e1]
      have h1 : far u ≤ x u + ord.idxOf u := S.fup u (S.lt u huo) (by have := (S.fcl u huo).1; omega)
      rw [List.idxOf_eq_length hwo]
      split at hx <;> omega
    · have e1 : upd far w d v = far v := by simp [upd, e]
      rw [e1] at hf ⊢
      exact S.fup v hv hf
  · have h0 := S.st v hv hl
    by_cases e : v = w
    · subst e
      rcases hnew with h | h <;> omega
    · simp [upd, e]; exact h0
  · obtain ⟨h1, h2⟩ := S.out v hv j hj e hd'
    have := hle _ h1
    rw [hord v hv]
    exact ⟨this.2, by omega⟩
  · obtain ⟨h1, h2⟩ := S.inn v hv j hj e hd' hf
    have := hle _ h1
    rw [hord v hv]
    exact ⟨this.2, by omega⟩
  · by_cases e : v = w
    · subst e
      have e1 : upd far v d v = d := by simp [upd]
      have e2 : upd came v s v = s := by simp [upd]
      rw [e2]
      refine .inr ⟨i, hi, hs, hw, by rw [hu]; exact huo, ?_, hb, fun h => absurd h hwo⟩
      rw [e1, hu, hord u huo]
      exact hd
    · have e1 : upd far w d v = far v := by simp [upd, e]
      have e2 : upd came w s v = came v := by simp [upd, e]
      rw [e1] at hf
      rw [e2]
      rcases S.cam v hv hf with h | ⟨j, h1, h2, h3, h4, h5, h6, h7⟩
      · exact .inl h
      · refine .inr ⟨j, h1, h2, h3, h4, ?_, h6, h7⟩
        rw [e1, hord _ h4]
        exact h5
end
end Go.Proofs.YtjgloineooadoaaGreatDoor
/- What is left, and what a round of pushing does to it. No program in sight. -/
namespace Go.Proofs.YtjgloineooadoaaGreatDoor
open Go.RowKit
/-- What is left to be sent. -/
def spN (left : Nat → Int) (n : Nat) : Int := sumN (fun v => max 0 (left v)) n
theorem spN_nonneg (left : Nat → Int) (n : Nat) : 0 ≤ spN left n := sumN_nonneg (fun v _ => by omega)
theorem sumN_upd' {f : Nat → Int} {v : Nat} {y : Int} : ∀ {n : Nat}, v < n → sumN (upd f v y) n = sumN f n - f v + y
  | 0, h => by omega
  | n + 1, h => by
    show sumN (upd f v y) n + upd f v y n = sumN f n + f n - f v + y
    by_cases e : v = n
    · subst e
      have : sumN (upd f v y) v = sumN f v := sumN_congr (fun u hu => by unfold upd; rw [if_neg (by omega)])
      rw [this]
      have : upd f v y v = y := by simp [upd]
      omega
    · rw [sumN_upd' (n := n) (by omega)]
      have : upd f v y n = f n := by unfold upd; rw [if_neg (fun h => e h.symm)]
      omega
/-- N goes from one node that has it to one that wants it. -/
theorem spN_push {left : Nat → Int} {n v0 z : Nat} {N : Int} (hv : v0 < n) (hz : z < n) (h1 : 1 ≤ N) (h2 : N ≤ left v0) (h3 : N ≤ -left z) : spN (upd (upd left v0 (left v0 - N)) z (left z + N)) n = spN left n - N := by
  have hne : z ≠ v0 := fun e => by rw [e] at h3; omega
  have e : (fun v => max 0 (upd (upd left v0 (left v0 - N)) z (left z + N) v)) = upd (upd (fun v => max 0 (left v)) v0 (max 0 (left v0) - N)) z (max 0 (left z)) := by
    funext v
    unfold upd
    by_cases e1 : v = z
    · rw [if_pos e1, if_pos e1]; omega
    · rw [if_neg e1, if_neg e1]
      by_cases e2 : v = v0
      · rw [if_pos e2, if_pos e2]; omega
      · rw [if_neg e2, if_neg e2]
  unfold spN
  rw [e, sumN_upd' hz, sumN_upd' hv]
  have : upd (fun v => max 0 (left v)) v0 (max 0 (left v0) - N) z = max 0 (left z) := by unfold upd; rw [if_neg hne]
  rw [this]
  omega
/-- What is left at first is no more than all weights together. -/
theorem spN_start (G : Gf) (w : Nat → Int) (hw : ∀ i, i < G.m → 0 ≤ w i) (n : Nat) : ∀ m, m ≤ G.m → spN (fun v => nf G w v m) n ≤ sumN w m := by
  intro m
  induction m with
  | zero =>
    intro _
    show sumN (fun v => max 0 (nf G w v 0)) n ≤ 0
    have : sumN (fun v => max 0 (nf G w v 0)) n = sumN (fun _ => (0 : Int)) n := sumN_congr (fun v _ => by simp [nf])
    rw [this]
    clear this
    induction n with
    | zero => exact Int.le_refl _
    | succ n ih => show sumN (fun _ => (0 : Int)) n + 0 ≤ 0; omega
  | succ m ih =>
    intro hm
    have h := ih (by omega)
    have hwm := hw m (by omega)
    have key : ∀ n, spN (fun v => nf G w v (m + 1)) n ≤ spN (fun v => nf G w v m) n + (if G.fr m < n then w m else 0) := by
      intro n
      induction n with
      | zero => show (0 : Int) ≤ 0 + _; split <;> omega
      | succ n ih2 =>
        show spN (fun v => nf G w v (m + 1)) n + max 0 (nf G w n (m + 1)) ≤ spN (fun v => nf G w v m) n + max 0 (nf G w n m) + _
        have e : nf G w n (m + 1) = nf G w n m + ind (G.fr m = n) (w m) - ind (G.tt m = n) (w m) := rfl
        unfold ind at e
        rw [e]
        split at ih2 <;> split <;> split <;> split <;> omega
    have k := key n
    show _ ≤ sumN w m + w m
    split at k <;> omega
end Go.Proofs.YtjgloineooadoaaGreatDoor
/- What a search has found; coordinates turned; a way pushed along. No program in sight. -/
namespace Go.Proofs.YtjgloineooadoaaGreatDoor
def ddv (far : Nat → Int) (cl : Nat → Bool) (D : Int) (v : Nat) : Int := if cl v = true then far v else D
structure Fnd (G : Gf) (left fl x far : Nat → Int) (came : Nat → Stp) (cl : Nat → Bool) (ord : List Nat) (z : Nat) (D : Int) : Prop where
  toN : z < G.n
  toO : z ∈ ord
  neg : left z < 0
  fto : far z = D
  nd : ord.Nodup
  lt : ∀ v ∈ ord, v < G.n
  cli : ∀ v, v < G.n → (cl v = true ↔ v ∈ ord)
  fcl : ∀ v ∈ ord, 0 ≤ far v ∧ far v ≤ D
  dn : D ≤ x z + G.n
  t1 : ∀ i, i < G.m → ddv far cl D (G.tt i) ≤ ddv far cl D (G.fr i) + slk G x i
  t2 : ∀ i, i < G.m → 0 < fl i → ddv far cl D (G.fr i) ≤ ddv far cl D (G.tt i)
  t3 : ∀ v, v < G.n → 0 ≤ ddv far cl D v ∧ ddv far cl D v ≤ D
  t4 : ∀ v, v < G.n → 0 < left v → ddv far cl D v = 0
  cam : ∀ v ∈ ord, Came G left fl x far ord v (came v)
section
variable {G : Gf} {left fl x far : Nat → Int} {came : Nat → Stp} {cl : Nat → Bool} {ord : List Nat} {D : Int} {items : List ((Int × Int) × Int)} {z : Nat}
theorem Srch.begin {far : Nat → Int} (h1 : ∀ v, v < G.n → 0 < left v → far v = 0 ∧ (came v).1 = -1) (h2 : ∀ v, v < G.n → ¬ 0 < left v → far v = -1) (h3 : ∀ v, v < G.n → cl v = false) (h4 : ∀ p ∈ items, ∃ v : Nat, v < G.n ∧ p.1 = ((v : Int), 0) ∧ 0 < left v)
    (h5 : ∀ v, v < G.n → 0 < left v → ∃ p ∈ items, p.1 = ((v : Int), 0)) (h6 : ∀ v, v < G.n → 0 < left v → 0 ≤ x v) : Srch G left fl x far came cl [] 0 items (fun _ _ => True) (fun _ _ => True) := by
  have pos : ∀ v, v < G.n → far v ≠ -1 → 0 < left v := fun v hv hf => by
    by_cases h : 0 < left v
    · exact h
    · exact absurd (h2 v hv h) hf
  refine ⟨by simp, by simp, fun v hv => by rw [h3 v hv]; simp, by omega, by simp, fun p hp => ?_, fun v hv hf _ => ?_, fun v hv => ?_, fun v hv hf => ?_, fun v hv hl => (h1 v hv hl).1, by simp, by simp, fun v hv hf => .inl ⟨(h1 v hv (pos v hv hf)).2, pos v hv hf⟩⟩
  · obtain ⟨v, a1, a2, a3⟩ := h4 p hp
    have := (h1 v a1 a3).1
    exact ⟨v, a1, by rw [a2], by rw [a2]; exact Int.le_refl _, by omega, by rw [a2]; simp only; omega⟩
  · have hl := pos v hv hf
    rw [(h1 v hv hl).1]
    exact h5 v hv hl
  · by_cases h : 0 < left v
    · right; rw [(h1 v hv h).1]; omega
    · left; exact h2 v hv h
  · have hl := pos v hv hf
    rw [(h1 v hv hl).1]
    have := h6 v hv hl
    omega
theorem Srch.found (S : Srch G left fl x far came cl ord D items (fun u _ => u ≠ z) (fun u _ => u ≠ z)) (hG : G.ok) (P : Pot G fl x) (ht : z < G.n) (hto : z ∈ ord) (hf : far z = D) (hneg : left z < 0) : Fnd G left fl x far came cl ord z D := by
  have dcl : ∀ v, v < G.n → v ∈ ord → ddv far cl D v = far v := fun v hv h => by unfold ddv; rw [if_pos ((S.cli v hv).2 h)]
  have dnc : ∀ v, v < G.n → v ∉ ord → ddv far cl D v = D := fun v hv h => by unfold ddv; rw [if_neg (fun q => h ((S.cli v hv).1 q))]
  have dle : ∀ v, v < G.n → 0 ≤ ddv far cl D v ∧ ddv far cl D v ≤ D := fun v hv => by
    by_cases h : v ∈ ord
    · rw [dcl v hv h]; exact S.fcl v h
    · rw [dnc v hv h]; exact ⟨S.d0, Int.le_refl _⟩
  have dfar : ∀ v, v < G.n → far v ≠ -1 → ddv far cl D v ≤ far v := fun v hv hf => by
    by_cases h : v ∈ ord
    · rw [dcl v hv h]; exact Int.le_refl _
    · rw [dnc v hv h]; exact S.fD hv hf h
  refine ⟨ht, hto, hneg, hf, S.nd, S.lt, S.cli, S.fcl, ?_, fun i hi => ?_, fun i hi hp => ?_, dle, fun v hv hl => ?_, fun v hv => S.cam v (S.lt v hv) (by have := (S.fcl v hv).1; omega)⟩
  · have h1 := S.fup z ht (by have := S.d0; omega)
    have h2 := List.idxOf_lt_length_of_mem hto
    have h3 := S.len
    omega
  · have b1 := hG.f i hi
    have b2 := hG.t i hi
    have s0 := P.sl i hi
    by_cases h : G.fr i ∈ ord ∧ G.fr i ≠ z
    · obtain ⟨o1, o2⟩ := S.out _ h.1 i hi rfl h.2
      rw [dcl _ b1 h.1]
      have := dfar _ b2 o1
      omega
    · have e : ddv far cl D (G.fr i) = D := by
        by_cases h' : G.fr i ∈ ord
        · have : G.fr i = z := Classical.byContradiction (fun q => h ⟨h', q⟩)
          rw [dcl _ b1 h', this, hf]
        · exact dnc _ b1 h'
      have := (dle _ b2).2
      omega
  · have b1 := hG.f i hi
    have b2 := hG.t i hi
    have s0 := P.cs i hi hp
    by_cases h : G.tt i ∈ ord ∧ G.tt i ≠ z
    · obtain ⟨o1, o2⟩ := S.inn _ h.1 i hi rfl h.2 hp
      rw [dcl _ b2 h.1]
      have := dfar _ b1 o1
      omega
    · have e : ddv far cl D (G.tt i) = D := by
        by_cases h' : G.tt i ∈ ord
        · have : G.tt i = z := Classical.byContradiction (fun q => h ⟨h', q⟩)
          rw [dcl _ b2 h', this, hf]
        · exact dnc _ b2 h'
      have := (dle _ b1).2
      omega
  · have h0 := S.st v hv hl
    have := dfar v hv (by omega)
    have := (dle v hv).1
    omega
/-- The coordinates turned: they still fit, and each step of a way is tight. -/
theorem Fnd.turn (F : Fnd G left fl x far came cl ord z D) (P : Pot G fl x) : Pot G fl (fun v => x v - ddv far cl D v) ∧ (∀ v ∈ ord, ∀ i : Nat, i < G.m → (came v).1 = i → slk G (fun v => x v - ddv far cl D v) i = 0) := by
  have key : ∀ i, slk G (fun v => x v - ddv far cl D v) i = slk G x i - ddv far cl D (G.tt i) + ddv far cl D (G.fr i) := fun i => by
    show (x (G.tt i) - ddv far cl D (G.tt i)) - (x (G.fr i) - ddv far cl D (G.fr i)) - 1 = _
    unfold slk; omega
  refine ⟨⟨fun i hi => ?_, P.nn, fun i hi hp => ?_⟩, fun v hv i hi e => ?_⟩
  · rw [key]; have := F.t1 i hi; omega
  · rw [key]; have := F.t1 i hi; have := F.t2 i hi hp; have := P.cs i hi hp; omega
  · rw [key]
    rcases F.cam v hv with ⟨h, _⟩ | ⟨j, h1, h2, h3, h4, h5, h6, h7⟩
    · omega
    · have : j = i := by omega
      subst this
      have hst : (came v).1.toNat = j := by omega
      have a1 : ddv far cl D v = far v := by unfold ddv; rw [if_pos ((F.cli v (F.lt v hv)).2 hv)]
      have a2 : ddv far cl D (prv G (came v)) = far (prv G (came v)) := by unfold ddv; rw [if_pos ((F.cli _ (F.lt _ h4)).2 h4)]
      unfold hdv at h3
      unfold prv at a2 h5
      unfold cst at h5
      rw [hst] at h3 a2 h5
      by_cases b : (came v).2 = true
      · rw [if_pos b] at h3 a2
        rw [if_pos b, if_pos b] at h5
        have := P.cs j hi (h6 b)
        rw [h3, a1, a2]
        omega
      · rw [if_neg b] at h3 a2
        rw [if_neg b, if_neg b] at h5
        rw [h3, a1, a2]
        omega
/-- A way: of each node on it, by which step it is come z. -/
structure Path (G : Gf) (left fl : Nat → Int) (came : Nat → Stp) (ord : List Nat) : Prop where
  lt : ∀ v ∈ ord, v < G.n
  stp : ∀ v ∈ ord, ((came v).1 = -1 ∧ 0 < left v) ∨ (∃ i : Nat, i < G.m ∧ (came v).1 = i ∧ hdv G (came v) = v ∧ prv G (came v) ∈ ord ∧ ((came v).2 = true → 0 < fl i) ∧ ord.idxOf (prv G (came v)) < ord.idxOf v)
theorem Fnd.path (F : Fnd G left fl x far came cl ord z D) : Path G left fl came ord := by
  refine ⟨F.lt, fun v hv => ?_⟩
  rcases F.cam v hv with h | ⟨i, h1, h2, h3, h4, h5, h6, h7⟩
  · exact .inl h
  · exact .inr ⟨i, h1, h2, h3, h4, h6, h7 hv⟩
theorem ind_comm (a b : Nat) (k : Int) : ind (a = b) k = ind (b = a) k := by
  unfold ind
  by_cases h : a = b
  · simp [h]
  · simp [h, Ne.symm h]
theorem ind_neg (p : Prop) [Decidable p] (k : Int) : ind p (-k) = -ind p k := by
  unfold ind
  split <;> omega
/-- On the way back: what is pushed along it so far. -/
structure Psh (G : Gf) (left fl : Nat → Int) (came : Nat → Stp) (ord : List Nat) (w : Nat → Int) (z : Nat) (N : Int) (v : Nat) (g : Nat → Int) : Prop where
  vo : v ∈ ord
  nn : ∀ i, i < G.m → 0 ≤ g i
  bal : ∀ u, u < G.n → nf G w u G.m - nf G g u G.m = left u - ind (u = v) N + ind (u = z) N
  same : ∀ i, i < G.m → g i = fl i ∨ (∃ u ∈ ord, ord.idxOf v < ord.idxOf u ∧ (came u).1 = i)
  le : ∀ i, i < G.m → g i ≤ fl i + N
theorem Psh.begin {w : Nat → Int} {N : Int} (hN : 0 ≤ N) (hto : z ∈ ord) (hnn : ∀ i, i < G.m → 0 ≤ fl i) (hb : ∀ u, u < G.n → nf G w u G.m - nf G fl u G.m = left u) : Psh G left fl came ord w z N z fl :=
  ⟨hto, hnn, fun u hu => by rw [hb u hu]; omega, fun _ _ => .inl rfl, fun i _ => by omega⟩
theorem Psh.step {w : Nat → Int} {N : Int} {v i : Nat} {g : Nat → Int} (S : Psh G left fl came ord w z N v g) (W : Path G left fl came ord) (hN : 0 ≤ N) (hi : i < G.m) (hs : (came v).1 = i) (hb : (came v).2 = true → N ≤ fl i) :
    Psh G left fl came ord w z N (prv G (came v)) (upd g i (g i + if (came v).2 = true then -N else N)) ∧ g i = fl i ∧ ord.idxOf (prv G (came v)) < ord.idxOf v := by
  rcases W.stp v S.vo with ⟨h, _⟩ | ⟨j, h1, h2, h3, h4, h6, h7⟩
  · omega
  have : j = i := by omega
  subst this
  have hst : (came v).1.toNat = j := by omega
  have hsame : g j = fl j := by
    rcases S.same j hi with h | ⟨u, hu, hlt, hc⟩
    · exact h
    · exfalso
      rcases W.stp u hu with ⟨h, _⟩ | ⟨k, k1, k2, k3, k4, k6, k7⟩
      · omega
      have hst2 : (came u).1.toNat = j := by omega
      unfold hdv at h3 k3
      unfold prv at h7 k7
      rw [hst] at h3 h7
      rw [hst2] at k3 k7
      by_cases b1 : (came v).2 = true <;> by_cases b2 : (came u).2 = true
      · rw [if_pos b1] at h3 h7; rw [if_pos b2] at k3 k7; rw [← h3, ← k3] at hlt; omega
      · rw [if_pos b1] at h3 h7; rw [if_neg b2] at k3 k7; rw [h3] at k7; rw [k3] at h7; omega
      · rw [if_neg b1] at h3 h7; rw [if_pos b2] at k3 k7; rw [h3] at k7; rw [k3] at h7; omega
      · rw [if_neg b1] at h3 h7; rw [if_neg b2] at k3 k7; rw [← h3, ← k3] at hlt; omega
  have hvn := W.lt v S.vo
  refine ⟨⟨h4, fun k hk => ?_, fun u hu => ?_, fun k hk => ?_, fun k hk => ?_⟩, hsame, h7⟩
  · unfold upd
    by_cases e : k = j
    · rw [if_pos e, hsame]
      have := S.nn j hi
      by_cases b : (came v).2 = true
      · rw [if_pos b]; have := hb b; omega
      · rw [if_neg b]; omega
    · rw [if_neg e]; exact S.nn k hk
  · rw [nf_upd hi]
    have h := S.bal u hu
    unfold hdv at h3
    unfold prv
    rw [hst] at h3 ⊢
    by_cases b : (came v).2 = true
    · simp only [if_pos b] at h3 ⊢
      rw [h3, ind_neg, ind_neg, ind_comm v u, ind_comm (G.tt j) u]
      omega
    · simp only [if_neg b] at h3 ⊢
      rw [h3, ind_comm v u, ind_comm (G.fr j) u]
      omega
  · by_cases e : k = j
    · subst e
      exact .inr ⟨v, S.vo, h7, hs⟩
    · have e1 : upd g j (g j + if (came v).2 = true then -N else N) k = g k := by simp [upd, e]
      rw [e1]
      rcases S.same k hk with h | ⟨u, hu, hlt, hc⟩
      · exact .inl h
      · exact .inr ⟨u, hu, by omega, hc⟩
  · unfold upd
    by_cases e : k = j
    · rw [if_pos e, e, hsame]
      split <;> omega
    · rw [if_neg e]; exact S.le k hk
end
end Go.Proofs.YtjgloineooadoaaGreatDoor
/- Rows of nodes, one a node, in memory of one's own: each grows. -/
namespace Go.Proofs.YtjgloineooadoaaGreatDoor
open Go.RowKit
def encN (x : Nat) : List Value := [.int .i64 (x : Nat)]
theorem encN_length (x : Nat) : (encN x).length = 1 := rfl
theorem flat_encN (L : List Nat) : flat encN L = L.map (fun x => Value.int .i64 (x : Nat)) := by induction L with
  | nil => rfl
  | cons a l ih => simp only [flat, List.flatMap_cons, List.map_cons] at *; rw [ih]; rfl
theorem own_nat {w : World} {B E : Nat} {V : Value} {L : List Nat} (o : w.ownsRow B E 1 V L.length (flat encN L)) {g cap : Nat} (hV : V = .slice (some ⟨g, 0, none⟩) L.length cap) {i x : Nat} (hi : L[i]? = some x) : w.cell? ⟨g, i, none⟩ = some (.int .i64 (x : Nat)) := by
  subst hV
  have hl : i < L.length := (List.getElem?_eq_some_iff.1 hi).1
  have := o.cellAt i (by omega)
  rw [this, flat_encN, List.getElem?_map, hi]
  rfl
/-- Rows of nodes: block H holds them, each in a block of its own. -/
structure NX (w : World) (H n : Nat) (VV : Nat → Value) (N : Nat → List Nat) : Prop where
  top : w.rowIs H 29 n VV
  rows : ∀ v, v < n → w.ownsRow (H + 2) 3 1 (VV v) (N v).length (flat encN (N v))
  apart : ∀ u v, u < n → v < n → u ≠ v → ∀ g, (VV u).ownBlock = some g → (VV v).ownBlock ≠ some g
theorem NX.chg {w w' : World} {H n : Nat} {VV : Nat → Value} {N : Nat → List Nat} {S : Nat → Prop} (h : NX w H n VV N) (c : Chg S w w') (h1 : ¬ S H) (h2 : ∀ v g, v < n → (VV v).ownBlock = some g → ¬ S g) : NX w' H n VV N :=
  ⟨h.top.of_block (c.block _ h.top.lt h1), fun v hv => own_chg (h.rows v hv) c (fun g hg => h2 v g hv hg), h.apart⟩
theorem NX.later {w w' : World} {H n : Nat} {VV : Nat → Value} {N : Nat → List Nat} (h : NX w H n VV N) (b : Below w.heap.size w w') : NX w' H n VV N := h.chg (chg_below b (fun _ => False)) (by simp) (by simp)
theorem NX.congr {w : World} {H n : Nat} {VV : Nat → Value} {N M : Nat → List Nat} (h : NX w H n VV N) (e : ∀ v, v < n → N v = M v) : NX w H n VV M := ⟨h.top, fun v hv => by rw [← e v hv]; exact h.rows v hv, h.apart⟩
theorem NX.made {w' : World} {H n : Nat} (h : w'.rowIs H 29 n (fun _ => .slice none 0 0)) : NX w' H n (fun _ => .slice none 0 0) (fun _ => []) :=
  ⟨h, fun _ _ => World.ownsRow_nil _ _ _ _, fun _ _ _ _ _ _ hg => by simp [Value.ownBlock] at hg⟩
/-- One row grows by one: appended to, stored back. -/
theorem NX.push {wx w' : World} {H n : Nat} {VV : Nat → Value} {N : Nat → List Nat} (h : NX wx H n VV N) {f t : Nat} (hf : f < n) {q cq : Nat}
    (hown : w'.ownsRow (H + 2) 3 1 (.slice (some ⟨q, 0, none⟩) ((N f).length + 1) cq) ((N f).length + 1) (flat encN (N f) ++ encN t)) (hg : wx.grownBy w' (VV f).ownBlock) (hat : (VV f).ownBlock = some q ∨ wx.heap.size ≤ q) :
    NX (w'.setCell ⟨H, f, none⟩ (.slice (some ⟨q, 0, none⟩) ((N f).length + 1) cq)) H n (fun v => if v = f then .slice (some ⟨q, 0, none⟩) ((N f).length + 1) cq else VV v) (fun v => if v = f then N f ++ [t] else N v) ∧
      (∃ u, w'.cell? ⟨H, f, none⟩ = some u) ∧ w'.frozen? ⟨H, f, none⟩ = false ∧ Chg (fun b => b = H ∨ (VV f).ownBlock = some b) wx (w'.setCell ⟨H, f, none⟩ (.slice (some ⟨q, 0, none⟩) ((N f).length + 1) cq)) := by
  have hH : (VV f).ownBlock ≠ some H := fun e => by have := own_ge (h.rows f hf) e; omega
  have htop : w'.rowIs H 29 n VV := h.top.of_block (hg.block _ h.top.lt (fun e => hH e.symm))
  have hq : q ≠ H := by
    have := own_ge hown (g := q) rfl
    omega
  refine ⟨⟨(htop.set f _).congr (fun v _ => rfl), fun v hv => ?_, fun u v hu hv hne g hgu hgv => ?_⟩, ⟨_, htop.cell hf⟩, htop.frozen f, ?_⟩
  · by_cases e : v = f
    · subst e
      simp only [if_true]
      rw [List.length_append, flat_append]
      refine row_typ (by simpa [flat] using hown) (fun b cur _ hb => ?_)
      have : q = b := by simpa [Value.ownBlock] using hb
      subst this
      exact Below.heap_setCell _ _ _ _ hq
    · rw [if_neg e, if_neg e]
      refine row_typ (h.rows v hv) (fun b cur hc hb => ?_)
      have hlt := (Array.getElem?_eq_some_iff.1 hc).1
      have hbH : b ≠ H := fun e' => by have := own_ge (h.rows v hv) hb; omega
      rw [Below.heap_setCell _ _ _ _ hbH]
      exact hg.block b hlt (fun e' => h.apart v f hv hf e b hb e'.symm)
  · by_cases e1 : u = f
    · by_cases e2 : v = f
      · omega
      · rw [if_pos e1] at hgu
        rw [if_neg e2] at hgv
        have : q = g := by simpa [Value.ownBlock] using hgu
        subst this
        rcases hat with h' | h'
        · exact h.apart v f hv hf e2 q hgv h'
        · have := own_lt (h.rows v hv) hgv; omega
    · by_cases e2 : v = f
      · rw [if_neg e1] at hgu
        rw [if_pos e2] at hgv
        have : q = g := by simpa [Value.ownBlock] using hgv
        subst this
        rcases hat with h' | h'
        · exact h.apart u f hu hf e1 q hgu h'
        · have := own_lt (h.rows u hu) hgu; omega
      · rw [if_neg e1] at hgu
        rw [if_neg e2] at hgv
        exact h.apart u v hu hv hne g hgu hgv
  · exact Chg.setCell (Chg.of_grown hg (S := fun b => b = H ∨ (VV f).ownBlock = some b) (fun k e => .inr e)) (fun _ => .inl rfl) _
/-- One row read. -/
theorem NX.read {w : World} {H n : Nat} {VV : Nat → Value} {N : Nat → List Nat} (h : NX w H n VV N) {v : Nat} (hv : v < n) : w.cell? ⟨H, v, none⟩ = some (VV v) ∧ ∃ A cap, VV v = .slice A (N v).length cap ∧ (0 < (N v).length → ∃ g, A = some ⟨g, 0, none⟩ ∧ ∀ (i x : Nat), (N v)[i]? = some x → w.cell? ⟨g, i, none⟩ = some (.int .i64 (x : Nat))) := by
  refine ⟨h.top.cell hv, ?_⟩
  have o := h.rows v hv
  obtain ⟨A, cap, e, _⟩ := own_shape o
  refine ⟨A, cap, e, fun hl => ?_⟩
  obtain ⟨g, cap', e', _⟩ := o.form hl
  rw [e] at e'
  cases e'
  exact ⟨g, rfl, fun i x hi => own_nat o e hi⟩
theorem info_int : (Tryz.prog.info? 3).map (fun i => (i.zero, i.size, i.bytes)) = some (some (.int .i64 0), 1, 8) := by kernel_rfl
theorem info_ints : (Tryz.prog.info? 29).map (fun i => (i.zero, i.size, i.bytes)) = some (some (.slice none 0 0), 1, 24) := by kernel_rfl
def gOf (L : List Arc) : Gr := L.map fun a => (a.1.toNat, a.2.1.toNat)
/-- A graph that may be, in numbers from 0 on. -/
theorem right_gr {n : Int} {L : List Arc} (h : rightB n L = true) : ∃ m : Nat, n = m ∧ m ≤ 4096 ∧ L.length ≤ 16384 ∧ ∀ (i : Nat) (a : Arc), L[i]? = some a → ∃ f t x : Nat, a = ((f : Int), (t : Int), (x : Int)) ∧ f < m ∧ t < m ∧ x ≤ 1000000 ∧ (gOf L)[i]? = some (f, t) := by
  simp only [rightB, Bool.and_eq_true, decide_eq_true_eq, Bool.not_eq_true'] at h
  obtain ⟨⟨⟨h1, h2⟩, h3⟩, h4⟩ := h
  refine ⟨n.toNat, by omega, by omega, h3, fun i a hi => ?_⟩
  have hb := List.any_eq_false.1 h4 a (List.mem_of_getElem? hi)
  simp only [badA, Bool.not_eq_true, Bool.or_eq_false_iff, decide_eq_false_iff_not] at hb
  obtain ⟨f, t, x⟩ := a
  simp only at hb
  refine ⟨f.toNat, t.toNat, x.toNat, ?_, by omega, by omega, by omega, ?_⟩
  · rw [Int.toNat_of_nonneg (by omega), Int.toNat_of_nonneg (by omega), Int.toNat_of_nonneg (by omega)]
  · unfold gOf
    rw [List.getElem?_map, hi]
    rfl
end Go.Proofs.YtjgloineooadoaaGreatDoor
