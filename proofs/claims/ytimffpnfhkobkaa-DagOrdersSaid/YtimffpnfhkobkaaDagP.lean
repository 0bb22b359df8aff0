/- The order of a graph's nodes: the least that is free, again and again. Plain laws: no walk. -/
import Derived.Test.YtimffpnfhkobkaaDagA
namespace Go.Proofs.Ytimffpnfhkobkaa
abbrev Gr := List (Nat × Nat)
/-- Arcs to v from what isn't in l. -/
def cnt (G : Gr) (l : List Nat) (v : Nat) : Nat := G.countP fun a => a.2 == v && !l.contains a.1
def nxt (G : Gr) (v : Nat) : List Nat := (G.filter fun a => a.1 == v).map (·.2)
def rdy (G : Gr) (l : List Nat) (v : Nat) : Bool := !l.contains v && cnt G l v == 0
def nextN (G : Gr) (n : Nat) (l : List Nat) : Option Nat := (List.range n).find? (rdy G l)
def gr (G : Gr) (n : Nat) : Nat → List Nat → List Nat
  | 0, l => l
  | k + 1, l => match nextN G n l with
    | none => l
    | some v => gr G n k (l ++ [v])
def ordL (G : Gr) (n : Nat) : List Nat := gr G n n []
theorem cnt_append (G : Gr) (l : List Nat) (v w : Nat) (hv : v ∉ l) : cnt G l w = cnt G (l ++ [v]) w + (nxt G v).count w := by
  unfold cnt nxt
  induction G with
  | nil => rfl
  | cons a G ih =>
    rw [List.countP_cons, List.countP_cons, ih]
    by_cases h1 : a.1 = v
    · have h2 : l.contains a.1 = false := by rw [h1]; simpa using hv
      have h3 : (l ++ [v]).contains a.1 = true := by simp [h1]
      rw [List.filter_cons_of_pos (by simp [h1]), List.map_cons, List.count_cons, h2, h3]
      simp only [Bool.not_false, Bool.and_true, Bool.not_true, Bool.and_false]
      split <;> simp_all <;> omega
    · have h3 : (l ++ [v]).contains a.1 = l.contains a.1 := by simp [h1]
      rw [List.filter_cons_of_neg (by simp [h1]), h3]
      split <;> omega
theorem cnt_le (G : Gr) (l : List Nat) (v w : Nat) (hv : v ∉ l) : cnt G (l ++ [v]) w ≤ cnt G l w := by rw [cnt_append G l v w hv]; omega
theorem nxt_mem {G : Gr} {v w : Nat} (h : w ∈ nxt G v) : (v, w) ∈ G := by
  unfold nxt at h
  obtain ⟨a, ha, rfl⟩ := List.mem_map.1 h
  obtain ⟨h1, h2⟩ := List.mem_filter.1 ha
  have : a.1 = v := by simpa using h2
  rw [← this]; exact h1
/-- What was taken is free of all ahead of it. -/
def Tk (G : Gr) (n : Nat) (l : List Nat) : Prop := l.Nodup ∧ (∀ u ∈ l, u < n) ∧ ∀ u ∈ l, cnt G l u = 0
theorem Tk.nil (G : Gr) (n : Nat) : Tk G n [] := ⟨List.nodup_nil, by simp, by simp⟩
theorem Tk.add {G : Gr} {n : Nat} {l : List Nat} (h : Tk G n l) {v : Nat} (hv : v < n) (hr : rdy G l v = true) : Tk G n (l ++ [v]) := by
  obtain ⟨h1, h2, h3⟩ := h
  have hr' : v ∉ l ∧ cnt G l v = 0 := by simpa [rdy] using hr
  refine ⟨?_, ?_, ?_⟩
  · rw [List.nodup_append]
    exact ⟨h1, by simp, fun a ha b hb => by simp at hb; subst hb; exact fun e => hr'.1 (e ▸ ha)⟩
  · intro u hu
    rcases List.mem_append.1 hu with hu | hu
    · exact h2 u hu
    · simp at hu; subst hu; exact hv
  · intro u hu
    have hle := cnt_le G l v u hr'.1
    rcases List.mem_append.1 hu with hu | hu
    · have := h3 u hu; omega
    · simp at hu; subst hu; omega
/-- A target of what is taken now was not taken. -/
theorem target_new {G : Gr} {n : Nat} {l : List Nat} (h : Tk G n l) {v : Nat} (hr : rdy G l v = true) {w : Nat} (hw : w ∈ nxt G v) : w ∉ l ++ [v] := by
  have hr' : v ∉ l ∧ cnt G l v = 0 := by simpa [rdy] using hr
  have hpos : 0 < cnt G l w := by
    rw [cnt_append G l v w hr'.1]
    have := List.count_pos_iff.2 hw
    omega
  intro hc
  rcases List.mem_append.1 hc with hc | hc
  · have := h.2.2 w hc; omega
  · simp at hc; subst hc; omega
theorem nextN_some {G : Gr} {n : Nat} {l : List Nat} {v : Nat} (hv : v < n) (hr : rdy G l v = true) (hmin : ∀ u, u < v → rdy G l u = false) : nextN G n l = some v := by
  unfold nextN
  rw [List.find?_range_eq_some]
  exact ⟨hr, by simpa using hv, fun j hj => by simp [hmin j hj]⟩
theorem nextN_none {G : Gr} {n : Nat} {l : List Nat} (h : ∀ u, u < n → rdy G l u = false) : nextN G n l = none := by
  unfold nextN
  rw [List.find?_range_eq_none]
  intro i hi
  simp [h i hi]
theorem gr_step {G : Gr} {n k : Nat} {l : List Nat} {v : Nat} (hk : 0 < k) (hv : v < n) (hr : rdy G l v = true) (hmin : ∀ u, u < v → rdy G l u = false) : gr G n k l = gr G n (k - 1) (l ++ [v]) := by
  obtain ⟨k, rfl⟩ : ∃ m, k = m + 1 := ⟨k - 1, by omega⟩
  simp only [gr, nextN_some hv hr hmin, Nat.add_sub_cancel]
theorem gr_stop {G : Gr} {n k : Nat} {l : List Nat} (h : ∀ u, u < n → rdy G l u = false) : gr G n k l = l := by
  cases k with
  | zero => rfl
  | succ k => simp only [gr, nextN_none h]
theorem nodup_lt : ∀ (n : Nat) (l : List Nat), l.Nodup → (∀ u ∈ l, u < n) → l.length ≤ n
  | 0, l, _, h => by
    cases l with
    | nil => exact Nat.le_refl _
    | cons a l => exact absurd (h a (by simp)) (by omega)
  | n + 1, l, hd, h => by
    have h1 := nodup_lt n (l.erase n) (hd.erase n) (fun u hu => by
      have h2 := (List.Nodup.mem_erase_iff hd).1 hu
      have := h u h2.2
      have := h2.1
      omega)
    have h2 := List.length_erase (a := n) (l := l)
    split at h2 <;> omega
theorem Tk.len {G : Gr} {n : Nat} {l : List Nat} (h : Tk G n l) : l.length ≤ n := nodup_lt n l h.1 h.2.1
theorem rdy_lt {G : Gr} {n : Nat} {l : List Nat} (h : Tk G n l) {v : Nat} (hv : v < n) (hr : rdy G l v = true) : l.length < n := by
  have := (h.add hv hr).len
  simp at this
  omega
theorem gr_tk {G : Gr} {n : Nat} : ∀ (k : Nat) (l : List Nat), Tk G n l → Tk G n (gr G n k l)
  | 0, l, h => h
  | k + 1, l, h => by
    simp only [gr]
    split
    · exact h
    · rename_i v hv
      unfold nextN at hv
      rw [List.find?_range_eq_some] at hv
      exact gr_tk k _ (h.add (by simpa using hv.2.1) hv.1)
theorem ordL_tk (G : Gr) (n : Nat) : Tk G n (ordL G n) := gr_tk n [] (Tk.nil G n)
/-- How many arcs are open while j of those from v have been met. -/
def opJ (G : Gr) (l : List Nat) (v j u : Nat) : Nat := cnt G (l ++ [v]) u + ((nxt G v).drop j).count u
theorem opJ_zero (G : Gr) (l : List Nat) (v u : Nat) (hv : v ∉ l) : opJ G l v 0 u = cnt G l u := by unfold opJ; rw [cnt_append G l v u hv]; simp
theorem opJ_end (G : Gr) (l : List Nat) (v u : Nat) : opJ G l v (nxt G v).length u = cnt G (l ++ [v]) u := by unfold opJ; rw [List.drop_length]; simp
theorem opJ_step (G : Gr) (l : List Nat) (v u : Nat) {j w : Nat} (h : (nxt G v)[j]? = some w) : opJ G l v j u = opJ G l v (j + 1) u + if u = w then 1 else 0 := by
  unfold opJ
  obtain ⟨hj, rfl⟩ := List.getElem?_eq_some_iff.1 h
  rw [List.drop_eq_getElem_cons hj, List.count_cons]
  by_cases e : (nxt G v)[j] = u
  · rw [if_pos (by simpa using e), if_pos e.symm]; omega
  · rw [if_neg (by simpa using e), if_neg (fun h => e h.symm)]; omega
theorem opJ_le (G : Gr) (l : List Nat) (v j u : Nat) : opJ G l v j u ≤ G.length + G.length := by
  unfold opJ
  have h1 : cnt G (l ++ [v]) u ≤ G.length := List.countP_le_length
  have h2 := List.count_le_length (a := u) (l := (nxt G v).drop j)
  have h3 : ((nxt G v).drop j).length ≤ (nxt G v).length := by rw [List.length_drop]; omega
  have h4 : (nxt G v).length ≤ G.length := by unfold nxt; rw [List.length_map]; exact List.length_filter_le _ _
  omega
def sJ (G : Gr) (m : Nat) (l : List Nat) (v j u : Nat) : Bool := decide (u < m) && !(l ++ [v]).contains u && opJ G l v j u == 0
theorem sJ_zero (G : Gr) (m : Nat) (l : List Nat) (v u : Nat) (hv : v ∉ l) : (decide (u < m) && rdy G l u && u != v) = sJ G m l v 0 u := by
  unfold sJ rdy
  rw [opJ_zero G l v u hv, Bool.eq_iff_iff]
  simp only [Bool.and_eq_true, decide_eq_true_eq, Bool.not_eq_true', List.contains_eq_mem, decide_eq_false_iff_not, beq_iff_eq, bne_iff_ne, List.mem_append, List.mem_singleton, not_or]
  constructor
  · rintro ⟨⟨h1, h2, h3⟩, h4⟩; exact ⟨⟨h1, h2, h4⟩, h3⟩
  · rintro ⟨⟨h1, h2, h4⟩, h3⟩; exact ⟨⟨h1, h2, h3⟩, h4⟩
theorem sJ_end (G : Gr) (m : Nat) (l : List Nat) (v u : Nat) : sJ G m l v (nxt G v).length u = (decide (u < m) && rdy G (l ++ [v]) u) := by
  unfold sJ rdy
  rw [opJ_end, Bool.and_assoc]
theorem sJ_push (G : Gr) (m : Nat) (l : List Nat) (v : Nat) {j w : Nat} (h : (nxt G v)[j]? = some w) (hw : w ∉ l ++ [v]) (hm : w < m) (hz : opJ G l v (j + 1) w = 0) (u : Nat) : (sJ G m l v j u || u == w) = sJ G m l v (j + 1) u := by
  have hs := opJ_step G l v u h
  unfold sJ
  rw [Bool.eq_iff_iff]
  simp only [Bool.or_eq_true, Bool.and_eq_true, decide_eq_true_eq, Bool.not_eq_true', List.contains_eq_mem, decide_eq_false_iff_not, beq_iff_eq]
  constructor
  · rintro (⟨⟨h1, h2⟩, h3⟩ | rfl)
    · exact ⟨⟨h1, h2⟩, by omega⟩
    · exact ⟨⟨hm, hw⟩, hz⟩
  · rintro ⟨⟨h1, h2⟩, h3⟩
    by_cases e : u = w
    · exact .inr e
    · rw [if_neg e] at hs
      exact .inl ⟨⟨h1, h2⟩, by omega⟩
theorem sJ_stay (G : Gr) (m : Nat) (l : List Nat) (v : Nat) {j w : Nat} (h : (nxt G v)[j]? = some w) (hz : opJ G l v (j + 1) w ≠ 0) (u : Nat) : sJ G m l v j u = sJ G m l v (j + 1) u := by
  have hs := opJ_step G l v u h
  unfold sJ
  rw [Bool.eq_iff_iff]
  simp only [Bool.and_eq_true, decide_eq_true_eq, beq_iff_eq]
  by_cases e : u = w
  · subst e
    constructor
    · rintro ⟨_, h3⟩; omega
    · rintro ⟨_, h3⟩; omega
  · rw [if_neg e] at hs
    constructor
    · rintro ⟨h1, h3⟩; exact ⟨h1, by omega⟩
    · rintro ⟨h1, h3⟩; exact ⟨h1, by omega⟩
theorem sJ_target (G : Gr) (m : Nat) (l : List Nat) (v : Nat) {j w : Nat} (h : (nxt G v)[j]? = some w) : sJ G m l v j w = false := by
  have hs := opJ_step G l v w h
  rw [if_pos rfl] at hs
  unfold sJ
  have : (opJ G l v j w == 0) = false := by simp; omega
  rw [this, Bool.and_false]
end Go.Proofs.Ytimffpnfhkobkaa
