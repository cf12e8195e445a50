/-
  Plain mathematics: what the functions compute, in lists and integers. No condition.
-/
namespace Go.QF
set_option linter.unusedVariables false

/-- The length of the first row. -/
def cols (M : List (List Int)) : Nat := (M[0]?.getD []).length
theorem cols_eq {M : List (List Int)} (h : 0 < M.length) : cols M = M[0].length := by
  unfold cols; rw [List.getElem?_eq_getElem h]; rfl

def Valid (M : List (List Int)) : Prop := 1 ≤ M.length ∧ M.length ≤ 16 ∧ 1 ≤ cols M ∧ cols M ≤ 16 ∧ ∀ z ∈ M, z.length = cols M
instance (M : List (List Int)) : Decidable (Valid M) := by unfold Valid; infer_instance
def validB (M : List (List Int)) : Bool := decide (Valid M)
theorem validB_f {M : List (List Int)} (h : ¬ Valid M) : false = validB M := by simp [validB, h]
theorem validB_t {M : List (List Int)} (h : Valid M) : true = validB M := by simp [validB, h]
theorem valid_of {M : List (List Int)} (h : validB M = true) : Valid M := by simpa [validB] using h
theorem not_valid_of {M : List (List Int)} (h : validB M = false) : ¬ Valid M := by simpa [validB] using h
theorem Valid.row {M : List (List Int)} (h : Valid M) {i : Nat} (hi : i < M.length) : M[i].length = cols M := h.2.2.2.2 _ (List.getElem_mem hi)
theorem all_rows {M : List (List Int)} (h : ∀ j (hj : j < M.length), M[j].length = cols M) : ∀ z ∈ M, z.length = cols M := by
  intro z hz
  obtain ⟨j, hj, rfl⟩ := List.getElem_of_mem hz
  exact h j hj

def Square (M : List (List Int)) : Prop := Valid M ∧ M.length = cols M ∧ M.length ≤ 8
instance (M : List (List Int)) : Decidable (Square M) := by unfold Square; infer_instance
def squareB (M : List (List Int)) : Bool := decide (Square M)

def modB (m : Int) : Bool := decide (2 ≤ m ∧ m ≤ 2147483647)
def largeB (M : List (List Int)) : Bool := decide (20 < M.length ∨ ∃ z ∈ M, 20 < z.length)
def sameB (A B : List (List Int)) : Bool := decide (A = B)

/-! ### entries, sums, tables -/
def ent (A : List (List Int)) (i j : Nat) : Int := (A[i]?.getD [])[j]?.getD 0
theorem ent_eq {A : List (List Int)} {i j : Nat} (hi : i < A.length) (hj : j < A[i].length) : ent A i j = A[i][j] := by
  simp [ent, hi, hj]
theorem ent_row {A : List (List Int)} {i : Nat} (hi : i < A.length) (j : Nat) : ent A i j = A[i][j]?.getD 0 := by simp [ent, hi]
def psum (f : Nat → Int) : Nat → Int
  | 0 => 0
  | n + 1 => psum f n + f n
theorem psum_congr {f g : Nat → Int} {n : Nat} (h : ∀ k, k < n → f k = g k) : psum f n = psum g n := by
  induction n with
  | zero => rfl
  | succ n ih => simp only [psum]; rw [ih (fun k hk => h k (by omega)), h n (by omega)]
theorem psum_step {f : Nat → Int} {n : Nat} {m : Int} : (psum f n % m + f n) % m = psum f (n + 1) % m := by
  simp only [psum]
  rw [Int.add_emod, Int.emod_emod, ← Int.add_emod]
theorem psum_step2 {f : Nat → Int} {n : Nat} {m : Int} : (psum f n % m + f n % m) % m = psum f (n + 1) % m := by
  simp only [psum]
  rw [← Int.add_emod]
/-- The table of a function of two indexes. -/
def tab (r c : Nat) (f : Nat → Nat → Int) : List (List Int) := (List.range r).map fun i => (List.range c).map fun j => f i j
theorem tab_len (r c : Nat) (f : Nat → Nat → Int) : (tab r c f).length = r := by simp [tab]
theorem tab_row {r c : Nat} {f : Nat → Nat → Int} {i : Nat} (hi : i < r) : (tab r c f)[i]? = some ((List.range c).map fun j => f i j) := by simp [tab, hi]
theorem ent_tab {r c : Nat} {f : Nat → Nat → Int} {i j : Nat} (hi : i < r) (hj : j < c) : ent (tab r c f) i j = f i j := by simp [ent, tab, hi, hj]
theorem cols_tab {r c : Nat} {f : Nat → Nat → Int} (hr : 0 < r) : cols (tab r c f) = c := by simp [cols, tab, hr]
theorem tab_congr {r c : Nat} {f g : Nat → Nat → Int} (h : ∀ i j, i < r → j < c → f i j = g i j) : tab r c f = tab r c g := by
  unfold tab
  refine List.map_congr_left fun i hi => List.map_congr_left fun j hj => h i j (by simpa using hi) (by simpa using hj)
theorem tab_eq {A : List (List Int)} {c : Nat} (h : ∀ z ∈ A, z.length = c) : A = tab A.length c (ent A) := by
  refine List.ext_getElem (by simp [tab]) fun i h1 h2 => ?_
  simp only [tab, List.getElem_map, List.getElem_range]
  have hl := h A[i] (List.getElem_mem _)
  refine List.ext_getElem (by simp [hl]) fun j h3 h4 => ?_
  simp only [List.getElem_map, List.getElem_range]
  rw [ent_eq h1 h3]
theorem tab_rows {r c : Nat} {f : Nat → Nat → Int} : ∀ z ∈ tab r c f, z.length = c := by
  intro z hz
  simp only [tab, List.mem_map] at hz
  obtain ⟨i, _, rfl⟩ := hz
  simp
/-- A row in the making: below j it holds f, from j on g. -/
def mixR (C : Nat) (f g : Nat → Int) (j : Nat) : List Int := (List.range C).map fun c => if c < j then f c else g c
theorem mixR_zero (C : Nat) (f g : Nat → Int) : mixR C f g 0 = (List.range C).map g := by simp [mixR]
theorem mixR_all {C : Nat} (f g : Nat → Int) {j : Nat} (h : C ≤ j) : mixR C f g j = (List.range C).map f := by
  unfold mixR
  refine List.map_congr_left fun c hc => if_pos (by have := List.mem_range.1 hc; omega)
theorem mixR_len (C : Nat) (f g : Nat → Int) (j : Nat) : (mixR C f g j).length = C := by simp [mixR]
theorem mixR_get {C : Nat} {f g : Nat → Int} {j c : Nat} (hc : c < C) : (mixR C f g j)[c]? = some (if c < j then f c else g c) := by simp [mixR, hc]
theorem mixR_at {C : Nat} {f g : Nat → Int} {j : Nat} (hc : j < C) : (mixR C f g j)[j]? = some (g j) := by simp [mixR, hc]
theorem mixR_set {C : Nat} {f g : Nat → Int} {j : Nat} {y : Int} (hc : j < C) (hy : y = f j) : (mixR C f g j).set j y = mixR C f g (j + 1) := by
  subst hy
  refine List.ext_getElem? fun c => ?_
  rw [List.getElem?_set]
  by_cases hjc : j = c
  · subst hjc
    rw [if_pos rfl, if_pos (by rw [mixR_len]; exact hc), mixR_get hc, if_pos (by omega)]
  · rw [if_neg hjc]
    rcases Nat.lt_or_ge c C with h | h
    · rw [mixR_get h, mixR_get h]
      by_cases hlt : c < j
      · rw [if_pos hlt, if_pos (by omega)]
      · rw [if_neg hlt, if_neg (by omega)]
    · rw [List.getElem?_eq_none (by rw [mixR_len]; exact h), List.getElem?_eq_none (by rw [mixR_len]; exact h)]
theorem range_snoc {α : Type} (f : Nat → α) (i : Nat) : (List.range i).map f ++ [f i] = (List.range (i + 1)).map f := by
  rw [List.range_succ, List.map_append]; rfl
theorem range_rep (C : Nat) : (List.range C).map (fun _ => (0 : Int)) = List.replicate C 0 := by
  refine List.ext_getElem (by simp) fun i h1 h2 => by simp

theorem range_map_ne {α : Type} {f : Nat → α} {n : Nat} (h : 0 < n) : (List.range n).map f ≠ [] := by
  intro he
  have := congrArg List.length he
  rw [List.length_map, List.length_range, List.length_nil] at this
  omega
theorem set_self {l : List Int} {j : Nat} {y : Int} (h : l[j]? = some y) : l.set j y = l := by
  refine List.ext_getElem? fun i => ?_
  rw [List.getElem?_set]
  split
  · rename_i hij
    subst hij
    rw [h]
    rw [if_pos (List.getElem?_eq_some_iff.1 h).1]
  · rfl
theorem set_set_eq {l : List Int} {j : Nat} {a y y' : Int} (h : y = y') : (l.set j a).set j y = l.set j y' := by rw [List.set_set, h]
def transM (M : List (List Int)) : List (List Int) := tab (cols M) M.length fun i j => ent M j i
/-- The product modulo m. -/
def mulM (A B : List (List Int)) (m : Int) : List (List Int) := tab A.length (cols B) fun i j => psum (fun k => ent A i k * ent B k j) B.length % m
def redM (A : List (List Int)) (m : Int) : List (List Int) := A.map (·.map (· % m))
/-- Every entry is a remainder. -/
def Rem (m : Int) (A : List (List Int)) : Prop := ∀ z ∈ A, ∀ x ∈ z, 0 ≤ x ∧ x < m
theorem Rem.at {m : Int} {A : List (List Int)} (H : Rem m A) {i j : Nat} (hi : i < A.length) (hj : j < A[i].length) : 0 ≤ A[i][j] ∧ A[i][j] < m := H _ (List.getElem_mem _) _ (List.getElem_mem _)
theorem Rem.ent {m : Int} {A : List (List Int)} (H : Rem m A) (hm : 0 < m) (i j : Nat) : 0 ≤ ent A i j ∧ ent A i j < m := by
  unfold QF.ent
  rcases Nat.lt_or_ge i A.length with hi | hi
  · rcases Nat.lt_or_ge j A[i].length with hj | hj
    · simp [hi, hj]; exact H.at hi hj
    · simp [hi, List.getElem?_eq_none hj, hm]
  · simp [List.getElem?_eq_none hi, hm]
theorem rem_tab {m : Int} {r c : Nat} {f : Nat → Nat → Int} (h : ∀ i j, i < r → j < c → 0 ≤ f i j ∧ f i j < m) : Rem m (tab r c f) := by
  intro z hz x hx
  simp only [tab, List.mem_map, List.mem_range] at hz
  obtain ⟨i, hi, rfl⟩ := hz
  simp only [List.mem_map, List.mem_range] at hx
  obtain ⟨j, hj, rfl⟩ := hx
  exact h i j hi hj
theorem rem_red {m : Int} (hm : 0 < m) (A : List (List Int)) : Rem m (redM A m) := by
  intro z hz x hx
  simp only [redM, List.mem_map] at hz
  obtain ⟨y, _, rfl⟩ := hz
  simp only [List.mem_map] at hx
  obtain ⟨u, _, rfl⟩ := hx
  exact ⟨Int.emod_nonneg _ (by omega), Int.emod_lt_of_pos _ hm⟩
theorem red_len (A : List (List Int)) (m : Int) : (redM A m).length = A.length := by simp [redM]
theorem cols_red (A : List (List Int)) (m : Int) : cols (redM A m) = cols A := by
  unfold cols redM
  cases h : A[0]? <;> simp [h]
theorem valid_red {A : List (List Int)} (h : Valid A) (m : Int) : Valid (redM A m) := by
  refine ⟨by rw [red_len]; exact h.1, by rw [red_len]; exact h.2.1, by rw [cols_red]; exact h.2.2.1, by rw [cols_red]; exact h.2.2.2.1, fun z hz => ?_⟩
  simp only [redM, List.mem_map] at hz
  obtain ⟨y, hy, rfl⟩ := hz
  rw [cols_red, List.length_map]
  exact h.2.2.2.2 y hy
theorem ent_red {A : List (List Int)} {m : Int} (i j : Nat) : ent (redM A m) i j = ent A i j % m := by
  unfold ent redM
  rw [List.getElem?_map]
  cases h : A[i]? with
  | none => simp
  | some z =>
    simp only [Option.map_some, Option.getD_some, List.getElem?_map]
    cases h2 : z[j]? <;> simp

theorem valid_pos {M : List (List Int)} (h : Valid M) : ∀ z ∈ M, 0 < z.length ∧ z.length ≤ 1000000 := fun z hz => by
  have := h.2.2.2.2 z hz; have := h.2.2.1; have := h.2.2.2.1; omega
theorem valid_le {M : List (List Int)} (h : Valid M) : ∀ z ∈ M, z.length ≤ 1000000 := fun z hz => (valid_pos h z hz).2
/-- What Residues answers. -/
def resE (M : List (List Int)) (m : Int) : Int := if validB M then (if modB m then 0 else 1) else 3
def resS (M : List (List Int)) (m : Int) : List (List Int) := if validB M && modB m then redM M m else []
def fitB (A B : List (List Int)) : Bool := validB A && validB B && decide (cols A = B.length)
def mulE (A B : List (List Int)) (m : Int) : Int := if fitB A B then (if modB m then 0 else 1) else 3
def mulS (A B : List (List Int)) (m : Int) : List (List Int) := if fitB A B && modB m then mulM (redM A m) (redM B m) m else []
def cfitB (G T : List (List Int)) : Bool := validB G && validB T && decide (G.length = cols G) && decide (T.length = G.length)
def conE (G T : List (List Int)) (m : Int) : Int := if cfitB G T then (if modB m then 0 else 1) else 3
def conS (G T : List (List Int)) (m : Int) : List (List Int) := if cfitB G T && modB m then mulM (transM (redM T m)) (mulM (redM G m) (redM T m) m) m else []
theorem mod_of_modB {m : Int} (h : modB m = true) : 2 ≤ m ∧ m ≤ 2147483647 := by simpa [modB] using h
theorem mul_rem {A B : List (List Int)} {m : Int} (hm : 0 < m) : Rem m (mulM A B m) := rem_tab fun i j _ _ => ⟨Int.emod_nonneg _ (by omega), Int.emod_lt_of_pos _ hm⟩
theorem mul_len (A B : List (List Int)) (m : Int) : (mulM A B m).length = A.length := tab_len _ _ _
theorem mul_cols {A B : List (List Int)} {m : Int} (h : 0 < A.length) : cols (mulM A B m) = cols B := cols_tab h
theorem mul_rows {A B : List (List Int)} {m : Int} : ∀ z ∈ mulM A B m, z.length = cols B := tab_rows
theorem trans_len (M : List (List Int)) : (transM M).length = cols M := tab_len _ _ _
theorem trans_rows (M : List (List Int)) : ∀ z ∈ transM M, z.length = M.length := tab_rows
theorem trans_cols {M : List (List Int)} (h : 0 < cols M) : cols (transM M) = M.length := cols_tab h
theorem trans_rem {M : List (List Int)} {m : Int} (hm : 0 < m) (h : Rem m M) : Rem m (transM M) := rem_tab fun i j _ _ => h.ent hm j i
theorem red_rows {A : List (List Int)} {c : Nat} {m : Int} (h : ∀ z ∈ A, z.length = c) : ∀ z ∈ redM A m, z.length = c := by
  intro z hz
  simp only [redM, List.mem_map] at hz
  obtain ⟨y, hy, rfl⟩ := hz
  rw [List.length_map]; exact h y hy
theorem red_of_rem {A : List (List Int)} {m : Int} (h : Rem m A) : redM A m = A := by
  unfold redM
  conv => rhs; rw [← List.map_id A]
  refine List.map_congr_left fun z hz => ?_
  conv => rhs; rw [id, ← List.map_id z]
  refine List.map_congr_left fun x hx => ?_
  exact Int.emod_eq_of_lt (h z hz x hx).1 (h z hz x hx).2
theorem red_trans (M : List (List Int)) (m : Int) : redM (transM M) m = transM (redM M m) := by
  unfold transM
  rw [cols_red, red_len]
  simp only [ent_red]
  unfold redM tab
  simp [List.map_map, Function.comp_def]
end Go.QF
