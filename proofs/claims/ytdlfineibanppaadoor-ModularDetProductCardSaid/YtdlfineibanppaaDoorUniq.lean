/-
  Plain: the reduced echelon form is unique. No condition.
-/
import Derived.Test.YtdlfineibanppaaDoorSolve
namespace Go.QF
set_option linter.unusedVariables false
def InSpan (r c : Nat) (m : Int) (F : Nat → Nat → Int) (v : Nat → Int) : Prop := ∃ y, ∀ q, q < c → Eqm m (v q) (comb r y F q)
theorem span_trans {r r' c : Nat} {m : Int} {F F' : Nat → Nat → Int} {v : Nat → Int} (h : InSpan r c m F v) (hF : ∀ i, i < r → InSpan r' c m F' (F i)) : InSpan r' c m F' v := by
  obtain ⟨y, hy⟩ := h
  obtain ⟨Y, hY⟩ : ∃ Y : Nat → Nat → Int, ∀ i, i < r → ∀ q, q < c → Eqm m (F i q) (comb r' (Y i) F' q) := by
    refine ⟨fun i => if h : i < r then (hF i h).choose else fun _ => 0, fun i hi => ?_⟩
    simp only [hi, dif_pos]
    exact (hF i hi).choose_spec
  refine ⟨fun j => psum (fun i => y i * Y i j) r, fun q hq => (hy q hq).trans ?_⟩
  have h1 : Eqm m (comb r y F q) (psum (fun i => y i * comb r' (Y i) F' q) r) := Eqm.psum fun i hi => (Eqm.refl _ _).mul (hY i hi q hq)
  refine h1.trans (Eqm.of_eq ?_)
  unfold comb
  rw [psum_congr (g := fun i => psum (fun j => y i * Y i j * F' j q) r') (fun i _ => by rw [← psum_mul]; exact psum_congr fun j _ => by rw [Int.mul_assoc]), psum_comm]
  refine psum_congr fun j _ => ?_
  rw [Int.mul_comm, ← psum_mul]
  exact psum_congr fun i _ => by rw [Int.mul_comm]
theorem span_row {r c a : Nat} {m : Int} {F : Nat → Nat → Int} (ha : a < r) : InSpan r c m F (F a) := ⟨updY (fun _ => 0) a 1, fun q _ => by rw [comb_unit ha]; exact Eqm.refl _ _⟩
theorem psum_cut {f : Nat → Int} {k r : Nat} (hk : k ≤ r) (h : ∀ i, k ≤ i → i < r → f i = 0) : psum f r = psum f k := by
  induction r with
  | zero => rw [Nat.le_zero.1 hk]
  | succ r ih =>
    rcases Nat.lt_or_ge k (r + 1) with h1 | h1
    · simp only [psum]
      rw [ih (by omega) (fun i h2 h3 => h i h2 (by omega)), h r (by omega) (by omega)]; omega
    · obtain rfl : k = r + 1 := by omega
      rfl
theorem span_cut {r c : Nat} {m : Int} {F : Nat → Nat → Int} {piv : List Nat} {v : Nat → Int} (R : Rref r c F piv) (h : InSpan r c m F v) : InSpan piv.length c m F v := by
  obtain ⟨y, hy⟩ := h
  refine ⟨y, fun q hq => (hy q hq).trans (Eqm.of_eq ?_)⟩
  unfold comb
  exact psum_cut R.len fun i h1 h2 => by rw [R.low i q h1 h2 hq]; simp
theorem comb_piv {r c : Nat} {F : Nat → Nat → Int} {piv : List Nat} (R : Rref r c F piv) (y : Nat → Int) {b : Nat} (hb : b < piv.length) : comb piv.length y F piv[b] = y b := by
  have hr := R.len
  unfold comb
  rw [psum_congr (g := fun i => y i * (if i = b then 1 else 0)) (fun i hi => by rw [R.unit b hb i (by omega)])]
  rw [psum_one hb (fun i hi => by rw [if_neg hi]; simp), if_pos rfl]; omega
theorem asc_get {l : List Nat} (h : l.Pairwise (· < ·)) {a b : Nat} (hab : a ≤ b) (hb : b < l.length) : l[a] ≤ l[b] := by
  rcases Nat.lt_or_ge a b with h1 | h1
  · exact Nat.le_of_lt (List.pairwise_iff_getElem.1 h a b (by omega) hb h1)
  · obtain rfl : a = b := by omega
    exact Nat.le_refl _
/-- The pivots of one echelon form are among those of another with the same combinations. -/
theorem piv_sub {r r' c : Nat} {p : Int} (hp : 2 ≤ p) {F F' : Nat → Nat → Int} {piv piv' : List Nat} (R : Rref r c F piv) (R' : Rref r' c F' piv') (hs : ∀ a, a < piv.length → InSpan piv'.length c p F' (F a)) {a : Nat} (ha : a < piv.length) : piv[a] ∈ piv' := by
  obtain ⟨y, hy⟩ := hs a ha
  have hqa := R.lt piv[a] (List.getElem_mem _)
  have h1 := hy piv[a] hqa
  rw [R.unit a ha a (by have := R.len; omega), if_pos rfl] at h1
  -- the first number that is not 0
  have hex : ∃ b, b < piv'.length ∧ ¬ Eqm p (y b) 0 := by
    apply Classical.byContradiction
    intro hno
    have hall : ∀ b, b < piv'.length → Eqm p (y b) 0 := fun b hb => Classical.byContradiction fun h => hno ⟨b, hb, h⟩
    have h2 : Eqm p (comb piv'.length y F' piv[a]) 0 := by
      refine (Eqm.psum (g := fun _ => 0) fun i hi => ?_).trans (Eqm.of_eq (psum_zero _))
      exact ((hall i hi).mul (Eqm.refl _ _)).trans (Eqm.of_eq (by simp))
    have := (h1.trans h2).zero
    rw [Int.emod_eq_of_lt (by omega) (by omega)] at this
    omega
  obtain ⟨b, ⟨hb, hyb⟩, hmin⟩ : ∃ b, (b < piv'.length ∧ ¬ Eqm p (y b) 0) ∧ ∀ b', b' < b → b' < piv'.length → Eqm p (y b') 0 := by
    obtain ⟨b0, hb0⟩ := hex
    induction b0 using Nat.strongRecOn with
    | _ n ih =>
      by_cases h : ∃ b', b' < n ∧ b' < piv'.length ∧ ¬ Eqm p (y b') 0
      · obtain ⟨b', h3, h4⟩ := h
        exact ih b' h3 h4
      · exact ⟨n, hb0, fun b' h3 h4 => Classical.byContradiction fun h5 => h ⟨b', h3, h4, h5⟩⟩
  have hqb := R'.lt piv'[b] (List.getElem_mem _)
  have hge : piv[a] ≤ piv'[b] := by
    rcases Nat.lt_or_ge piv'[b] piv[a] with h3 | h3
    · exfalso
      have h4 := hy piv'[b] hqb
      rw [R.lead a ha _ h3, comb_piv R' y hb] at h4
      exact hyb h4.symm
    · exact h3
  have hle : piv'[b] ≤ piv[a] := by
    rcases Nat.lt_or_ge piv[a] piv'[b] with h3 | h3
    · exfalso
      have h2 : Eqm p (comb piv'.length y F' piv[a]) 0 := by
        refine (Eqm.psum (g := fun _ => 0) fun i hi => ?_).trans (Eqm.of_eq (psum_zero _))
        rcases Nat.lt_or_ge i b with h5 | h5
        · exact ((hmin i h5 hi).mul (Eqm.refl _ _)).trans (Eqm.of_eq (by simp))
        · have := asc_get R'.asc h5 hi
          rw [R'.lead i hi _ (by omega)]; exact Eqm.of_eq (by simp)
      have := (h1.trans h2).zero
      rw [Int.emod_eq_of_lt (by omega) (by omega)] at this
      omega
    · exact h3
  rw [show piv[a] = piv'[b] by omega]
  exact List.getElem_mem _
theorem asc_eq : ∀ {l l' : List Nat}, l.Pairwise (· < ·) → l'.Pairwise (· < ·) → (∀ x, x ∈ l ↔ x ∈ l') → l = l' := by
  intro l
  induction l with
  | nil =>
    intro l' _ _ h
    cases l' with
    | nil => rfl
    | cons x t => exact absurd ((h x).2 (List.mem_cons_self ..)) (by simp)
  | cons x t ih =>
    intro l' h1 h2 h
    cases l' with
    | nil => exact absurd ((h x).1 (List.mem_cons_self ..)) (by simp)
    | cons x' t' =>
      rw [List.pairwise_cons] at h1 h2
      have hx : x = x' := by
        have e1 := (h x).1 (List.mem_cons_self ..)
        have e2 := (h x').2 (List.mem_cons_self ..)
        rcases List.mem_cons.1 e1 with e | e
        · exact e
        · have := h2.1 x e
          rcases List.mem_cons.1 e2 with e3 | e3
          · exact e3.symm
          · have := h1.1 x' e3; omega
      subst hx
      rw [ih h1.2 h2.2 fun y => ?_]
      constructor
      · intro hy
        have := h1.1 y hy
        rcases List.mem_cons.1 ((h y).1 (List.mem_cons_of_mem _ hy)) with e | e
        · omega
        · exact e
      · intro hy
        have := h2.1 y hy
        rcases List.mem_cons.1 ((h y).2 (List.mem_cons_of_mem _ hy)) with e | e
        · omega
        · exact e
/-- The echelon form is the only one with its combinations. -/
theorem rref_unique {r r' c : Nat} {p : Int} (hp : 2 ≤ p) {F F' : Nat → Nat → Int} {piv piv' : List Nat} (R : Rref r c F piv) (R' : Rref r' c F' piv') (H : Bd r c p F) (H' : Bd r' c p F')
    (hs : ∀ a, a < piv.length → InSpan piv'.length c p F' (F a)) (hs' : ∀ a, a < piv'.length → InSpan piv.length c p F (F' a)) : tab piv.length c F = tab piv'.length c F' := by
  have he : piv = piv' := asc_eq R.asc R'.asc fun x => ⟨fun hx => by obtain ⟨a, ha, rfl⟩ := List.getElem_of_mem hx; exact piv_sub hp R R' hs ha, fun hx => by obtain ⟨a, ha, rfl⟩ := List.getElem_of_mem hx; exact piv_sub hp R' R hs' ha⟩
  subst he
  refine tab_congr fun a q ha hq => ?_
  have hr := R.len
  have hr' := R'.len
  obtain ⟨y, hy⟩ := hs a ha
  refine eqm_of_bd ?_ (H a q (by omega) hq) (H' a q (by omega) hq)
  refine (hy q hq).trans ?_
  have hyb : ∀ b, b < piv.length → Eqm p (y b) (updY (fun _ => 0) a 1 b) := fun b hb => by
    have h1 := hy piv[b] (R.lt _ (List.getElem_mem _))
    rw [comb_piv R' y hb, R.unit b hb a (by omega)] at h1
    refine h1.symm.trans (Eqm.of_eq ?_)
    unfold updY
    by_cases h : a = b
    · subst h; simp
    · rw [if_neg h, if_neg (fun e => h e.symm)]
  refine (comb_eqm hyb).trans (Eqm.of_eq ?_)
  exact comb_unit ha
/-- Two matrices whose rows are combinations of each other's have one echelon form. -/
theorem ech_same {r r' c : Nat} {p : Int} (hp : Pr p) {F F' : Nat → Nat → Int} (H : Bd r c p F) (H' : Bd r' c p F') (hs : ∀ i, i < r → InSpan r' c p F' (F i)) (hs' : ∀ i, i < r' → InSpan r c p F (F' i)) :
    tab (echTo (invM p) r p F c).2.length c (echTo (invM p) r p F c).1 = tab (echTo (invM p) r' p F' c).2.length c (echTo (invM p) r' p F' c).1 := by
  have h2 := hp.1
  have R := rref_ech hp H c (Nat.le_refl _)
  have R' := rref_ech hp H' c (Nat.le_refl _)
  have E := rowEq_ech hp H c (Nat.le_refl _)
  have E' := rowEq_ech hp H' c (Nat.le_refl _)
  have fwd : ∀ {r : Nat} {F G : Nat → Nat → Int}, RowEq r c p F G → ∀ a, a < r → InSpan r c p F (G a) := fun E a ha => by
    obtain ⟨y, e, _⟩ := E.1 (updY (fun _ => 0) a 1)
    exact ⟨y, fun q hq => by have := e q hq; rw [comb_unit ha] at this; exact this⟩
  have bwd : ∀ {r : Nat} {F G : Nat → Nat → Int}, RowEq r c p F G → ∀ a, a < r → InSpan r c p G (F a) := fun E a ha => by
    obtain ⟨y, e⟩ := E.2 (updY (fun _ => 0) a 1)
    exact ⟨y, fun q hq => by have := e q hq; rw [comb_unit ha] at this; exact this⟩
  have hr := R.len
  have hr' := R'.len
  exact rref_unique h2 R R' (bd_ech (by omega) H c) (bd_ech (by omega) H' c)
    (fun a ha => span_cut R' (span_trans (span_trans (fwd E a (by omega)) hs) (bwd E')))
    (fun a ha => span_cut R (span_trans (span_trans (fwd E' a (by omega)) hs') (bwd E)))
end Go.QF
