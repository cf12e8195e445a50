/-
  Plain: what Echelon, Rank, Kernel answer. No condition.
-/
import Derived.Test.YtccgaemmdikhcaaDoorEch
import Derived.Test.YtccgaemmdikhcaaDoorPrm
namespace Go.QF
set_option linter.unusedVariables false

noncomputable def eF (M : List (List Int)) (p : Int) : (Nat → Nat → Int) × List Nat := echTo (invM p) M.length p (ent (redM M p)) (cols M)
noncomputable def priB (M : List (List Int)) (p : Int) : Bool := validB M && primeB p
noncomputable def echE (M : List (List Int)) (p : Int) : Int := if validB M then (if primeB p then 0 else 20) else 3
noncomputable def echS (M : List (List Int)) (p : Int) : List (List Int) := if priB M p then tab (eF M p).2.length (cols M) (eF M p).1 else []
noncomputable def pivS (M : List (List Int)) (p : Int) : List Nat := if priB M p then (eF M p).2 else []
theorem echE_of {M : List (List Int)} {p : Int} (h : echE M p = 0) : priB M p = true := by
  unfold echE at h
  unfold priB
  cases hv : validB M <;> simp [hv] at h ⊢
  cases hq : primeB p <;> simp [hq] at h ⊢
theorem echE_not {M : List (List Int)} {p : Int} (h : echE M p ≠ 0) : priB M p = false := by
  unfold echE at h
  unfold priB
  cases hv : validB M <;> simp [hv] at h ⊢
  cases hq : primeB p <;> simp [hq] at h ⊢
theorem priB_of {M : List (List Int)} {p : Int} (h : priB M p = true) : Valid M ∧ p ≤ 2147483647 ∧ Pr p := by
  unfold priB at h
  rw [Bool.and_eq_true] at h
  exact ⟨valid_of h.1, of_primeB h.2⟩
theorem bd_eF {M : List (List Int)} {p : Int} (hp : 0 < p) : Bd M.length (cols M) p (eF M p).1 := by
  unfold eF
  refine bd_ech hp ?_ _
  have := bd_ent (c := cols M) hp (rem_red hp M)
  rw [red_len] at this
  exact this
theorem piv_eF (M : List (List Int)) (p : Int) : (eF M p).2.length ≤ M.length ∧ (eF M p).2.length ≤ cols M ∧ ∀ x ∈ (eF M p).2, x < cols M := piv_le _

/-- The vector that belongs to the free column f: after the first i pivots. -/
def kerF (F : Nat → Nat → Int) (piv : List Nat) (p : Int) (f : Nat) : Nat → Nat → Int
  | 0 => fun q => if q = f then 1 else 0
  | i + 1 => fun q => if q = piv[i]?.getD 0 then (p - F i f) % p else kerF F piv p f i q
/-- The vectors of the free columns below k. -/
def kerB (F : Nat → Nat → Int) (piv : List Nat) (p : Int) (c k : Nat) : List (List Int) := ((List.range k).filter fun f => !decide (f ∈ piv)).map fun f => (List.range c).map (kerF F piv p f piv.length)
theorem kerB_yes {F : Nat → Nat → Int} {piv : List Nat} {p : Int} {c k : Nat} (h : k ∉ piv) : kerB F piv p c k ++ [(List.range c).map (kerF F piv p k piv.length)] = kerB F piv p c (k + 1) := by
  unfold kerB
  rw [List.range_succ, List.filter_append, List.map_append]
  simp [h]
theorem kerB_no {F : Nat → Nat → Int} {piv : List Nat} {p : Int} {c k : Nat} (h : k ∈ piv) : kerB F piv p c (k + 1) = kerB F piv p c k := by
  unfold kerB
  rw [List.range_succ, List.filter_append, List.map_append]
  simp [h]
theorem kerB_rows {F : Nat → Nat → Int} {piv : List Nat} {p : Int} {c k : Nat} : ∀ z ∈ kerB F piv p c k, z.length = c := by
  intro z hz
  simp only [kerB, List.mem_map] at hz
  obtain ⟨f, _, rfl⟩ := hz
  simp
theorem kerF_bd {F : Nat → Nat → Int} {piv : List Nat} {p : Int} (hp : 2 ≤ p) {f : Nat} : ∀ i q, 0 ≤ kerF F piv p f i q ∧ kerF F piv p f i q < p := by
  intro i
  induction i with
  | zero => intro q; unfold kerF; split <;> omega
  | succ i ih =>
    intro q
    unfold kerF
    split
    · exact mod_bd (by omega) _
    · exact ih q
theorem kerB_rem {F : Nat → Nat → Int} {piv : List Nat} {p : Int} (hp : 2 ≤ p) {c k : Nat} : Rem p (kerB F piv p c k) := by
  intro z hz x hx
  simp only [kerB, List.mem_map] at hz
  obtain ⟨f, _, rfl⟩ := hz
  simp only [List.mem_map] at hx
  obtain ⟨q, _, rfl⟩ := hx
  exact kerF_bd hp _ _
theorem kerB_len {F : Nat → Nat → Int} {piv : List Nat} {p : Int} {c k : Nat} : (kerB F piv p c k).length ≤ k := by
  unfold kerB
  rw [List.length_map]
  exact Nat.le_trans (List.length_filter_le _ _) (by simp)
/-- The echelon form of a basis. -/
noncomputable def echZ (Z : List (List Int)) (c : Nat) (p : Int) : List (List Int) := tab (echTo (invM p) Z.length p (ent Z) c).2.length c (echTo (invM p) Z.length p (ent Z) c).1
noncomputable def kerS (M : List (List Int)) (p : Int) : List (List Int) := if priB M p then echZ (kerB (eF M p).1 (eF M p).2 p (cols M) (cols M)) (cols M) p else []
theorem echZ_nil (c : Nat) (p : Int) : echZ [] c p = [] := by
  have := (piv_le (rc := invM p) (r := 0) (m := p) (F := ent []) c).1
  unfold echZ
  simp only [List.length_nil]
  rw [Nat.le_zero.1 this]
  rfl
theorem range_set {α : Type} {c j : Nat} {f g : Nat → α} {y : α} (h : ∀ q, q < c → q ≠ j → f q = g q) (hy : y = g j) : ((List.range c).map f).set j y = (List.range c).map g := by
  subst hy
  refine List.ext_getElem (by simp) fun q h1 h2 => ?_
  rw [List.getElem_set]
  simp only [List.getElem_map, List.getElem_range]
  simp at h2
  by_cases hq : j = q
  · subst hq; rw [if_pos rfl]
  · rw [if_neg hq]; exact h q h2 (fun he => hq he.symm)
theorem kerF_set {F : Nat → Nat → Int} {piv : List Nat} {p : Int} {f i c j : Nat} {y : Int} (hj : piv[i]? = some j) (hy : y = (p - F i f) % p) : ((List.range c).map (kerF F piv p f i)).set j y = (List.range c).map (kerF F piv p f (i + 1)) := by
  have hd : piv[i]?.getD 0 = j := by rw [hj]; rfl
  refine range_set (fun q _ hne => ?_) ?_
  · simp only [kerF]; rw [hd, if_neg hne]
  · simp only [kerF]; rw [hd, if_pos rfl, hy]
end Go.QF
