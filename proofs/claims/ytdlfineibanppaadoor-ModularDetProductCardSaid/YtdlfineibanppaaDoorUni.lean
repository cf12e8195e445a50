/-
  Plain: products of elementary column operations have inverses; they keep the echelon form. No condition.
-/
import Derived.Test.YtdlfineibanppaaDoorUniq
namespace Go.QF
set_option linter.unusedVariables false
def dl (a b : Nat) : Int := if a = b then 1 else 0
def prodF (n : Nat) (V U : Nat → Nat → Int) (a b : Nat) : Int := psum (fun k => V a k * U k b) n
/-- U has an inverse from the left, in integers. -/
def UniI (n : Nat) (U : Nat → Nat → Int) : Prop := ∃ V, ∀ a b, a < n → b < n → prodF n V U a b = dl a b
theorem uni_id (n : Nat) : UniI n dl := ⟨dl, fun a b ha hb => by
  unfold prodF
  rw [psum_one ha (fun i hi => by unfold dl; rw [if_neg (fun h => hi h.symm)]; simp)]
  simp [dl]⟩
/-- One operation on the columns i, j of a row. -/
def opR (i j : Nat) (c : Int) (z : Nat → Int) : Nat → Int := fun q =>
  if i = j then (if c < 0 then (if q = i then -z q else z q) else z q)
  else if c = 0 then (if q = i then z j else if q = j then z i else z q)
  else (if q = i then z q + c * z j else z q)
theorem uni_op {n i j : Nat} {c : Int} {U : Nat → Nat → Int} (hi : i < n) (hj : j < n) (H : UniI n U) : UniI n (fun r => opR i j c (U r)) := by
  obtain ⟨V, hV⟩ := H
  by_cases hij : i = j
  · by_cases hc : c < 0
    · refine ⟨fun a k => if a = i then -V a k else V a k, fun a b ha hb => ?_⟩
      have : prodF n (fun a k => if a = i then -V a k else V a k) (fun r => opR i j c (U r)) a b = (if a = i then -1 else 1) * (if b = i then -1 else 1) * prodF n V U a b := by
        unfold prodF
        rw [← psum_mul]
        refine psum_congr fun k _ => ?_
        unfold opR
        simp only [hij, if_true, hc]
        by_cases h1 : a = j <;> by_cases h2 : b = j <;> simp [h1, h2] <;> grind
      rw [this, hV a b ha hb]
      unfold dl
      by_cases h1 : a = b
      · subst h1; by_cases h2 : a = i <;> simp [h2]
      · simp [h1]
    · refine ⟨V, fun a b ha hb => ?_⟩
      rw [← hV a b ha hb]
      exact psum_congr fun k _ => by simp [opR, hij, hc]
  · by_cases hc : c = 0
    · refine ⟨fun a => if a = i then V j else if a = j then V i else V a, fun a b ha hb => ?_⟩
      have hsw : ∀ b, b < n → ∃ b', b' < n ∧ (∀ k, opR i j c (U k) b = U k b') ∧ b' = (if b = i then j else if b = j then i else b) := by
        intro b hb
        refine ⟨if b = i then j else if b = j then i else b, ?_, fun k => ?_, rfl⟩
        · split
          · exact hj
          · split
            · exact hi
            · exact hb
        · unfold opR
          rw [if_neg hij, if_pos hc]
          by_cases h1 : b = i
          · rw [if_pos h1, if_pos h1]
          · rw [if_neg h1, if_neg h1]
            by_cases h2 : b = j
            · rw [if_pos h2, if_pos h2]
            · rw [if_neg h2, if_neg h2]
      obtain ⟨b', hb', hop, hbe⟩ := hsw b hb
      obtain ⟨a', ha', hae⟩ : ∃ a', a' < n ∧ a' = (if a = i then j else if a = j then i else a) := by
        obtain ⟨a', h1, _, h2⟩ := hsw a ha; exact ⟨a', h1, h2⟩
      have : prodF n (fun a => if a = i then V j else if a = j then V i else V a) (fun r => opR i j c (U r)) a b = prodF n V U a' b' := by
        unfold prodF
        refine psum_congr fun k _ => ?_
        dsimp only
        rw [hop k, hae]
        by_cases h1 : a = i
        · simp [h1]
        · by_cases h2 : a = j
          · have hji : ¬ j = i := fun h => hij h.symm
            simp [h2, hji]
          · simp [h1, h2]
      rw [this, hV a' b' ha' hb']
      unfold dl
      have : (a' = b') ↔ (a = b) := by
        rw [hae, hbe]
        have hji : ¬ j = i := fun h => hij h.symm
        by_cases h1 : a = i <;> by_cases h2 : a = j <;> by_cases h3 : b = i <;> by_cases h4 : b = j <;> simp [h1, h2, h3, h4, hij, hji] <;> omega
      by_cases h : a = b
      · rw [if_pos h, if_pos (this.2 h)]
      · rw [if_neg h, if_neg (fun h' => h (this.1 h'))]
    · refine ⟨fun a k => V a k - (if a = j then c else 0) * V i k, fun a b ha hb => ?_⟩
      have : prodF n (fun a k => V a k - (if a = j then c else 0) * V i k) (fun r => opR i j c (U r)) a b = prodF n V U a b + (if b = i then c else 0) * prodF n V U a j + (-(if a = j then c else 0)) * prodF n V U i b + (-(if a = j then c else 0) * (if b = i then c else 0)) * prodF n V U i j := by
        unfold prodF
        rw [← psum_mul, ← psum_mul, ← psum_mul, ← psum_add, ← psum_add, ← psum_add]
        refine psum_congr fun k _ => ?_
        have ho : opR i j c (U k) b = U k b + (if b = i then c else 0) * U k j := by
          unfold opR
          rw [if_neg hij, if_neg hc]
          by_cases h : b = i
          · rw [if_pos h, if_pos h]
          · rw [if_neg h, if_neg h]; omega
        dsimp only
        rw [ho]
        generalize (if a = j then c else 0) = x
        generalize (if b = i then c else 0) = y
        grind
      rw [this, hV a b ha hb, hV a j ha hj, hV i b hi hb, hV i j hi hj]
      unfold dl
      by_cases h1 : a = j
      · by_cases h2 : b = i
        · subst h1; subst h2; simp [hij, Ne.symm hij]; omega
        · by_cases h3 : i = b
          · exact absurd h3.symm h2
          · simp [h1, h2, h3, hij]
      · simp [h1]
theorem ent_mulM {A B : List (List Int)} {m : Int} {i j : Nat} (hi : i < A.length) (hj : j < cols B) : ent (mulM A B m) i j = psum (fun k => ent A i k * ent B k j) B.length % m := ent_tab hi hj
/-- What ModularSpaces says. -/
theorem spaces {U A : List (List Int)} {p : Int} (hp : Pr p) (hp2 : p ≤ 2147483647) (hA : Valid A) (hU : Valid U) (hUl : U.length = A.length) (hUc : cols U = A.length) (hI : UniI A.length (ent U)) :
    Valid (mulM (redM U p) (redM A p) p) ∧ echS (mulM (redM U p) (redM A p) p) p = echS A p := by
  have h2 := hp.1
  have hl : (mulM (redM U p) (redM A p) p).length = A.length := by rw [mul_len, red_len, hUl]
  have hA1 := hA.1
  have hc : cols (mulM (redM U p) (redM A p) p) = cols A := by rw [mul_cols (by rw [red_len]; omega), cols_red]
  have hv : Valid (mulM (redM U p) (redM A p) p) := ⟨by rw [hl]; exact hA.1, by rw [hl]; exact hA.2.1, by rw [hc]; exact hA.2.2.1, by rw [hc]; exact hA.2.2.2.1, fun z hz => by rw [hc, mul_rows z hz, cols_red]⟩
  refine ⟨hv, ?_⟩
  have hb1 : priB A p = true := by unfold priB; rw [← validB_t hA, ← primeB_t hp2 hp]; rfl
  have hb2 : priB (mulM (redM U p) (redM A p) p) p = true := by unfold priB; rw [← validB_t hv, ← primeB_t hp2 hp]; rfl
  unfold echS eF
  rw [hb1, hb2, if_pos rfl, if_pos rfl, hl, hc]
  have hbd : ∀ (M : List (List Int)), M.length = A.length → Bd A.length (cols A) p (ent (redM M p)) := fun M hM => by
    have := bd_ent (c := cols A) (by omega : 0 < p) (rem_red (by omega : 0 < p) M)
    rw [red_len, hM] at this; exact this
  have hent : ∀ i q, i < A.length → q < cols A → Eqm p (ent (redM (mulM (redM U p) (redM A p) p) p) i q) (comb A.length (ent U i) (ent (redM A p)) q) := by
    intro i q hi hq
    rw [ent_red]
    refine (Eqm.mod p _).trans ?_
    rw [ent_mulM (by rw [red_len]; omega) (by rw [cols_red]; exact hq), red_len]
    refine (Eqm.mod p _).trans (Eqm.psum fun k hk => ?_)
    rw [ent_red]
    exact (Eqm.mod p _).mul (Eqm.refl _ _)
  refine ech_same hp (hbd _ hl) (hbd A rfl) (fun i hi => ⟨ent U i, fun q hq => hent i q hi hq⟩) (fun i hi => ?_)
  obtain ⟨V, hV⟩ := hI
  refine ⟨V i, fun q hq => Eqm.symm ?_⟩
  have h1 : Eqm p (comb A.length (V i) (ent (redM (mulM (redM U p) (redM A p) p) p)) q) (psum (fun a => V i a * comb A.length (ent U a) (ent (redM A p)) q) A.length) := Eqm.psum fun a ha => (Eqm.refl _ _).mul (hent a q ha hq)
  refine h1.trans (Eqm.of_eq ?_)
  unfold comb
  rw [psum_congr (g := fun a => psum (fun k => V i a * ent U a k * ent (redM A p) k q) A.length) (fun a _ => by rw [← psum_mul]; exact psum_congr fun k _ => by rw [Int.mul_assoc]), psum_comm]
  rw [psum_congr (g := fun k => dl i k * ent (redM A p) k q) (fun k hk => by
    rw [← hV i k hi hk]
    unfold prodF
    rw [Int.mul_comm, ← psum_mul]
    exact psum_congr fun a _ => by rw [Int.mul_comm])]
  rw [psum_one hi (fun k hk => by unfold dl; rw [if_neg (fun h => hk h.symm)]; simp)]
  simp [dl]
end Go.QF
