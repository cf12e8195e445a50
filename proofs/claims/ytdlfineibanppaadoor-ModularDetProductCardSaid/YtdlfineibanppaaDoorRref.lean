/-
  Plain: the reduced echelon form and its rank. No condition.
-/
import Derived.Test.YtdlfineibanppaaDoorLin
namespace Go.QF
set_option linter.unusedVariables false
/-- What holds when j columns are done. -/
structure Rref (r j : Nat) (F : Nat → Nat → Int) (piv : List Nat) : Prop where
  asc : piv.Pairwise (· < ·)
  lt : ∀ x ∈ piv, x < j
  len : piv.length ≤ r
  unit : ∀ a (ha : a < piv.length) i, i < r → F i piv[a] = if i = a then 1 else 0
  low : ∀ i q, piv.length ≤ i → i < r → q < j → F i q = 0
  lead : ∀ a (ha : a < piv.length) q, q < piv[a] → F a q = 0
theorem elimF_else {F : Nat → Nat → Int} {top j : Nat} {m : Int} {k i : Nat} (hi : i < k) (hne : i ≠ top) (q : Nat) : elimF F top j m k i q = (F i q + (m - F i j) * F top q) % m := by
  unfold elimF; rw [if_pos ⟨hi, hne⟩]
theorem rref_col {r c j : Nat} {p : Int} {s : (Nat → Nat → Int) × List Nat} (hp : Pr p) (H : Bd r c p s.1) (hj : j < c) (R : Rref r j s.1 s.2) : Rref r (j + 1) (colS (invM p) r p j s).1 (colS (invM p) r p j s).2 := by
  have h2 := hp.1
  obtain ⟨F, piv⟩ := s
  obtain ⟨h1, hlt, hlen, hun, hlow, hlead⟩ := R
  dsimp only at *
  unfold colS
  dsimp only
  obtain ⟨i0, hi0⟩ : ∃ i0, firstNZ F j (r - piv.length) piv.length = i0 := ⟨_, rfl⟩
  have hle := firstNZ_le F j (r - piv.length) piv.length
  have hz := firstNZ_zero F j (r - piv.length) piv.length
  rw [hi0] at hle hz ⊢
  split
  · rename_i hi
    have hne := firstNZ_ne F j (r - piv.length) piv.length (by omega)
    rw [hi0] at hne
    obtain ⟨top, htop⟩ : ∃ top, piv.length = top := ⟨_, rfl⟩
    rw [htop] at hle hz hlow hlen ⊢
    have htr : top < r := by omega
    have hb0 := H i0 j hi hj
    have hinv := invM_ok hp (x := F i0 j) (by omega) hb0.2
    -- the rows after the swap
    have hF1 : ∀ i, i < r → i ≠ top → ∃ l, l < r ∧ (swapF F top i0 i = F l) ∧ (i < top → l = i) ∧ (top ≤ i → top ≤ l) := by
      intro i hir hit
      by_cases h : i = i0
      · subst h; exact ⟨top, htr, swapF_at F top i, fun h => by omega, fun h => Nat.le_refl _⟩
      · exact ⟨i, hir, swapF_ne F hit h, fun _ => rfl, fun h => h⟩
    have hT : swapF F top i0 top = F i0 := swapF_at2 F
    obtain ⟨F2, hF2⟩ : ∃ F2, scaleF (swapF F top i0) top (invM p (swapF F top i0 top j)) p = F2 := ⟨_, rfl⟩
    have hF2top : ∀ q, F2 top q = F i0 q * invM p (F i0 j) % p := by
      intro q; rw [← hF2]; unfold scaleF; rw [setF_same, hT]
    have hF2ne : ∀ i, i ≠ top → F2 i = swapF F top i0 i := by
      intro i h; rw [← hF2]; unfold scaleF; rw [setF_ne _ _ h]
    have hF2zero : ∀ q, q < j → F2 top q = 0 := by
      intro q hq; rw [hF2top, hlow i0 q (by omega) hi hq]; simp
    have hF2one : F2 top j = 1 := by
      rw [hF2top, Int.mul_comm, hinv.2.2, Int.emod_eq_of_lt (by omega) (by omega)]
    rw [hF2]
    -- entries left of column j
    have hold : ∀ i q, i < r → q < j → elimF F2 top j p r i q = F2 i q := by
      intro i q hir hq
      by_cases h : i = top
      · subst h; rw [elimF_top]
      · rw [elimF_else hir h, hF2zero q hq, Int.mul_zero, Int.add_zero]
        rw [hF2ne i h]
        obtain ⟨l, hl, he, _⟩ := hF1 i hir h
        rw [he]
        have := H l q hl (by omega)
        exact Int.emod_eq_of_lt this.1 this.2
    have hcolj : ∀ i, i < r → elimF F2 top j p r i j = if i = top then 1 else 0 := by
      intro i hir
      by_cases h : i = top
      · subst h; rw [elimF_top, hF2one, if_pos rfl]
      · rw [elimF_else hir h, hF2one, if_neg h, Int.mul_one]
        rw [show F2 i j + (p - F2 i j) = p by omega, Int.emod_self]
    have hpl : (piv ++ [j]).length = top + 1 := by simp [htop]
    show Rref r (j + 1) (elimF F2 top j p r) (piv ++ [j])
    refine ⟨?_, ?_, by rw [hpl]; omega, ?_, ?_, ?_⟩
    · rw [List.pairwise_append]
      exact ⟨h1, by simp, fun x hx y hy => by simp at hy; subst hy; exact hlt x hx⟩
    · intro x hx
      rcases List.mem_append.1 hx with h | h
      · have := hlt x h; omega
      · simp at h; omega
    · intro a ha i hir
      rw [hpl] at ha
      by_cases hat : a = top
      · have he : (piv ++ [j])[a]'(by rw [hpl]; omega) = j := by
          rw [List.getElem_append_right (by omega)]; simp
        rw [he, hcolj i hir, hat]
      · have hap : a < piv.length := by omega
        have he : (piv ++ [j])[a]'(by rw [hpl]; omega) = piv[a] := List.getElem_append_left hap
        have hpa := hlt piv[a] (List.getElem_mem _)
        rw [he, hold i _ hir hpa]
        by_cases hit : i = top
        · subst hit
          rw [hF2zero _ hpa, if_neg (fun h => hat h.symm)]
        · rw [hF2ne i hit]
          obtain ⟨l, hl, hel, hl1, hl2⟩ := hF1 i hir hit
          rw [hel, hun a hap l hl]
          rcases Nat.lt_or_ge i top with h | h
          · rw [hl1 h]
          · have := hl2 h
            rw [if_neg (by omega), if_neg (by omega)]
    · intro i q h3 hir hq
      rw [hpl] at h3
      rcases Nat.lt_or_ge q j with h4 | h4
      · rw [hold i q hir h4, hF2ne i (by omega)]
        obtain ⟨l, hl, hel, _, hl2⟩ := hF1 i hir (by omega)
        rw [hel]
        exact hlow l q (hl2 (by omega)) hl h4
      · obtain rfl : q = j := by omega
        rw [hcolj i hir, if_neg (by omega)]
    · intro a ha q hq
      rw [hpl] at ha
      by_cases hat : a = top
      · have he : (piv ++ [j])[a]'(by rw [hpl]; omega) = j := by
          rw [List.getElem_append_right (by omega)]; simp
        rw [he] at hq
        rw [hold a q (by omega) hq, hat, hF2zero q hq]
      · have hap : a < piv.length := by omega
        have he : (piv ++ [j])[a]'(by rw [hpl]; omega) = piv[a] := List.getElem_append_left hap
        rw [he] at hq
        have hpa := hlt piv[a] (List.getElem_mem _)
        rw [hold a q (by omega) (by omega), hF2ne a hat]
        obtain ⟨l, hl, hel, hl1, _⟩ := hF1 a (by omega) hat
        rw [hel, hl1 (by omega)]
        exact hlead a hap q hq
  · rename_i hi
    refine ⟨h1, fun x hx => by have := hlt x hx; omega, hlen, hun, fun i q h3 hir hq => ?_, hlead⟩
    rcases Nat.lt_or_ge q j with h4 | h4
    · exact hlow i q h3 hir h4
    · obtain rfl : q = j := by omega
      exact hz i h3 (by omega)
theorem rref_ech {r c : Nat} {p : Int} {F : Nat → Nat → Int} (hp : Pr p) (H : Bd r c p F) : ∀ j, j ≤ c → Rref r j (echTo (invM p) r p F j).1 (echTo (invM p) r p F j).2 := by
  have h2 := hp.1
  intro j
  induction j with
  | zero => intro _; exact ⟨by simp [echTo], by simp [echTo], by simp [echTo], fun a ha => by simp [echTo] at ha, fun i q _ _ h => by omega, fun a ha => by simp [echTo] at ha⟩
  | succ j ih => intro hj; exact rref_col hp (bd_ech (by omega) H j) (by omega) (ih (by omega))
def Indep (r c : Nat) (m : Int) (F : Nat → Nat → Int) : Prop := ∀ y, (∀ q, q < c → Eqm m (comb r y F q) 0) → ∀ i, i < r → Eqm m (y i) 0
/-- Independent rows: as many pivots as rows. -/
theorem rank_indep {r c : Nat} {p : Int} {F : Nat → Nat → Int} (hp : Pr p) (H : Bd r c p F) (hI : Indep r c p F) : (echTo (invM p) r p F c).2.length = r := by
  have h2 := hp.1
  have R := rref_ech hp H c (Nat.le_refl _)
  have E := rowEq_ech hp H c (Nat.le_refl _)
  rcases Nat.lt_or_ge (echTo (invM p) r p F c).2.length r with hlt | hge
  · exfalso
    obtain ⟨k, hk⟩ : ∃ k, (echTo (invM p) r p F c).2.length = k := ⟨_, rfl⟩
    rw [hk] at hlt
    obtain ⟨y, e, z⟩ := E.1 (updY (fun _ => 0) k 1)
    have hy : ∀ i, i < r → Eqm p (y i) 0 := hI y fun q hq => by
      refine (e q hq).symm.trans (Eqm.of_eq ?_)
      rw [comb_unit hlt]
      exact R.low k q (by omega) hlt hq
    have := z hy k hlt
    rw [updY_same] at this
    have := this.zero
    rw [Int.emod_eq_of_lt (by omega) (by omega)] at this
    omega
  · have := R.len; omega
/-- The rows of an echelon form are independent. -/
theorem rref_indep {r c : Nat} {p : Int} {F : Nat → Nat → Int} {piv : List Nat} (R : Rref r c F piv) : Indep piv.length c p F := by
  intro y hy a ha
  have hq := R.lt piv[a] (List.getElem_mem _)
  refine Eqm.trans (Eqm.of_eq ?_) (hy piv[a] hq)
  unfold comb
  have hr := R.len
  rw [psum_congr (g := fun i => y i * (if i = a then 1 else 0)) (fun i hi => by rw [R.unit a ha i (by omega)])]
  rw [psum_one ha (fun i hi => by rw [if_neg hi]; simp), if_pos rfl]; omega
/-! ### solutions -/
def dot (c : Nat) (u v : Nat → Int) : Int := psum (fun q => u q * v q) c
theorem dot_comb {r c : Nat} {m : Int} {y u v : Nat → Int} {F : Nat → Nat → Int} (hu : ∀ q, q < c → Eqm m (u q) (comb r y F q)) (h0 : ∀ i, i < r → Eqm m (dot c (F i) v) 0) : Eqm m (dot c u v) 0 := by
  have h1 : Eqm m (dot c u v) (psum (fun q => comb r y F q * v q) c) := Eqm.psum fun q hq => (hu q hq).mul (Eqm.refl _ _)
  refine h1.trans ?_
  have h2 : psum (fun q => comb r y F q * v q) c = psum (fun i => y i * dot c (F i) v) r := by
    unfold dot
    rw [psum_congr (g := fun q => psum (fun i => y i * (F i q * v q)) r) (fun q _ => by unfold comb; rw [Int.mul_comm, ← psum_mul]; exact psum_congr fun i _ => by rw [Int.mul_comm (v q), Int.mul_assoc]), psum_comm]
    exact psum_congr fun i _ => by rw [← psum_mul]
  rw [h2]
  refine (Eqm.psum (g := fun _ => 0) fun i hi => ?_).trans (Eqm.of_eq (psum_zero r))
  exact ((Eqm.refl m (y i)).mul (h0 i hi)).trans (Eqm.of_eq (by simp))
theorem dot_comb' {r c : Nat} {m : Int} {y u v : Nat → Int} {F : Nat → Nat → Int} (hv : ∀ q, q < c → Eqm m (v q) (comb r y F q)) (h0 : ∀ i, i < r → Eqm m (dot c u (F i)) 0) : Eqm m (dot c u v) 0 := by
  have hc : ∀ a b, dot c a b = dot c b a := fun a b => psum_congr fun q _ => Int.mul_comm _ _
  rw [hc]
  exact dot_comb hv fun i hi => by rw [hc]; exact h0 i hi
end Go.QF
