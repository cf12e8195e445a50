/-
  Plain: the answers are small. No condition.
-/
import Derived.Test.YtdlfineibanppaaDoorTriS
namespace Go.QF
set_option linter.unusedVariables false
def Sm (S : List (List Int)) : Prop := S.length < 4611686018427387904 ∧ ∀ z ∈ S, z.length < 4611686018427387904
theorem sm_nil : Sm [] := ⟨by decide, fun z hz => by cases hz⟩
theorem sm_tab {r c : Nat} {F : Nat → Nat → Int} (hr : r ≤ 1000000) (hc : c ≤ 1000000) : Sm (tab r c F) := ⟨by rw [tab_len]; omega, fun z hz => by rw [tab_rows z hz]; omega⟩
theorem sm_res (M : List (List Int)) (m : Int) : Sm (resS M m) := by
  unfold resS
  split
  · rename_i h
    rw [Bool.and_eq_true] at h
    have hv := valid_of h.1
    exact ⟨by rw [red_len]; have := hv.2.1; omega, fun z hz => by rw [red_rows hv.2.2.2.2 z hz]; have := hv.2.2.2.1; omega⟩
  · exact sm_nil
theorem sm_mul (A B : List (List Int)) (m : Int) : Sm (mulS A B m) := by
  unfold mulS
  split
  · rename_i h
    simp only [Bool.and_eq_true, fitB] at h
    have hA := valid_of h.1.1.1
    have hB := valid_of h.1.1.2
    exact sm_tab (by rw [red_len]; have := hA.2.1; omega) (by rw [cols_red]; have := hB.2.2.2.1; omega)
  · exact sm_nil
theorem sm_con (G T : List (List Int)) (m : Int) : Sm (conS G T m) := by
  unfold conS
  split
  · rename_i h
    simp only [Bool.and_eq_true, cfitB] at h
    have hG := valid_of h.1.1.1.1
    have hT := valid_of h.1.1.1.2
    refine sm_tab (by rw [trans_len, cols_red]; have := hT.2.2.2.1; omega) ?_
    rw [mul_cols (by rw [red_len]; have := hG.1; omega), cols_red]
    have := hT.2.2.2.1; omega
  · exact sm_nil
theorem sm_ech (M : List (List Int)) (p : Int) : Sm (echS M p) := by
  unfold echS
  split
  · rename_i h
    have hv := (priB_of h).1
    have := piv_eF M p
    have := hv.2.1
    have := hv.2.2.2.1
    exact sm_tab (by omega) (by omega)
  · exact sm_nil
theorem sm_ker (M : List (List Int)) (p : Int) : Sm (kerS M p) := by
  unfold kerS
  split
  · rename_i h
    have hv := (priB_of h).1
    have h1 := (piv_le (rc := invM p) (r := (kerB (eF M p).1 (eF M p).2 p (cols M) (cols M)).length) (m := p) (F := ent (kerB (eF M p).1 (eF M p).2 p (cols M) (cols M))) (cols M)).2.1
    have := hv.2.2.2.1
    exact sm_tab (by omega) (by omega)
  · exact sm_nil
theorem same_refl (S : List (List Int)) : sameB S S = true := by simp [sameB]
end Go.QF
