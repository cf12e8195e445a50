/-
  Determinants modulo a number, and the contract of Det of package modular by the determinant.
-/
import Derived.Test.YtdlfineibanppaaDoorDet
import Derived.Test.YtdlfineibanppaaDoorInv
namespace Go.QF
set_option linter.unusedVariables false
theorem det_eqm : ∀ {n : Nat} {m : Int} {F G : Nat → Nat → Int}, (∀ i j, i < n → j < n → Eqm m (F i j) (G i j)) → Eqm m (det n F) (det n G) := by
  intro n m
  induction n with
  | zero => intro _ _ _; rfl
  | succ n ih =>
    intro F G h
    refine Eqm.psum fun i hi => ?_
    exact ((Eqm.refl _ _).mul (h i 0 hi (by omega))).mul (ih (F := minor0 i F) (G := minor0 i G) fun a b ha hb => h _ _ (skp_lt ha) (by omega))
/-- A row step modulo m. -/
theorem det_stepF {n c i : Nat} {q m : Int} {F : Nat → Nat → Int} (hc : c < n) (hi : i < n) (hne : c ≠ i) : Eqm m (det n (stepF F c i q m)) (-det n F) := by
  rw [← det_add_row (F := F) hc hi hne (-q), ← det_swap (F := setF F c fun x => F c x + -q * F i x) hc hi hne]
  refine det_eqm fun a b ha hb => ?_
  unfold stepF
  rw [swapF_app, swapF_app]
  simp only [setF_app]
  have key : Eqm m ((F c b + (m - q) * F i b) % m) (F c b + -q * F i b) := by
    refine (Eqm.mod _ _).trans ?_
    unfold Eqm
    rw [show F c b + (m - q) * F i b = F c b + -q * F i b + m * F i b by grind, Int.add_mul_emod_self_left]
  split
  · split <;> first | exact key | rfl
  · split
    · split <;> first | exact key | rfl
    · first | rfl | exact key
theorem detP_eqm {F : Nat → Nat → Int} {m s : Int} : ∀ n, Eqm m (detP F m s n) (s * dprod (fun i => F i i) n) := by
  intro n
  induction n with
  | zero => unfold detP dprod Eqm; rw [Int.add_emod_right, Int.mul_one]
  | succ n ih =>
    unfold detP dprod
    refine (Eqm.mod _ _).trans ?_
    rw [← Int.mul_assoc]
    exact ((Eqm.mod _ _).trans ih).mul (Eqm.refl _ _)
/-- What Det answers. -/
def detS (M : List (List Int)) (m : Int) : Int := if squareB M && modB m then det M.length (ent M) % m else 0
def detE (M : List (List Int)) (m : Int) : Int := if squareB M then (if modB m then 0 else 1) else 3
end Go.QF
namespace Go.Proofs.YtdlfineibanppaaDoor
open Go Go.QF
set_option linter.unusedVariables false
theorem Det_val {h : Heap} {v : Value} {M : List (List Int)} (HM : Mat h v M) (m : Int) : CallH Tryd.prog 30 #[v, .int .i64 m] h fun x h' => Ext h h' ∧ x = .tuple #[.int .i64 (detS M m), .int .i64 (detE M m)] := by
  refine (Det_ok HM m (fun F s => Eqm m (det M.length F) (s * det M.length (ent M))) (fun _ _ => ?_) (fun F s c i q hc hi hne _ _ _ H => ?_)).mono fun x h' ⟨hE, d, e, hx, hk⟩ => ⟨hE, ?_⟩
  · rw [Int.one_mul]
    exact det_eqm fun i j _ _ => by rw [ent_red]; exact Eqm.mod _ _
  · refine (det_stepF hc hi hne).trans ?_
    rw [Int.neg_mul]
    have := (Eqm.refl m 0).sub H
    rwa [Int.zero_sub, Int.zero_sub] at this
  · subst hx
    rcases hk with ⟨h1, rfl, rfl⟩ | ⟨h1, h2, rfl, rfl⟩ | ⟨h1, h2, rfl, F1, s, hs, hQ, hbd, hz, rfl⟩
    · simp [detS, detE, h1]
    · simp [detS, detE, h1, h2]
    · have hm := mod_of_modB h2
      have hsq := square_of h1
      have hl := hsq.1.1
      have h3 : Eqm m (detP F1 m s M.length) (det M.length (ent M)) := by
        refine (detP_eqm _).trans ?_
        rw [← det_upper hz]
        refine ((Eqm.refl m s).mul hQ).trans (Eqm.of_eq ?_)
        rcases hs with rfl | rfl <;> grind
      have h4 : 0 ≤ detP F1 m s M.length ∧ detP F1 m s M.length < m := by
        obtain ⟨k, hk⟩ : ∃ k, M.length = k + 1 := ⟨M.length - 1, by omega⟩
        rw [hk]; unfold detP
        exact ⟨Int.emod_nonneg _ (by omega), Int.emod_lt_of_pos _ (by omega)⟩
      have h5 : detP F1 m s M.length = det M.length (ent M) % m := by
        unfold Eqm at h3
        rw [← h3, Int.emod_eq_of_lt h4.1 h4.2]
      simp [detS, detE, h1, h2, h5]
end Go.Proofs.YtdlfineibanppaaDoor
