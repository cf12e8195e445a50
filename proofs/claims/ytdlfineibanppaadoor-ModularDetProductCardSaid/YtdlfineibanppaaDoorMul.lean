/-
  Contracts of Residues, Mul and Congruence, of the program and of the reference, for every argument.
-/
import Derived.Test.YtdlfineibanppaaDoorMat1
namespace Go.Proofs.YtdlfineibanppaaDoor
open Go Go.QF
set_option linter.unusedVariables false
set_option maxRecDepth 100000

/-- What such a function leaves: the error, the matrix, old memory as it was. -/
def PostM (h : Heap) (err : Int) (S : List (List Int)) (v : Value) (h' : Heap) : Prop := Ext h h' ∧ ∃ r, v = .tuple #[r, .int .i64 err] ∧ Mat h' r S ∧ (S ≠ [] → Fresh h.size h' r S)
theorem postM_nil {h : Heap} {err e2 : Int} {S : List (List Int)} (he : e2 = err) (hS : S = []) : PostM h err S (.tuple #[.slice none 0 0, .int .i64 e2]) h := by
  subst he; subst hS
  exact ⟨Ext.refl h, _, rfl, mat_nil h, fun hne => absurd rfl hne⟩
theorem postM_mk {h h' : Heap} {err : Int} {S T : List (List Int)} {r : Value} (he : err = 0) (hS : S = T) (hE : Ext h h') (HF : Fresh h.size h' r T) : PostM h err S (.tuple #[r, .int .i64 0]) h' := by
  subst he; subst hS
  exact ⟨hE, r, rfl, HF.mat, fun _ => HF⟩

theorem Residues_ok {h : Heap} {v : Value} {M : List (List Int)} (HM : Mat h v M) (m : Int) : CallH Tryd.prog 28 #[v, .int .i64 m] h (PostM h (resE M m) (resS M m)) := by
  refine calls_of_W (l := [_, _]) mx Tryd.func28 rfl rfl rfl rfl rfl (by kernel_rfl) ?_
  refine w_seq ?_
  refine w_reg ?_
  refine r_as (r_as (r_nil (q_t ?_)))
  refine w_seq ?_
  refine w_seq ?_
  refine w_reg ?_
  refine r_mv (r_call trivial rfl (valid_ok HM) fun v' h hk => ?_)
  obtain ⟨rfl, rfl⟩ := hk
  refine ⟨trivial, ?_⟩
  cases hc1 : validB M
  · skip
    refine r_not rfl (r_nil (q_t ?_))
    refine w_true rfl ?_
    refine w_seq ?_
    refine w_reg ?_
    refine r_as (r_as (r_nil (q_t ?_)))
    refine w_ret (q_tr ?_)
    refine ⟨_, retV_2, ?_⟩
    exact postM_nil (by simp [resE, hc1]) (by simp [resS, hc1])
  · skip
    refine r_not rfl (r_nil (q_t ?_))
    refine w_false rfl ?_
    refine w_skip (q_t ?_)
    refine w_seq ?_
    refine w_seq ?_
    refine w_reg ?_
    refine r_mv (r_call trivial rfl (checkModulus_ok m h) fun v' h hk => ?_)
    obtain ⟨rfl, rfl⟩ := hk
    refine ⟨trivial, ?_⟩
    refine r_as (r_nil (q_t ?_))
    refine w_seq ?_
    refine w_reg ?_
    refine r_mv (r_neq rfl rfl (fun hc2 => ?_) (fun hc2 => ?_))   -- t13 := binOp neq 30 t12 0:i64 30
    · skip
      refine r_nil (q_t ?_)
      refine w_true rfl ?_
      refine w_seq ?_
      refine w_reg ?_
      refine r_mv (r_as (r_as (r_nil (q_t ?_))))
      refine w_ret (q_tr ?_)
      refine ⟨_, retV_2, ?_⟩
      have hmB : modB m = false := by cases hb : modB m <;> simp [hb] at hc2 ⊢
      exact postM_nil (by simp [resE, hc1, hmB]) (by simp [resS, hmB])
    · skip
      refine r_nil (q_t ?_)
      refine w_false rfl ?_
      refine w_skip (q_t ?_)
      refine w_seq ?_
      refine w_reg ?_
      refine r_mv (r_mv ?_)
      have hmB : modB m = true := by cases hb : modB m <;> simp [hb] at hc2 ⊢
      have hm := mod_of_modB hmB
      have hv := valid_of hc1
      refine r_call trivial rfl (residues_ok HM hm.1 hm.2 (by have := hv.2.1; omega) (valid_le hv)) fun r h' hk => ?_
      obtain ⟨hE, HF⟩ := hk
      refine ⟨trivial, ?_⟩
      refine r_as (r_as (r_nil (q_t ?_)))
      refine w_ret ?_
      refine ⟨_, retV_2, ?_⟩
      exact postM_mk (by simp [resE, hc1, hmB]) (by simp [resS, hc1, hmB, redM]) hE HF

theorem refResidues_ok {h : Heap} {v : Value} {M : List (List Int)} (HM : Mat h v M) (m : Int) : CallH Tryd.prog 29 #[v, .int .i64 m] h (PostM h (resE M m) (resS M m)) := by
  refine calls_of_W (l := [_, _]) mx Tryd.func29 rfl rfl rfl rfl rfl (by kernel_rfl) ?_
  refine w_seq ?_
  refine w_reg ?_
  refine r_as (r_as (r_nil (q_t ?_)))
  refine w_seq ?_
  refine w_seq ?_
  refine w_reg ?_
  refine r_mv (r_call trivial rfl (Valid_ok HM) fun v' h hk => ?_)
  obtain ⟨rfl, rfl⟩ := hk
  refine ⟨trivial, ?_⟩
  cases hc1 : validB M
  · skip
    refine r_not rfl (r_nil (q_t ?_))
    refine w_true rfl ?_
    refine w_seq ?_
    refine w_reg ?_
    refine r_as (r_as (r_nil (q_t ?_)))
    refine w_ret (q_tr ?_)
    refine ⟨_, retV_2, ?_⟩
    exact postM_nil (by simp [resE, hc1]) (by simp [resS, hc1])
  · skip
    refine r_not rfl (r_nil (q_t ?_))
    refine w_false rfl ?_
    refine w_skip (q_t ?_)
    refine w_seq ?_
    refine w_seq ?_
    refine w_reg ?_
    refine r_mv (r_call trivial rfl (refmodulus_ok m h) fun v' h hk => ?_)
    obtain ⟨rfl, rfl⟩ := hk
    refine ⟨trivial, ?_⟩
    cases hc2 : modB m
    · skip
      refine r_not rfl (r_nil (q_t ?_))
      refine w_true rfl ?_
      refine w_seq ?_
      refine w_reg ?_
      refine r_as (r_as (r_nil (q_t ?_)))
      refine w_ret (q_tr ?_)
      refine ⟨_, retV_2, ?_⟩
      exact postM_nil (by simp [resE, hc1, hc2]) (by simp [resS, hc2])
    · skip
      refine r_not rfl (r_nil (q_t ?_))
      refine w_false rfl ?_
      refine w_skip (q_t ?_)
      refine w_seq ?_
      refine w_reg ?_
      refine r_mv (r_mv ?_)
      have hm := mod_of_modB hc2
      have hv := valid_of hc1
      refine r_call trivial rfl (Reduce_ok HM hm.1 hm.2 (by have := hv.1; omega) (by have := hv.2.1; omega) (valid_pos hv)) fun r h' hk => ?_
      obtain ⟨hE, HF⟩ := hk
      refine ⟨trivial, ?_⟩
      refine r_as (r_as (r_nil (q_t ?_)))
      refine w_ret ?_
      refine ⟨_, retV_2, ?_⟩
      exact postM_mk (by simp [resE, hc1, hc2]) (by simp [resS, hc1, hc2, redM]) hE HF

theorem Mul_ok {h : Heap} {va vb : Value} {A B : List (List Int)} (HA : Mat h va A) (HB : Mat h vb B) (m : Int) : CallH Tryd.prog 32 #[va, vb, .int .i64 m] h (PostM h (mulE A B m) (mulS A B m)) := by
  refine calls_of_W (l := [_, _, _]) mx Tryd.func32 rfl rfl rfl rfl rfl (by kernel_rfl) ?_
  refine w_seq ?_
  refine w_reg ?_
  refine r_as (r_as (r_nil (q_t ?_)))
  refine w_seq ?_
  refine w_seq ?_
  refine w_reg ?_
  refine r_mv (r_call trivial rfl (valid_ok HA) fun v' h hk => ?_)
  obtain ⟨rfl, rfl⟩ := hk
  refine ⟨trivial, ?_⟩
  cases hc1 : validB A
  · skip
    refine r_not rfl (r_mv (r_skip 12 true (by kernel_rfl) rfl rfl (r_skip 12 true (by kernel_rfl) rfl rfl (r_skip 12 true (by kernel_rfl) rfl rfl (r_pickT rfl (r_mv (r_skip 17 true (by kernel_rfl) rfl rfl (r_skip 17 true (by kernel_rfl) rfl rfl (r_skip 17 true (by kernel_rfl) rfl rfl (r_skip 17 true (by kernel_rfl) rfl rfl (r_skip 17 true (by kernel_rfl) rfl rfl (r_skip 17 true (by kernel_rfl) rfl rfl (r_skip 17 true (by kernel_rfl) rfl rfl (r_pickT rfl (r_nil (q_t ?_))))))))))))))))
    refine w_true rfl ?_
    refine w_seq ?_
    refine w_reg ?_
    refine r_as (r_as (r_nil (q_t ?_)))
    refine w_ret (q_tr ?_)
    refine ⟨_, retV_2, ?_⟩
    exact postM_nil (by simp [mulE, fitB, hc1]) (by simp [mulS, fitB, hc1])
  · skip
    refine r_not rfl (r_mv (r_want 12 false (by kernel_rfl) rfl rfl (r_mv (r_want 12 false (by kernel_rfl) rfl rfl (r_call trivial rfl (valid_ok HB) fun v' h hk => ?_)))))
    obtain ⟨rfl, rfl⟩ := hk
    refine ⟨trivial, ?_⟩
    cases hc2 : validB B
    · skip
      refine r_want 12 false (by kernel_rfl) rfl rfl (r_not rfl (r_pickF rfl (r_mv (r_skip 17 true (by kernel_rfl) rfl rfl (r_skip 17 true (by kernel_rfl) rfl rfl (r_skip 17 true (by kernel_rfl) rfl rfl (r_skip 17 true (by kernel_rfl) rfl rfl (r_skip 17 true (by kernel_rfl) rfl rfl (r_skip 17 true (by kernel_rfl) rfl rfl (r_skip 17 true (by kernel_rfl) rfl rfl (r_pickT rfl (r_nil (q_t ?_)))))))))))))
      refine w_true rfl ?_
      refine w_seq ?_
      refine w_reg ?_
      refine r_as (r_as (r_nil (q_t ?_)))
      refine w_ret (q_tr ?_)
      refine ⟨_, retV_2, ?_⟩
      exact postM_nil (by simp [mulE, fitB, hc2]) (by simp [mulS, fitB, hc2])
    · skip
      refine r_want 12 false (by kernel_rfl) rfl rfl (r_not rfl (r_pickF rfl (r_mv (r_want 17 false (by kernel_rfl) rfl rfl (r_mv (r_want 17 false (by kernel_rfl) rfl rfl ?_))))))
      have hvA := valid_of hc1
      have hvB := valid_of hc2
      have hcA := hc1
      have hcB := hc2
      have hA1 := hvA.1
      have hc0 := cols_eq (M := A) (by omega)
      refine r_ixm (n := 0) sl_MM rfl HA rfl (List.getElem?_eq_getElem (by omega)) fun a1 r1 ha1 hr1 => ?_
      refine r_want 17 false (by kernel_rfl) rfl rfl (r_ld na_I64 rfl ha1 (r_want 17 false (by kernel_rfl) rfl rfl (r_leni sl_I64 rfl hr1 (r_want 17 false (by kernel_rfl) rfl rfl (r_mv (r_want 17 false (by kernel_rfl) rfl rfl (r_lenm sl_MM rfl HB (r_want 17 false (by kernel_rfl) rfl rfl (r_neq rfl rfl (fun hc3 => ?_) (fun hc3 => ?_))))))))))   -- t24 := binOp neq 3 t21 t23 3   [guard op8 false]
      · skip
        refine r_pickF rfl (r_nil (q_t ?_))
        refine w_true rfl ?_
        refine w_seq ?_
        refine w_reg ?_
        refine r_as (r_as (r_nil (q_t ?_)))
        refine w_ret (q_tr ?_)
        refine ⟨_, retV_2, ?_⟩
        have hfit : fitB A B = false := by simp [fitB, hcA, hcB]; omega
        exact postM_nil (by simp [mulE, hfit]) (by simp [mulS, hfit])
      · skip
        refine r_pickF rfl (r_nil (q_t ?_))
        refine w_false rfl ?_
        refine w_skip (q_t ?_)
        refine w_seq ?_
        refine w_seq ?_
        refine w_reg ?_
        refine r_mv (r_call trivial rfl (checkModulus_ok m h) fun v' h hk => ?_)
        obtain ⟨rfl, rfl⟩ := hk
        refine ⟨trivial, ?_⟩
        refine r_as (r_nil (q_t ?_))
        refine w_seq ?_
        refine w_reg ?_
        refine r_mv (r_neq rfl rfl (fun hc4 => ?_) (fun hc4 => ?_))   -- t29 := binOp neq 30 t28 0:i64 30
        · skip
          refine r_nil (q_t ?_)
          refine w_true rfl ?_
          refine w_seq ?_
          refine w_reg ?_
          refine r_mv (r_as (r_as (r_nil (q_t ?_))))
          refine w_ret (q_tr ?_)
          refine ⟨_, retV_2, ?_⟩
          have hfit : fitB A B = true := by simp [fitB, hcA, hcB]; omega
          have hmB : modB m = false := by cases hb : modB m <;> simp [hb] at hc4 ⊢
          exact postM_nil (by simp [mulE, hfit, hmB]) (by simp [mulS, hmB])
        · skip
          refine r_nil (q_t ?_)
          refine w_false rfl ?_
          refine w_skip (q_t ?_)
          refine w_seq ?_
          refine w_reg ?_
          refine r_mv (r_mv ?_)
          have hmB : modB m = true := by cases hb : modB m <;> simp [hb] at hc4 ⊢
          have hm := mod_of_modB hmB
          have hfit : fitB A B = true := by simp [fitB, hcA, hcB]; omega
          refine r_call trivial rfl (residues_ok HA hm.1 hm.2 (by have := hvA.2.1; omega) (valid_le hvA)) fun ra h2 hk => ?_
          obtain ⟨hE1, HF1⟩ := hk
          refine ⟨trivial, ?_⟩
          refine r_mv (r_mv (r_call trivial rfl (residues_ok (HB.ext hE1) hm.1 hm.2 (by have := hvB.2.1; omega) (valid_le hvB)) fun rb h3 hk => ?_))
          obtain ⟨hE2, HF2⟩ := hk
          refine ⟨trivial, ?_⟩
          have hcB0 := cols_red B m
          have hlB0 := red_len B m
          have hlA0 := red_len A m
          refine r_mv (r_call trivial rfl (product_ok (A := redM A m) (B := redM B m) (HF1.mat.ext hE2) HF2.mat hm.1 hm.2 (by have := hvB.1; omega) (by have := hvA.2.1; omega) (by have := hvB.2.2.2.1; omega) (by have := hvB.2.1; omega) (red_rows (fun z hz => by rw [red_len, hvA.2.2.2.2 z hz]; omega)) (fun z hz => by rw [hcB0]; exact red_rows hvB.2.2.2.2 z hz) (rem_red (by omega) A) (rem_red (by omega) B)) fun r h4 hk => ?_)
          obtain ⟨hE3, HF3⟩ := hk
          refine ⟨trivial, ?_⟩
          refine r_as (r_as (r_nil (q_t ?_)))
          refine w_ret ?_
          refine ⟨_, retV_2, ?_⟩
          exact postM_mk (by simp [mulE, hfit, hmB]) (by simp [mulS, hfit, hmB]) (hE1.trans (hE2.trans hE3)) (HF3.mono (hE1.trans hE2).1)

theorem refMul_ok {h : Heap} {va vb : Value} {A B : List (List Int)} (HA : Mat h va A) (HB : Mat h vb B) (m : Int) : CallH Tryd.prog 33 #[va, vb, .int .i64 m] h (PostM h (mulE A B m) (mulS A B m)) := by
  refine calls_of_W (l := [_, _, _]) mx Tryd.func33 rfl rfl rfl rfl rfl (by kernel_rfl) ?_
  refine w_seq ?_
  refine w_reg ?_
  refine r_as (r_as (r_nil (q_t ?_)))
  refine w_seq ?_
  refine w_seq ?_
  refine w_reg ?_
  refine r_mv (r_call trivial rfl (Valid_ok HA) fun v' h hk => ?_)
  obtain ⟨rfl, rfl⟩ := hk
  refine ⟨trivial, ?_⟩
  cases hc1 : validB A
  · skip
    refine r_not rfl (r_mv (r_skip 11 true (by kernel_rfl) rfl rfl (r_skip 11 true (by kernel_rfl) rfl rfl (r_skip 11 true (by kernel_rfl) rfl rfl (r_pickT rfl (r_mv (r_skip 16 true (by kernel_rfl) rfl rfl (r_skip 16 true (by kernel_rfl) rfl rfl (r_skip 16 true (by kernel_rfl) rfl rfl (r_skip 16 true (by kernel_rfl) rfl rfl (r_skip 16 true (by kernel_rfl) rfl rfl (r_skip 16 true (by kernel_rfl) rfl rfl (r_skip 16 true (by kernel_rfl) rfl rfl (r_pickT rfl (r_nil (q_t ?_))))))))))))))))
    refine w_true rfl ?_
    refine w_seq ?_
    refine w_reg ?_
    refine r_as (r_as (r_nil (q_t ?_)))
    refine w_ret (q_tr ?_)
    refine ⟨_, retV_2, ?_⟩
    exact postM_nil (by simp [mulE, fitB, hc1]) (by simp [mulS, fitB, hc1])
  · skip
    refine r_not rfl (r_mv (r_want 11 false (by kernel_rfl) rfl rfl (r_mv (r_want 11 false (by kernel_rfl) rfl rfl (r_call trivial rfl (Valid_ok HB) fun v' h hk => ?_)))))
    obtain ⟨rfl, rfl⟩ := hk
    refine ⟨trivial, ?_⟩
    cases hc2 : validB B
    · skip
      refine r_want 11 false (by kernel_rfl) rfl rfl (r_not rfl (r_pickF rfl (r_mv (r_skip 16 true (by kernel_rfl) rfl rfl (r_skip 16 true (by kernel_rfl) rfl rfl (r_skip 16 true (by kernel_rfl) rfl rfl (r_skip 16 true (by kernel_rfl) rfl rfl (r_skip 16 true (by kernel_rfl) rfl rfl (r_skip 16 true (by kernel_rfl) rfl rfl (r_skip 16 true (by kernel_rfl) rfl rfl (r_pickT rfl (r_nil (q_t ?_)))))))))))))
      refine w_true rfl ?_
      refine w_seq ?_
      refine w_reg ?_
      refine r_as (r_as (r_nil (q_t ?_)))
      refine w_ret (q_tr ?_)
      refine ⟨_, retV_2, ?_⟩
      exact postM_nil (by simp [mulE, fitB, hc2]) (by simp [mulS, fitB, hc2])
    · skip
      refine r_want 11 false (by kernel_rfl) rfl rfl (r_not rfl (r_pickF rfl (r_mv (r_want 16 false (by kernel_rfl) rfl rfl (r_mv (r_want 16 false (by kernel_rfl) rfl rfl ?_))))))
      have hvA := valid_of hc1
      have hvB := valid_of hc2
      have hcA := hc1
      have hcB := hc2
      have hA1 := hvA.1
      have hc0 := cols_eq (M := A) (by omega)
      refine r_ixm (n := 0) sl_MM rfl HA rfl (List.getElem?_eq_getElem (by omega)) fun a1 r1 ha1 hr1 => ?_
      refine r_want 16 false (by kernel_rfl) rfl rfl (r_ld na_I64 rfl ha1 (r_want 16 false (by kernel_rfl) rfl rfl (r_leni sl_I64 rfl hr1 (r_want 16 false (by kernel_rfl) rfl rfl (r_mv (r_want 16 false (by kernel_rfl) rfl rfl (r_lenm sl_MM rfl HB (r_want 16 false (by kernel_rfl) rfl rfl (r_neq rfl rfl (fun hc3 => ?_) (fun hc3 => ?_))))))))))   -- t23 := binOp neq 3 t20 t22 3   [guard op8 false]
      · skip
        refine r_pickF rfl (r_nil (q_t ?_))
        refine w_true rfl ?_
        refine w_seq ?_
        refine w_reg ?_
        refine r_as (r_as (r_nil (q_t ?_)))
        refine w_ret (q_tr ?_)
        refine ⟨_, retV_2, ?_⟩
        have hfit : fitB A B = false := by simp [fitB, hcA, hcB]; omega
        exact postM_nil (by simp [mulE, hfit]) (by simp [mulS, hfit])
      · skip
        refine r_pickF rfl (r_nil (q_t ?_))
        refine w_false rfl ?_
        refine w_skip (q_t ?_)
        refine w_seq ?_
        refine w_seq ?_
        refine w_reg ?_
        refine r_mv (r_call trivial rfl (refmodulus_ok m h) fun v' h hk => ?_)
        obtain ⟨rfl, rfl⟩ := hk
        refine ⟨trivial, ?_⟩
        cases hc4 : modB m
        · skip
          refine r_not rfl (r_nil (q_t ?_))
          refine w_true rfl ?_
          refine w_seq ?_
          refine w_reg ?_
          refine r_as (r_as (r_nil (q_t ?_)))
          refine w_ret (q_tr ?_)
          refine ⟨_, retV_2, ?_⟩
          have hfit : fitB A B = true := by simp [fitB, hcA, hcB]; omega
          exact postM_nil (by simp [mulE, hfit, hc4]) (by simp [mulS, hc4])
        · skip
          refine r_not rfl (r_nil (q_t ?_))
          refine w_false rfl ?_
          refine w_skip (q_t ?_)
          refine w_seq ?_
          refine w_reg ?_
          refine r_mv (r_mv (r_mv ?_))
          have hm := mod_of_modB hc4
          have hfit : fitB A B = true := by simp [fitB, hcA, hcB]; omega
          refine r_call trivial rfl (refproduct_ok HA HB hm.1 hm.2 (by omega) (by have := hvB.1; omega) (by have := hvA.2.1; omega) (by have := hvB.2.2.2.1; omega) (by have := hvB.2.1; omega) (valid_pos hvA) (valid_pos hvB) (fun z hz => by rw [hvA.2.2.2.2 z hz]; omega) hvB.2.2.2.2) fun r h4 hk => ?_
          obtain ⟨hE3, HF3⟩ := hk
          refine ⟨trivial, ?_⟩
          refine r_as (r_as (r_nil (q_t ?_)))
          refine w_ret ?_
          refine ⟨_, retV_2, ?_⟩
          exact postM_mk (by simp [mulE, hfit, hc4]) (by simp [mulS, hfit, hc4]) hE3 HF3

theorem Congruence_ok {h : Heap} {vg vt : Value} {G T : List (List Int)} (HG : Mat h vg G) (HT : Mat h vt T) (m : Int) : CallH Tryd.prog 38 #[vg, vt, .int .i64 m] h (PostM h (conE G T m) (conS G T m)) := by
  refine calls_of_W (l := [_, _, _]) mx Tryd.func38 rfl rfl rfl rfl rfl (by kernel_rfl) ?_
  refine w_seq ?_
  refine w_reg ?_
  refine r_as (r_as (r_nil (q_t ?_)))
  refine w_seq ?_
  refine w_seq ?_
  refine w_reg ?_
  refine r_mv (r_call trivial rfl (valid_ok HG) fun v' h hk => ?_)
  obtain ⟨rfl, rfl⟩ := hk
  refine ⟨trivial, ?_⟩
  cases hc1 : validB G
  · skip
    refine r_not rfl (r_mv (r_skip 13 true (by kernel_rfl) rfl rfl (r_skip 13 true (by kernel_rfl) rfl rfl (r_skip 13 true (by kernel_rfl) rfl rfl (r_pickT rfl (r_mv (r_skip 18 true (by kernel_rfl) rfl rfl (r_skip 18 true (by kernel_rfl) rfl rfl (r_skip 18 true (by kernel_rfl) rfl rfl (r_skip 18 true (by kernel_rfl) rfl rfl (r_skip 18 true (by kernel_rfl) rfl rfl (r_skip 18 true (by kernel_rfl) rfl rfl (r_skip 18 true (by kernel_rfl) rfl rfl (r_pickT rfl (r_mv (r_skip 27 true (by kernel_rfl) rfl rfl (r_skip 27 true (by kernel_rfl) rfl rfl (r_skip 27 true (by kernel_rfl) rfl rfl (r_skip 27 true (by kernel_rfl) rfl rfl (r_skip 27 true (by kernel_rfl) rfl rfl (r_pickT rfl (r_nil (q_t ?_)))))))))))))))))))))))
    refine w_true rfl ?_
    refine w_seq ?_
    refine w_reg ?_
    refine r_as (r_as (r_nil (q_t ?_)))
    refine w_ret (q_tr ?_)
    refine ⟨_, retV_2, ?_⟩
    exact postM_nil (by simp [conE, cfitB, hc1]) (by simp [conS, cfitB, hc1])
  · skip
    refine r_not rfl (r_mv (r_want 13 false (by kernel_rfl) rfl rfl (r_mv (r_want 13 false (by kernel_rfl) rfl rfl (r_call trivial rfl (valid_ok HT) fun v' h hk => ?_)))))
    obtain ⟨rfl, rfl⟩ := hk
    refine ⟨trivial, ?_⟩
    cases hc2 : validB T
    · skip
      refine r_want 13 false (by kernel_rfl) rfl rfl (r_not rfl (r_pickF rfl (r_mv (r_skip 18 true (by kernel_rfl) rfl rfl (r_skip 18 true (by kernel_rfl) rfl rfl (r_skip 18 true (by kernel_rfl) rfl rfl (r_skip 18 true (by kernel_rfl) rfl rfl (r_skip 18 true (by kernel_rfl) rfl rfl (r_skip 18 true (by kernel_rfl) rfl rfl (r_skip 18 true (by kernel_rfl) rfl rfl (r_pickT rfl (r_mv (r_skip 27 true (by kernel_rfl) rfl rfl (r_skip 27 true (by kernel_rfl) rfl rfl (r_skip 27 true (by kernel_rfl) rfl rfl (r_skip 27 true (by kernel_rfl) rfl rfl (r_skip 27 true (by kernel_rfl) rfl rfl (r_pickT rfl (r_nil (q_t ?_))))))))))))))))))))
      refine w_true rfl ?_
      refine w_seq ?_
      refine w_reg ?_
      refine r_as (r_as (r_nil (q_t ?_)))
      refine w_ret (q_tr ?_)
      refine ⟨_, retV_2, ?_⟩
      exact postM_nil (by simp [conE, cfitB, hc2]) (by simp [conS, cfitB, hc2])
    · skip
      refine r_want 13 false (by kernel_rfl) rfl rfl (r_not rfl (r_pickF rfl (r_mv (r_want 18 false (by kernel_rfl) rfl rfl (r_mv (r_want 18 false (by kernel_rfl) rfl rfl (r_lenm sl_MM rfl HG (r_want 18 false (by kernel_rfl) rfl rfl (r_mv (r_want 18 false (by kernel_rfl) rfl rfl ?_))))))))))
      have hvG := valid_of hc1
      have hvT := valid_of hc2
      have hcA := hc1
      have hcB := hc2
      have hG1 := hvG.1
      have hT1 := hvT.1
      have hc0 := cols_eq (M := G) (by omega)
      refine r_ixm (n := 0) sl_MM rfl HG rfl (List.getElem?_eq_getElem (by omega)) fun a1 r1 ha1 hr1 => ?_
      refine r_want 18 false (by kernel_rfl) rfl rfl (r_ld na_I64 rfl ha1 (r_want 18 false (by kernel_rfl) rfl rfl (r_leni sl_I64 rfl hr1 (r_want 18 false (by kernel_rfl) rfl rfl (r_neq rfl rfl (fun hc3 => ?_) (fun hc3 => ?_))))))   -- t25 := binOp neq 3 t20 t24 3   [guard op8 false]
      · skip
        refine r_pickF rfl (r_mv (r_skip 27 true (by kernel_rfl) rfl rfl (r_skip 27 true (by kernel_rfl) rfl rfl (r_skip 27 true (by kernel_rfl) rfl rfl (r_skip 27 true (by kernel_rfl) rfl rfl (r_skip 27 true (by kernel_rfl) rfl rfl (r_pickT rfl (r_nil (q_t ?_)))))))))
        refine w_true rfl ?_
        refine w_seq ?_
        refine w_reg ?_
        refine r_as (r_as (r_nil (q_t ?_)))
        refine w_ret (q_tr ?_)
        refine ⟨_, retV_2, ?_⟩
        have hfit : cfitB G T = false := by simp [cfitB, hcA, hcB]; omega
        exact postM_nil (by simp [conE, hfit]) (by simp [conS, hfit])
      · skip
        refine r_pickF rfl (r_mv (r_want 27 false (by kernel_rfl) rfl rfl (r_mv (r_want 27 false (by kernel_rfl) rfl rfl (r_lenm sl_MM rfl HT (r_want 27 false (by kernel_rfl) rfl rfl (r_mv (r_want 27 false (by kernel_rfl) rfl rfl (r_lenm sl_MM rfl HG (r_want 27 false (by kernel_rfl) rfl rfl (r_neq rfl rfl (fun hc4 => ?_) (fun hc4 => ?_))))))))))))   -- t32 := binOp neq 3 t29 t31 3   [guard op17 false]
        · skip
          refine r_pickF rfl (r_nil (q_t ?_))
          refine w_true rfl ?_
          refine w_seq ?_
          refine w_reg ?_
          refine r_as (r_as (r_nil (q_t ?_)))
          refine w_ret (q_tr ?_)
          refine ⟨_, retV_2, ?_⟩
          have hfit : cfitB G T = false := by simp [cfitB, hcA, hcB]; omega
          exact postM_nil (by simp [conE, hfit]) (by simp [conS, hfit])
        · skip
          refine r_pickF rfl (r_nil (q_t ?_))
          refine w_false rfl ?_
          refine w_skip (q_t ?_)
          refine w_seq ?_
          refine w_seq ?_
          refine w_reg ?_
          refine r_mv (r_call trivial rfl (checkModulus_ok m h) fun v' h hk => ?_)
          obtain ⟨rfl, rfl⟩ := hk
          refine ⟨trivial, ?_⟩
          refine r_as (r_nil (q_t ?_))
          refine w_seq ?_
          refine w_reg ?_
          refine r_mv (r_neq rfl rfl (fun hc5 => ?_) (fun hc5 => ?_))   -- t37 := binOp neq 30 t36 0:i64 30
          · skip
            refine r_nil (q_t ?_)
            refine w_true rfl ?_
            refine w_seq ?_
            refine w_reg ?_
            refine r_mv (r_as (r_as (r_nil (q_t ?_))))
            refine w_ret (q_tr ?_)
            refine ⟨_, retV_2, ?_⟩
            have hfit : cfitB G T = true := by simp [cfitB, hcA, hcB]; omega
            have hmB : modB m = false := by cases hb : modB m <;> simp [hb] at hc5 ⊢
            exact postM_nil (by simp [conE, hfit, hmB]) (by simp [conS, hmB])
          · skip
            refine r_nil (q_t ?_)
            refine w_false rfl ?_
            refine w_skip (q_t ?_)
            refine w_seq ?_
            refine w_reg ?_
            refine r_mv (r_mv ?_)
            have hmB : modB m = true := by cases hb : modB m <;> simp [hb] at hc5 ⊢
            have hm := mod_of_modB hmB
            have hfit : cfitB G T = true := by simp [cfitB, hcA, hcB]; omega
            refine r_call trivial rfl (residues_ok HT hm.1 hm.2 (by have := hvT.2.1; omega) (valid_le hvT)) fun rt h2 hk => ?_
            obtain ⟨hE1, HF1⟩ := hk
            refine ⟨trivial, ?_⟩
            have hcT := cols_red T m
            have hlT := red_len T m
            have hcG := cols_red G m
            have hlG := red_len G m
            have hrT := red_rows (m := m) hvT.2.2.2.2
            have hrG := red_rows (m := m) hvG.2.2.2.2
            have hTc := hvT.2.2.1
            have hTc2 := hvT.2.2.2.1
            have hG16 := hvG.2.1
            have hT16 := hvT.2.1
            refine r_as (r_nil (q_t ?_))
            refine w_seq ?_
            refine w_reg ?_
            refine r_mv (r_call trivial rfl (transpose_ok (M := redM T m) HF1.mat (by omega) (by omega) (by omega) (fun z hz => by rw [hcT]; exact hrT z hz)) fun rtt h3 hk => ?_)
            obtain ⟨hE2, HF2⟩ := hk
            refine ⟨trivial, ?_⟩
            refine r_mv (r_mv (r_call trivial rfl (residues_ok (HG.ext (hE1.trans hE2)) hm.1 hm.2 (by omega) (valid_le hvG)) fun rg h4 hk => ?_))
            obtain ⟨hE3, HF3⟩ := hk
            refine ⟨trivial, ?_⟩
            refine r_mv (r_mv (r_call trivial rfl (product_ok (A := redM G m) (B := redM T m) HF3.mat (HF1.mat.ext (hE2.trans hE3)) hm.1 hm.2 (by omega) (by omega) (by omega) (by omega) (fun z hz => by rw [hrG z hz]; omega) (fun z hz => by rw [hcT]; exact hrT z hz) (rem_red (by omega) G) (rem_red (by omega) T)) fun rp h5 hk => ?_))
            obtain ⟨hE4, HF4⟩ := hk
            refine ⟨trivial, ?_⟩
            have hml := mul_len (redM G m) (redM T m) m
            have hmc := mul_cols (A := redM G m) (B := redM T m) (m := m) (by omega)
            have htl := trans_len (redM T m)
            refine r_mv (r_call trivial rfl (product_ok (A := transM (redM T m)) (B := mulM (redM G m) (redM T m) m) (HF2.mat.ext (hE3.trans hE4)) HF4.mat hm.1 hm.2 (by omega) (by omega) (by omega) (by omega) (fun z hz => by rw [trans_rows _ z hz]; omega) (fun z hz => by rw [hmc]; exact mul_rows z hz) (trans_rem (by omega) (rem_red (by omega) T)) (mul_rem (by omega))) fun r h6 hk => ?_)
            obtain ⟨hE5, HF5⟩ := hk
            refine ⟨trivial, ?_⟩
            refine r_as (r_as (r_nil (q_t ?_)))
            refine w_ret ?_
            refine ⟨_, retV_2, ?_⟩
            have hEE := hE1.trans (hE2.trans (hE3.trans hE4))
            exact postM_mk (by simp [conE, hfit, hmB]) (by simp [conS, hfit, hmB]) (hEE.trans hE5) (HF5.mono hEE.1)

theorem refCongruence_ok {h : Heap} {vg vt : Value} {G T : List (List Int)} (HG : Mat h vg G) (HT : Mat h vt T) (m : Int) : CallH Tryd.prog 39 #[vg, vt, .int .i64 m] h (PostM h (conE G T m) (conS G T m)) := by
  refine calls_of_W (l := [_, _, _]) mx Tryd.func39 rfl rfl rfl rfl rfl (by kernel_rfl) ?_
  refine w_seq ?_
  refine w_reg ?_
  refine r_as (r_as (r_nil (q_t ?_)))
  refine w_seq ?_
  refine w_seq ?_
  refine w_reg ?_
  refine r_mv (r_call trivial rfl (Valid_ok HG) fun v' h hk => ?_)
  obtain ⟨rfl, rfl⟩ := hk
  refine ⟨trivial, ?_⟩
  cases hc1 : validB G
  · skip
    refine r_not rfl (r_mv (r_skip 11 true (by kernel_rfl) rfl rfl (r_skip 11 true (by kernel_rfl) rfl rfl (r_skip 11 true (by kernel_rfl) rfl rfl (r_pickT rfl (r_mv (r_skip 16 true (by kernel_rfl) rfl rfl (r_skip 16 true (by kernel_rfl) rfl rfl (r_skip 16 true (by kernel_rfl) rfl rfl (r_skip 16 true (by kernel_rfl) rfl rfl (r_skip 16 true (by kernel_rfl) rfl rfl (r_skip 16 true (by kernel_rfl) rfl rfl (r_skip 16 true (by kernel_rfl) rfl rfl (r_pickT rfl (r_mv (r_skip 25 true (by kernel_rfl) rfl rfl (r_skip 25 true (by kernel_rfl) rfl rfl (r_skip 25 true (by kernel_rfl) rfl rfl (r_skip 25 true (by kernel_rfl) rfl rfl (r_skip 25 true (by kernel_rfl) rfl rfl (r_pickT rfl (r_nil (q_t ?_)))))))))))))))))))))))
    refine w_true rfl ?_
    refine w_seq ?_
    refine w_reg ?_
    refine r_as (r_as (r_nil (q_t ?_)))
    refine w_ret (q_tr ?_)
    refine ⟨_, retV_2, ?_⟩
    exact postM_nil (by simp [conE, cfitB, hc1]) (by simp [conS, cfitB, hc1])
  · skip
    refine r_not rfl (r_mv (r_want 11 false (by kernel_rfl) rfl rfl (r_mv (r_want 11 false (by kernel_rfl) rfl rfl (r_call trivial rfl (Valid_ok HT) fun v' h hk => ?_)))))
    obtain ⟨rfl, rfl⟩ := hk
    refine ⟨trivial, ?_⟩
    cases hc2 : validB T
    · skip
      refine r_want 11 false (by kernel_rfl) rfl rfl (r_not rfl (r_pickF rfl (r_mv (r_skip 16 true (by kernel_rfl) rfl rfl (r_skip 16 true (by kernel_rfl) rfl rfl (r_skip 16 true (by kernel_rfl) rfl rfl (r_skip 16 true (by kernel_rfl) rfl rfl (r_skip 16 true (by kernel_rfl) rfl rfl (r_skip 16 true (by kernel_rfl) rfl rfl (r_skip 16 true (by kernel_rfl) rfl rfl (r_pickT rfl (r_mv (r_skip 25 true (by kernel_rfl) rfl rfl (r_skip 25 true (by kernel_rfl) rfl rfl (r_skip 25 true (by kernel_rfl) rfl rfl (r_skip 25 true (by kernel_rfl) rfl rfl (r_skip 25 true (by kernel_rfl) rfl rfl (r_pickT rfl (r_nil (q_t ?_))))))))))))))))))))
      refine w_true rfl ?_
      refine w_seq ?_
      refine w_reg ?_
      refine r_as (r_as (r_nil (q_t ?_)))
      refine w_ret (q_tr ?_)
      refine ⟨_, retV_2, ?_⟩
      exact postM_nil (by simp [conE, cfitB, hc2]) (by simp [conS, cfitB, hc2])
    · skip
      refine r_want 11 false (by kernel_rfl) rfl rfl (r_not rfl (r_pickF rfl (r_mv (r_want 16 false (by kernel_rfl) rfl rfl (r_mv (r_want 16 false (by kernel_rfl) rfl rfl (r_lenm sl_MM rfl HG (r_want 16 false (by kernel_rfl) rfl rfl (r_mv (r_want 16 false (by kernel_rfl) rfl rfl ?_))))))))))
      have hvG := valid_of hc1
      have hvT := valid_of hc2
      have hcA := hc1
      have hcB := hc2
      have hG1 := hvG.1
      have hT1 := hvT.1
      have hc0 := cols_eq (M := G) (by omega)
      refine r_ixm (n := 0) sl_MM rfl HG rfl (List.getElem?_eq_getElem (by omega)) fun a1 r1 ha1 hr1 => ?_
      refine r_want 16 false (by kernel_rfl) rfl rfl (r_ld na_I64 rfl ha1 (r_want 16 false (by kernel_rfl) rfl rfl (r_leni sl_I64 rfl hr1 (r_want 16 false (by kernel_rfl) rfl rfl (r_neq rfl rfl (fun hc3 => ?_) (fun hc3 => ?_))))))   -- t23 := binOp neq 3 t18 t22 3   [guard op8 false]
      · skip
        refine r_pickF rfl (r_mv (r_skip 25 true (by kernel_rfl) rfl rfl (r_skip 25 true (by kernel_rfl) rfl rfl (r_skip 25 true (by kernel_rfl) rfl rfl (r_skip 25 true (by kernel_rfl) rfl rfl (r_skip 25 true (by kernel_rfl) rfl rfl (r_pickT rfl (r_nil (q_t ?_)))))))))
        refine w_true rfl ?_
        refine w_seq ?_
        refine w_reg ?_
        refine r_as (r_as (r_nil (q_t ?_)))
        refine w_ret (q_tr ?_)
        refine ⟨_, retV_2, ?_⟩
        have hfit : cfitB G T = false := by simp [cfitB, hcA, hcB]; omega
        exact postM_nil (by simp [conE, hfit]) (by simp [conS, hfit])
      · skip
        refine r_pickF rfl (r_mv (r_want 25 false (by kernel_rfl) rfl rfl (r_mv (r_want 25 false (by kernel_rfl) rfl rfl (r_lenm sl_MM rfl HT (r_want 25 false (by kernel_rfl) rfl rfl (r_mv (r_want 25 false (by kernel_rfl) rfl rfl (r_lenm sl_MM rfl HG (r_want 25 false (by kernel_rfl) rfl rfl (r_neq rfl rfl (fun hc4 => ?_) (fun hc4 => ?_))))))))))))   -- t30 := binOp neq 3 t27 t29 3   [guard op17 false]
        · skip
          refine r_pickF rfl (r_nil (q_t ?_))
          refine w_true rfl ?_
          refine w_seq ?_
          refine w_reg ?_
          refine r_as (r_as (r_nil (q_t ?_)))
          refine w_ret (q_tr ?_)
          refine ⟨_, retV_2, ?_⟩
          have hfit : cfitB G T = false := by simp [cfitB, hcA, hcB]; omega
          exact postM_nil (by simp [conE, hfit]) (by simp [conS, hfit])
        · skip
          refine r_pickF rfl (r_nil (q_t ?_))
          refine w_false rfl ?_
          refine w_skip (q_t ?_)
          refine w_seq ?_
          refine w_seq ?_
          refine w_reg ?_
          refine r_mv (r_call trivial rfl (refmodulus_ok m h) fun v' h hk => ?_)
          obtain ⟨rfl, rfl⟩ := hk
          refine ⟨trivial, ?_⟩
          cases hc5 : modB m
          · skip
            refine r_not rfl (r_nil (q_t ?_))
            refine w_true rfl ?_
            refine w_seq ?_
            refine w_reg ?_
            refine r_as (r_as (r_nil (q_t ?_)))
            refine w_ret (q_tr ?_)
            refine ⟨_, retV_2, ?_⟩
            have hfit : cfitB G T = true := by simp [cfitB, hcA, hcB]; omega
            exact postM_nil (by simp [conE, hfit, hc5]) (by simp [conS, hc5])
          · skip
            refine r_not rfl (r_nil (q_t ?_))
            refine w_false rfl ?_
            refine w_skip (q_t ?_)
            refine w_seq ?_
            refine w_reg ?_
            refine r_mv ?_
            have hm := mod_of_modB hc5
            have hfit : cfitB G T = true := by simp [cfitB, hcA, hcB]; omega
            have hTc := hvT.2.2.1
            have hTc2 := hvT.2.2.2.1
            have hG16 := hvG.2.1
            have hT16 := hvT.2.1
            have hlG := red_len G m
            refine r_call trivial rfl (Transpose_ok HT (by omega) (by omega) (by omega) hvT.2.2.2.2) fun rt h2 hk => ?_
            obtain ⟨hE1, HM1, _⟩ := hk
            refine ⟨trivial, ?_⟩
            refine r_mv (r_mv (r_mv (r_call trivial rfl (refproduct_ok (HG.ext hE1) (HT.ext hE1) hm.1 hm.2 (by omega) (by omega) (by omega) (by omega) (by omega) (valid_pos hvG) (valid_pos hvT) (fun z hz => by rw [hvG.2.2.2.2 z hz]; omega) hvT.2.2.2.2) fun rp h3 hk => ?_)))
            obtain ⟨hE2, HF2⟩ := hk
            refine ⟨trivial, ?_⟩
            have hml := mul_len (redM G m) (redM T m) m
            have hmc := mul_cols (A := redM G m) (B := redM T m) (m := m) (by omega)
            have htl := trans_len T
            have hcT := cols_red T m
            refine r_mv (r_call trivial rfl (refproduct_ok (HM1.ext hE2) HF2.mat hm.1 hm.2 (by omega) (by omega) (by omega) (by omega) (by omega) (fun z hz => by rw [trans_rows _ z hz]; omega) (fun z hz => by rw [mul_rows z hz]; omega) (fun z hz => by rw [trans_rows _ z hz]; omega) (fun z hz => by rw [hmc]; exact mul_rows z hz)) fun r h4 hk => ?_)
            obtain ⟨hE3, HF3⟩ := hk
            refine ⟨trivial, ?_⟩
            rw [red_trans, red_of_rem (mul_rem (by omega))] at HF3
            refine r_as (r_as (r_nil (q_t ?_)))
            refine w_ret ?_
            refine ⟨_, retV_2, ?_⟩
            exact postM_mk (by simp [conE, hfit, hc5]) (by simp [conS, hfit, hc5]) (hE1.trans (hE2.trans hE3)) (HF3.mono (hE1.trans hE2).1)

end Go.Proofs.YtdlfineibanppaaDoor
