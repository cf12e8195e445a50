/-
  Contracts of the small functions that only read: the checks of matrices, moduli, and the comparison of matrices. Each says what the function returns for every argument that reads as the data named; conditions stand in each statement.
-/
import Derived.Test.YtccgaemmdikhcaaDoorTy
import Derived.Test.YtccgaemmdikhcaaDoorSpec
import Derived.Test.YtccgaemmdikhcaaDoorNum
namespace Go.Proofs.YtccgaemmdikhcaaDoor
open Go Go.QF
set_option linter.unusedVariables false
set_option maxRecDepth 100000

theorem valid_ok {h : Heap} {v : Value} {M : List (List Int)} (HM : Mat h v M) : CallH Tryd.prog 63 #[v] h fun r h' => h' = h ∧ r = .bool (validB M) := by
  refine calls_of_W (l := [_]) mx Tryd.func63 rfl rfl rfl rfl rfl (by kernel_rfl) ?_
  refine w_seq ?_
  refine w_reg ?_
  refine r_as (r_nil (q_t ?_))
  refine w_seq ?_
  refine w_seq ?_
  refine w_reg ?_
  refine r_mv (r_lenm sl_MM rfl HM (r_lss rfl rfl (fun hc1 => ?_) (fun hc1 => ?_)))   -- t7 := binOp lss 3 t6 1:i64 3
  · skip
    refine r_mv (r_skip 8 true (by kernel_rfl) rfl rfl (r_skip 8 true (by kernel_rfl) rfl rfl (r_skip 8 true (by kernel_rfl) rfl rfl (r_pickT rfl (r_mv (r_skip 13 true (by kernel_rfl) rfl rfl (r_skip 13 true (by kernel_rfl) rfl rfl (r_skip 13 true (by kernel_rfl) rfl rfl (r_skip 13 true (by kernel_rfl) rfl rfl (r_skip 13 true (by kernel_rfl) rfl rfl (r_pickT rfl (r_mv (r_skip 20 true (by kernel_rfl) rfl rfl (r_skip 20 true (by kernel_rfl) rfl rfl (r_skip 20 true (by kernel_rfl) rfl rfl (r_skip 20 true (by kernel_rfl) rfl rfl (r_skip 20 true (by kernel_rfl) rfl rfl (r_pickT rfl (r_nil (q_t ?_))))))))))))))))))))
    refine w_true rfl ?_
    refine w_seq ?_
    refine w_reg ?_
    refine r_as (r_nil (q_t ?_))
    refine w_ret (q_tr ?_)
    refine ⟨_, retV_1, ?_⟩
    exact ⟨rfl, show Value.bool false = _ from congrArg _ (validB_f (fun hv => by have := hv.1; omega))⟩
  · skip
    refine r_mv (r_want 8 false (by kernel_rfl) rfl rfl (r_mv (r_want 8 false (by kernel_rfl) rfl rfl (r_lenm sl_MM rfl HM (r_want 8 false (by kernel_rfl) rfl rfl (r_gtr rfl rfl (fun hc2 => ?_) (fun hc2 => ?_)))))))   -- t11 := binOp gtr 3 t10 16:i64 3   [guard op3 false]
    · skip
      refine r_pickF rfl (r_mv (r_skip 13 true (by kernel_rfl) rfl rfl (r_skip 13 true (by kernel_rfl) rfl rfl (r_skip 13 true (by kernel_rfl) rfl rfl (r_skip 13 true (by kernel_rfl) rfl rfl (r_skip 13 true (by kernel_rfl) rfl rfl (r_pickT rfl (r_mv (r_skip 20 true (by kernel_rfl) rfl rfl (r_skip 20 true (by kernel_rfl) rfl rfl (r_skip 20 true (by kernel_rfl) rfl rfl (r_skip 20 true (by kernel_rfl) rfl rfl (r_skip 20 true (by kernel_rfl) rfl rfl (r_pickT rfl (r_nil (q_t ?_))))))))))))))))
      refine w_true rfl ?_
      refine w_seq ?_
      refine w_reg ?_
      refine r_as (r_nil (q_t ?_))
      refine w_ret (q_tr ?_)
      refine ⟨_, retV_1, ?_⟩
      exact ⟨rfl, show Value.bool false = _ from congrArg _ (validB_f (fun hv => by have := hv.2.1; omega))⟩
    · skip
      refine r_pickF rfl (r_mv (r_want 13 false (by kernel_rfl) rfl rfl (r_mv (r_want 13 false (by kernel_rfl) rfl rfl (r_ixm (n := 0) sl_MM rfl HM rfl (List.getElem?_eq_getElem (by omega)) fun a1 r1 ha1 hr1 => ?_)))))
      refine r_want 13 false (by kernel_rfl) rfl rfl (r_ld na_I64 rfl ha1 (r_want 13 false (by kernel_rfl) rfl rfl (r_leni sl_I64 rfl hr1 (r_want 13 false (by kernel_rfl) rfl rfl (r_lss rfl rfl (fun hc3 => ?_) (fun hc3 => ?_))))))   -- t18 := binOp lss 3 t17 1:i64 3   [guard op8 false]
      · skip
        refine r_pickF rfl (r_mv (r_skip 20 true (by kernel_rfl) rfl rfl (r_skip 20 true (by kernel_rfl) rfl rfl (r_skip 20 true (by kernel_rfl) rfl rfl (r_skip 20 true (by kernel_rfl) rfl rfl (r_skip 20 true (by kernel_rfl) rfl rfl (r_pickT rfl (r_nil (q_t ?_)))))))))
        refine w_true rfl ?_
        refine w_seq ?_
        refine w_reg ?_
        refine r_as (r_nil (q_t ?_))
        refine w_ret (q_tr ?_)
        refine ⟨_, retV_1, ?_⟩
        exact ⟨rfl, show Value.bool false = _ from congrArg _ (validB_f (fun hv => by have := hv.2.2.1; have := cols_eq (M := M) (by omega); omega))⟩
      · skip
        refine r_pickF rfl (r_mv (r_want 20 false (by kernel_rfl) rfl rfl (r_mv (r_want 20 false (by kernel_rfl) rfl rfl (r_ixm (n := 0) sl_MM rfl HM rfl (List.getElem?_eq_getElem (by omega)) fun a2 r2 ha2 hr2 => ?_)))))
        refine r_want 20 false (by kernel_rfl) rfl rfl (r_ld na_I64 rfl ha2 (r_want 20 false (by kernel_rfl) rfl rfl (r_leni sl_I64 rfl hr2 (r_want 20 false (by kernel_rfl) rfl rfl (r_gtr rfl rfl (fun hc4 => ?_) (fun hc4 => ?_))))))   -- t25 := binOp gtr 3 t24 16:i64 3   [guard op15 false]
        · skip
          refine r_pickF rfl (r_nil (q_t ?_))
          refine w_true rfl ?_
          refine w_seq ?_
          refine w_reg ?_
          refine r_as (r_nil (q_t ?_))
          refine w_ret (q_tr ?_)
          refine ⟨_, retV_1, ?_⟩
          exact ⟨rfl, show Value.bool false = _ from congrArg _ (validB_f (fun hv => by have := hv.2.2.2.1; have := cols_eq (M := M) (by omega); omega))⟩
        · skip
          refine r_pickF rfl (r_nil (q_t ?_))
          refine w_false rfl ?_
          refine w_skip (q_t ?_)
          refine w_seq ?_
          refine w_seq ?_
          refine w_reg ?_
          refine r_mv (r_lenm sl_MM rfl HM (r_mv (r_nil (q_t ?_))))
          refine w_block ?_
          refine w_loop 2198486384660 (fun i : Nat => [(29, .int .i64 (i : Int))]) (fun k i h' => h' = h ∧ k = M.length - i ∧ i ≤ M.length ∧ ∀ j, j < i → ∀ hj : j < M.length, M[j].length = cols M) (by kernel_rfl) M.length 0 ?_ ⟨rfl, trivial⟩ ?_
          · exact ⟨rfl, by omega, by omega, fun j hj => by omega⟩
          rintro k i s h1 ⟨rfl, rfl, hi, hJ⟩
          refine w_seq ?_
          have hc0 := cols_eq (M := M) (by omega)
          refine w_reg ?_
          refine r_lss rfl rfl (fun hc5 => ?_) (fun hc5 => ?_)   -- t30 := binOp lss 3 t29 t28 3
          · skip
            refine r_nil (q_t ?_)
            refine w_seq ?_
            refine w_true rfl ?_
            refine w_skip (q_t ?_)
            refine w_seq ?_
            refine w_block ?_
            refine w_seq ?_
            refine w_reg ?_
            refine r_ixm sl_MM rfl HM rfl (List.getElem?_eq_getElem (by omega)) fun a3 r3 ha3 hr3 => ?_
            refine r_ld na_I64 rfl ha3 (r_as (r_nil (q_t ?_)))
            refine w_seq ?_
            refine w_reg ?_
            refine r_mv (r_leni sl_I64 rfl hr3 (r_mv (r_ixm (n := 0) sl_MM rfl HM rfl (List.getElem?_eq_getElem (by omega)) fun a4 r4 ha4 hr4 => ?_)))
            refine r_ld na_I64 rfl ha4 (r_leni sl_I64 rfl hr4 (r_neq rfl rfl (fun hc6 => ?_) (fun hc6 => ?_)))   -- t39 := binOp neq 3 t34 t38 3
            · skip
              refine r_nil (q_t ?_)
              refine w_true rfl ?_
              refine w_seq ?_
              refine w_reg ?_
              refine r_as (r_nil (q_t ?_))
              refine w_ret (q_br (q_tr (q_tr (q_br (q_tr ?_)))))
              refine ⟨_, retV_1, ?_⟩
              exact ⟨rfl, show Value.bool false = _ from congrArg _ (validB_f (fun hv => by have := hv.row (i := i) (by omega); omega))⟩
            · skip
              refine r_nil (q_t ?_)
              refine w_false rfl ?_
              refine w_skip (q_b (q_t ?_))
              refine w_reg ?_
              refine r_inc rfl (by omega) (r_mv (r_nil (q_t ?_)))
              exact ⟨M.length - (i + 1), i + 1, by omega, ⟨rfl, rfl, by omega, fun j hj hj2 => by rcases Nat.lt_succ_iff_lt_or_eq.1 hj with h | rfl; exact hJ j h hj2; omega⟩, rfl, trivial⟩
          · skip
            refine r_nil (q_t ?_)
            refine w_seq ?_
            refine w_false rfl ?_
            refine w_exit (q_tx (q_tx (q_bx (q_t ?_))))
            refine w_seq ?_
            refine w_reg ?_
            refine r_as (r_nil (q_t ?_))
            refine w_ret ?_
            refine ⟨_, retV_1, ?_⟩
            exact ⟨rfl, show Value.bool true = _ from congrArg _ (validB_t ⟨by omega, by omega, by omega, by omega, all_rows fun j hj => hJ j (by omega) hj⟩)⟩

theorem checkModulus_ok (m : Int) (h : Heap) : CallH Tryd.prog 43 #[.int .i64 m] h fun v h' => h' = h ∧ v = .int .i64 (if modB m then 0 else 1) := by
  refine calls_of_W (l := [_]) mx Tryd.func43 rfl rfl rfl rfl rfl (by kernel_rfl) ?_
  refine w_seq ?_
  refine w_reg ?_
  refine r_as (r_nil (q_t ?_))
  refine w_seq ?_
  refine w_seq ?_
  refine w_reg ?_
  refine r_mv (r_lss rfl rfl (fun hc1 => ?_) (fun hc1 => ?_))   -- t4 := binOp lss 2 t3 2:i64 2
  · skip
    refine r_mv (r_skip 5 true (by kernel_rfl) rfl rfl (r_skip 5 true (by kernel_rfl) rfl rfl (r_pickT rfl (r_nil (q_t ?_)))))
    refine w_true rfl ?_
    refine w_seq ?_
    refine w_reg ?_
    refine r_as (r_nil (q_t ?_))
    refine w_ret (q_tr ?_)
    refine ⟨_, retV_1, ?_⟩
    exact ⟨rfl, show Value.int .i64 1 = _ by rw [show modB m = false by simp [modB]; omega]; rfl⟩
  · skip
    refine r_mv (r_want 5 false (by kernel_rfl) rfl rfl (r_mv (r_want 5 false (by kernel_rfl) rfl rfl (r_gtr rfl rfl (fun hc2 => ?_) (fun hc2 => ?_)))))   -- t7 := binOp gtr 2 t6 2147483647:i64 2   [guard op2 false]
    · skip
      refine r_pickF rfl (r_nil (q_t ?_))
      refine w_true rfl ?_
      refine w_seq ?_
      refine w_reg ?_
      refine r_as (r_nil (q_t ?_))
      refine w_ret (q_tr ?_)
      refine ⟨_, retV_1, ?_⟩
      exact ⟨rfl, show Value.int .i64 1 = _ by rw [show modB m = false by simp [modB]; omega]; rfl⟩
    · skip
      refine r_pickF rfl (r_nil (q_t ?_))
      refine w_false rfl ?_
      refine w_skip (q_t ?_)
      refine w_seq ?_
      refine w_reg ?_
      refine r_as (r_nil (q_t ?_))
      refine w_ret ?_
      refine ⟨_, retV_1, ?_⟩
      exact ⟨rfl, show Value.int .i64 0 = _ by rw [show modB m = true by simp [modB]; omega]; rfl⟩

theorem small_ok {h : Heap} {v : Value} {M : List (List Int)} (HM : Mat h v M) : CallH Tryd.prog 42 #[v] h fun r h' => h' = h ∧ r = .bool (squareB M) := by
  refine calls_of_W (l := [_]) mx Tryd.func42 rfl rfl rfl rfl rfl (by kernel_rfl) ?_
  refine w_seq ?_
  refine w_reg ?_
  refine r_as (r_nil (q_t ?_))
  refine w_seq ?_
  refine w_reg ?_
  refine r_mv (r_call trivial rfl (valid_ok HM) fun v' h' hk => ?_)
  obtain ⟨rfl, rfl⟩ := hk
  refine ⟨trivial, ?_⟩
  cases hc1 : validB M
  · skip
    refine r_mv (r_skip 5 false (by kernel_rfl) rfl rfl (r_skip 5 false (by kernel_rfl) rfl rfl (r_skip 5 false (by kernel_rfl) rfl rfl (r_skip 5 false (by kernel_rfl) rfl rfl (r_skip 5 false (by kernel_rfl) rfl rfl (r_skip 5 false (by kernel_rfl) rfl rfl (r_skip 5 false (by kernel_rfl) rfl rfl (r_pickF rfl (r_mv (r_skip 14 false (by kernel_rfl) rfl rfl (r_skip 14 false (by kernel_rfl) rfl rfl (r_skip 14 false (by kernel_rfl) rfl rfl (r_pickF rfl (r_as (r_nil (q_t ?_))))))))))))))))
    refine w_ret ?_
    refine ⟨_, retV_1, ?_⟩
    exact ⟨rfl, show Value.bool false = _ by rw [show squareB M = false by simp [squareB, Square, not_valid_of hc1]]⟩
  · skip
    refine r_mv (r_want 5 true (by kernel_rfl) rfl rfl (r_mv (r_want 5 true (by kernel_rfl) rfl rfl (r_lenm sl_MM rfl HM (r_want 5 true (by kernel_rfl) rfl rfl (r_mv (r_want 5 true (by kernel_rfl) rfl rfl ?_)))))))
    have hv := valid_of hc1
    have hv1 := hv.1
    have hc0 := cols_eq (M := M) (by omega)
    refine r_ixm (n := 0) sl_MM rfl HM rfl (List.getElem?_eq_getElem (by omega)) fun a1 r1 ha1 hr1 => ?_
    refine r_want 5 true (by kernel_rfl) rfl rfl (r_ld na_I64 rfl ha1 (r_want 5 true (by kernel_rfl) rfl rfl (r_leni sl_I64 rfl hr1 (r_want 5 true (by kernel_rfl) rfl rfl (r_eql rfl rfl (fun hc2 => ?_) (fun hc2 => ?_))))))   -- t12 := binOp eql 3 t7 t11 3   [guard op2 true]
    · skip
      refine r_pickT rfl (r_mv (r_want 14 true (by kernel_rfl) rfl rfl (r_mv (r_want 14 true (by kernel_rfl) rfl rfl (r_lenm sl_MM rfl HM (r_want 14 true (by kernel_rfl) rfl rfl (r_leq rfl rfl (fun hc3 => ?_) (fun hc3 => ?_))))))))   -- t17 := binOp leq 3 t16 8:i64 3   [guard op11 true]
      · skip
        refine r_pickT rfl (r_as (r_nil (q_t ?_)))
        refine w_ret ?_
        refine ⟨_, retV_1, ?_⟩
        exact ⟨rfl, show Value.bool true = _ by rw [show squareB M = true by simp [squareB, Square, hv]; omega]⟩
      · skip
        refine r_pickT rfl (r_as (r_nil (q_t ?_)))
        refine w_ret ?_
        refine ⟨_, retV_1, ?_⟩
        exact ⟨rfl, show Value.bool false = _ by rw [show squareB M = false by simp only [squareB, decide_eq_false_iff_not]; rintro ⟨_, _, _⟩; omega]⟩
    · skip
      refine r_pickT rfl (r_mv (r_skip 14 false (by kernel_rfl) rfl rfl (r_skip 14 false (by kernel_rfl) rfl rfl (r_skip 14 false (by kernel_rfl) rfl rfl (r_pickF rfl (r_as (r_nil (q_t ?_))))))))
      refine w_ret ?_
      refine ⟨_, retV_1, ?_⟩
      exact ⟨rfl, show Value.bool false = _ by rw [show squareB M = false by simp only [squareB, decide_eq_false_iff_not]; rintro ⟨_, _, _⟩; omega]⟩

theorem Mod_ok (a : Int) {m : Int} (hm : 0 < m) (hm2 : m ≤ 9223372036854775807) (h : Heap) : CallH Tryd.prog 17 #[.int .i64 a, .int .i64 m] h fun v h' => h' = h ∧ v = .int .i64 (a % m) := by
  have hb := tmod_bd (x := a) hm
  refine calls_of_W (l := [_, _]) mx Tryd.func17 rfl rfl rfl rfl rfl (by kernel_rfl) ?_
  refine w_seq ?_
  refine w_reg ?_
  refine r_as (r_nil (q_t ?_))
  refine w_seq ?_
  refine w_reg ?_
  refine r_mv (r_mv (r_rem rfl rfl (by omega) (r_as (r_nil (q_t ?_)))))
  refine w_seq ?_
  refine w_seq ?_
  refine w_reg ?_
  refine r_mv (r_lss rfl rfl (fun hc1 => ?_) (fun hc1 => ?_))   -- t10 := binOp lss 2 t9 0:i64 2
  · skip
    refine r_nil (q_t ?_)
    refine w_true rfl ?_
    refine w_reg ?_
    refine r_mv (r_mv (r_addb rfl rfl (by omega) (by omega) (r_as (r_nil (q_t ?_)))))
    refine w_seq ?_
    refine w_reg ?_
    refine r_mv (r_as (r_nil (q_t ?_)))
    refine w_ret ?_
    refine ⟨_, retV_1, ?_⟩
    exact ⟨rfl, show Value.int .i64 (a.tmod m + m) = _ by rw [← tmod_add_mod hm, Int.emod_eq_of_lt (by omega) (by omega)]⟩
  · skip
    refine r_nil (q_t ?_)
    refine w_false rfl ?_
    refine w_skip (q_t ?_)
    refine w_seq ?_
    refine w_reg ?_
    refine r_mv (r_as (r_nil (q_t ?_)))
    refine w_ret ?_
    refine ⟨_, retV_1, ?_⟩
    exact ⟨rfl, show Value.int .i64 (a.tmod m) = _ by rw [← tmod_add_mod hm, Int.add_emod_right, Int.emod_eq_of_lt (by omega) (by omega)]⟩

theorem refIs_ok (n : Int) (h : Heap) : CallH Tryd.prog 77 #[.int .i64 n] h fun v h' => h' = h ∧ v = .bool (primeB n) := by
  refine calls_of_W (l := [_]) mx Tryd.func77 rfl rfl rfl rfl rfl (by kernel_rfl) ?_
  refine w_seq ?_
  refine w_reg ?_
  refine r_as (r_nil (q_t ?_))
  refine w_seq ?_
  refine w_seq ?_
  refine w_reg ?_
  refine r_mv (r_lss rfl rfl (fun hc1 => ?_) (fun hc1 => ?_))   -- t5 := binOp lss 2 t4 2:i64 2
  · skip
    refine r_mv (r_skip 6 true (by kernel_rfl) rfl rfl (r_skip 6 true (by kernel_rfl) rfl rfl (r_pickT rfl (r_nil (q_t ?_)))))
    refine w_true rfl ?_
    refine w_seq ?_
    refine w_reg ?_
    refine r_as (r_nil (q_t ?_))
    refine w_ret (q_tr ?_)
    refine ⟨_, retV_1, ?_⟩
    exact ⟨rfl, show Value.bool false = _ from congrArg _ (primeB_f (fun hp => by have := hp.2.1; omega))⟩
  · skip
    refine r_mv (r_want 6 false (by kernel_rfl) rfl rfl (r_mv (r_want 6 false (by kernel_rfl) rfl rfl (r_gtr rfl rfl (fun hc2 => ?_) (fun hc2 => ?_)))))   -- t8 := binOp gtr 2 t7 2147483647:i64 2   [guard op2 false]
    · skip
      refine r_pickF rfl (r_nil (q_t ?_))
      refine w_true rfl ?_
      refine w_seq ?_
      refine w_reg ?_
      refine r_as (r_nil (q_t ?_))
      refine w_ret (q_tr ?_)
      refine ⟨_, retV_1, ?_⟩
      exact ⟨rfl, show Value.bool false = _ from congrArg _ (primeB_f (fun hp => by omega))⟩
    · skip
      refine r_pickF rfl (r_nil (q_t ?_))
      refine w_false rfl ?_
      refine w_skip (q_t ?_)
      refine w_seq ?_
      refine w_seq ?_
      refine w_reg ?_
      refine r_as (r_nil (q_t ?_))
      refine w_block ?_
      refine w_loop 2096140 (fun d : Int => [(3, .int .i64 d)]) (fun k d h' => h' = h ∧ k = (50000 - d).toNat ∧ 2 ≤ d ∧ (d - 1) * (d - 1) ≤ n ∧ ∀ c, 2 ≤ c → c < d → n % c ≠ 0) (by kernel_rfl) 49998 2 ?_ ⟨rfl, trivial⟩ ?_
      · exact ⟨rfl, rfl, by omega, by omega, fun c h1 h2 => by omega⟩
      rintro k d s h1 ⟨rfl, rfl, hd, hsq, hJ⟩
      have hd46 := sq_bd (x := d - 1) (by omega) (by omega)
      have hdd := mul_bd (a := d) (b := d) (A := 46341) (B := 46341) (by omega) (by omega) (by omega) (by omega)
      refine w_seq ?_
      refine w_seq ?_
      refine w_reg ?_
      refine r_mv (r_mv (r_mulb rfl rfl (by omega) (by omega) (r_mv (r_leq rfl rfl (fun hc3 => ?_) (fun hc3 => ?_)))))   -- t14 := binOp leq 2 t12 t13 2
      · skip
        refine r_nil (q_t ?_)
        refine w_true rfl ?_
        refine w_skip (q_t ?_)
        refine w_seq ?_
        refine w_block ?_
        refine w_seq ?_
        refine w_reg ?_
        refine r_mv (r_mv (r_remp rfl rfl (by omega) (by omega) (r_eql rfl rfl (fun hc4 => ?_) (fun hc4 => ?_))))   -- t20 := binOp eql 2 t19 0:i64 2
        · skip
          refine r_nil (q_t ?_)
          refine w_true rfl ?_
          refine w_seq ?_
          refine w_reg ?_
          refine r_as (r_nil (q_t ?_))
          refine w_ret (q_br (q_tr (q_tr (q_br (q_tr ?_)))))
          refine ⟨_, retV_1, ?_⟩
          exact ⟨rfl, show Value.bool false = _ from congrArg _ (primeB_f (fun hp => not_pr_of hd (lt_of_sq hd (by omega)) (by assumption) hp.2))⟩
        · skip
          refine r_nil (q_t ?_)
          refine w_false rfl ?_
          refine w_skip (q_b (q_t ?_))
          refine w_reg ?_
          refine r_mv (r_addb rfl rfl (by omega) (by omega) (r_as (r_nil (q_t ?_))))
          refine ⟨(50000 - (d + 1)).toNat, d + 1, by omega, ⟨rfl, rfl, by omega, by rw [show d + 1 - 1 = d by omega]; omega, fun c h1 h2 => ?_⟩, rfl, trivial⟩
          rcases lt_ge c d with h3 | h3
          · exact hJ c h1 h3
          · obtain rfl : c = d := by omega
            assumption
      · skip
        refine r_nil (q_t ?_)
        refine w_false rfl ?_
        refine w_exit (q_tx (q_tx (q_bx (q_t ?_))))
        refine w_seq ?_
        refine w_reg ?_
        refine r_as (r_nil (q_t ?_))
        refine w_ret ?_
        refine ⟨_, retV_1, ?_⟩
        exact ⟨rfl, show Value.bool true = _ from congrArg _ (primeB_t (by omega) (pr_of_sqrt (by omega) hd (by omega) hJ))⟩

theorem small_div {n p : Int} (hn : 2 ≤ n) (hp : p = 2 ∨ p = 3 ∨ p = 5) (hm : n % p = 0) : p = n ↔ Pr n := by
  constructor
  · rintro rfl
    refine ⟨hn, fun d h1 h2 h3 => ?_⟩
    have : d = 2 ∨ d = 3 ∨ d = 4 := by omega
    rcases hp with rfl | rfl | rfl <;> rcases this with rfl | rfl | rfl <;> omega
  · intro h
    rcases lt_ge p n with h1 | h1
    · exact absurd hm (h.2 p (by omega) h1)
    · rcases hp with rfl | rfl | rfl <;> omega
def pv (i : Nat) : Int := [2, 3, 5][i]?.getD 0
theorem pv_or {i : Nat} (hi : i < 3) : pv i = 2 ∧ i = 0 ∨ pv i = 3 ∧ i = 1 ∨ pv i = 5 ∧ i = 2 := by
  have : i = 0 ∨ i = 1 ∨ i = 2 := by omega
  rcases this with rfl | rfl | rfl <;> simp [pv]
theorem idx3 {i : Nat} (hi : i < 3) (w : World) : (Instr.index 104 (.agg #[.int .i64 2, .int .i64 3, .int .i64 5]) (.int .i64 (i : Int))).run Tryd.prog w = .ok (.int .i64 (pv i)) w := by
  have : i = 0 ∨ i = 1 ∨ i = 2 := by omega
  rcases this with rfl | rfl | rfl <;> (show _ = _; kernel_rfl)
theorem idx8 {i : Nat} (hi : i < 8) (w : World) : (Instr.index 121 (.agg (offs.map (Value.int .i64)).toArray) (.int .i64 (i : Int))).run Tryd.prog w = .ok (.int .i64 (offn i)) w := by
  have : i = 0 ∨ i = 1 ∨ i = 2 ∨ i = 3 ∨ i = 4 ∨ i = 5 ∨ i = 6 ∨ i = 7 := by omega
  rcases this with rfl | rfl | rfl | rfl | rfl | rfl | rfl | rfl <;> (show _ = _; kernel_rfl)

theorem least_ok {n : Int} (hn : 2 ≤ n) (hn2 : n ≤ 2147483647) {h : Heap} (HO : OffH h) : CallH Tryd.prog 76 #[.int .i64 n] h fun v h' => h' = h ∧ ∃ f, v = .int .i64 f ∧ (f = n ↔ Pr n) := by
  refine calls_of_W (l := [_]) mx Tryd.func76 rfl rfl rfl rfl rfl (by kernel_rfl) ?_
  refine w_seq ?_
  refine w_reg ?_
  refine r_as (r_nil (q_t ?_))
  refine w_scope ?_
  refine w_seq ?_
  refine w_seq ?_
  refine w_reg ?_
  refine r_build (v := .agg #[.int .i64 2, .int .i64 3, .int .i64 5]) (fun _ => by kernel_rfl) ?_
  refine r_mv (r_nil (q_t ?_))
  refine w_block ?_
  refine w_loop 1046548 (fun i : Nat => [(11, .int .i64 (i : Int))]) (fun k i h' => h' = h ∧ k = 3 - i ∧ i ≤ 3 ∧ (1 ≤ i → n % 2 ≠ 0) ∧ (2 ≤ i → n % 3 ≠ 0) ∧ (3 ≤ i → n % 5 ≠ 0)) (by kernel_rfl) 3 0 ?_ ⟨rfl, trivial⟩ ?_
  · exact ⟨rfl, rfl, by omega, fun h => by omega, fun h => by omega, fun h => by omega⟩
  rintro k i s h1 ⟨rfl, rfl, hi, h2, h3, h5⟩
  refine w_seq ?_
  refine w_reg ?_
  refine r_lss rfl rfl (fun hc1 => ?_) (fun hc1 => ?_)   -- t12 := binOp lss 3 t11 3:i64 3
  · skip
    refine r_nil (q_t ?_)
    refine w_seq ?_
    refine w_true rfl ?_
    refine w_skip (q_t ?_)
    refine w_seq ?_
    refine w_block ?_
    refine w_seq ?_
    refine w_reg ?_
    refine r_idx (cs := #[]) (v := undef) (idx3 (by omega)) ?_
    refine r_as (r_nil (q_t ?_))
    refine w_seq ?_
    refine w_reg ?_
    refine r_mv (r_mv (r_remp rfl rfl (by omega) (by have := pv_or (i := i) (by omega); omega) (r_eql rfl rfl (fun hc2 => ?_) (fun hc2 => ?_))))   -- t17 := binOp eql 2 t16 0:i64 2
    · skip
      refine r_nil (q_t ?_)
      refine w_true rfl ?_
      refine w_seq ?_
      refine w_reg ?_
      refine r_mv (r_as (r_nil (q_t ?_)))
      refine w_ret (q_br (q_tr (q_tr (q_br (q_tr (q_sr ?_))))))
      refine ⟨_, retV_1, ?_⟩
      exact ⟨rfl, pv i, rfl, small_div (by omega) (by have := pv_or (i := i) (by omega); omega) (by assumption)⟩
    · skip
      refine r_nil (q_t ?_)
      refine w_false rfl ?_
      refine w_skip (q_b (q_t ?_))
      refine w_reg ?_
      refine r_inc rfl (by omega) (r_mv (r_nil (q_t ?_)))
      have hp := pv_or (i := i) (by omega)
      exact ⟨3 - (i + 1), i + 1, by omega, ⟨rfl, rfl, by omega, fun h => by rcases hp with ⟨e, _⟩ | ⟨e, _⟩ | ⟨e, _⟩ <;> first | (rw [e] at hc2; exact hc2) | exact h2 (by omega), fun h => by rcases hp with ⟨e, _⟩ | ⟨e, _⟩ | ⟨e, _⟩ <;> first | omega | (rw [e] at hc2; exact hc2) | exact h3 (by omega), fun h => by rcases hp with ⟨e, _⟩ | ⟨e, _⟩ | ⟨e, _⟩ <;> first | omega | (rw [e] at hc2; exact hc2)⟩, rfl, trivial⟩
  · skip
    refine r_nil (q_t ?_)
    refine w_seq ?_
    refine w_false rfl ?_
    refine w_exit (q_tx (q_tx (q_bx (q_t ?_))))
    refine w_seq ?_
    refine w_reg ?_
    refine r_mv (r_as (r_nil (q_t ?_)))
    refine w_seq ?_
    refine w_label (q_t ?_)
    refine w_seq ?_
    refine w_seq ?_
    refine w_reg ?_
    refine r_as (r_nil (q_t ?_))
    refine w_block ?_
    have h2 := h2 (by omega)
    have h3 := h3 (by omega)
    have h5 := h5 (by omega)
    refine w_loop 2199021159264 (fun b : Int => [(5, .int .i64 n), (6, .int .i64 b)]) (fun k b h' => h' = h1 ∧ k = (50000 - b).toNat ∧ 0 ≤ b ∧ b ≤ 46400 ∧ b % 30 = 0 ∧ ∀ d, 2 ≤ d → d < b + 7 → n % d ≠ 0) (by kernel_rfl) 50000 0 ?_ ⟨rfl, rfl, trivial⟩ ?_
    · exact ⟨rfl, rfl, by omega, by omega, by omega, fun d a b => wheel0 h2 h3 h5 d a (by omega)⟩
    rintro k b s h1 ⟨rfl, rfl, hb0, hb1, hb30, hJ⟩
    refine w_seq ?_
    refine w_block ?_
    refine w_seq ?_
    refine w_reg ?_
    refine r_ldA (offs.map (Value.int .i64)) ag_offs rfl rfl (fun i u hu => by rw [addr_add, Nat.zero_add]; exact HO i u hu) ?_
    refine r_mv (r_nil (q_t ?_))
    refine w_block ?_
    refine w_loop 2199006479136 (fun j : Nat => [(24, .int .i64 (j : Int)), (5, .int .i64 n)]) (fun k j h' => h' = h1 ∧ k = 8 - j ∧ j ≤ 8 ∧ (1 ≤ j → (b + offn (j - 1)) * (b + offn (j - 1)) ≤ n) ∧ ∀ d, 2 ≤ d → d < b + offn j → n % d ≠ 0) (by kernel_rfl) 8 0 ?_ ⟨rfl, rfl, trivial⟩ ?_
    · exact ⟨rfl, rfl, by omega, fun h => by omega, hJ⟩
    rintro k j s h1 ⟨rfl, rfl, hj, hj2, hjJ⟩
    refine w_seq ?_
    refine w_reg ?_
    refine r_lss rfl rfl (fun hc3 => ?_) (fun hc3 => ?_)   -- t25 := binOp lss 3 t24 8:i64 3
    · skip
      refine r_nil (q_t ?_)
      refine w_seq ?_
      refine w_true rfl ?_
      refine w_skip (q_t ?_)
      refine w_seq ?_
      refine w_block ?_
      refine w_seq ?_
      refine w_reg ?_
      refine r_idx (cs := #[]) (v := undef) (idx8 (by omega)) ?_
      refine r_as (r_nil (q_t ?_))
      refine w_seq ?_
      refine w_reg ?_
      refine r_mv (r_mv (r_addb rfl rfl (by have := offn_bd (j := j) (by omega); omega) (by have := offn_bd (j := j) (by omega); omega) (r_as (r_nil (q_t ?_)))))
      refine w_seq ?_
      refine w_seq ?_
      refine w_reg ?_
      refine r_mv (r_mv (r_mulb rfl rfl (by have := offn_bd (j := j) (by omega); have := mul_bd (a := b + offn j) (b := b + offn j) (A := 47000) (B := 47000) (by omega) (by omega) (by omega) (by omega); omega) (by have := offn_bd (j := j) (by omega); have := mul_bd (a := b + offn j) (b := b + offn j) (A := 47000) (B := 47000) (by omega) (by omega) (by omega) (by omega); omega) (r_mv (r_gtr rfl rfl (fun hc4 => ?_) (fun hc4 => ?_)))))   -- t34 := binOp gtr 2 t32 t33 2
      · skip
        refine r_nil (q_t ?_)
        refine w_true rfl ?_
        refine w_exit (q_tx (q_bn (by decide) (q_tx (q_tx (q_bn (by decide) (q_bn (by decide) (q_tx (q_tx (q_bx (q_t ?_))))))))))
        refine w_seq ?_
        refine w_reg ?_
        refine r_mv (r_as (r_nil (q_t ?_)))
        refine w_ret (q_sr ?_)
        refine ⟨_, retV_1, ?_⟩
        have hob := offn_bd (j := j) (by omega)
        exact ⟨rfl, n, rfl, ⟨fun _ => pr_of_sqrt (by omega) (d := b + offn j) (by omega) (by omega) hjJ, fun _ => rfl⟩⟩
      · skip
        refine r_nil (q_t ?_)
        refine w_false rfl ?_
        refine w_skip (q_t ?_)
        refine w_seq ?_
        refine w_reg ?_
        refine r_mv (r_mv (r_remp rfl rfl (by omega) (by have := offn_bd (j := j) (by omega); omega) (r_eql rfl rfl (fun hc5 => ?_) (fun hc5 => ?_))))   -- t38 := binOp eql 2 t37 0:i64 2
        · skip
          refine r_nil (q_t ?_)
          refine w_true rfl ?_
          refine w_seq ?_
          refine w_reg ?_
          refine r_mv (r_as (r_nil (q_t ?_)))
          refine w_exit (q_bn (by decide) (q_tx (q_tx (q_bn (by decide) (q_bn (by decide) (q_tx (q_tx (q_bx (q_t ?_)))))))))
          refine w_seq ?_
          refine w_reg ?_
          refine r_mv (r_as (r_nil (q_t ?_)))
          refine w_ret (q_sr ?_)
          refine ⟨_, retV_1, ?_⟩
          have hob := offn_bd (j := j) (by omega)
          have hlt := lt_of_sq (n := n) (d := b + offn j) (by omega) (by omega)
          exact ⟨rfl, b + offn j, rfl, ⟨fun he => by omega, fun hp => absurd (by assumption) (hp.2 (b + offn j) (by omega) hlt)⟩⟩
        · skip
          refine r_nil (q_t ?_)
          refine w_false rfl ?_
          refine w_skip (q_b (q_t ?_))
          refine w_reg ?_
          refine r_inc rfl (by omega) (r_mv (r_nil (q_t ?_)))
          exact ⟨8 - (j + 1), j + 1, by omega, ⟨rfl, rfl, by omega, fun h => by rw [show j + 1 - 1 = j by omega]; omega, wheel h2 h3 h5 hjJ (by assumption) (offs_step hb30 (by omega))⟩, rfl, rfl, trivial⟩
    · skip
      refine r_nil (q_t ?_)
      refine w_seq ?_
      refine w_false rfl ?_
      refine w_exit (q_tx (q_tx (q_bx (q_b (q_t ?_)))))
      refine w_reg ?_
      refine r_mv (r_addb rfl rfl (by omega) (by omega) (r_as (r_nil (q_t ?_))))
      have hsq := hj2 (by omega)
      have h46 := sq_bd (x := b + offn (j - 1)) (by have := offn_bd (j := j - 1) (by omega); omega) (by omega)
      obtain rfl : j = 8 := by omega
      have e7 : offn (8 - 1) = 31 := rfl
      exact ⟨(50000 - (b + 30)).toNat, b + 30, by omega, ⟨rfl, rfl, by omega, by omega, by omega, fun d a c => hjJ d a (by have : offn 8 = 37 := rfl; omega)⟩, rfl, rfl, trivial⟩

theorem Is_ok (n : Int) {h : Heap} (HO : OffH h) : CallH Tryd.prog 61 #[.int .i64 n] h fun v h' => h' = h ∧ v = .bool (primeB n) := by
  refine calls_of_W (l := [_]) mx Tryd.func61 rfl rfl rfl rfl rfl (by kernel_rfl) ?_
  refine w_seq ?_
  refine w_reg ?_
  refine r_as (r_nil (q_t ?_))
  refine w_seq ?_
  refine w_reg ?_
  refine r_mv (r_geq rfl rfl (fun hc1 => ?_) (fun hc1 => ?_))   -- t4 := binOp geq 2 t3 2:i64 2
  · skip
    refine r_mv (r_want 5 true (by kernel_rfl) rfl rfl (r_mv (r_want 5 true (by kernel_rfl) rfl rfl (r_leq rfl rfl (fun hc2 => ?_) (fun hc2 => ?_)))))   -- t7 := binOp leq 2 t6 2147483647:i64 2   [guard op2 true]
    · skip
      refine r_pickT rfl (r_mv (r_want 9 true (by kernel_rfl) rfl rfl (r_mv (r_want 9 true (by kernel_rfl) rfl rfl (r_call trivial rfl (least_ok (by omega) (by omega) HO) fun v' h' hk => ?_)))))
      obtain ⟨rfl, f, rfl, hf⟩ := hk
      refine ⟨trivial, ?_⟩
      refine r_want 9 true (by kernel_rfl) rfl rfl (r_mv (r_want 9 true (by kernel_rfl) rfl rfl (r_eql rfl rfl (fun hc3 => ?_) (fun hc3 => ?_))))   -- t13 := binOp eql 2 t11 t12 2   [guard op6 true]
      · skip
        refine r_pickT rfl (r_as (r_nil (q_t ?_)))
        refine w_ret ?_
        refine ⟨_, retV_1, ?_⟩
        exact ⟨rfl, show Value.bool true = _ from congrArg _ (primeB_t (by omega) (hf.1 (by assumption)))⟩
      · skip
        refine r_pickT rfl (r_as (r_nil (q_t ?_)))
        refine w_ret ?_
        refine ⟨_, retV_1, ?_⟩
        exact ⟨rfl, show Value.bool false = _ from congrArg _ (primeB_f fun hp => absurd (hf.2 hp.2) (by assumption))⟩
    · skip
      refine r_pickT rfl (r_mv (r_skip 9 false (by kernel_rfl) rfl rfl (r_skip 9 false (by kernel_rfl) rfl rfl (r_skip 9 false (by kernel_rfl) rfl rfl (r_skip 9 false (by kernel_rfl) rfl rfl (r_pickF rfl (r_as (r_nil (q_t ?_)))))))))
      refine w_ret ?_
      refine ⟨_, retV_1, ?_⟩
      exact ⟨rfl, show Value.bool false = _ from congrArg _ (primeB_f fun hp => by omega)⟩
  · skip
    refine r_mv (r_skip 5 false (by kernel_rfl) rfl rfl (r_skip 5 false (by kernel_rfl) rfl rfl (r_pickF rfl (r_mv (r_skip 9 false (by kernel_rfl) rfl rfl (r_skip 9 false (by kernel_rfl) rfl rfl (r_skip 9 false (by kernel_rfl) rfl rfl (r_skip 9 false (by kernel_rfl) rfl rfl (r_pickF rfl (r_as (r_nil (q_t ?_))))))))))))
    refine w_ret ?_
    refine ⟨_, retV_1, ?_⟩
    exact ⟨rfl, show Value.bool false = _ from congrArg _ (primeB_f fun hp => by have := hp.2.1; omega)⟩

end Go.Proofs.YtccgaemmdikhcaaDoor
