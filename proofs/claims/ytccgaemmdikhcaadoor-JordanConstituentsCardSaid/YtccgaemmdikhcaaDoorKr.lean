/-
  Symbols at an odd prime: the walks of prime.residue, jacobi, Kronecker, of the reference's Legendre, of the tests of odd primes. Conditions stand in each statement.
-/
import Derived.Test.YtccgaemmdikhcaaDoorJac
import Derived.Test.YtccgaemmdikhcaaDoorRead2
import Derived.Test.YtccgaemmdikhcaaDoorBox
namespace Go.Proofs.YtccgaemmdikhcaaDoor
open Go Go.QF
set_option linter.unusedVariables false
set_option linter.unusedSimpArgs false
set_option maxRecDepth 100000
theorem tmod_mod (a : Int) {n : Int} : a.tmod n % n = a % n := by
  rw [Int.tmod_def, Int.sub_emod, Int.mul_emod_right, Int.sub_zero, Int.emod_emod]
theorem tmod_rng (a : Int) {n : Int} (hn : 0 < n) : -n < a.tmod n ∧ a.tmod n < n := by
  have h := Int.tmod_lt_of_pos a hn
  refine ⟨?_, h⟩
  have := Int.tmod_lt_of_pos (-a) hn
  rw [Int.neg_tmod] at this
  omega
theorem tmod_zero {a n : Int} : a.tmod n = 0 ↔ a % n = 0 := by
  rw [← Int.dvd_iff_tmod_eq_zero, ← Int.dvd_iff_emod_eq_zero]
theorem neg_pm {s : Int} (h : s = 1 ∨ s = -1) : IntKind.i64.wrap (0 - s) = -s := by rcases h with rfl | rfl <;> decide
theorem pm_neg {s : Int} (h : s = 1 ∨ s = -1) : -s = 1 ∨ -s = -1 := by rcases h with rfl | rfl <;> simp
theorem quo2 {a : Int} (h0 : 0 ≤ a) (h1 : a ≤ 2147483647) : IntKind.i64.wrap (a.tdiv 2) = a / 2 := by
  rw [Int.tdiv_eq_ediv_of_nonneg h0, IntKind.wrap_i64]; omega
theorem lg_rng {p : Int} (hp : OPr p) (a : Int) : lg p a = 0 ∨ lg p a = 1 ∨ lg p a = -1 := by
  unfold lg
  split
  · exact .inl rfl
  · split <;> simp
theorem wrap_lg {p : Int} (hp : OPr p) (a : Int) : IntKind.i64.wrap (1 * lg p a) = lg p a := by
  rcases lg_rng hp a with h | h | h <;> rw [h] <;> decide

theorem residue_ok (a : Int) {n : Int} (hn : 0 < n) (hn2 : n ≤ 2147483647) (h : Heap) : CallH Tryd.prog 46 #[.int .i64 a, .int .i64 n] h fun x h' => h' = h ∧ x = .int .i64 (a % n) := by
  refine calls_of_W (l := [_, _]) mx Tryd.func46 rfl rfl rfl rfl rfl (by kernel_rfl) ?_
  refine w_seq ?_
  refine w_reg ?_
  refine r_as (r_nil (q_t ?_))
  refine w_seq ?_
  refine w_reg ?_
  refine r_mv (r_mv (r_rem rfl rfl (by omega) ?_))
  refine r_mv ?_
  have ht := tmod_rng a hn
  refine r_addb rfl rfl (by omega) (by omega) ?_
  refine r_mv (r_remp rfl rfl (by omega) (by omega) ?_)
  rw [show (a.tmod n + n) % n = a % n by rw [Int.add_emod_right, tmod_mod]]
  refine r_as (r_nil (q_t ?_))
  refine w_ret ?_
  refine ⟨_, retV_1, ?_⟩
  exact ⟨rfl, rfl⟩

theorem jacobi_ok {p a : Int} (hp : OPr p) (hp2 : p ≤ 2147483647) (h0 : 0 ≤ a) (h1 : a < p) (h : Heap) : CallH Tryd.prog 47 #[.int .i64 a, .int .i64 p] h fun x h' => h' = h ∧ x = .int .i64 (lg p a) := by
  have hp3 := hp.three
  refine calls_of_W (l := [_, _]) mx Tryd.func47 rfl rfl rfl rfl rfl (by kernel_rfl) ?_
  refine w_seq ?_
  refine w_reg ?_
  refine r_as (r_nil (q_t ?_))
  refine w_seq ?_
  refine w_reg ?_
  refine r_as (r_nil (q_t ?_))
  refine w_seq ?_
  refine w_block ?_
  refine w_loop 137438953443 (fun y : Int × Int × Int => [(0, .int .i64 y.1), (1, .int .i64 y.2.1), (5, .int .i64 y.2.2)]) (fun k y h' => h' = h ∧ k = y.1.toNat ∧ 0 ≤ y.1 ∧ y.1 ≤ 2147483647 ∧ y.2.1 ≤ 2147483647 ∧ (y.2.2 = 1 ∨ y.2.2 = -1) ∧ JInv (lg p a) y.2.2 y.1 y.2.1) (by kernel_rfl) a.toNat (a, p, 1) ?_ ⟨rfl, rfl, rfl, trivial⟩ ?_
  · exact ⟨rfl, rfl, by dsimp only; omega, by dsimp only; omega, by dsimp only; omega, .inl rfl, jinv_start hp⟩
  rintro k ⟨a1, n, s⟩ s1 h ⟨rfl, rfl, ha0, ha1, hn1, hs, hJ⟩
  dsimp only at ha0 ha1 hn1 hs hJ ⊢
  have hno := jinv_odd hJ
  refine w_seq ?_
  refine w_seq ?_
  refine w_reg ?_
  refine r_mv (r_neq rfl rfl (fun hc1 => ?_) (fun hc1 => ?_))   -- t7 := binOp neq 2 t6 0:i64 2
  · skip
    refine r_nil (q_t ?_)
    refine w_true rfl ?_
    refine w_skip (q_t ?_)
    refine w_block ?_
    refine w_seq ?_
    refine w_block ?_
    refine w_loop 8388385 (fun y : Int × Int => [(0, .int .i64 y.1), (5, .int .i64 y.2)]) (fun k y h' => h' = h ∧ k = y.1.toNat ∧ 0 < y.1 ∧ y.1 ≤ a1 ∧ (y.2 = 1 ∨ y.2 = -1) ∧ JInv (lg p a) y.2 y.1 n) (by kernel_rfl) a1.toNat (a1, s) ?_ ⟨rfl, rfl, trivial⟩ ?_
    · exact ⟨rfl, rfl, by dsimp only; omega, by dsimp only; omega, hs, hJ⟩
    rintro k ⟨b, s2⟩ s3 h ⟨rfl, rfl, hb0, hb1, hs2, hJi⟩
    dsimp only at hb0 hb1 hs2 hJi ⊢
    refine w_seq ?_
    refine w_seq ?_
    refine w_reg ?_
    refine r_mv (r_remp rfl rfl (by omega) (by omega) ?_)
    refine r_eql rfl rfl (fun hc2 => ?_) (fun hc2 => ?_)   -- t10 := binOp eql 2 t9 0:i64 2
    · skip
      refine r_nil (q_t ?_)
      refine w_true rfl ?_
      refine w_skip (q_t ?_)
      refine w_block ?_
      refine w_seq ?_
      refine w_reg ?_
      refine r_mv (r_quo rfl rfl (by omega) ?_)
      rw [quo2 (by omega) (by omega)]
      refine r_as (r_nil (q_t ?_))
      refine w_seq ?_
      refine w_reg ?_
      refine r_mv (r_remp rfl rfl (by omega) (by omega) ?_)
      refine r_eql rfl rfl (fun hc3 => ?_) (fun hc3 => ?_)   -- t15 := binOp eql 2 t14 3:i64 2
      · skip
        refine r_mv (r_skip 16 true (by kernel_rfl) rfl rfl (r_skip 16 true (by kernel_rfl) rfl rfl (r_skip 16 true (by kernel_rfl) rfl rfl (r_pickT rfl (r_nil (q_t ?_))))))
        refine w_true rfl ?_
        refine w_reg ?_
        refine r_mv (r_neg rfl ?_)
        rw [neg_pm hs2]
        refine r_as (r_nil (q_b (q_t ?_)))
        have hj := jinv_half hJi (by omega)
        first
        | (rw [if_pos (by omega)] at hj; exact ⟨(b / 2).toNat, (b / 2, -s2), by omega, ⟨rfl, rfl, by dsimp only; omega, by dsimp only; omega, pm_neg hs2, hj⟩, rfl, rfl, trivial⟩)
        | (rw [if_neg (by omega)] at hj; exact ⟨(b / 2).toNat, (b / 2, s2), by omega, ⟨rfl, rfl, by dsimp only; omega, by dsimp only; omega, hs2, hj⟩, rfl, rfl, trivial⟩)
      · skip
        refine r_mv (r_want 16 false (by kernel_rfl) rfl rfl (r_mv (r_want 16 false (by kernel_rfl) rfl rfl (r_remp rfl rfl (by omega) (by omega) ?_))))
        refine r_want 16 false (by kernel_rfl) rfl rfl (r_eql rfl rfl (fun hc4 => ?_) (fun hc4 => ?_))   -- t19 := binOp eql 2 t18 5:i64 2   [guard op3 false]
        · skip
          refine r_pickF rfl (r_nil (q_t ?_))
          refine w_true rfl ?_
          refine w_reg ?_
          refine r_mv (r_neg rfl ?_)
          rw [neg_pm hs2]
          refine r_as (r_nil (q_b (q_t ?_)))
          have hj := jinv_half hJi (by omega)
          first
          | (rw [if_pos (by omega)] at hj; exact ⟨(b / 2).toNat, (b / 2, -s2), by omega, ⟨rfl, rfl, by dsimp only; omega, by dsimp only; omega, pm_neg hs2, hj⟩, rfl, rfl, trivial⟩)
          | (rw [if_neg (by omega)] at hj; exact ⟨(b / 2).toNat, (b / 2, s2), by omega, ⟨rfl, rfl, by dsimp only; omega, by dsimp only; omega, hs2, hj⟩, rfl, rfl, trivial⟩)
        · skip
          refine r_pickF rfl (r_nil (q_t ?_))
          refine w_false rfl ?_
          refine w_skip (q_b (q_t ?_))
          have hj := jinv_half hJi (by omega)
          first
          | (rw [if_pos (by omega)] at hj; exact ⟨(b / 2).toNat, (b / 2, -s2), by omega, ⟨rfl, rfl, by dsimp only; omega, by dsimp only; omega, pm_neg hs2, hj⟩, rfl, rfl, trivial⟩)
          | (rw [if_neg (by omega)] at hj; exact ⟨(b / 2).toNat, (b / 2, s2), by omega, ⟨rfl, rfl, by dsimp only; omega, by dsimp only; omega, hs2, hj⟩, rfl, rfl, trivial⟩)
    · skip
      refine r_nil (q_t ?_)
      refine w_false rfl ?_
      refine w_exit (q_tx (q_tx (q_bx (q_t ?_))))
      refine w_seq ?_
      refine w_seq ?_
      refine w_reg ?_
      refine r_mv (r_remp rfl rfl (by omega) (by omega) ?_)
      refine r_eql rfl rfl (fun hc5 => ?_) (fun hc5 => ?_)   -- t25 := binOp eql 2 t24 3:i64 2
      · skip
        refine r_mv (r_want 26 true (by kernel_rfl) rfl rfl (r_mv (r_want 26 true (by kernel_rfl) rfl rfl (r_remp rfl rfl (by omega) (by omega) ?_))))
        refine r_want 26 true (by kernel_rfl) rfl rfl (r_eql rfl rfl (fun hc6 => ?_) (fun hc6 => ?_))   -- t29 := binOp eql 2 t28 3:i64 2   [guard op3 true]
        · skip
          refine r_pickT rfl (r_nil (q_t ?_))
          refine w_true rfl ?_
          refine w_reg ?_
          refine r_mv (r_neg rfl ?_)
          rw [neg_pm hs2]
          refine r_as (r_nil (q_t ?_))
          refine w_reg ?_
          refine r_mv (r_mv (r_remp rfl rfl (by omega) (by omega) ?_))
          refine r_mv (r_as (r_as (r_nil (q_b (q_t ?_)))))
          have hj := jinv_swap hJi (by omega) (by omega)
          first
          | (rw [if_pos (by omega)] at hj; have em0 := Int.emod_nonneg n (show b ≠ 0 by omega); have em1 := Int.emod_lt_of_pos n (show 0 < b by omega); exact ⟨(n % b).toNat, (n % b, b, -s2), by omega, ⟨rfl, rfl, em0, by dsimp only; omega, by dsimp only; omega, pm_neg hs2, hj⟩, rfl, rfl, rfl, trivial⟩)
          | (rw [if_neg (by omega)] at hj; have em0 := Int.emod_nonneg n (show b ≠ 0 by omega); have em1 := Int.emod_lt_of_pos n (show 0 < b by omega); exact ⟨(n % b).toNat, (n % b, b, s2), by omega, ⟨rfl, rfl, em0, by dsimp only; omega, by dsimp only; omega, hs2, hj⟩, rfl, rfl, rfl, trivial⟩)
        · skip
          refine r_pickT rfl (r_nil (q_t ?_))
          refine w_false rfl ?_
          refine w_skip (q_t ?_)
          refine w_reg ?_
          refine r_mv (r_mv (r_remp rfl rfl (by omega) (by omega) ?_))
          refine r_mv (r_as (r_as (r_nil (q_b (q_t ?_)))))
          have hj := jinv_swap hJi (by omega) (by omega)
          first
          | (rw [if_pos (by omega)] at hj; have em0 := Int.emod_nonneg n (show b ≠ 0 by omega); have em1 := Int.emod_lt_of_pos n (show 0 < b by omega); exact ⟨(n % b).toNat, (n % b, b, -s2), by omega, ⟨rfl, rfl, em0, by dsimp only; omega, by dsimp only; omega, pm_neg hs2, hj⟩, rfl, rfl, rfl, trivial⟩)
          | (rw [if_neg (by omega)] at hj; have em0 := Int.emod_nonneg n (show b ≠ 0 by omega); have em1 := Int.emod_lt_of_pos n (show 0 < b by omega); exact ⟨(n % b).toNat, (n % b, b, s2), by omega, ⟨rfl, rfl, em0, by dsimp only; omega, by dsimp only; omega, hs2, hj⟩, rfl, rfl, rfl, trivial⟩)
      · skip
        refine r_mv (r_skip 26 false (by kernel_rfl) rfl rfl (r_skip 26 false (by kernel_rfl) rfl rfl (r_skip 26 false (by kernel_rfl) rfl rfl (r_pickF rfl (r_nil (q_t ?_))))))
        refine w_false rfl ?_
        refine w_skip (q_t ?_)
        refine w_reg ?_
        refine r_mv (r_mv (r_remp rfl rfl (by omega) (by omega) ?_))
        refine r_mv (r_as (r_as (r_nil (q_b (q_t ?_)))))
        have hj := jinv_swap hJi (by omega) (by omega)
        first
        | (rw [if_pos (by omega)] at hj; have em0 := Int.emod_nonneg n (show b ≠ 0 by omega); have em1 := Int.emod_lt_of_pos n (show 0 < b by omega); exact ⟨(n % b).toNat, (n % b, b, -s2), by omega, ⟨rfl, rfl, em0, by dsimp only; omega, by dsimp only; omega, pm_neg hs2, hj⟩, rfl, rfl, rfl, trivial⟩)
        | (rw [if_neg (by omega)] at hj; have em0 := Int.emod_nonneg n (show b ≠ 0 by omega); have em1 := Int.emod_lt_of_pos n (show 0 < b by omega); exact ⟨(n % b).toNat, (n % b, b, s2), by omega, ⟨rfl, rfl, em0, by dsimp only; omega, by dsimp only; omega, hs2, hj⟩, rfl, rfl, rfl, trivial⟩)
  · skip
    refine r_nil (q_t ?_)
    refine w_false rfl ?_
    refine w_exit (q_tx (q_tx (q_bx (q_t ?_))))
    refine w_seq ?_
    refine w_seq ?_
    refine w_reg ?_
    refine r_mv (r_neq rfl rfl (fun hc7 => ?_) (fun hc7 => ?_))   -- t38 := binOp neq 2 t37 1:i64 2
    · skip
      refine r_nil (q_t ?_)
      refine w_true rfl ?_
      refine w_seq ?_
      refine w_reg ?_
      refine r_as (r_nil (q_t ?_))
      refine w_ret (q_tr ?_)
      refine ⟨_, retV_1, ?_⟩
      obtain rfl : a1 = 0 := by omega
      have hT := jinv_end hJ
      first
      | (rw [if_neg (by assumption)] at hT; exact ⟨rfl, congrArg (Value.int .i64) hT.symm⟩)
      | (rw [if_pos (by omega)] at hT; exact ⟨rfl, congrArg (Value.int .i64) hT.symm⟩)
      | (rw [if_neg (by omega)] at hT; exact ⟨rfl, congrArg (Value.int .i64) hT.symm⟩)
    · skip
      refine r_nil (q_t ?_)
      refine w_false rfl ?_
      refine w_skip (q_t ?_)
      refine w_seq ?_
      refine w_reg ?_
      refine r_mv (r_as (r_nil (q_t ?_)))
      refine w_ret ?_
      refine ⟨_, retV_1, ?_⟩
      obtain rfl : a1 = 0 := by omega
      have hT := jinv_end hJ
      first
      | (rw [if_neg (by assumption)] at hT; exact ⟨rfl, congrArg (Value.int .i64) hT.symm⟩)
      | (rw [if_pos (by omega)] at hT; exact ⟨rfl, congrArg (Value.int .i64) hT.symm⟩)
      | (rw [if_neg (by omega)] at hT; exact ⟨rfl, congrArg (Value.int .i64) hT.symm⟩)

theorem Kronecker_ok {p x : Int} (hp : OPr p) (hp2 : p ≤ 9973) (h0 : -p < x) (h1 : x < p) (h : Heap) : CallH Tryd.prog 27 #[.int .i64 x, .int .i64 p] h fun v h' => h' = h ∧ ∃ r, v = .tuple #[.int .i64 (lg p x), r] := by
  have hp3 := hp.three
  refine calls_of_W (l := [_, _]) mx Tryd.func27 rfl rfl rfl rfl rfl (by kernel_rfl) ?_
  refine w_seq ?_
  refine w_reg ?_
  refine r_as (r_as (r_nil (q_t ?_)))
  refine w_seq ?_
  refine w_seq ?_
  refine w_reg ?_
  refine r_mv (r_lss rfl rfl (fun hc1 => ?_) (fun hc1 => ?_))   -- t9 := binOp lss 2 t8 -2147483647:i64 2
  · skip
    refine r_mv (r_skip 10 true (by kernel_rfl) rfl rfl (r_skip 10 true (by kernel_rfl) rfl rfl (r_pickT rfl (r_mv (r_skip 14 true (by kernel_rfl) rfl rfl (r_skip 14 true (by kernel_rfl) rfl rfl (r_pickT rfl (r_mv (r_skip 18 true (by kernel_rfl) rfl rfl (r_skip 18 true (by kernel_rfl) rfl rfl (r_pickT rfl (r_nil (q_t ?_)))))))))))))
    refine w_true rfl ?_
    refine w_seq ?_
    refine w_reg ?_
    refine r_as (r_as (r_nil (q_t ?_)))
    refine w_ret (q_tr ?_)
    refine ⟨_, retV_2, ?_⟩
    first | (exfalso; omega) | exact ⟨rfl, _, rfl⟩
  · skip
    refine r_mv (r_want 10 false (by kernel_rfl) rfl rfl (r_mv (r_want 10 false (by kernel_rfl) rfl rfl (r_gtr rfl rfl (fun hc2 => ?_) (fun hc2 => ?_)))))   -- t12 := binOp gtr 2 t11 2147483647:i64 2   [guard op2 false]
    · skip
      refine r_pickF rfl (r_mv (r_skip 14 true (by kernel_rfl) rfl rfl (r_skip 14 true (by kernel_rfl) rfl rfl (r_pickT rfl (r_mv (r_skip 18 true (by kernel_rfl) rfl rfl (r_skip 18 true (by kernel_rfl) rfl rfl (r_pickT rfl (r_nil (q_t ?_))))))))))
      refine w_true rfl ?_
      refine w_seq ?_
      refine w_reg ?_
      refine r_as (r_as (r_nil (q_t ?_)))
      refine w_ret (q_tr ?_)
      refine ⟨_, retV_2, ?_⟩
      first | (exfalso; omega) | exact ⟨rfl, _, rfl⟩
    · skip
      refine r_pickF rfl (r_mv (r_want 14 false (by kernel_rfl) rfl rfl (r_mv (r_want 14 false (by kernel_rfl) rfl rfl (r_lss rfl rfl (fun hc3 => ?_) (fun hc3 => ?_))))))   -- t16 := binOp lss 2 t15 -2147483647:i64 2   [guard op6 false]
      · skip
        refine r_pickF rfl (r_mv (r_skip 18 true (by kernel_rfl) rfl rfl (r_skip 18 true (by kernel_rfl) rfl rfl (r_pickT rfl (r_nil (q_t ?_))))))
        refine w_true rfl ?_
        refine w_seq ?_
        refine w_reg ?_
        refine r_as (r_as (r_nil (q_t ?_)))
        refine w_ret (q_tr ?_)
        refine ⟨_, retV_2, ?_⟩
        first | (exfalso; omega) | exact ⟨rfl, _, rfl⟩
      · skip
        refine r_pickF rfl (r_mv (r_want 18 false (by kernel_rfl) rfl rfl (r_mv (r_want 18 false (by kernel_rfl) rfl rfl (r_gtr rfl rfl (fun hc4 => ?_) (fun hc4 => ?_))))))   -- t20 := binOp gtr 2 t19 2147483647:i64 2   [guard op10 false]
        · skip
          refine r_pickF rfl (r_nil (q_t ?_))
          refine w_true rfl ?_
          refine w_seq ?_
          refine w_reg ?_
          refine r_as (r_as (r_nil (q_t ?_)))
          refine w_ret (q_tr ?_)
          refine ⟨_, retV_2, ?_⟩
          first | (exfalso; omega) | exact ⟨rfl, _, rfl⟩
        · skip
          refine r_pickF rfl (r_nil (q_t ?_))
          refine w_false rfl ?_
          refine w_skip (q_t ?_)
          refine w_seq ?_
          refine w_seq ?_
          refine w_reg ?_
          refine r_mv (r_eql rfl rfl (fun hc5 => ?_) (fun hc5 => ?_))   -- t23 := binOp eql 2 t22 0:i64 2
          · skip
            refine r_nil (q_t ?_)
            refine w_true rfl ?_
            refine w_seq ?_
            refine w_seq ?_
            refine w_reg ?_
            refine r_mv (r_eql rfl rfl (fun hc6 => ?_) (fun hc6 => ?_))   -- t25 := binOp eql 2 t24 1:i64 2
            · skip
              refine r_mv (r_skip 26 true (by kernel_rfl) rfl rfl (r_skip 26 true (by kernel_rfl) rfl rfl (r_pickT rfl (r_nil (q_t ?_)))))
              refine w_true rfl ?_
              refine w_seq ?_
              refine w_reg ?_
              refine r_as (r_as (r_nil (q_t ?_)))
              refine w_ret (q_tr (q_tr ?_))
              refine ⟨_, retV_2, ?_⟩
              first | (exfalso; omega) | exact ⟨rfl, _, rfl⟩
            · skip
              refine r_mv (r_want 26 false (by kernel_rfl) rfl rfl (r_mv (r_want 26 false (by kernel_rfl) rfl rfl (r_eql rfl rfl (fun hc7 => ?_) (fun hc7 => ?_)))))   -- t28 := binOp eql 2 t27 -1:i64 2   [guard op2 false]
              · skip
                refine r_pickF rfl (r_nil (q_t ?_))
                refine w_true rfl ?_
                refine w_seq ?_
                refine w_reg ?_
                refine r_as (r_as (r_nil (q_t ?_)))
                refine w_ret (q_tr (q_tr ?_))
                refine ⟨_, retV_2, ?_⟩
                first | (exfalso; omega) | exact ⟨rfl, _, rfl⟩
              · skip
                refine r_pickF rfl (r_nil (q_t ?_))
                refine w_false rfl ?_
                refine w_skip (q_t ?_)
                refine w_seq ?_
                refine w_reg ?_
                refine r_as (r_as (r_nil (q_t ?_)))
                refine w_ret (q_tr ?_)
                refine ⟨_, retV_2, ?_⟩
                first | (exfalso; omega) | exact ⟨rfl, _, rfl⟩
          · skip
            refine r_nil (q_t ?_)
            refine w_false rfl ?_
            refine w_skip (q_t ?_)
            refine w_seq ?_
            refine w_reg ?_
            refine r_as (r_nil (q_t ?_))
            refine w_seq ?_
            refine w_seq ?_
            refine w_reg ?_
            refine r_mv (r_lss rfl rfl (fun hcx => (by exfalso; omega)) (fun hcx => ?_))
            refine r_nil (q_t ?_)
            refine w_false rfl ?_
            refine w_skip (q_t ?_)
            refine w_seq ?_
            refine w_block ?_
            refine w_loop 18014329790005490 (fun y : Unit => [(1, .int .i64 p), (6, .int .i64 1)]) (fun k y h' => h' = h) (by kernel_rfl) 0 () ?_ ⟨rfl, rfl, trivial⟩ ?_
            · exact rfl
            rintro k ⟨⟩ s1 h rfl
            refine w_seq ?_
            refine w_seq ?_
            refine w_reg ?_
            refine r_mv ?_
            have hpo := hp.2
            refine r_remp rfl rfl (by omega) (by omega) ?_
            refine r_eql rfl rfl (fun hc8 => ?_) (fun hc8 => ?_)   -- t38 := binOp eql 2 t37 0:i64 2
            · skip
              refine r_nil (q_t ?_)
              refine w_true rfl ?_
              refine w_skip (q_t ?_)
              refine w_block ?_
              refine w_seq ?_
              refine w_seq ?_
              refine w_reg ?_
              refine r_mv ?_
              exfalso; omega
            · skip
              refine r_nil (q_t ?_)
              refine w_false rfl ?_
              refine w_exit (q_tx (q_tx (q_bx (q_t ?_))))
              refine w_seq ?_
              refine w_reg ?_
              refine r_mv (r_mv (r_mv (r_call trivial rfl (residue_ok x (by omega) (by omega) _) fun x1 h hk => ?_)))
              obtain ⟨rfl, rfl⟩ := hk
              refine ⟨trivial, ?_⟩
              refine r_mv (r_call trivial rfl (jacobi_ok hp (by omega) (Int.emod_nonneg x (by omega)) (Int.emod_lt_of_pos x (by omega)) _) fun x2 h hk => ?_)
              obtain ⟨rfl, rfl⟩ := hk
              refine ⟨trivial, ?_⟩
              rw [lg_mod hp]
              refine r_mul rfl rfl ?_
              rw [wrap_lg hp]
              refine r_as (r_as (r_nil (q_t ?_)))
              refine w_ret ?_
              refine ⟨_, retV_2, ?_⟩
              first | (exfalso; omega) | exact ⟨rfl, _, rfl⟩

theorem Legendre_ok {p : Int} (a : Int) (hp : OPr p) (hp2 : p ≤ 9973) (h : Heap) : CallH Tryd.prog 23 #[.int .i64 a, .int .i64 p] h fun v h' => h' = h ∧ v = .int .i64 (lg p a) := by
  have hp3 := hp.three
  refine calls_of_W (l := [_, _]) mx Tryd.func23 rfl rfl rfl rfl rfl (by kernel_rfl) ?_
  refine w_seq ?_
  refine w_reg ?_
  refine r_as (r_nil (q_t ?_))
  refine w_seq ?_
  refine w_seq ?_
  refine w_reg ?_
  refine r_mv (r_mv (r_subb rfl rfl (by omega) (by omega) (r_quo rfl rfl (by omega) ?_)))
  rw [quo2 (by omega) (by omega)]
  refine r_mv (r_call trivial rfl (ModPow_ok a (by omega) (by omega) (by omega) (by omega) _) fun x1 h hk => ?_)
  obtain ⟨rfl, rfl⟩ := hk
  refine ⟨trivial, ?_⟩
  refine r_nil (q_t ?_)
  refine w_block ?_
  refine w_seq ?_
  refine w_reg ?_
  refine r_eql rfl rfl (fun hc1 => ?_) (fun hc1 => ?_)   -- t12 := binOp eql 2 t10 0:i64 2
  · skip
    refine r_as (r_nil (q_t ?_))
    refine w_true rfl ?_
    refine w_seq ?_
    refine w_reg ?_
    refine r_as (r_nil (q_t ?_))
    refine w_ret (q_br (q_tr ?_))
    refine ⟨_, retV_1, ?_⟩
    first
    | exact ⟨rfl, congrArg (Value.int .i64) (show (0 : Int) = lg p a by unfold lg; rw [if_pos (by assumption)])⟩
    | exact ⟨rfl, congrArg (Value.int .i64) (show (1 : Int) = lg p a by unfold lg; rw [if_neg (by assumption), if_pos (by assumption)])⟩
    | exact ⟨rfl, congrArg (Value.int .i64) (show (-1 : Int) = lg p a by unfold lg; rw [if_neg (by assumption), if_neg (by assumption)])⟩
  · skip
    refine r_as (r_nil (q_t ?_))
    refine w_false rfl ?_
    refine w_seq ?_
    refine w_reg ?_
    refine r_eql rfl rfl (fun hc2 => ?_) (fun hc2 => ?_)   -- t14 := binOp eql 2 t10 1:i64 2
    · skip
      refine r_as (r_nil (q_t ?_))
      refine w_true rfl ?_
      refine w_seq ?_
      refine w_reg ?_
      refine r_as (r_nil (q_t ?_))
      refine w_ret (q_br (q_tr ?_))
      refine ⟨_, retV_1, ?_⟩
      first
      | exact ⟨rfl, congrArg (Value.int .i64) (show (0 : Int) = lg p a by unfold lg; rw [if_pos (by assumption)])⟩
      | exact ⟨rfl, congrArg (Value.int .i64) (show (1 : Int) = lg p a by unfold lg; rw [if_neg (by assumption), if_pos (by assumption)])⟩
      | exact ⟨rfl, congrArg (Value.int .i64) (show (-1 : Int) = lg p a by unfold lg; rw [if_neg (by assumption), if_neg (by assumption)])⟩
    · skip
      refine r_as (r_nil (q_t ?_))
      refine w_false rfl ?_
      refine w_skip (q_b (q_t ?_))
      refine w_seq ?_
      refine w_reg ?_
      refine r_as (r_nil (q_t ?_))
      refine w_ret ?_
      refine ⟨_, retV_1, ?_⟩
      first
      | exact ⟨rfl, congrArg (Value.int .i64) (show (0 : Int) = lg p a by unfold lg; rw [if_pos (by assumption)])⟩
      | exact ⟨rfl, congrArg (Value.int .i64) (show (1 : Int) = lg p a by unfold lg; rw [if_neg (by assumption), if_pos (by assumption)])⟩
      | exact ⟨rfl, congrArg (Value.int .i64) (show (-1 : Int) = lg p a by unfold lg; rw [if_neg (by assumption), if_neg (by assumption)])⟩

open Classical in
noncomputable def oddB (p : Int) : Bool := decide (2 < p ∧ p ≤ 9973 ∧ Pr p)
theorem oddB_t {p : Int} (h : 2 < p ∧ p ≤ 9973 ∧ Pr p) : true = oddB p := by simp [oddB, h]
theorem oddB_f {p : Int} (h : ¬ (2 < p ∧ p ≤ 9973 ∧ Pr p)) : false = oddB p := by simp [oddB, h]
theorem of_oddB {p : Int} (h : oddB p = true) : 2 < p ∧ p ≤ 9973 ∧ Pr p := by simpa [oddB] using h
theorem opr_of {p : Int} (h : 2 < p ∧ Pr p) : OPr p := by
  refine ⟨h.2, ?_⟩
  have := h.2.2 2 (by omega) h.1
  omega
theorem prB {p : Int} {b : Bool} (h : primeB p = b) (hp : p ≤ 9973) : b = true ↔ Pr p := by
  subst h
  constructor
  · intro h; exact (of_primeB h).2
  · intro h; exact (primeB_t (by omega) h).symm

theorem oddG_ok (p : Int) {h : Heap} (HO : OffH h) : CallH Tryd.prog 38 #[.int .i64 p] h fun v h' => h' = h ∧ v = .bool (oddB p) := by
  refine calls_of_W (l := [_]) mx Tryd.func38 rfl rfl rfl rfl rfl (by kernel_rfl) ?_
  refine w_seq ?_
  refine w_reg ?_
  refine r_as (r_nil (q_t ?_))
  refine w_seq ?_
  refine w_reg ?_
  refine r_mv (r_gtr rfl rfl (fun hc1 => ?_) (fun hc1 => ?_))   -- t4 := binOp gtr 2 t3 2:i64 2
  · skip
    refine r_mv (r_want 5 true (by kernel_rfl) rfl rfl (r_mv (r_want 5 true (by kernel_rfl) rfl rfl (r_leq rfl rfl (fun hc2 => ?_) (fun hc2 => ?_)))))   -- t7 := binOp leq 2 t6 9973:i64 2   [guard op2 true]
    · skip
      refine r_pickT rfl (r_mv (r_want 9 true (by kernel_rfl) rfl rfl (r_mv (r_want 9 true (by kernel_rfl) rfl rfl (r_call trivial rfl (Is_ok p HO) fun x1 h hk => ?_)))))
      obtain ⟨rfl, rfl⟩ := hk
      refine ⟨trivial, ?_⟩
      cases hc3 : primeB p
      · skip
        refine r_pickT rfl (r_as (r_nil (q_t ?_)))
        refine w_ret ?_
        refine ⟨_, retV_1, ?_⟩
        first
        | exact ⟨rfl, congrArg Value.bool (oddB_f (fun hh => by have := hh.1; have := hh.2.1; omega))⟩
        | (have hq := (prB (by assumption : primeB p = _) (by omega)); first | exact ⟨rfl, congrArg Value.bool (oddB_t ⟨by first | omega | (have := (hq.1 rfl).1; omega), by omega, hq.1 rfl⟩)⟩ | exact ⟨rfl, congrArg Value.bool (oddB_f (fun hh => by have := hq.2 hh.2.2; cases this))⟩)
      · skip
        refine r_pickT rfl (r_as (r_nil (q_t ?_)))
        refine w_ret ?_
        refine ⟨_, retV_1, ?_⟩
        first
        | exact ⟨rfl, congrArg Value.bool (oddB_f (fun hh => by have := hh.1; have := hh.2.1; omega))⟩
        | (have hq := (prB (by assumption : primeB p = _) (by omega)); first | exact ⟨rfl, congrArg Value.bool (oddB_t ⟨by first | omega | (have := (hq.1 rfl).1; omega), by omega, hq.1 rfl⟩)⟩ | exact ⟨rfl, congrArg Value.bool (oddB_f (fun hh => by have := hq.2 hh.2.2; cases this))⟩)
    · skip
      refine r_pickT rfl (r_mv (r_skip 9 false (by kernel_rfl) rfl rfl (r_skip 9 false (by kernel_rfl) rfl rfl (r_pickF rfl (r_as (r_nil (q_t ?_)))))))
      refine w_ret ?_
      refine ⟨_, retV_1, ?_⟩
      first
      | exact ⟨rfl, congrArg Value.bool (oddB_f (fun hh => by have := hh.1; have := hh.2.1; omega))⟩
      | (have hq := (prB (by assumption : primeB p = _) (by omega)); first | exact ⟨rfl, congrArg Value.bool (oddB_t ⟨by first | omega | (have := (hq.1 rfl).1; omega), by omega, hq.1 rfl⟩)⟩ | exact ⟨rfl, congrArg Value.bool (oddB_f (fun hh => by have := hq.2 hh.2.2; cases this))⟩)
  · skip
    refine r_mv (r_skip 5 false (by kernel_rfl) rfl rfl (r_skip 5 false (by kernel_rfl) rfl rfl (r_pickF rfl (r_mv (r_skip 9 false (by kernel_rfl) rfl rfl (r_skip 9 false (by kernel_rfl) rfl rfl (r_pickF rfl (r_as (r_nil (q_t ?_))))))))))
    refine w_ret ?_
    refine ⟨_, retV_1, ?_⟩
    first
    | exact ⟨rfl, congrArg Value.bool (oddB_f (fun hh => by have := hh.1; have := hh.2.1; omega))⟩
    | (have hq := (prB (by assumption : primeB p = _) (by omega)); first | exact ⟨rfl, congrArg Value.bool (oddB_t ⟨by first | omega | (have := (hq.1 rfl).1; omega), by omega, hq.1 rfl⟩)⟩ | exact ⟨rfl, congrArg Value.bool (oddB_f (fun hh => by have := hq.2 hh.2.2; cases this))⟩)

open Classical in
noncomputable def smallB (p : Int) : Bool := decide (p ≤ 9973 ∧ Pr p)

theorem Small_ok (p : Int) (h : Heap) : CallH Tryd.prog 62 #[.int .i64 p] h fun v h' => h' = h ∧ v = .bool (smallB p) := by
  refine calls_of_W (l := [_]) mx Tryd.func62 rfl rfl rfl rfl rfl (by kernel_rfl) ?_
  refine w_seq ?_
  refine w_reg ?_
  refine r_as (r_nil (q_t ?_))
  refine w_seq ?_
  refine w_reg ?_
  refine r_mv (r_leq rfl rfl (fun hc1 => ?_) (fun hc1 => ?_))   -- t4 := binOp leq 2 t3 9973:i64 2
  · skip
    refine r_mv (r_want 5 true (by kernel_rfl) rfl rfl (r_mv (r_want 5 true (by kernel_rfl) rfl rfl (r_call trivial rfl (refIs_ok p _) fun x1 h hk => ?_))))
    obtain ⟨rfl, rfl⟩ := hk
    refine ⟨trivial, ?_⟩
    cases hc2 : primeB p
    · skip
      refine r_pickT rfl (r_as (r_nil (q_t ?_)))
      refine w_ret ?_
      refine ⟨_, retV_1, ?_⟩
      first
      | exact ⟨rfl, congrArg Value.bool (show false = smallB p by simp [smallB]; intro hh; omega)⟩
      | (have hq := (prB (by assumption : primeB p = _) (by omega)); first | exact ⟨rfl, congrArg Value.bool (show true = smallB p by simp [smallB]; exact ⟨by omega, hq.1 rfl⟩)⟩ | exact ⟨rfl, congrArg Value.bool (show false = smallB p by simp [smallB]; intro _ hh; have := hq.2 hh; cases this)⟩)
    · skip
      refine r_pickT rfl (r_as (r_nil (q_t ?_)))
      refine w_ret ?_
      refine ⟨_, retV_1, ?_⟩
      first
      | exact ⟨rfl, congrArg Value.bool (show false = smallB p by simp [smallB]; intro hh; omega)⟩
      | (have hq := (prB (by assumption : primeB p = _) (by omega)); first | exact ⟨rfl, congrArg Value.bool (show true = smallB p by simp [smallB]; exact ⟨by omega, hq.1 rfl⟩)⟩ | exact ⟨rfl, congrArg Value.bool (show false = smallB p by simp [smallB]; intro _ hh; have := hq.2 hh; cases this)⟩)
  · skip
    refine r_mv (r_skip 5 false (by kernel_rfl) rfl rfl (r_skip 5 false (by kernel_rfl) rfl rfl (r_pickF rfl (r_as (r_nil (q_t ?_))))))
    refine w_ret ?_
    refine ⟨_, retV_1, ?_⟩
    first
    | exact ⟨rfl, congrArg Value.bool (show false = smallB p by simp [smallB]; intro hh; omega)⟩
    | (have hq := (prB (by assumption : primeB p = _) (by omega)); first | exact ⟨rfl, congrArg Value.bool (show true = smallB p by simp [smallB]; exact ⟨by omega, hq.1 rfl⟩)⟩ | exact ⟨rfl, congrArg Value.bool (show false = smallB p by simp [smallB]; intro _ hh; have := hq.2 hh; cases this)⟩)

theorem refOdd_ok (p : Int) (h : Heap) : CallH Tryd.prog 39 #[.int .i64 p] h fun v h' => h' = h ∧ v = .bool (oddB p) := by
  refine calls_of_W (l := [_]) mx Tryd.func39 rfl rfl rfl rfl rfl (by kernel_rfl) ?_
  refine w_seq ?_
  refine w_reg ?_
  refine r_as (r_nil (q_t ?_))
  refine w_seq ?_
  refine w_reg ?_
  refine r_mv (r_neq rfl rfl (fun hc1 => ?_) (fun hc1 => ?_))   -- t4 := binOp neq 2 t3 2:i64 2
  · skip
    refine r_mv (r_want 5 true (by kernel_rfl) rfl rfl (r_mv (r_want 5 true (by kernel_rfl) rfl rfl (r_call trivial rfl (Small_ok p _) fun x1 h hk => ?_))))
    obtain ⟨rfl, rfl⟩ := hk
    refine ⟨trivial, ?_⟩
    cases hc2 : smallB p
    · skip
      refine r_pickT rfl (r_as (r_nil (q_t ?_)))
      refine w_ret ?_
      refine ⟨_, retV_1, ?_⟩
      first
      | (have hq : smallB p = true := by assumption
         have hq2 : p ≤ 9973 ∧ Pr p := by simpa [smallB] using hq
         exact ⟨rfl, congrArg Value.bool (oddB_t ⟨by have := hq2.2.1; omega, hq2⟩)⟩)
      | (have hq : smallB p = false := by assumption
         exact ⟨rfl, congrArg Value.bool (oddB_f (fun hh => by have hq2 : ¬ (p ≤ 9973 ∧ Pr p) := by simpa [smallB] using hq
                                                               exact hq2 hh.2))⟩)
      | exact ⟨rfl, congrArg Value.bool (oddB_f (fun hh => by have := hh.1; omega))⟩
    · skip
      refine r_pickT rfl (r_as (r_nil (q_t ?_)))
      refine w_ret ?_
      refine ⟨_, retV_1, ?_⟩
      first
      | (have hq : smallB p = true := by assumption
         have hq2 : p ≤ 9973 ∧ Pr p := by simpa [smallB] using hq
         exact ⟨rfl, congrArg Value.bool (oddB_t ⟨by have := hq2.2.1; omega, hq2⟩)⟩)
      | (have hq : smallB p = false := by assumption
         exact ⟨rfl, congrArg Value.bool (oddB_f (fun hh => by have hq2 : ¬ (p ≤ 9973 ∧ Pr p) := by simpa [smallB] using hq
                                                               exact hq2 hh.2))⟩)
      | exact ⟨rfl, congrArg Value.bool (oddB_f (fun hh => by have := hh.1; omega))⟩
  · skip
    refine r_mv (r_skip 5 false (by kernel_rfl) rfl rfl (r_skip 5 false (by kernel_rfl) rfl rfl (r_pickF rfl (r_as (r_nil (q_t ?_))))))
    refine w_ret ?_
    refine ⟨_, retV_1, ?_⟩
    first
    | (have hq : smallB p = true := by assumption
       have hq2 : p ≤ 9973 ∧ Pr p := by simpa [smallB] using hq
       exact ⟨rfl, congrArg Value.bool (oddB_t ⟨by have := hq2.2.1; omega, hq2⟩)⟩)
    | (have hq : smallB p = false := by assumption
       exact ⟨rfl, congrArg Value.bool (oddB_f (fun hh => by have hq2 : ¬ (p ≤ 9973 ∧ Pr p) := by simpa [smallB] using hq
                                                             exact hq2 hh.2))⟩)
    | exact ⟨rfl, congrArg Value.bool (oddB_f (fun hh => by have := hh.1; omega))⟩

end Go.Proofs.YtccgaemmdikhcaaDoor
