/-
  Contracts of functions that only compute or read, second part: inverses, powers, the comparison of matrices, the makers of moduli and primes. Conditions stand in each statement.
-/
import Derived.Test.YtccgaemmdikhcaaDoorRead
namespace Go.Proofs.YtccgaemmdikhcaaDoor
open Go Go.QF
set_option linter.unusedVariables false
set_option maxRecDepth 100000

/-- What Euclid's algorithm carries. -/
def EI (m x a b u v : Int) : Prop :=
  0 ≤ b ∧ 0 ≤ a ∧ a ≤ m ∧ b ≤ m ∧ (∃ s U V : Int, (s = 1 ∨ s = -1) ∧ u = s * U ∧ v = -s * V ∧ 0 ≤ U ∧ 0 ≤ V ∧ a * V + b * U = m) ∧ m ∣ u * x - a ∧ m ∣ v * x - b ∧ ∀ g : Int, g ∣ a → g ∣ b → g ∣ m ∧ g ∣ x
theorem EI.start {m x : Int} (hx : 0 ≤ x) (hxm : x < m) : EI m x m x 0 1 :=
  ⟨hx, by omega, by omega, by omega, ⟨-1, 0, 1, .inr rfl, by omega, by omega, by omega, by omega, by omega⟩, ⟨-1, by omega⟩, ⟨0, by omega⟩, fun g h1 h2 => ⟨h1, h2⟩⟩
theorem EI.bounds {m x a b u v : Int} (H : EI m x a b u v) (hb : 0 < b) : 0 ≤ a / b ∧ a / b ≤ m ∧ 0 ≤ a / b * b ∧ a / b * b ≤ a ∧ -m ≤ a / b * v ∧ a / b * v ≤ m ∧ -m ≤ u - a / b * v ∧ u - a / b * v ≤ m := by
  obtain ⟨h0, ha, ham, hbm, ⟨s, U, V, hs, rfl, rfl, hU, hV, hm⟩, _⟩ := H
  have hq : 0 ≤ a / b := Int.ediv_nonneg ha h0
  have hqa : a / b * b ≤ a := Int.ediv_mul_le _ (by omega)
  have hq2 : a / b ≤ a := Int.ediv_le_self _ ha
  have hqb : 0 ≤ a / b * b := Int.mul_nonneg hq h0
  have hqV : 0 ≤ a / b * V := Int.mul_nonneg hq hV
  have hV' : b * (U + a / b * V) ≤ m := by
    have e : b * (U + a / b * V) = b * U + (a / b * b) * V := by rw [Int.mul_add, ← Int.mul_assoc, Int.mul_comm b (a / b)]
    have : (a / b * b) * V ≤ a * V := Int.mul_le_mul_of_nonneg_right hqa hV
    omega
  have hW : U + a / b * V ≤ b * (U + a / b * V) := by
    have : 1 * (U + a / b * V) ≤ b * (U + a / b * V) := Int.mul_le_mul_of_nonneg_right (by omega) (by omega)
    omega
  rcases hs with rfl | rfl
  · have e1 : a / b * (-1 * V) = -(a / b * V) := by rw [Int.neg_mul, Int.one_mul, Int.mul_neg]
    rw [e1]; omega
  · have e1 : a / b * (- -1 * V) = a / b * V := by rw [Int.neg_neg, Int.one_mul]
    rw [e1]; omega
theorem EI.step {m x a b u v : Int} (H : EI m x a b u v) (hb : 0 < b) : EI m x b (a - a / b * b) v (u - a / b * v) := by
  have hbd := H.bounds hb
  obtain ⟨h0, ha, ham, hbm, ⟨s, U, V, hs, rfl, rfl, hU, hV, hm⟩, hu, hv, hg⟩ := H
  have hmod : a - a / b * b = a % b := by rw [Int.emod_def, Int.mul_comm]
  have h1 := Int.emod_nonneg a (b := b) (by omega)
  have h2 := Int.emod_lt_of_pos a hb
  have hqV : 0 ≤ a / b * V := Int.mul_nonneg hbd.1 hV
  refine ⟨by omega, h0, hbm, by omega, ⟨-s, V, U + a / b * V, by omega, rfl, ?_, hV, by omega, ?_⟩, hv, ?_, fun g g1 g2 => ?_⟩
  · rw [Int.neg_neg, Int.mul_add, Int.neg_mul, Int.mul_neg, Int.sub_neg, Int.mul_left_comm]
  · rw [Int.mul_add, Int.sub_mul, ← Int.mul_assoc, Int.mul_comm b (a / b)]; omega
  · have e : (s * U - a / b * (-s * V)) * x - (a - a / b * b) = (s * U * x - a) - a / b * (-s * V * x - b) := by
      rw [Int.sub_mul, Int.mul_sub, Int.mul_assoc (a / b)]; omega
    rw [e]
    exact Int.dvd_sub hu (Int.dvd_mul_of_dvd_right hv)
  · have : g ∣ a := by
      have := Int.dvd_add g2 (Int.dvd_trans g1 (Int.dvd_mul_left (a / b) b))
      rwa [Int.sub_add_cancel] at this
    exact hg g this g1
theorem EI.done {m x a u v : Int} (hm : 2 ≤ m) (H : EI m x a 0 u v) : 1 ≤ a ∧ (a = 1 → IsInv m x (u % m)) ∧ (a ≠ 1 → ¬ ∃ y, IsInv m x y) := by
  obtain ⟨h0, ha, ham, hbm, ⟨s, U, V, hs, _, _, hU, hV, hmm⟩, hu, hv, hg⟩ := H
  have ha1 : 1 ≤ a := by
    rcases lt_ge 0 a with h | h
    · omega
    · obtain rfl : a = 0 := by omega
      omega
  refine ⟨ha1, fun he => ?_, fun hne => ?_⟩
  · subst he
    refine ⟨Int.emod_nonneg _ (by omega), Int.emod_lt_of_pos _ (by omega), ?_⟩
    rw [Int.mul_emod, Int.emod_emod, ← Int.mul_emod]
    exact Int.emod_eq_emod_iff_emod_sub_eq_zero.2 (mod_of_dvd hu)
  · rintro ⟨y, _, _, hy⟩
    obtain ⟨g1, g2⟩ := hg a (Int.dvd_refl _) ⟨0, by omega⟩
    have e1 : a ∣ y * x - 1 := Int.dvd_trans g1 (dvd_of_mod (Int.emod_eq_emod_iff_emod_sub_eq_zero.1 hy))
    have e2 : a ∣ y * x := Int.dvd_mul_of_dvd_right g2
    have e3 : a ∣ 1 := by have := Int.dvd_sub e2 e1; rwa [Int.sub_sub_self] at this
    have := Int.le_of_dvd (by omega) e3
    omega

theorem reciprocal_ok {x m : Int} (hx : 0 ≤ x) (hxm : x < m) (hm : 2 ≤ m) (hm2 : m ≤ 2147483647) (h : Heap) : CallH Tryd.prog 66 #[.int .i64 x, .int .i64 m] h fun v h' => h' = h ∧
    ∃ r ok, v = .tuple #[.int .i64 r, .bool ok] ∧ 0 ≤ r ∧ r < m ∧ (ok = true → IsInv m x r) ∧ (ok = false → ¬ ∃ y, IsInv m x y) := by
  refine calls_of_W (l := [_, _]) mx Tryd.func66 rfl rfl rfl rfl rfl (by kernel_rfl) ?_
  refine w_seq ?_
  refine w_reg ?_
  refine r_as (r_as (r_nil (q_t ?_)))
  refine w_seq ?_
  refine w_reg ?_
  refine r_mv (r_mv (r_as (r_as (r_nil (q_t ?_)))))
  refine w_seq ?_
  refine w_reg ?_
  refine r_as (r_as (r_nil (q_t ?_)))
  refine w_seq ?_
  refine w_block ?_
  refine w_loop 1073735616 (fun y : Int × Int × Int × Int => [(6, .int .i64 y.1), (7, .int .i64 y.2.1), (8, .int .i64 y.2.2.1), (9, .int .i64 y.2.2.2)]) (fun k y h' => h' = h ∧ k = y.2.1.toNat ∧ EI m x y.1 y.2.1 y.2.2.1 y.2.2.2) (by kernel_rfl) x.toNat (m, x, 0, 1) ?_ ⟨rfl, rfl, rfl, rfl, trivial⟩ ?_
  · exact ⟨rfl, rfl, EI.start hx hxm⟩
  rintro k ⟨a, b, u, v⟩ s h1 ⟨rfl, rfl, hE⟩
  have hb0 : 0 ≤ b := hE.1
  have ha0 : 0 ≤ a := hE.2.1
  have ham : a ≤ m := hE.2.2.1
  dsimp only at hE ⊢
  refine w_seq ?_
  refine w_seq ?_
  refine w_reg ?_
  refine r_mv (r_neq rfl rfl (fun hc1 => ?_) (fun hc1 => ?_))   -- t14 := binOp neq 2 t13 0:i64 2
  · skip
    refine r_nil (q_t ?_)
    refine w_true rfl ?_
    refine w_skip (q_t ?_)
    refine w_block ?_
    refine w_seq ?_
    have hbd := hE.bounds (by omega)
    refine w_reg ?_
    refine r_mv (r_mv (r_quop rfl rfl (by omega) (by omega) (by omega) (r_as (r_nil (q_t ?_)))))
    refine w_seq ?_
    refine w_reg ?_
    refine r_mv (r_mv (r_mv (r_mv (r_mulb rfl rfl (by omega) (by omega) (r_subb rfl rfl (by omega) (by omega) (r_as (r_as (r_nil (q_t ?_)))))))))
    refine w_reg ?_
    refine r_mv (r_mv (r_mv (r_mv (r_mulb rfl rfl (by omega) (by omega) (r_subb rfl rfl (by omega) (by omega) (r_as (r_as (r_nil (q_b (q_t ?_))))))))))
    have hs := hE.step (by omega)
    exact ⟨(a - a / b * b).toNat, (b, a - a / b * b, v, u - a / b * v), by have := hs.1; have : a - a / b * b < b := by { have h2 := Int.emod_lt_of_pos a (b := b) (by omega); rw [Int.emod_def, Int.mul_comm] at h2; omega }; omega, ⟨rfl, rfl, hs⟩, rfl, rfl, rfl, rfl, trivial⟩
  · skip
    refine r_nil (q_t ?_)
    refine w_false rfl ?_
    refine w_exit (q_tx (q_tx (q_bx (q_t ?_))))
    refine w_seq ?_
    refine w_reg ?_
    refine r_mv (r_mv (r_rem rfl rfl (by omega) (r_mv (r_addb rfl rfl (by have := tmod_bd (x := u) (m := m) (by omega); omega) (by have := tmod_bd (x := u) (m := m) (by omega); omega) (r_mv (r_remp rfl rfl (by have := tmod_bd (x := u) (m := m) (by omega); omega) (by omega) (r_mv (r_eql rfl rfl (fun hc2 => ?_) (fun hc2 => ?_)))))))))   -- t38 := binOp eql 2 t37 1:i64 2
    · skip
      refine r_as (r_as (r_nil (q_t ?_)))
      refine w_ret ?_
      refine ⟨_, retV_2, ?_⟩
      subst hc1
      have hd := EI.done hm hE
      exact ⟨rfl, u % m, true, (show Value.tuple #[.int .i64 ((u.tmod m + m) % m), .bool true] = _ by rw [tmod_add_mod (by omega)]), Int.emod_nonneg _ (by omega), Int.emod_lt_of_pos _ (by omega), fun _ => hd.2.1 (by assumption), fun h => by cases h⟩
    · skip
      refine r_as (r_as (r_nil (q_t ?_)))
      refine w_ret ?_
      refine ⟨_, retV_2, ?_⟩
      subst hc1
      have hd := EI.done hm hE
      exact ⟨rfl, u % m, false, (show Value.tuple #[.int .i64 ((u.tmod m + m) % m), .bool false] = _ by rw [tmod_add_mod (by omega)]), Int.emod_nonneg _ (by omega), Int.emod_lt_of_pos _ (by omega), (fun h => by cases h), fun _ => hd.2.2 (by assumption)⟩

theorem ModPow_ok (A : Int) {E m : Int} (hE : 0 ≤ E) (hE2 : E ≤ 9223372036854775807) (hm : 0 < m) (hm2 : m ≤ 2147483647) (h : Heap) : CallH Tryd.prog 40 #[.int .i64 A, .int .i64 E, .int .i64 m] h fun v h' => h' = h ∧ v = .int .i64 (A ^ E.toNat % m) := by
  refine calls_of_W (l := [_, _, _]) mx Tryd.func40 rfl rfl rfl rfl rfl (by kernel_rfl) ?_
  refine w_seq ?_
  refine w_reg ?_
  refine r_as (r_nil (q_t ?_))
  refine w_seq ?_
  refine w_reg ?_
  refine r_mv (r_remp rfl rfl (by omega) (by omega) (r_as (r_nil (q_t ?_))))
  refine w_seq ?_
  refine w_seq ?_
  refine w_reg ?_
  refine r_mv (r_mv (r_call trivial rfl (Mod_ok A (by omega) (by omega) h) fun v' h hk => ?_))
  obtain ⟨rfl, rfl⟩ := hk
  refine ⟨trivial, ?_⟩
  refine r_as (r_nil (q_t ?_))
  refine w_block ?_
  refine w_loop 1073733763 (fun y : Int × Int × Int => [(0, .int .i64 y.1), (1, .int .i64 y.2.1), (7, .int .i64 y.2.2)]) (fun k y h' => h' = h ∧ k = y.2.1.toNat ∧ 0 ≤ y.1 ∧ y.1 < m ∧ 0 ≤ y.2.1 ∧ y.2.1 ≤ 9223372036854775807 ∧ 0 ≤ y.2.2 ∧ y.2.2 < m ∧ y.2.2 * y.1 ^ y.2.1.toNat % m = A ^ E.toNat % m) (by kernel_rfl) E.toNat (A % m, E, 1 % m) ?_ ⟨rfl, rfl, rfl, trivial⟩ ?_
  · exact ⟨rfl, rfl, Int.emod_nonneg _ (by omega), Int.emod_lt_of_pos _ (by omega), hE, hE2, Int.emod_nonneg _ (by omega), Int.emod_lt_of_pos _ (by omega), by dsimp only; rw [Int.mul_emod, pow_mod, Int.emod_emod, ← Int.mul_emod, Int.one_mul]⟩
  rintro k ⟨a, e, out⟩ s h1 ⟨rfl, rfl, ha0, ha1, he0, he1, ho0, ho1, hJ⟩
  dsimp only at ha0 ha1 he0 he1 ho0 ho1 hJ ⊢
  have hab := mul_bd (a := a) (b := a) (A := 2147483647) (B := 2147483647) (by omega) (by omega) (by omega) (by omega)
  have hob := mul_bd (a := out) (b := a) (A := 2147483647) (B := 2147483647) (by omega) (by omega) (by omega) (by omega)
  refine w_seq ?_
  refine w_seq ?_
  refine w_reg ?_
  refine r_mv (r_gtr rfl rfl (fun hc1 => ?_) (fun hc1 => ?_))   -- t14 := binOp gtr 2 t13 0:i64 2
  · skip
    refine r_nil (q_t ?_)
    refine w_true rfl ?_
    refine w_skip (q_t ?_)
    refine w_seq ?_
    refine w_block ?_
    refine w_seq ?_
    refine w_seq ?_
    refine w_reg ?_
    refine r_mv (r_remp rfl rfl (by omega) (by omega) (r_eql rfl rfl (fun hc2 => ?_) (fun hc2 => ?_)))   -- t19 := binOp eql 2 t18 1:i64 2
    · skip
      refine r_nil (q_t ?_)
      refine w_true rfl ?_
      refine w_reg ?_
      refine r_mv (r_mv (r_mulb rfl rfl (by omega) (by omega) (r_mv (r_remp rfl rfl (by omega) (by omega) (r_as (r_nil (q_t ?_)))))))
      refine w_reg ?_
      refine r_mv (r_mv (r_mulb rfl rfl (by omega) (by omega) (r_mv (r_remp rfl rfl (by omega) (by omega) (r_as (r_nil (q_b (q_t ?_))))))))
      refine w_reg ?_
      refine r_mv (r_quop rfl rfl (by omega) (by omega) (by omega) (r_as (r_nil (q_t ?_))))
      have hpr := pow_round (a := a) (m := m) (out := out) (e := e.toNat)
      rw [if_pos (by omega)] at hpr
      exact ⟨(e / 2).toNat, (a * a % m, e / 2, out * a % m), by omega, ⟨rfl, rfl, Int.emod_nonneg _ (by omega), Int.emod_lt_of_pos _ (by omega), by dsimp only; omega, by dsimp only; omega, Int.emod_nonneg _ (by omega), Int.emod_lt_of_pos _ (by omega), by dsimp only; rw [show (e / 2).toNat = e.toNat / 2 by omega, hpr, hJ]⟩, rfl, rfl, rfl, trivial⟩
    · skip
      refine r_nil (q_t ?_)
      refine w_false rfl ?_
      refine w_skip (q_t ?_)
      refine w_reg ?_
      refine r_mv (r_mv (r_mulb rfl rfl (by omega) (by omega) (r_mv (r_remp rfl rfl (by omega) (by omega) (r_as (r_nil (q_b (q_t ?_))))))))
      refine w_reg ?_
      refine r_mv (r_quop rfl rfl (by omega) (by omega) (by omega) (r_as (r_nil (q_t ?_))))
      have hpr := pow_round (a := a) (m := m) (out := out) (e := e.toNat)
      rw [if_neg (by omega)] at hpr
      exact ⟨(e / 2).toNat, (a * a % m, e / 2, out), by omega, ⟨rfl, rfl, Int.emod_nonneg _ (by omega), Int.emod_lt_of_pos _ (by omega), by dsimp only; omega, by dsimp only; omega, ho0, ho1, by dsimp only; rw [show (e / 2).toNat = e.toNat / 2 by omega, hpr, hJ]⟩, rfl, rfl, rfl, trivial⟩
  · skip
    refine r_nil (q_t ?_)
    refine w_false rfl ?_
    refine w_exit (q_tx (q_tx (q_bx (q_t ?_))))
    refine w_seq ?_
    refine w_reg ?_
    refine r_mv (r_as (r_nil (q_t ?_)))
    refine w_ret ?_
    refine ⟨_, retV_1, ?_⟩
    obtain rfl : e = 0 := by omega
    exact ⟨rfl, show Value.int .i64 out = _ by rw [← hJ]; simp [Int.emod_eq_of_lt ho0 ho1]⟩

theorem Same_ok {h : Heap} {va vb : Value} {A B : List (List Int)} (HA : Mat h va A) (HB : Mat h vb B) (hAl : A.length < 4611686018427387904) (hAr : ∀ z ∈ A, z.length < 4611686018427387904) : CallH Tryd.prog 30 #[va, vb] h fun r h' => h' = h ∧ r = .bool (sameB A B) := by
  refine calls_of_W (l := [_, _]) mx Tryd.func30 rfl rfl rfl rfl rfl (by kernel_rfl) ?_
  refine w_seq ?_
  refine w_reg ?_
  refine r_as (r_nil (q_t ?_))
  refine w_seq ?_
  refine w_seq ?_
  refine w_reg ?_
  refine r_mv (r_lenm sl_MM rfl HA (r_mv (r_lenm sl_MM rfl HB (r_neq rfl rfl (fun hc1 => ?_) (fun hc1 => ?_)))))   -- t11 := binOp neq 3 t8 t10 3
  · skip
    refine r_nil (q_t ?_)
    refine w_true rfl ?_
    refine w_seq ?_
    refine w_reg ?_
    refine r_as (r_nil (q_t ?_))
    refine w_ret (q_tr ?_)
    refine ⟨_, retV_1, ?_⟩
    exact ⟨rfl, show Value.bool false = _ by rw [show sameB A B = false by simp only [sameB, decide_eq_false_iff_not]; rintro rfl; omega]⟩
  · skip
    refine r_nil (q_t ?_)
    refine w_false rfl ?_
    refine w_skip (q_t ?_)
    refine w_seq ?_
    refine w_seq ?_
    refine w_reg ?_
    refine r_mv (r_lenm sl_MM rfl HA (r_mv (r_nil (q_t ?_))))
    refine w_block ?_
    refine w_loop 9007199254724720 (fun i : Nat => [(14, .int .i64 (i : Int))]) (fun k i h' => h' = h ∧ k = A.length - i ∧ i ≤ A.length ∧ ∀ j, j < i → A[j]? = B[j]?) (by kernel_rfl) A.length 0 ?_ ⟨rfl, trivial⟩ ?_
    · exact ⟨rfl, by omega, by omega, fun j hj => by omega⟩
    rintro k i s h1 ⟨rfl, rfl, hi, hJ⟩
    refine w_seq ?_
    refine w_reg ?_
    refine r_lss rfl rfl (fun hc2 => ?_) (fun hc2 => ?_)   -- t15 := binOp lss 3 t14 t13 3
    · skip
      refine r_nil (q_t ?_)
      refine w_seq ?_
      refine w_true rfl ?_
      refine w_skip (q_t ?_)
      refine w_seq ?_
      refine w_block ?_
      refine w_seq ?_
      have hiA : i < A.length := by omega
      have hiB : i < B.length := by omega
      have hrow := hAr A[i] (List.getElem_mem _)
      refine w_reg ?_
      refine r_mv (r_as (r_nil (q_t ?_)))
      refine w_seq ?_
      refine w_seq ?_
      refine w_draw (by kernel_rfl) ?_
      refine r_mv (r_mv (r_ixm sl_MM rfl HA rfl (List.getElem?_eq_getElem (by omega)) fun a1 r1 ha1 hr1 => ?_))
      refine r_ld na_I64 rfl ha1 (r_leni sl_I64 rfl hr1 (r_mv (r_mv (r_ixm sl_MM rfl HB rfl (List.getElem?_eq_getElem (by omega)) fun a2 r2 ha2 hr2 => ?_))))
      refine r_ld na_I64 rfl ha2 (r_leni sl_I64 rfl hr2 (r_neq rfl rfl (fun hc3 => ?_) (fun hc3 => ?_)))   -- t27 := binOp neq 3 t21 t26 3
      · skip
        refine r_nil (q_t ?_)
        refine w_true rfl ?_
        refine w_seq ?_
        refine w_reg ?_
        refine r_as (r_nil (q_t ?_))
        refine w_ret (q_tr (q_br (q_tr (q_tr (q_br (q_tr ?_))))))
        refine ⟨_, retV_1, ?_⟩
        exact ⟨rfl, show Value.bool false = _ by rw [show sameB A B = false by simp only [sameB, decide_eq_false_iff_not]; rintro rfl; omega]⟩
      · skip
        refine r_nil (q_t ?_)
        refine w_false rfl ?_
        refine w_skip (q_t ?_)
        refine w_seq ?_
        refine w_reg ?_
        refine r_mv (r_mv (r_ixm sl_MM rfl HA rfl (List.getElem?_eq_getElem (by omega)) fun a3 r3 ha3 hr3 => ?_))
        refine r_ld na_I64 rfl ha3 (r_leni sl_I64 rfl hr3 (r_mv (r_nil (q_t ?_))))
        refine w_block ?_
        refine w_loop 4503591037435984 (fun j : Nat => [(33, .int .i64 (j : Int))]) (fun k j h' => h' = h1 ∧ k = A[i].length - j ∧ j ≤ A[i].length ∧ ∀ c, c < j → A[i][c]? = B[i][c]?) (by kernel_rfl) A[i].length 0 ?_ ⟨rfl, trivial⟩ ?_
        · exact ⟨rfl, by omega, by omega, fun j hj => by omega⟩
        rintro k j s h1 ⟨rfl, rfl, hj, hI⟩
        refine w_seq ?_
        refine w_reg ?_
        refine r_lss rfl rfl (fun hc4 => ?_) (fun hc4 => ?_)   -- t34 := binOp lss 3 t33 t32 3
        · skip
          refine r_nil (q_t ?_)
          refine w_seq ?_
          refine w_true rfl ?_
          refine w_skip (q_t ?_)
          refine w_seq ?_
          refine w_block ?_
          refine w_seq ?_
          refine w_reg ?_
          refine r_mv (r_as (r_nil (q_t ?_)))
          refine w_seq ?_
          refine w_draw (by kernel_rfl) ?_
          refine r_mv (r_mv (r_ixm sl_MM rfl HA rfl (List.getElem?_eq_getElem (by omega)) fun a4 r4 ha4 hr4 => ?_))
          refine r_ld na_I64 rfl ha4 (r_mv (r_ixi sl_I64 rfl hr4 rfl (List.getElem?_eq_getElem (by omega)) fun a5 ha5 => ?_))
          refine r_ld na_i64 rfl ha5 (r_mv (r_mv (r_ixm sl_MM rfl HB rfl (List.getElem?_eq_getElem (by omega)) fun a6 r6 ha6 hr6 => ?_)))
          refine r_ld na_I64 rfl ha6 (r_mv (r_ixi sl_I64 rfl hr6 rfl (List.getElem?_eq_getElem (by omega)) fun a7 ha7 => ?_))
          refine r_ld na_i64 rfl ha7 (r_neq rfl rfl (fun hc5 => ?_) (fun hc5 => ?_))   -- t50 := binOp neq 2 t42 t49 2
          · skip
            refine r_nil (q_t ?_)
            refine w_true rfl ?_
            refine w_seq ?_
            refine w_reg ?_
            refine r_as (r_nil (q_t ?_))
            refine w_ret (q_br (q_tr (q_tr (q_br (q_br (q_tr (q_tr (q_br (q_tr ?_)))))))))
            refine ⟨_, retV_1, ?_⟩
            exact ⟨rfl, show Value.bool false = _ by rw [show sameB A B = false by simp only [sameB, decide_eq_false_iff_not]; rintro rfl; omega]⟩
          · skip
            refine r_nil (q_t ?_)
            refine w_false rfl ?_
            refine w_skip (q_b (q_t ?_))
            refine w_reg ?_
            refine r_inc rfl (by omega) (r_mv (r_nil (q_t ?_)))
            refine ⟨A[i].length - (j + 1), j + 1, by omega, ⟨rfl, rfl, by omega, fun c hc => ?_⟩, rfl, trivial⟩
            rcases Nat.lt_succ_iff_lt_or_eq.1 hc with h | rfl
            · exact hI c h
            · rw [List.getElem?_eq_getElem (by omega), List.getElem?_eq_getElem (by omega)]; exact congrArg some (by assumption)
        · skip
          refine r_nil (q_t ?_)
          refine w_seq ?_
          refine w_false rfl ?_
          refine w_exit (q_tx (q_tx (q_bx (q_b (q_t ?_)))))
          refine w_reg ?_
          refine r_inc rfl (by omega) (r_mv (r_nil (q_t ?_)))
          refine ⟨A.length - (i + 1), i + 1, by omega, ⟨rfl, rfl, by omega, fun j hj => ?_⟩, rfl, trivial⟩
          rcases Nat.lt_succ_iff_lt_or_eq.1 hj with h | rfl
          · exact hJ j h
          · rw [List.getElem?_eq_getElem hiA, List.getElem?_eq_getElem hiB]
            exact congrArg some (List.ext_getElem? fun c => by
              rcases Nat.lt_or_ge c A[j].length with hlt | hge
              · exact hI c (by omega)
              · rw [List.getElem?_eq_none hge, List.getElem?_eq_none (by omega)])
    · skip
      refine r_nil (q_t ?_)
      refine w_seq ?_
      refine w_false rfl ?_
      refine w_exit (q_tx (q_tx (q_bx (q_t ?_))))
      refine w_seq ?_
      refine w_reg ?_
      refine r_as (r_nil (q_t ?_))
      refine w_ret ?_
      refine ⟨_, retV_1, ?_⟩
      exact ⟨rfl, show Value.bool true = _ by rw [show sameB A B = true by simp only [sameB, decide_eq_true_eq]; exact List.ext_getElem? fun c => by { rcases Nat.lt_or_ge c A.length with hlt | hge; exact hJ c (by omega); rw [List.getElem?_eq_none hge, List.getElem?_eq_none (by omega)] }]⟩

end Go.Proofs.YtccgaemmdikhcaaDoor
