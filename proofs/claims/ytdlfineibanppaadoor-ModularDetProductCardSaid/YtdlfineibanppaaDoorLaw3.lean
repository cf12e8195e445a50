/-
  The laws ModularEchelon and ModularKernel: true for every input.
-/
import Derived.Test.YtdlfineibanppaaDoorLaw2
import Derived.Test.YtdlfineibanppaaDoorRef
namespace Go.Proofs.YtdlfineibanppaaDoor
open Go Go.QF
set_option linter.unusedVariables false
set_option maxRecDepth 100000
def primes20 : List Int := [2, 3, 5, 7, 2, 3, 5, 11, 13, 17, 19, 23, 3, 2, 9973, 10007, 1, 4, 9, -3]

theorem Prime_ok (k : Nat) (hk : k < 256) (h : Heap) : CallH Tryd.prog 41 #[.int .u8 (k : Int)] h fun x h' => Ext h h' ∧ ∃ c, x = .int .i64 c := by
  refine calls_of_W (l := [_]) mx Tryd.func41 rfl rfl rfl rfl rfl (by kernel_rfl) ?_
  refine w_seq ?_
  refine w_reg ?_
  refine r_as (r_nil (q_t ?_))
  refine w_seq ?_
  refine w_reg ?_
  refine r_lit ((primes20).map (Value.int .i64)) sl_I64 ze_i64 rfl (fun _ => trivial) rfl (by decide) (by decide) rfl (by simp [isOne]) fun v1 h1 hE1 HO1 => ?_
  refine r_as (r_nil (q_t ?_))
  refine w_seq ?_
  have hkm := Nat.mod_lt k (show 0 < 20 by decide)
  refine w_reg ?_
  refine r_mv (r_mv (r_cvk it_u8 it_int rfl (wrap_small (by omega) (by omega)) ?_))
  refine r_mv (r_lens sl_I64 rfl HO1.sl ?_)
  refine r_remn (b := 20) rfl rfl (by decide) ?_
  refine r_ixi (zs := primes20) (n := k % 20) sl_I64 rfl HO1.sl rfl (List.getElem?_eq_getElem (show k % 20 < primes20.length from hkm)) fun a1 ha1 => ?_
  refine r_ld na_i64 rfl ha1 (r_as (r_nil (q_t ?_)))
  refine w_ret ?_
  refine ⟨_, retV_1, ?_⟩
  exact ⟨hE1, _, rfl⟩

theorem prime_ok (k : Nat) (hk : k < 256) (raw : Int) (wild : Bool) (h : Heap) : CallH Tryd.prog 18 #[.int .u8 (k : Int), .int .i64 raw, .bool wild] h fun x h' => Ext h h' ∧ ∃ c, x = .int .i64 c := by
  refine calls_of_W (l := [_, _, _]) mx Tryd.func18 rfl rfl rfl rfl rfl (by kernel_rfl) ?_
  refine w_seq ?_
  refine w_reg ?_
  refine r_as (r_nil (q_t ?_))
  refine w_seq ?_
  refine w_seq ?_
  refine w_reg ?_
  refine r_mv (r_nil (q_t ?_))
  refine ⟨_, rfl, fun hc1 => ?_, fun hc1 => ?_⟩
  · skip
    refine w_seq ?_
    refine w_reg ?_
    refine r_mv (r_as (r_nil (q_t ?_)))
    refine w_ret (q_tr ?_)
    refine ⟨_, retV_1, ?_⟩
    exact ⟨Ext.refl _, _, rfl⟩
  · skip
    refine w_skip (q_t ?_)
    refine w_seq ?_
    refine w_reg ?_
    refine r_mv (r_call trivial rfl (Prime_ok k hk h) fun x1 h1 hk => ?_)
    obtain ⟨hE1, c, rfl⟩ := hk
    refine ⟨trivial, ?_⟩
    refine r_as (r_nil (q_t ?_))
    refine w_ret ?_
    refine ⟨_, retV_1, ?_⟩
    exact ⟨hE1, _, rfl⟩

def oddPs : List Int := [3, 5, 7, 11, 13, 17, 19, 23]
def prB (n : Nat) : Bool := (List.range n).all fun d => decide (d < 2) || decide (n % d ≠ 0)
theorem pr_of_B {n : Nat} (h2 : 2 ≤ n) (h : prB n = true) : Pr (n : Int) := by
  refine ⟨by omega, fun d h1 hd hm => ?_⟩
  have hd' := List.all_eq_true.1 h d.toNat (by simp; omega)
  simp at hd'
  rcases hd' with h3 | h3
  · omega
  · apply h3
    have : ((n % d.toNat : Nat) : Int) = 0 := by rw [Int.natCast_emod, Int.toNat_of_nonneg (by omega)]; exact hm
    omega
theorem odd_pr : ∀ c ∈ oddPs, Pr c ∧ 3 ≤ c ∧ c ≤ 23 := by
  intro c hc
  have : (c.toNat : Int) = c ∧ prB c.toNat = true ∧ 3 ≤ c ∧ c ≤ 23 := by
    simp only [oddPs, List.mem_cons, List.not_mem_nil, or_false] at hc
    rcases hc with rfl | rfl | rfl | rfl | rfl | rfl | rfl | rfl <;> decide
  have hp := pr_of_B (n := c.toNat) (by omega) this.2.1
  rw [this.1] at hp
  exact ⟨hp, this.2.2⟩

theorem OddPrime_ok (k : Nat) (hk : k < 256) (h : Heap) : CallH Tryd.prog 34 #[.int .u8 (k : Int)] h fun x h' => Ext h h' ∧ ∃ c, x = .int .i64 c ∧ Pr c ∧ 3 ≤ c ∧ c ≤ 23 := by
  refine calls_of_W (l := [_]) mx Tryd.func34 rfl rfl rfl rfl rfl (by kernel_rfl) ?_
  refine w_seq ?_
  refine w_reg ?_
  refine r_as (r_nil (q_t ?_))
  refine w_seq ?_
  have hkm := Nat.mod_lt k (show 0 < 8 by decide)
  refine w_reg ?_
  refine r_lit ((oddPs).map (Value.int .i64)) sl_I64 ze_i64 rfl (fun _ => trivial) rfl (by decide) (by decide) rfl (by simp [isOne]) fun v1 h1 hE1 HO1 => ?_
  refine r_mv (r_remn (b := 8) rfl rfl (by decide) ?_)
  refine r_ixi (zs := oddPs) (n := k % 8) sl_I64 rfl HO1.sl rfl (List.getElem?_eq_getElem (show k % 8 < oddPs.length from hkm)) fun a1 ha1 => ?_
  refine r_ld na_i64 rfl ha1 (r_as (r_nil (q_t ?_)))
  refine w_ret ?_
  refine ⟨_, retV_1, ?_⟩
  exact ⟨hE1, _, rfl, odd_pr _ (List.getElem_mem _)⟩

theorem ModularKernel_ok {h : Heap} {va : Value} {A : List (List Int)} (HA : Mat h va A) (gr1 gc1 : Nat) (l1 : Value) (Z1 : List Int) (HZ1 : Sl h l1 (Z1.map i8V)) (hr1 : gr1 < 256) (hg1 : gc1 < 256) (hz1 : ∀ z ∈ Z1, -128 ≤ z ∧ z ≤ 127) (k : Nat) (hk : k < 256) (raw : Int) (wild made : Bool) (HO : OffH h) : CallH Tryd.prog 3 #[va, .agg #[.int .u8 (gr1 : Int), .int .u8 (gc1 : Int), l1], .int .u8 (k : Int), .int .i64 raw, .bool wild, .bool made] h fun x h' => Ext h h' ∧ x = .bool true := by
  refine calls_of_W (l := [_, _, _, _, _, _]) mx Tryd.func3 rfl rfl rfl rfl rfl (by kernel_rfl) ?_
  refine w_seq ?_
  refine w_reg ?_
  refine r_boxG (fun _ => trivial) rfl fun b1 hA hEb hb1 hb1l hc1 => ?_
  have HG1 : GridH tG hA b1 (gr1 : Int) (gc1 : Int) l1 := hc1
  have HAb := HA.ext hEb
  have HOb := HO.ext hEb
  refine r_as (r_nil (q_t ?_))
  refine w_seq ?_
  refine w_seq ?_
  refine w_reg ?_
  refine r_mv (r_call trivial rfl (large_ok HAb) fun v' hA hk => ?_)
  obtain ⟨rfl, rfl⟩ := hk
  refine ⟨trivial, ?_⟩
  cases hc1 : largeB A
  · skip
    refine r_nil (q_t ?_)
    refine w_false rfl ?_
    refine w_skip (q_t ?_)
    refine w_seq ?_
    refine w_seq ?_
    obtain ⟨Ac, HAc⟩ : ∃ Ac, Mat hA va Ac := ⟨A, HAb⟩
    have hEc := hEb
    have HOc := HOb
    refine w_reg ?_
    refine r_mv (r_nil (q_t ?_))
    refine ⟨_, rfl, fun hc2 => ?_, fun hc2 => ?_⟩
    · skip
      refine w_reg ?_
      refine r_ldA [.int .u8 (gr1 : Int), .int .u8 (gc1 : Int), l1] ag_Grid rfl rfl HG1.agg ?_
      refine r_call trivial rfl (Ints_ok (most := 7) (HZ1.ext hEb) hr1 hg1 (by omega) (by omega) hz1) fun xa hC hk => ?_
      obtain ⟨hEC, HFA⟩ := hk
      refine ⟨trivial, ?_⟩
      obtain ⟨Ac, HAc⟩ : ∃ Ac, Mat hC xa Ac := ⟨_, HFA.mat⟩
      have hEc := hEb.trans hEC
      have HOc := HO.ext hEc
      refine r_as (r_nil (q_t ?_))
      refine w_seq ?_
      refine w_reg ?_
      refine r_mv (r_mv (r_mv (r_call trivial rfl (prime_ok k hk _ _ _) fun xp hD hk => ?_)))
      obtain ⟨hED, c, rfl⟩ := hk
      refine ⟨trivial, ?_⟩
      have HAd := HAc.ext hED
      have HOd := HOc.ext hED
      have hEd := hEc.trans hED
      refine r_as (r_nil (q_t ?_))
      refine w_seq ?_
      refine w_reg ?_
      refine r_mv (r_mv (r_call trivial rfl (Kernel_ok HAd c HOd) fun x1 h1 hk => ?_))
      obtain ⟨hE1, r1, rfl, HM1⟩ := hk
      refine ⟨trivial, ?_⟩
      refine r_mv (r_ext rfl rfl (r_ext rfl rfl (r_as (r_as (r_nil (q_t ?_))))))
      refine w_seq ?_
      refine w_reg ?_
      refine r_mv (r_mv (r_call trivial rfl (refKernel_ok (HAd.ext hE1) c) fun x2 h2 hk => ?_))
      obtain ⟨hE2, r2, rfl, HM2⟩ := hk
      refine ⟨trivial, ?_⟩
      refine r_mv (r_ext rfl rfl (r_ext rfl rfl (r_as (r_as (r_nil (q_t ?_))))))
      refine w_seq ?_
      refine w_reg ?_
      refine r_mv (r_mv (r_eql rfl rfl (fun _ => ?_) (fun hc => absurd rfl hc)))
      refine r_mv (r_want 43 true (by kernel_rfl) rfl rfl (r_mv (r_want 43 true (by kernel_rfl) rfl rfl (r_mv (r_want 43 true (by kernel_rfl) rfl rfl (r_call trivial rfl (Same_ok (HM1.ext hE2) HM2 (sm_ker Ac c).1 (sm_ker Ac c).2) fun w0 h3 hk => ?_))))))
      obtain ⟨rfl, rfl⟩ := hk
      refine ⟨trivial, ?_⟩
      rw [same_refl]
      refine r_pickT rfl (r_mv (r_want 48 true (by kernel_rfl) rfl rfl (r_call trivial rfl (awake_ok (HOd.ext (hE1.trans hE2))) fun x0 h9 hk => ?_)))
      obtain ⟨hE9, rfl⟩ := hk
      refine ⟨trivial, ?_⟩
      refine r_pickT rfl (r_as (r_nil (q_t ?_)))
      refine w_ret ?_
      refine ⟨_, retV_1, ?_⟩
      exact ⟨hEd.trans ((hE1.trans hE2).trans hE9), rfl⟩
    · skip
      refine w_skip (q_t ?_)
      refine w_seq ?_
      refine w_reg ?_
      refine r_mv (r_mv (r_mv (r_call trivial rfl (prime_ok k hk _ _ _) fun xp hD hk => ?_)))
      obtain ⟨hED, c, rfl⟩ := hk
      refine ⟨trivial, ?_⟩
      have HAd := HAc.ext hED
      have HOd := HOc.ext hED
      have hEd := hEc.trans hED
      refine r_as (r_nil (q_t ?_))
      refine w_seq ?_
      refine w_reg ?_
      refine r_mv (r_mv (r_call trivial rfl (Kernel_ok HAd c HOd) fun x1 h1 hk => ?_))
      obtain ⟨hE1, r1, rfl, HM1⟩ := hk
      refine ⟨trivial, ?_⟩
      refine r_mv (r_ext rfl rfl (r_ext rfl rfl (r_as (r_as (r_nil (q_t ?_))))))
      refine w_seq ?_
      refine w_reg ?_
      refine r_mv (r_mv (r_call trivial rfl (refKernel_ok (HAd.ext hE1) c) fun x2 h2 hk => ?_))
      obtain ⟨hE2, r2, rfl, HM2⟩ := hk
      refine ⟨trivial, ?_⟩
      refine r_mv (r_ext rfl rfl (r_ext rfl rfl (r_as (r_as (r_nil (q_t ?_))))))
      refine w_seq ?_
      refine w_reg ?_
      refine r_mv (r_mv (r_eql rfl rfl (fun _ => ?_) (fun hc => absurd rfl hc)))
      refine r_mv (r_want 43 true (by kernel_rfl) rfl rfl (r_mv (r_want 43 true (by kernel_rfl) rfl rfl (r_mv (r_want 43 true (by kernel_rfl) rfl rfl (r_call trivial rfl (Same_ok (HM1.ext hE2) HM2 (sm_ker Ac c).1 (sm_ker Ac c).2) fun w0 h3 hk => ?_))))))
      obtain ⟨rfl, rfl⟩ := hk
      refine ⟨trivial, ?_⟩
      rw [same_refl]
      refine r_pickT rfl (r_mv (r_want 48 true (by kernel_rfl) rfl rfl (r_call trivial rfl (awake_ok (HOd.ext (hE1.trans hE2))) fun x0 h9 hk => ?_)))
      obtain ⟨hE9, rfl⟩ := hk
      refine ⟨trivial, ?_⟩
      refine r_pickT rfl (r_as (r_nil (q_t ?_)))
      refine w_ret ?_
      refine ⟨_, retV_1, ?_⟩
      exact ⟨hEd.trans ((hE1.trans hE2).trans hE9), rfl⟩
  · skip
    refine r_nil (q_t ?_)
    refine w_true rfl ?_
    refine w_seq ?_
    refine w_reg ?_
    refine r_call trivial rfl (awake_ok HOb) fun x0 h9 hk => ?_
    obtain ⟨hE9, rfl⟩ := hk
    refine ⟨trivial, ?_⟩
    refine r_as (r_nil (q_t ?_))
    refine w_ret (q_tr ?_)
    refine ⟨_, retV_1, ?_⟩
    exact ⟨hEb.trans hE9, rfl⟩

theorem ModularEchelon_ok {h : Heap} {va : Value} {A : List (List Int)} (HA : Mat h va A) (gr1 gc1 : Nat) (l1 : Value) (Z1 : List Int) (HZ1 : Sl h l1 (Z1.map i8V)) (hr1 : gr1 < 256) (hg1 : gc1 < 256) (hz1 : ∀ z ∈ Z1, -128 ≤ z ∧ z ≤ 127) (k : Nat) (hk : k < 256) (raw : Int) (wild made : Bool) (HO : OffH h) : CallH Tryd.prog 5 #[va, .agg #[.int .u8 (gr1 : Int), .int .u8 (gc1 : Int), l1], .int .u8 (k : Int), .int .i64 raw, .bool wild, .bool made] h fun x h' => Ext h h' ∧ x = .bool true := by
  refine calls_of_W (l := [_, _, _, _, _, _]) mx Tryd.func5 rfl rfl rfl rfl rfl (by kernel_rfl) ?_
  refine w_seq ?_
  refine w_reg ?_
  refine r_boxG (fun _ => trivial) rfl fun b1 hA hEb hb1 hb1l hc1 => ?_
  have HG1 : GridH tG hA b1 (gr1 : Int) (gc1 : Int) l1 := hc1
  have HAb := HA.ext hEb
  have HOb := HO.ext hEb
  refine r_as (r_nil (q_t ?_))
  refine w_seq ?_
  refine w_seq ?_
  refine w_reg ?_
  refine r_mv (r_call trivial rfl (large_ok HAb) fun v' hA hk => ?_)
  obtain ⟨rfl, rfl⟩ := hk
  refine ⟨trivial, ?_⟩
  cases hc1 : largeB A
  · skip
    refine r_nil (q_t ?_)
    refine w_false rfl ?_
    refine w_skip (q_t ?_)
    refine w_seq ?_
    refine w_seq ?_
    obtain ⟨Ac, HAc⟩ : ∃ Ac, Mat hA va Ac := ⟨A, HAb⟩
    have hEc := hEb
    have HOc := HOb
    refine w_reg ?_
    refine r_mv (r_nil (q_t ?_))
    refine ⟨_, rfl, fun hc2 => ?_, fun hc2 => ?_⟩
    · skip
      refine w_reg ?_
      refine r_ldA [.int .u8 (gr1 : Int), .int .u8 (gc1 : Int), l1] ag_Grid rfl rfl HG1.agg ?_
      refine r_call trivial rfl (Ints_ok (most := 6) (HZ1.ext hEb) hr1 hg1 (by omega) (by omega) hz1) fun xa hC hk => ?_
      obtain ⟨hEC, HFA⟩ := hk
      refine ⟨trivial, ?_⟩
      obtain ⟨Ac, HAc⟩ : ∃ Ac, Mat hC xa Ac := ⟨_, HFA.mat⟩
      have hEc := hEb.trans hEC
      have HOc := HO.ext hEc
      refine r_as (r_nil (q_t ?_))
      refine w_seq ?_
      refine w_reg ?_
      refine r_mv (r_mv (r_mv (r_call trivial rfl (prime_ok k hk _ _ _) fun xp hD hk => ?_)))
      obtain ⟨hED, c, rfl⟩ := hk
      refine ⟨trivial, ?_⟩
      have HAd := HAc.ext hED
      have HOd := HOc.ext hED
      have hEd := hEc.trans hED
      refine r_as (r_nil (q_t ?_))
      refine w_seq ?_
      refine w_reg ?_
      refine r_mv (r_mv (r_call trivial rfl (Echelon_ok HAd c HOd) fun x1 h1 hk => ?_))
      obtain ⟨hE1, r1, p1, rfl, HM1, HP1⟩ := hk
      refine ⟨trivial, ?_⟩
      refine r_mv (r_ext rfl rfl (r_ext rfl rfl (r_ext rfl rfl (r_as (r_as (r_as (r_nil (q_t ?_))))))))
      refine w_seq ?_
      refine w_reg ?_
      refine r_mv (r_mv (r_call trivial rfl (refEchelon_ok (HAd.ext hE1) c) fun x2 h2 hk => ?_))
      obtain ⟨hE2, r2, p2, rfl, HM2, HP2⟩ := hk
      refine ⟨trivial, ?_⟩
      refine r_mv (r_ext rfl rfl (r_ext rfl rfl (r_ext rfl rfl (r_as (r_as (r_as (r_nil (q_t ?_))))))))
      refine w_seq ?_
      refine w_reg ?_
      refine r_mv (r_mv (r_call trivial rfl (Rank_ok (HAd.ext (hE1.trans hE2)) c (HOd.ext (hE1.trans hE2))) fun x3 h3 hk => ?_))
      obtain ⟨hE3, rfl⟩ := hk
      refine ⟨trivial, ?_⟩
      have HPa := HP1.ext (hE2.trans hE3)
      have HPb := HP2.ext hE3
      have hpl : (pivS Ac c).length ≤ 16 := by
        unfold pivS
        split
        · rename_i hb; have := piv_eF Ac c; have := (priB_of hb).1.2.1; omega
        · simp
      refine r_mv (r_ext rfl rfl (r_ext rfl rfl (r_as (r_as (r_nil (q_t ?_))))))
      refine w_seq ?_
      refine w_seq ?_
      refine w_reg ?_
      refine r_mv (r_mv (r_neq rfl rfl (fun hc => absurd rfl hc) (fun _ => ?_)))
      refine r_mv (r_want 56 false (by kernel_rfl) rfl rfl (r_mv (r_want 56 false (by kernel_rfl) rfl rfl (r_mv (r_want 56 false (by kernel_rfl) rfl rfl (r_neq rfl rfl (fun hc => absurd rfl hc) (fun _ => ?_)))))))
      refine r_pickF rfl (r_mv (r_want 61 false (by kernel_rfl) rfl rfl (r_mv (r_want 61 false (by kernel_rfl) rfl rfl (r_mv (r_want 61 false (by kernel_rfl) rfl rfl (r_lenm sl_MM rfl (HM2.ext hE3) ?_)))))))
      refine r_want 61 false (by kernel_rfl) rfl rfl (r_neq rfl rfl (fun hc => absurd rfl hc) (fun _ => ?_))
      refine r_pickF rfl (r_mv (r_want 67 false (by kernel_rfl) rfl rfl (r_mv (r_want 67 false (by kernel_rfl) rfl rfl (r_mv (r_want 67 false (by kernel_rfl) rfl rfl (r_call trivial rfl (Same_ok (HM1.ext (hE2.trans hE3)) (HM2.ext hE3) (sm_ech Ac c).1 (sm_ech Ac c).2) fun w0 h3 hk => ?_)))))))
      obtain ⟨rfl, rfl⟩ := hk
      refine ⟨trivial, ?_⟩
      rw [same_refl]
      refine r_want 67 false (by kernel_rfl) rfl rfl (r_not rfl (r_pickF rfl (r_mv (r_want 73 false (by kernel_rfl) rfl rfl (r_mv (r_want 73 false (by kernel_rfl) rfl rfl (r_lens sl_II rfl HPa ?_)))))))
      refine r_want 73 false (by kernel_rfl) rfl rfl (r_mv (r_want 73 false (by kernel_rfl) rfl rfl (r_lens sl_II rfl HPb ?_)))
      refine r_want 73 false (by kernel_rfl) rfl rfl (r_neq rfl rfl (fun hc => absurd rfl hc) (fun _ => ?_))
      refine r_pickF rfl (r_nil (q_t ?_))
      refine w_false rfl ?_
      refine w_skip (q_t ?_)
      refine w_seq ?_
      refine w_seq ?_
      refine w_reg ?_
      refine r_mv (r_lens sl_II rfl HPa ?_)
      rw [List.length_map]
      refine r_mv (r_nil (q_t ?_))
      refine w_block ?_
      refine w_loop 39609245553853710280077348864 (fun i : Nat => [(82, .int .i64 (i : Int))]) (fun k i h' => h' = h3 ∧ k = (pivS Ac c).length - i ∧ i ≤ (pivS Ac c).length) (by kernel_rfl) (pivS Ac c).length 0 ?_ ⟨rfl, trivial⟩ ?_
      · exact ⟨rfl, rfl, by omega⟩
      rintro k i s1 h3' ⟨rfl, rfl, hi⟩
      refine w_seq ?_
      refine w_reg ?_
      refine r_lss rfl rfl (fun hc3 => ?_) (fun hc3 => ?_)   -- t83 := binOp lss 3 t82 t81 3
      · skip
        refine r_nil (q_t ?_)
        refine w_seq ?_
        refine w_true rfl ?_
        refine w_skip (q_t ?_)
        refine w_seq ?_
        refine w_block ?_
        refine w_seq ?_
        refine w_reg ?_
        refine r_mv (r_as (r_nil (q_t ?_)))
        refine w_seq ?_
        refine w_draw (by kernel_rfl) ?_
        refine r_mv (r_mv (r_ixs sl_II rfl HPa rfl (show ((pivS Ac c).map natV)[i]? = some (natV (pivS Ac c)[i]) by rw [List.getElem?_map, List.getElem?_eq_getElem (by omega)]; rfl) fun aX haX => ?_))
        refine r_ld na_int rfl haX (r_mv (r_mv (r_ixs sl_II rfl HPb rfl (show ((pivS Ac c).map natV)[i]? = some (natV (pivS Ac c)[i]) by rw [List.getElem?_map, List.getElem?_eq_getElem (by omega)]; rfl) fun aY haY => ?_)))
        refine r_ld na_int rfl haY (r_neq rfl rfl (fun hc => absurd rfl hc) (fun _ => ?_))
        refine r_nil (q_t ?_)
        refine w_false rfl ?_
        refine w_skip (q_b (q_t ?_))
        refine w_reg ?_
        refine r_inc rfl (by omega) (r_mv (r_nil (q_t ?_)))
        exact ⟨(pivS Ac c).length - (i + 1), i + 1, by omega, ⟨rfl, rfl, by omega⟩, rfl, trivial⟩
      · skip
        refine r_nil (q_t ?_)
        refine w_seq ?_
        refine w_false rfl ?_
        refine w_exit (q_tx (q_tx (q_bx (q_t ?_))))
        refine w_seq ?_
        refine w_reg ?_
        refine r_call trivial rfl (awake_ok (HOd.ext (hE1.trans (hE2.trans hE3)))) fun x0 h9 hk => ?_
        obtain ⟨hE9, rfl⟩ := hk
        refine ⟨trivial, ?_⟩
        refine r_as (r_nil (q_t ?_))
        refine w_ret ?_
        refine ⟨_, retV_1, ?_⟩
        first | exact ⟨hEd.trans ((hE1.trans (hE2.trans hE3)).trans hE9), rfl⟩ | exact ⟨hEb.trans hE9, rfl⟩
    · skip
      refine w_skip (q_t ?_)
      refine w_seq ?_
      refine w_reg ?_
      refine r_mv (r_mv (r_mv (r_call trivial rfl (prime_ok k hk _ _ _) fun xp hD hk => ?_)))
      obtain ⟨hED, c, rfl⟩ := hk
      refine ⟨trivial, ?_⟩
      have HAd := HAc.ext hED
      have HOd := HOc.ext hED
      have hEd := hEc.trans hED
      refine r_as (r_nil (q_t ?_))
      refine w_seq ?_
      refine w_reg ?_
      refine r_mv (r_mv (r_call trivial rfl (Echelon_ok HAd c HOd) fun x1 h1 hk => ?_))
      obtain ⟨hE1, r1, p1, rfl, HM1, HP1⟩ := hk
      refine ⟨trivial, ?_⟩
      refine r_mv (r_ext rfl rfl (r_ext rfl rfl (r_ext rfl rfl (r_as (r_as (r_as (r_nil (q_t ?_))))))))
      refine w_seq ?_
      refine w_reg ?_
      refine r_mv (r_mv (r_call trivial rfl (refEchelon_ok (HAd.ext hE1) c) fun x2 h2 hk => ?_))
      obtain ⟨hE2, r2, p2, rfl, HM2, HP2⟩ := hk
      refine ⟨trivial, ?_⟩
      refine r_mv (r_ext rfl rfl (r_ext rfl rfl (r_ext rfl rfl (r_as (r_as (r_as (r_nil (q_t ?_))))))))
      refine w_seq ?_
      refine w_reg ?_
      refine r_mv (r_mv (r_call trivial rfl (Rank_ok (HAd.ext (hE1.trans hE2)) c (HOd.ext (hE1.trans hE2))) fun x3 h3 hk => ?_))
      obtain ⟨hE3, rfl⟩ := hk
      refine ⟨trivial, ?_⟩
      have HPa := HP1.ext (hE2.trans hE3)
      have HPb := HP2.ext hE3
      have hpl : (pivS Ac c).length ≤ 16 := by
        unfold pivS
        split
        · rename_i hb; have := piv_eF Ac c; have := (priB_of hb).1.2.1; omega
        · simp
      refine r_mv (r_ext rfl rfl (r_ext rfl rfl (r_as (r_as (r_nil (q_t ?_))))))
      refine w_seq ?_
      refine w_seq ?_
      refine w_reg ?_
      refine r_mv (r_mv (r_neq rfl rfl (fun hc => absurd rfl hc) (fun _ => ?_)))
      refine r_mv (r_want 56 false (by kernel_rfl) rfl rfl (r_mv (r_want 56 false (by kernel_rfl) rfl rfl (r_mv (r_want 56 false (by kernel_rfl) rfl rfl (r_neq rfl rfl (fun hc => absurd rfl hc) (fun _ => ?_)))))))
      refine r_pickF rfl (r_mv (r_want 61 false (by kernel_rfl) rfl rfl (r_mv (r_want 61 false (by kernel_rfl) rfl rfl (r_mv (r_want 61 false (by kernel_rfl) rfl rfl (r_lenm sl_MM rfl (HM2.ext hE3) ?_)))))))
      refine r_want 61 false (by kernel_rfl) rfl rfl (r_neq rfl rfl (fun hc => absurd rfl hc) (fun _ => ?_))
      refine r_pickF rfl (r_mv (r_want 67 false (by kernel_rfl) rfl rfl (r_mv (r_want 67 false (by kernel_rfl) rfl rfl (r_mv (r_want 67 false (by kernel_rfl) rfl rfl (r_call trivial rfl (Same_ok (HM1.ext (hE2.trans hE3)) (HM2.ext hE3) (sm_ech Ac c).1 (sm_ech Ac c).2) fun w0 h3 hk => ?_)))))))
      obtain ⟨rfl, rfl⟩ := hk
      refine ⟨trivial, ?_⟩
      rw [same_refl]
      refine r_want 67 false (by kernel_rfl) rfl rfl (r_not rfl (r_pickF rfl (r_mv (r_want 73 false (by kernel_rfl) rfl rfl (r_mv (r_want 73 false (by kernel_rfl) rfl rfl (r_lens sl_II rfl HPa ?_)))))))
      refine r_want 73 false (by kernel_rfl) rfl rfl (r_mv (r_want 73 false (by kernel_rfl) rfl rfl (r_lens sl_II rfl HPb ?_)))
      refine r_want 73 false (by kernel_rfl) rfl rfl (r_neq rfl rfl (fun hc => absurd rfl hc) (fun _ => ?_))
      refine r_pickF rfl (r_nil (q_t ?_))
      refine w_false rfl ?_
      refine w_skip (q_t ?_)
      refine w_seq ?_
      refine w_seq ?_
      refine w_reg ?_
      refine r_mv (r_lens sl_II rfl HPa ?_)
      rw [List.length_map]
      refine r_mv (r_nil (q_t ?_))
      refine w_block ?_
      refine w_loop 39609245553853710280077348864 (fun i : Nat => [(82, .int .i64 (i : Int))]) (fun k i h' => h' = h3 ∧ k = (pivS Ac c).length - i ∧ i ≤ (pivS Ac c).length) (by kernel_rfl) (pivS Ac c).length 0 ?_ ⟨rfl, trivial⟩ ?_
      · exact ⟨rfl, rfl, by omega⟩
      rintro k i s1 h3' ⟨rfl, rfl, hi⟩
      refine w_seq ?_
      refine w_reg ?_
      refine r_lss rfl rfl (fun hc4 => ?_) (fun hc4 => ?_)   -- t83 := binOp lss 3 t82 t81 3
      · skip
        refine r_nil (q_t ?_)
        refine w_seq ?_
        refine w_true rfl ?_
        refine w_skip (q_t ?_)
        refine w_seq ?_
        refine w_block ?_
        refine w_seq ?_
        refine w_reg ?_
        refine r_mv (r_as (r_nil (q_t ?_)))
        refine w_seq ?_
        refine w_draw (by kernel_rfl) ?_
        refine r_mv (r_mv (r_ixs sl_II rfl HPa rfl (show ((pivS Ac c).map natV)[i]? = some (natV (pivS Ac c)[i]) by rw [List.getElem?_map, List.getElem?_eq_getElem (by omega)]; rfl) fun aX haX => ?_))
        refine r_ld na_int rfl haX (r_mv (r_mv (r_ixs sl_II rfl HPb rfl (show ((pivS Ac c).map natV)[i]? = some (natV (pivS Ac c)[i]) by rw [List.getElem?_map, List.getElem?_eq_getElem (by omega)]; rfl) fun aY haY => ?_)))
        refine r_ld na_int rfl haY (r_neq rfl rfl (fun hc => absurd rfl hc) (fun _ => ?_))
        refine r_nil (q_t ?_)
        refine w_false rfl ?_
        refine w_skip (q_b (q_t ?_))
        refine w_reg ?_
        refine r_inc rfl (by omega) (r_mv (r_nil (q_t ?_)))
        exact ⟨(pivS Ac c).length - (i + 1), i + 1, by omega, ⟨rfl, rfl, by omega⟩, rfl, trivial⟩
      · skip
        refine r_nil (q_t ?_)
        refine w_seq ?_
        refine w_false rfl ?_
        refine w_exit (q_tx (q_tx (q_bx (q_t ?_))))
        refine w_seq ?_
        refine w_reg ?_
        refine r_call trivial rfl (awake_ok (HOd.ext (hE1.trans (hE2.trans hE3)))) fun x0 h9 hk => ?_
        obtain ⟨hE9, rfl⟩ := hk
        refine ⟨trivial, ?_⟩
        refine r_as (r_nil (q_t ?_))
        refine w_ret ?_
        refine ⟨_, retV_1, ?_⟩
        first | exact ⟨hEd.trans ((hE1.trans (hE2.trans hE3)).trans hE9), rfl⟩ | exact ⟨hEb.trans hE9, rfl⟩
  · skip
    refine r_nil (q_t ?_)
    refine w_true rfl ?_
    refine w_seq ?_
    refine w_reg ?_
    refine r_call trivial rfl (awake_ok HOb) fun x0 h9 hk => ?_
    obtain ⟨hE9, rfl⟩ := hk
    refine ⟨trivial, ?_⟩
    refine r_as (r_nil (q_t ?_))
    refine w_ret (q_tr ?_)
    refine ⟨_, retV_1, ?_⟩
    first | exact ⟨hEd.trans ((hE1.trans (hE2.trans hE3)).trans hE9), rfl⟩ | exact ⟨hEb.trans hE9, rfl⟩

end Go.Proofs.YtdlfineibanppaaDoor
