/-
  The laws ModularMul and ModularCongruence: true for every input.
-/
import Derived.Test.YtdlfineibanppaaDoorLaw1
import Derived.Test.YtdlfineibanppaaDoorGrid
namespace Go.Proofs.YtdlfineibanppaaDoor
open Go Go.QF
set_option linter.unusedVariables false
set_option maxRecDepth 100000
abbrev tG : Nat := 25
theorem ag_Grid : AgT Tryd.prog 25 3 := agT_mk Tryd.underlying25 rfl (by kernel_rfl)
theorem grid_cols {R C : Nat} {Z : List Int} (h : 0 < R) : cols (gridM R C Z) = C := cols_tab h
theorem grid_len (R C : Nat) (Z : List Int) : (gridM R C Z).length = R := tab_len _ _ _

theorem wrap_u8 {a : Int} (h0 : 0 ≤ a) (h1 : a ≤ 255) : IntKind.u8.wrap a = a := by
  simp [IntKind.wrap, IntKind.bits, IntKind.signed]; omega
theorem Fresh.upd {lo : Nat} {S : Nat → Prop} {h h' : Heap} {v : Value} {M : List (List Int)} (H : Fresh lo h v M) (hU : Upd S h h') (hS : ∀ k, S k → k < lo) : Fresh lo h' v M := by
  obtain ⟨b, gs, h1, h2⟩ := H
  exact ⟨b, gs, PartM.upd h1 hU (fun g hg hs => by have := hS g hs; have := h2 g hg; omega), h2⟩
theorem Fresh.upd1 {lo b : Nat} {h h' : Heap} {v : Value} {M : List (List Int)} (H : Fresh lo h v M) (hU : Upd (· = b) h h') (hb : b < lo) : Fresh lo h' v M := H.upd hU (fun k hk => by have hk2 : k = b := hk; omega)

theorem ModularMul_ok {h : Heap} {va vb : Value} {A B : List (List Int)} (HA : Mat h va A) (HB : Mat h vb B) (gr1 gc1 gr2 gc2 : Nat) (l1 l2 : Value) (Z1 Z2 : List Int) (HZ1 : Sl h l1 (Z1.map i8V)) (HZ2 : Sl h l2 (Z2.map i8V)) (hr1 : gr1 < 256) (hg1 : gc1 < 256) (hr2 : gr2 < 256) (hg2 : gc2 < 256) (hz1 : ∀ z ∈ Z1, -128 ≤ z ∧ z ≤ 127) (hz2 : ∀ z ∈ Z2, -128 ≤ z ∧ z ≤ 127) (k raw : Int) (wild made : Bool) (HO : OffH h) : CallH Tryd.prog 8 #[va, vb, .agg #[.int .u8 (gr1 : Int), .int .u8 (gc1 : Int), l1], .agg #[.int .u8 (gr2 : Int), .int .u8 (gc2 : Int), l2], .int .u16 k, .int .i64 raw, .bool wild, .bool made] h fun x h' => Ext h h' ∧ x = .bool true := by
  refine calls_of_W (l := [_, _, _, _, _, _, _, _]) mx Tryd.func8 rfl rfl rfl rfl rfl (by kernel_rfl) ?_
  refine w_seq ?_
  refine w_reg ?_
  refine r_boxG (fun _ => trivial) rfl fun b1 hA hEA hb1 hb1l hc1 => ?_
  have HG1 : GridH tG hA b1 (gr1 : Int) (gc1 : Int) l1 := hc1
  refine r_boxG (fun _ => trivial) rfl fun b2 hB hEB hb2 hb2l hc2 => ?_
  have HG2 : GridH tG hB b2 (gr2 : Int) (gc2 : Int) l2 := hc2
  have HG1 := HG1.ext hEB
  have hEb := hEA.trans hEB
  have HAb := HA.ext hEb
  have HBb := HB.ext hEb
  have HOb := HO.ext hEb
  refine r_as (r_nil (q_t ?_))
  refine w_seq ?_
  refine w_seq ?_
  refine w_reg ?_
  refine r_mv (r_call trivial rfl (large_ok HAb) fun v' hB hk => ?_)
  obtain ⟨rfl, rfl⟩ := hk
  refine ⟨trivial, ?_⟩
  cases hc1 : largeB A
  · skip
    refine r_mv (r_want 24 false (by kernel_rfl) rfl rfl (r_mv (r_want 24 false (by kernel_rfl) rfl rfl (r_call trivial rfl (large_ok HBb) fun v' hB hk => ?_))))
    obtain ⟨rfl, rfl⟩ := hk
    refine ⟨trivial, ?_⟩
    cases hc2 : largeB B
    · skip
      refine r_pickF rfl (r_nil (q_t ?_))
      refine w_false rfl ?_
      refine w_skip (q_t ?_)
      refine w_seq ?_
      refine w_seq ?_
      have HAc := HAb
      have HBc := HBb
      have hEc := hEb
      have HOc := HOb
      refine w_reg ?_
      refine r_mv (r_nil (q_t ?_))
      refine ⟨_, rfl, fun hc3 => ?_, fun hc3 => ?_⟩
      · skip
        refine w_seq ?_
        refine w_reg ?_
        refine r_ldA [.int .u8 (gr1 : Int), .int .u8 (gc1 : Int), l1] ag_Grid rfl rfl HG1.agg ?_
        refine r_call trivial rfl (Ints_ok (most := 5) (HZ1.ext hEb) hr1 hg1 (by omega) (by omega) hz1) fun xa hC hk => ?_
        obtain ⟨hEC, HFA⟩ := hk
        refine ⟨trivial, ?_⟩
        have HAc := HFA.mat
        have HG2 := HG2.ext hEC
        have hEc := hEb.trans hEC
        have hlA := grid_len (1 + gr1 % 5) (1 + gc1 % 5) Z1
        have hcA := grid_cols (C := 1 + gc1 % 5) (Z := Z1) (show 0 < 1 + gr1 % 5 by omega)
        refine r_as (r_nil (q_t ?_))
        refine w_seq ?_
        refine w_reg ?_
        refine r_mv (r_ixm (n := 0) sl_MM rfl HAc rfl (List.getElem?_eq_getElem (by rw [hlA]; omega)) fun aR rR haR hrR => ?_)
        refine r_ld na_I64 rfl haR (r_leni sl_I64 rfl hrR ?_)
        rw [← cols_eq, hcA]
        refine r_subb rfl rfl (by omega) (by omega) ?_
        rw [show ((1 + gc1 % 5 : Nat) : Int) - 1 = ((gc1 % 5 : Nat) : Int) by omega]
        refine r_cvk it_int it_u8 rfl (wrap_u8 (by omega) (by omega)) ?_
        refine r_fa (fs := 1) fd_G0 (by kernel_rfl) (by decide) rfl ?_
        refine r_st na_u8 rfl rfl rfl HG2.c0 (HG2.free 0) ?_
        have HG3 := HG2.set0 ((gc1 % 5 : Nat) : Int)
        have hUd := upd_set hC ⟨b2, 0, none⟩ (.int .u8 ((gc1 % 5 : Nat) : Int))
        have hEd := hEc.thenUpd hUd (fun k hk => by have hk2 : k = b2 := hk; have := hEA.1; omega)
        have HAd : Mat _ xa (gridM (1 + gr1 % 5) (1 + gc1 % 5) Z1) := (HFA.upd1 hUd hb2l).mat
        refine r_nil (q_t ?_)
        refine w_reg ?_
        refine r_ldA [.int .u8 ((gc1 % 5 : Nat) : Int), .int .u8 (gc2 : Int), l2] ag_Grid rfl rfl HG3.agg ?_
        refine r_call trivial rfl (Ints_ok (most := 8) (HZ2.ext hEd) (by omega) hg2 (by omega) (by omega) hz2) fun xb hD hk => ?_
        obtain ⟨hED, HFB⟩ := hk
        refine ⟨trivial, ?_⟩
        have HBc := HFB.mat
        have HAc := HAd.ext hED
        have hEc := hEd.trans hED
        have HOc := HO.ext hEc
        refine r_as (r_nil (q_t ?_))
        refine w_seq ?_
        refine w_reg ?_
        refine r_mv (r_mv (r_mv (r_call trivial rfl (modulus_ok _ _ _ _) fun v' hc hk => ?_)))
        obtain ⟨rfl, c, rfl⟩ := hk
        refine ⟨trivial, ?_⟩
        refine r_as (r_nil (q_t ?_))
        refine w_seq ?_
        refine w_reg ?_
        refine r_mv (r_mv (r_mv (r_call trivial rfl (Mul_ok HAc HBc c) fun x1 h1 hk => ?_)))
        obtain ⟨hE1, r1, rfl, HM1, _⟩ := hk
        refine ⟨trivial, ?_⟩
        refine r_mv (r_ext rfl rfl (r_ext rfl rfl (r_as (r_as (r_nil (q_t ?_))))))
        refine w_seq ?_
        refine w_reg ?_
        refine r_mv (r_mv (r_mv (r_call trivial rfl (refMul_ok (HAc.ext hE1) (HBc.ext hE1) c) fun x2 h2 hk => ?_)))
        obtain ⟨hE2, r2, rfl, HM2, _⟩ := hk
        refine ⟨trivial, ?_⟩
        refine r_mv (r_ext rfl rfl (r_ext rfl rfl (r_as (r_as (r_nil (q_t ?_))))))
        refine w_seq ?_
        refine w_reg ?_
        refine r_mv (r_mv (r_eql rfl rfl (fun _ => ?_) (fun hc => absurd rfl hc)))
        refine r_mv (r_want 62 true (by kernel_rfl) rfl rfl (r_mv (r_want 62 true (by kernel_rfl) rfl rfl (r_mv (r_want 62 true (by kernel_rfl) rfl rfl (r_call trivial rfl (Same_ok (HM1.ext hE2) HM2 (sm_mul _ _ c).1 (sm_mul _ _ c).2) fun w0 hz hk => ?_))))))
        obtain ⟨rfl, rfl⟩ := hk
        refine ⟨trivial, ?_⟩
        rw [same_refl]
        refine r_pickT rfl (r_mv (r_want 67 true (by kernel_rfl) rfl rfl (r_call trivial rfl (awake_ok (HOc.ext (hE1.trans hE2))) fun x0 h9 hk => ?_)))
        obtain ⟨hE9, rfl⟩ := hk
        refine ⟨trivial, ?_⟩
        refine r_pickT rfl (r_as (r_nil (q_t ?_)))
        refine w_ret ?_
        refine ⟨_, retV_1, ?_⟩
        exact ⟨hEc.trans ((hE1.trans hE2).trans hE9), rfl⟩
      · skip
        refine w_skip (q_t ?_)
        refine w_seq ?_
        refine w_reg ?_
        refine r_mv (r_mv (r_mv (r_call trivial rfl (modulus_ok _ _ _ _) fun v' hc hk => ?_)))
        obtain ⟨rfl, c, rfl⟩ := hk
        refine ⟨trivial, ?_⟩
        refine r_as (r_nil (q_t ?_))
        refine w_seq ?_
        refine w_reg ?_
        refine r_mv (r_mv (r_mv (r_call trivial rfl (Mul_ok HAc HBc c) fun x1 h1 hk => ?_)))
        obtain ⟨hE1, r1, rfl, HM1, _⟩ := hk
        refine ⟨trivial, ?_⟩
        refine r_mv (r_ext rfl rfl (r_ext rfl rfl (r_as (r_as (r_nil (q_t ?_))))))
        refine w_seq ?_
        refine w_reg ?_
        refine r_mv (r_mv (r_mv (r_call trivial rfl (refMul_ok (HAc.ext hE1) (HBc.ext hE1) c) fun x2 h2 hk => ?_)))
        obtain ⟨hE2, r2, rfl, HM2, _⟩ := hk
        refine ⟨trivial, ?_⟩
        refine r_mv (r_ext rfl rfl (r_ext rfl rfl (r_as (r_as (r_nil (q_t ?_))))))
        refine w_seq ?_
        refine w_reg ?_
        refine r_mv (r_mv (r_eql rfl rfl (fun _ => ?_) (fun hc => absurd rfl hc)))
        refine r_mv (r_want 62 true (by kernel_rfl) rfl rfl (r_mv (r_want 62 true (by kernel_rfl) rfl rfl (r_mv (r_want 62 true (by kernel_rfl) rfl rfl (r_call trivial rfl (Same_ok (HM1.ext hE2) HM2 (sm_mul _ _ c).1 (sm_mul _ _ c).2) fun w0 hz hk => ?_))))))
        obtain ⟨rfl, rfl⟩ := hk
        refine ⟨trivial, ?_⟩
        rw [same_refl]
        refine r_pickT rfl (r_mv (r_want 67 true (by kernel_rfl) rfl rfl (r_call trivial rfl (awake_ok (HOc.ext (hE1.trans hE2))) fun x0 h9 hk => ?_)))
        obtain ⟨hE9, rfl⟩ := hk
        refine ⟨trivial, ?_⟩
        refine r_pickT rfl (r_as (r_nil (q_t ?_)))
        refine w_ret ?_
        refine ⟨_, retV_1, ?_⟩
        exact ⟨hEc.trans ((hE1.trans hE2).trans hE9), rfl⟩
    · skip
      refine r_pickF rfl (r_nil (q_t ?_))
      refine w_true rfl ?_
      refine w_seq ?_
      refine w_reg ?_
      refine r_call trivial rfl (awake_ok HOb) fun x0 h9 hk => ?_
      obtain ⟨hE9, rfl⟩ := hk
      refine ⟨trivial, ?_⟩
      refine r_as (r_nil (q_t ?_))
      refine w_ret (q_tr ?_)
      refine ⟨_, retV_1, ?_⟩
      exact ⟨hEb.trans hE9, rfl⟩
  · skip
    refine r_mv (r_skip 24 true (by kernel_rfl) rfl rfl (r_skip 24 true (by kernel_rfl) rfl rfl (r_pickT rfl (r_nil (q_t ?_)))))
    refine w_true rfl ?_
    refine w_seq ?_
    refine w_reg ?_
    refine r_call trivial rfl (awake_ok HOb) fun x0 h9 hk => ?_
    obtain ⟨hE9, rfl⟩ := hk
    refine ⟨trivial, ?_⟩
    refine r_as (r_nil (q_t ?_))
    refine w_ret (q_tr ?_)
    refine ⟨_, retV_1, ?_⟩
    exact ⟨hEb.trans hE9, rfl⟩

theorem ModularCongruence_ok {h : Heap} {va vb : Value} {A B : List (List Int)} (HA : Mat h va A) (HB : Mat h vb B) (gr1 gc1 gr2 gc2 : Nat) (l1 l2 : Value) (Z1 Z2 : List Int) (HZ1 : Sl h l1 (Z1.map i8V)) (HZ2 : Sl h l2 (Z2.map i8V)) (hr1 : gr1 < 256) (hg1 : gc1 < 256) (hr2 : gr2 < 256) (hg2 : gc2 < 256) (hz1 : ∀ z ∈ Z1, -128 ≤ z ∧ z ≤ 127) (hz2 : ∀ z ∈ Z2, -128 ≤ z ∧ z ≤ 127) (k raw : Int) (wild made : Bool) (HO : OffH h) : CallH Tryd.prog 12 #[va, vb, .agg #[.int .u8 (gr1 : Int), .int .u8 (gc1 : Int), l1], .agg #[.int .u8 (gr2 : Int), .int .u8 (gc2 : Int), l2], .int .u16 k, .int .i64 raw, .bool wild, .bool made] h fun x h' => Ext h h' ∧ x = .bool true := by
  refine calls_of_W (l := [_, _, _, _, _, _, _, _]) mx Tryd.func12 rfl rfl rfl rfl rfl (by kernel_rfl) ?_
  refine w_seq ?_
  refine w_reg ?_
  refine r_boxG (fun _ => trivial) rfl fun b1 hA hEA hb1 hb1l hc1 => ?_
  have HG1 : GridH tG hA b1 (gr1 : Int) (gc1 : Int) l1 := hc1
  refine r_boxG (fun _ => trivial) rfl fun b2 hB hEB hb2 hb2l hc2 => ?_
  have HG2 : GridH tG hB b2 (gr2 : Int) (gc2 : Int) l2 := hc2
  have HG1 := HG1.ext hEB
  have hEb := hEA.trans hEB
  have HAb := HA.ext hEb
  have HBb := HB.ext hEb
  have HOb := HO.ext hEb
  refine r_as (r_nil (q_t ?_))
  refine w_seq ?_
  refine w_seq ?_
  refine w_reg ?_
  refine r_mv (r_call trivial rfl (large_ok HAb) fun v' hB hk => ?_)
  obtain ⟨rfl, rfl⟩ := hk
  refine ⟨trivial, ?_⟩
  cases hc1 : largeB A
  · skip
    refine r_mv (r_want 24 false (by kernel_rfl) rfl rfl (r_mv (r_want 24 false (by kernel_rfl) rfl rfl (r_call trivial rfl (large_ok HBb) fun v' hB hk => ?_))))
    obtain ⟨rfl, rfl⟩ := hk
    refine ⟨trivial, ?_⟩
    cases hc2 : largeB B
    · skip
      refine r_pickF rfl (r_nil (q_t ?_))
      refine w_false rfl ?_
      refine w_skip (q_t ?_)
      refine w_seq ?_
      refine w_seq ?_
      have HAc := HAb
      have HBc := HBb
      have hEc := hEb
      have HOc := HOb
      refine w_reg ?_
      refine r_mv (r_nil (q_t ?_))
      refine ⟨_, rfl, fun hc3 => ?_, fun hc3 => ?_⟩
      · skip
        refine w_seq ?_
        refine w_reg ?_
        refine r_fa (fs := 1) fd_G0 (by kernel_rfl) (by decide) rfl ?_
        refine r_ld na_u8 rfl HG1.c0 (r_fa (fs := 1) fd_G1 (by kernel_rfl) (by decide) rfl ?_)
        refine r_st na_u8 rfl rfl rfl HG1.c1 (HG1.free 1) ?_
        have HG1 := HG1.set1 (gr1 : Int)
        have hUa := upd_set hB ⟨b1, 1, none⟩ (.int .u8 (gr1 : Int))
        have hEc1 := hEb.thenUpd hUa (fun k hk => by have hk2 : k = b1 := hk; omega)
        have HG2 := HG2.upd hUa (fun he => by have he2 : b2 = b1 := he; omega)
        refine r_nil (q_t ?_)
        refine w_seq ?_
        refine w_reg ?_
        refine r_ldA [.int .u8 (gr1 : Int), .int .u8 (gr1 : Int), l1] ag_Grid rfl rfl HG1.agg ?_
        refine r_call trivial rfl (Ints_ok (most := 6) (HZ1.ext hEc1) hr1 hr1 (by omega) (by omega) hz1) fun xa hC hk => ?_
        obtain ⟨hEC, HFA⟩ := hk
        refine ⟨trivial, ?_⟩
        have HG1 := HG1.ext hEC
        have HG2 := HG2.ext hEC
        have hEc2 := hEc1.trans hEC
        refine r_as (r_nil (q_t ?_))
        refine w_seq ?_
        refine w_reg ?_
        refine r_fa (fs := 1) fd_G0 (by kernel_rfl) (by decide) rfl ?_
        refine r_ld na_u8 rfl HG1.c0 (r_fa (fs := 1) fd_G0 (by kernel_rfl) (by decide) rfl ?_)
        refine r_st na_u8 rfl rfl rfl HG2.c0 (HG2.free 0) ?_
        have HG2 := HG2.set0 (gr1 : Int)
        have hUb := upd_set hC ⟨b2, 0, none⟩ (.int .u8 (gr1 : Int))
        have hEc3 := hEc2.thenUpd hUb (fun k hk => by have hk2 : k = b2 := hk; have := hEA.1; omega)
        have HFA2 := HFA.upd1 hUb (by rw [size_setH]; omega)
        refine r_nil (q_t ?_)
        refine w_reg ?_
        refine r_ldA [.int .u8 (gr1 : Int), .int .u8 (gc2 : Int), l2] ag_Grid rfl rfl HG2.agg ?_
        refine r_call trivial rfl (Ints_ok (most := 6) (HZ2.ext hEc3) hr1 hg2 (by omega) (by omega) hz2) fun xb hD hk => ?_
        obtain ⟨hED, HFB⟩ := hk
        refine ⟨trivial, ?_⟩
        have HBc := HFB.mat
        have HAc := HFA2.mat.ext hED
        have hEc := hEc3.trans hED
        have HOc := HO.ext hEc
        refine r_as (r_nil (q_t ?_))
        refine w_seq ?_
        refine w_reg ?_
        refine r_mv (r_mv (r_mv (r_call trivial rfl (modulus_ok _ _ _ _) fun v' hc hk => ?_)))
        obtain ⟨rfl, c, rfl⟩ := hk
        refine ⟨trivial, ?_⟩
        refine r_as (r_nil (q_t ?_))
        refine w_seq ?_
        refine w_reg ?_
        refine r_mv (r_mv (r_mv (r_call trivial rfl (Congruence_ok HAc HBc c) fun x1 h1 hk => ?_)))
        obtain ⟨hE1, r1, rfl, HM1, _⟩ := hk
        refine ⟨trivial, ?_⟩
        refine r_mv (r_ext rfl rfl (r_ext rfl rfl (r_as (r_as (r_nil (q_t ?_))))))
        refine w_seq ?_
        refine w_reg ?_
        refine r_mv (r_mv (r_mv (r_call trivial rfl (refCongruence_ok (HAc.ext hE1) (HBc.ext hE1) c) fun x2 h2 hk => ?_)))
        obtain ⟨hE2, r2, rfl, HM2, _⟩ := hk
        refine ⟨trivial, ?_⟩
        refine r_mv (r_ext rfl rfl (r_ext rfl rfl (r_as (r_as (r_nil (q_t ?_))))))
        refine w_seq ?_
        refine w_reg ?_
        refine r_mv (r_mv (r_eql rfl rfl (fun _ => ?_) (fun hc => absurd rfl hc)))
        refine r_mv (r_want 61 true (by kernel_rfl) rfl rfl (r_mv (r_want 61 true (by kernel_rfl) rfl rfl (r_mv (r_want 61 true (by kernel_rfl) rfl rfl (r_call trivial rfl (Same_ok (HM1.ext hE2) HM2 (sm_con _ _ c).1 (sm_con _ _ c).2) fun w0 hz hk => ?_))))))
        obtain ⟨rfl, rfl⟩ := hk
        refine ⟨trivial, ?_⟩
        rw [same_refl]
        refine r_pickT rfl (r_mv (r_want 66 true (by kernel_rfl) rfl rfl (r_call trivial rfl (awake_ok (HOc.ext (hE1.trans hE2))) fun x0 h9 hk => ?_)))
        obtain ⟨hE9, rfl⟩ := hk
        refine ⟨trivial, ?_⟩
        refine r_pickT rfl (r_as (r_nil (q_t ?_)))
        refine w_ret ?_
        refine ⟨_, retV_1, ?_⟩
        exact ⟨hEc.trans ((hE1.trans hE2).trans hE9), rfl⟩
      · skip
        refine w_skip (q_t ?_)
        refine w_seq ?_
        refine w_reg ?_
        refine r_mv (r_mv (r_mv (r_call trivial rfl (modulus_ok _ _ _ _) fun v' hc hk => ?_)))
        obtain ⟨rfl, c, rfl⟩ := hk
        refine ⟨trivial, ?_⟩
        refine r_as (r_nil (q_t ?_))
        refine w_seq ?_
        refine w_reg ?_
        refine r_mv (r_mv (r_mv (r_call trivial rfl (Congruence_ok HAc HBc c) fun x1 h1 hk => ?_)))
        obtain ⟨hE1, r1, rfl, HM1, _⟩ := hk
        refine ⟨trivial, ?_⟩
        refine r_mv (r_ext rfl rfl (r_ext rfl rfl (r_as (r_as (r_nil (q_t ?_))))))
        refine w_seq ?_
        refine w_reg ?_
        refine r_mv (r_mv (r_mv (r_call trivial rfl (refCongruence_ok (HAc.ext hE1) (HBc.ext hE1) c) fun x2 h2 hk => ?_)))
        obtain ⟨hE2, r2, rfl, HM2, _⟩ := hk
        refine ⟨trivial, ?_⟩
        refine r_mv (r_ext rfl rfl (r_ext rfl rfl (r_as (r_as (r_nil (q_t ?_))))))
        refine w_seq ?_
        refine w_reg ?_
        refine r_mv (r_mv (r_eql rfl rfl (fun _ => ?_) (fun hc => absurd rfl hc)))
        refine r_mv (r_want 61 true (by kernel_rfl) rfl rfl (r_mv (r_want 61 true (by kernel_rfl) rfl rfl (r_mv (r_want 61 true (by kernel_rfl) rfl rfl (r_call trivial rfl (Same_ok (HM1.ext hE2) HM2 (sm_con _ _ c).1 (sm_con _ _ c).2) fun w0 hz hk => ?_))))))
        obtain ⟨rfl, rfl⟩ := hk
        refine ⟨trivial, ?_⟩
        rw [same_refl]
        refine r_pickT rfl (r_mv (r_want 66 true (by kernel_rfl) rfl rfl (r_call trivial rfl (awake_ok (HOc.ext (hE1.trans hE2))) fun x0 h9 hk => ?_)))
        obtain ⟨hE9, rfl⟩ := hk
        refine ⟨trivial, ?_⟩
        refine r_pickT rfl (r_as (r_nil (q_t ?_)))
        refine w_ret ?_
        refine ⟨_, retV_1, ?_⟩
        exact ⟨hEc.trans ((hE1.trans hE2).trans hE9), rfl⟩
    · skip
      refine r_pickF rfl (r_nil (q_t ?_))
      refine w_true rfl ?_
      refine w_seq ?_
      refine w_reg ?_
      refine r_call trivial rfl (awake_ok HOb) fun x0 h9 hk => ?_
      obtain ⟨hE9, rfl⟩ := hk
      refine ⟨trivial, ?_⟩
      refine r_as (r_nil (q_t ?_))
      refine w_ret (q_tr ?_)
      refine ⟨_, retV_1, ?_⟩
      exact ⟨hEb.trans hE9, rfl⟩
  · skip
    refine r_mv (r_skip 24 true (by kernel_rfl) rfl rfl (r_skip 24 true (by kernel_rfl) rfl rfl (r_pickT rfl (r_nil (q_t ?_)))))
    refine w_true rfl ?_
    refine w_seq ?_
    refine w_reg ?_
    refine r_call trivial rfl (awake_ok HOb) fun x0 h9 hk => ?_
    obtain ⟨hE9, rfl⟩ := hk
    refine ⟨trivial, ?_⟩
    refine r_as (r_nil (q_t ?_))
    refine w_ret (q_tr ?_)
    refine ⟨_, retV_1, ?_⟩
    exact ⟨hEb.trans hE9, rfl⟩

end Go.Proofs.YtdlfineibanppaaDoor
