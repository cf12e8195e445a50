/-
  The law ModularResidues: true for every input.
-/
import Derived.Test.YtdlfineibanppaaDoorAwake
import Derived.Test.YtdlfineibanppaaDoorSm
namespace Go.Proofs.YtdlfineibanppaaDoor
open Go Go.QF
set_option linter.unusedVariables false
set_option maxRecDepth 100000
theorem it_u16 : IntT Tryd.prog 35 .u16 := Tryd.underlying35

theorem modulus_ok (k raw : Int) (wild : Bool) (h : Heap) : CallH Tryd.prog 22 #[.int .u16 k, .int .i64 raw, .bool wild] h fun x h' => h' = h ∧ ∃ c, x = .int .i64 c := by
  refine calls_of_W (l := [_, _, _]) mx Tryd.func22 rfl rfl rfl rfl rfl (by kernel_rfl) ?_
  refine w_seq ?_
  refine w_reg ?_
  refine r_as (r_nil (q_t ?_))
  refine w_seq ?_
  refine w_seq ?_
  refine w_reg ?_
  refine r_mv (r_nil (q_t ?_))
  refine ⟨_, rfl, fun hc1 => ?_, fun hc1 => ?_⟩
  · skip
    refine w_seq ?_
    refine w_reg ?_
    refine r_mv (r_as (r_nil (q_t ?_)))
    refine w_ret (q_tr ?_)
    refine ⟨_, retV_1, ?_⟩
    exact ⟨rfl, _, rfl⟩
  · skip
    refine w_skip (q_t ?_)
    refine w_seq ?_
    refine w_reg ?_
    refine r_mv (r_cv it_u16 it_i64 rfl (r_add rfl rfl (r_as (r_nil (q_t ?_)))))
    refine w_ret ?_
    refine ⟨_, retV_1, ?_⟩
    exact ⟨rfl, _, rfl⟩

theorem ModularResidues_ok {h : Heap} {v : Value} {M : List (List Int)} (HM : Mat h v M) (k raw : Int) (wild : Bool) (HO : OffH h) : CallH Tryd.prog 6 #[v, .int .u16 k, .int .i64 raw, .bool wild] h fun x h' => Ext h h' ∧ x = .bool true := by
  refine calls_of_W (l := [_, _, _, _]) mx Tryd.func6 rfl rfl rfl rfl rfl (by kernel_rfl) ?_
  refine w_seq ?_
  refine w_reg ?_
  refine r_as (r_nil (q_t ?_))
  refine w_seq ?_
  refine w_seq ?_
  refine w_reg ?_
  refine r_mv (r_call trivial rfl (large_ok HM) fun v' h hk => ?_)
  obtain ⟨rfl, rfl⟩ := hk
  refine ⟨trivial, ?_⟩
  cases hc1 : largeB M
  · skip
    refine r_nil (q_t ?_)
    refine w_false rfl ?_
    refine w_skip (q_t ?_)
    refine w_seq ?_
    refine w_reg ?_
    refine r_mv (r_mv (r_mv (r_call trivial rfl (modulus_ok _ _ _ _) fun v' h hk => ?_)))
    obtain ⟨rfl, c, rfl⟩ := hk
    refine ⟨trivial, ?_⟩
    refine r_as (r_nil (q_t ?_))
    refine w_seq ?_
    refine w_reg ?_
    refine r_mv (r_mv (r_call trivial rfl (Residues_ok HM c) fun x1 h1 hk => ?_))
    obtain ⟨hE1, r1, rfl, HM1, _⟩ := hk
    refine ⟨trivial, ?_⟩
    refine r_mv (r_ext rfl rfl (r_ext rfl rfl (r_as (r_as (r_nil (q_t ?_))))))
    refine w_seq ?_
    refine w_reg ?_
    refine r_mv (r_mv (r_call trivial rfl (refResidues_ok (HM.ext hE1) c) fun x2 h2 hk => ?_))
    obtain ⟨hE2, r2, rfl, HM2, _⟩ := hk
    refine ⟨trivial, ?_⟩
    refine r_mv (r_ext rfl rfl (r_ext rfl rfl (r_as (r_as (r_nil (q_t ?_))))))
    refine w_seq ?_
    refine w_reg ?_
    refine r_mv (r_mv (r_eql rfl rfl (fun _ => ?_) (fun hc => absurd rfl hc)))
    refine r_mv (r_want 36 true (by kernel_rfl) rfl rfl (r_mv (r_want 36 true (by kernel_rfl) rfl rfl (r_mv (r_want 36 true (by kernel_rfl) rfl rfl (r_call trivial rfl (Same_ok (HM1.ext hE2) HM2 (sm_res M c).1 (sm_res M c).2) fun w0 hz hk => ?_))))))
    obtain ⟨rfl, rfl⟩ := hk
    refine ⟨trivial, ?_⟩
    rw [same_refl]
    refine r_pickT rfl (r_mv (r_want 41 true (by kernel_rfl) rfl rfl (r_call trivial rfl (awake_ok (HO.ext (hE1.trans hE2))) fun x0 h9 hk => ?_)))
    obtain ⟨hE9, rfl⟩ := hk
    refine ⟨trivial, ?_⟩
    refine r_pickT rfl (r_as (r_nil (q_t ?_)))
    refine w_ret ?_
    refine ⟨_, retV_1, ?_⟩
    exact ⟨(hE1.trans hE2).trans hE9, rfl⟩
  · skip
    refine r_nil (q_t ?_)
    refine w_true rfl ?_
    refine w_seq ?_
    refine w_reg ?_
    refine r_call trivial rfl (awake_ok HO) fun x0 h9 hk => ?_
    obtain ⟨hE9, rfl⟩ := hk
    refine ⟨trivial, ?_⟩
    refine r_as (r_nil (q_t ?_))
    refine w_ret (q_tr ?_)
    refine ⟨_, retV_1, ?_⟩
    exact ⟨hE9, rfl⟩

end Go.Proofs.YtdlfineibanppaaDoor
