/-
  The sanity check of quadformlaw23: true, and old memory stays.
-/
import Derived.Test.YtdlfineibanppaaDoorInv
import Derived.Test.YtdlfineibanppaaDoorAwS
namespace Go.Proofs.YtdlfineibanppaaDoor
open Go Go.QF
set_option linter.unusedVariables false
set_option maxRecDepth 100000

theorem aw_keeps (x : Int) : Keeps 1 2 9 (awQ x) := fun F s c i q hc hi hne _ _ _ _ => absurd hne (by omega)
theorem aw_inv {h : Heap} {v : Value} (HM : Mat h v [[2]]) : CallH Tryd.prog 23 #[v, .int .i64 9] h fun x h' => Ext h h' ∧ ∃ r, x = .tuple #[r, .int .i64 0] ∧ Mat h' r [[5]] := by
  refine (Inverse_ok HM 9 (awQ 2) (fun _ _ => rfl) (aw_keeps 2)).mono fun x h' hk => ?_
  obtain ⟨hE, r, e, rfl, hk⟩ := hk
  refine ⟨hE, r, ?_⟩
  rcases hk with ⟨h1, _⟩ | ⟨_, h1, _⟩ | ⟨_, _, F1, s, _, hQ, _, _, hk⟩
  · exact absurd h1 (by decide)
  · exact absurd h1 (by decide)
  · have hF : F1 = augF 1 (ent (redM [[2]] 9)) := hQ
    have hinv : invM 9 2 = 5 := invM_eq ⟨by decide, by decide, by decide⟩
    rcases hk with ⟨_, _, c, hc, hn⟩ | ⟨rfl, _, HM2⟩
    · refine absurd ⟨5, ?_⟩ hn
      have hc' : c < 1 := hc
      obtain rfl : c = 0 := by omega
      rw [hF]
      exact ⟨by decide, by decide, by decide⟩
    · refine ⟨rfl, ?_⟩
      have : (tab 1 1 fun i j => backTo 9 1 F1 1 i (1 + j)) = [[5]] := by
        have h0 : F1 0 0 = 2 := by rw [hF]; decide
        have h1 : F1 0 1 = 1 := by rw [hF]; decide
        simp [tab, backTo, backS, elimF_zero, scaleF, setF_same, h0, h1, hinv]
      rw [← this]; exact HM2
theorem aw_sing {h : Heap} {v : Value} (HM : Mat h v [[3]]) : CallH Tryd.prog 23 #[v, .int .i64 9] h fun x h' => Ext h h' ∧ ∃ r, x = .tuple #[r, .int .i64 8] := by
  refine (Inverse_ok HM 9 (awQ 3) (fun _ _ => rfl) (aw_keeps 3)).mono fun x h' hk => ?_
  obtain ⟨hE, r, e, rfl, hk⟩ := hk
  refine ⟨hE, r, ?_⟩
  rcases hk with ⟨h1, _⟩ | ⟨_, h1, _⟩ | ⟨_, _, F1, s, _, hQ, _, _, hk⟩
  · exact absurd h1 (by decide)
  · exact absurd h1 (by decide)
  · have hF : F1 = augF 1 (ent (redM [[3]] 9)) := hQ
    rcases hk with ⟨rfl, _⟩ | ⟨_, hall, _⟩
    · rfl
    · obtain ⟨y, _, _, hy⟩ := hall 0 (by decide)
      have h0 : F1 0 0 = 3 := by rw [hF]; decide
      rw [h0] at hy
      omega

theorem awake_ok {h : Heap} (HO : OffH h) : CallH Tryd.prog 16 #[] h fun x h' => Ext h h' ∧ x = .bool true := by
  refine calls_of_W (l := []) mx Tryd.func16 rfl rfl rfl rfl rfl (by kernel_rfl) ?_
  refine w_seq ?_
  refine w_reg ?_
  refine r_as (r_nil (q_t ?_))
  refine w_seq ?_
  refine w_reg ?_
  refine r_lit [.int .i64 2, .int .i64 4] sl_I64 ze_i64 rfl (fun _ => trivial) rfl (by decide) (by decide) rfl (by simp [isOne]) fun v1 h1 hE1 HO1 => ?_
  refine r_lit [.int .i64 1, .int .i64 1] sl_I64 ze_i64 rfl (fun _ => trivial) rfl (by decide) (by decide) rfl (by simp [isOne]) fun v2 h2 hE2 HO2 => ?_
  refine r_lit [v1, v2] sl_MM ze_I64 rfl (fun _ => trivial) rfl (by decide) (by decide) rfl (by simp [(HO1).one, (HO2).one]) fun v3 h3 hE3 HO3 => ?_
  have HM3 : Mat h3 v3 awA := mat2 HO3.sl (HO1.sl.ext (hE2.trans hE3)) (HO2.sl.ext hE3)
  have hF3 := hE1.trans (hE2.trans hE3)
  refine r_call trivial rfl (Echelon_ok HM3 2 (HO.ext hF3)) fun x1 h4 hk => ?_
  obtain ⟨hE4, vr, vp, rfl, HM4, HP4⟩ := hk
  refine ⟨trivial, ?_⟩
  rw [awA_ech] at HM4
  rw [awA_piv] at HP4
  rw [awA_err]
  have hF4 := hF3.trans hE4
  refine r_mv (r_ext rfl rfl (r_ext rfl rfl (r_ext rfl rfl (r_as (r_as (r_as (r_nil (q_t ?_))))))))
  refine w_seq ?_
  refine w_reg ?_
  refine r_lit [.int .i64 1, .int .i64 1] sl_I64 ze_i64 rfl (fun _ => trivial) rfl (by decide) (by decide) rfl (by simp [isOne]) fun v5 h5 hE5 HO5 => ?_
  refine r_lit [v5] sl_MM ze_I64 rfl (fun _ => trivial) rfl (by decide) (by decide) rfl (by simp [(HO5).one]) fun v6 h6 hE6 HO6 => ?_
  have HM6 : Mat h6 v6 awB := mat1 HO6.sl (HO5.sl.ext hE6)
  have hF6 := hF4.trans (hE5.trans hE6)
  refine r_call trivial rfl (Kernel_ok HM6 3 (HO.ext hF6)) fun x2 h7 hk => ?_
  obtain ⟨hE7, vk, rfl, HM7⟩ := hk
  refine ⟨trivial, ?_⟩
  rw [awB_ker] at HM7
  rw [awB_err]
  have hF7 := hF6.trans hE7
  refine r_mv (r_ext rfl rfl (r_ext rfl rfl (r_as (r_as (r_nil (q_t ?_))))))
  refine w_seq ?_
  refine w_reg ?_
  refine r_lit [.int .i64 2] sl_I64 ze_i64 rfl (fun _ => trivial) rfl (by decide) (by decide) rfl (by simp [isOne]) fun v8 h8 hE8 HO8 => ?_
  refine r_lit [v8] sl_MM ze_I64 rfl (fun _ => trivial) rfl (by decide) (by decide) rfl (by simp [(HO8).one]) fun v9 h9 hE9 HO9 => ?_
  have HM9 : Mat h9 v9 [[2]] := mat1 HO9.sl (HO8.sl.ext hE9)
  have hF9 := hF7.trans (hE8.trans hE9)
  refine r_call trivial rfl (aw_inv HM9) fun x3 h10 hk => ?_
  obtain ⟨hE10, vi, rfl, HM10⟩ := hk
  refine ⟨trivial, ?_⟩
  have hF10 := hF9.trans hE10
  refine r_mv (r_ext rfl rfl (r_ext rfl rfl (r_as (r_as (r_nil (q_t ?_))))))
  refine w_seq ?_
  refine w_reg ?_
  refine r_lit [.int .i64 3] sl_I64 ze_i64 rfl (fun _ => trivial) rfl (by decide) (by decide) rfl (by simp [isOne]) fun v11 h11 hE11 HO11 => ?_
  refine r_lit [v11] sl_MM ze_I64 rfl (fun _ => trivial) rfl (by decide) (by decide) rfl (by simp [(HO11).one]) fun v12 h12 hE12 HO12 => ?_
  have HM12 : Mat h12 v12 [[3]] := mat1 HO12.sl (HO11.sl.ext hE12)
  have hF12 := hF10.trans (hE11.trans hE12)
  refine r_call trivial rfl (aw_sing HM12) fun x4 h13 hk => ?_
  obtain ⟨hE13, vs, rfl⟩ := hk
  refine ⟨trivial, ?_⟩
  have hF13 := hF12.trans hE13
  refine r_mv (r_ext rfl rfl (r_ext rfl rfl (r_as (r_as (r_nil (q_t ?_))))))
  refine w_seq ?_
  refine w_reg ?_
  refine r_mv (r_eql rfl rfl (fun _ => ?_) (fun hc => absurd rfl hc))
  refine r_mv (r_want 38 true (by kernel_rfl) rfl rfl (r_mv (r_want 38 true (by kernel_rfl) rfl rfl (r_eql rfl rfl (fun _ => ?_) (fun hc => absurd rfl hc)))))
  refine r_pickT rfl (r_mv (r_want 42 true (by kernel_rfl) rfl rfl (r_mv (r_want 42 true (by kernel_rfl) rfl rfl (r_eql rfl rfl (fun _ => ?_) (fun hc => absurd rfl hc))))))
  refine r_pickT rfl (r_mv (r_want 46 true (by kernel_rfl) rfl rfl (r_mv (r_want 46 true (by kernel_rfl) rfl rfl (r_eql rfl rfl (fun _ => ?_) (fun hc => absurd rfl hc))))))
  refine r_pickT rfl (r_mv (r_want 50 true (by kernel_rfl) rfl rfl (r_mv (r_want 50 true (by kernel_rfl) rfl rfl (r_lens sl_II rfl (HP4.ext ((hE5.trans (hE6.trans (hE7.trans (hE8.trans (hE9.trans (hE10.trans (hE11.trans (hE12.trans hE13))))))))) ) ?_)))))
  refine r_want 50 true (by kernel_rfl) rfl rfl (r_eql rfl rfl (fun _ => ?_) (fun hc => absurd rfl hc))
  refine r_pickT rfl (r_mv (r_want 55 true (by kernel_rfl) rfl rfl (r_mv (r_want 55 true (by kernel_rfl) rfl rfl (r_lit [.int .i64 1, .int .i64 1] sl_I64 ze_i64 rfl (fun _ => trivial) rfl (by decide) (by decide) rfl (by simp [isOne]) fun v14 h14 hE14 HO14 => ?_)))))
  refine r_want 55 true (by kernel_rfl) rfl rfl (r_lit [v14] sl_MM ze_I64 rfl (fun _ => trivial) rfl (by decide) (by decide) rfl (by simp [(HO14).one]) fun v15 h15 hE15 HO15 => ?_)
  have HM15 : Mat h15 v15 [[1, 1]] := mat1 HO15.sl (HO14.sl.ext hE15)
  have HA15 := HM4.ext (hE5.trans (hE6.trans (hE7.trans (hE8.trans (hE9.trans (hE10.trans (hE11.trans (hE12.trans (hE13.trans (hE14.trans hE15))))))))))
  refine r_want 55 true (by kernel_rfl) rfl rfl (r_call trivial rfl (Same_ok HA15 HM15 (by simp) (by simp)) fun w0 hz hk => ?_)
  obtain ⟨rfl, rfl⟩ := hk
  refine ⟨trivial, ?_⟩
  rw [show sameB [[1, 1]] [[1, 1]] = true by decide]
  refine r_pickT rfl (r_mv (r_want 61 true (by kernel_rfl) rfl rfl (r_mv (r_want 61 true (by kernel_rfl) rfl rfl (r_lit [.int .i64 1, .int .i64 2] sl_I64 ze_i64 rfl (fun _ => trivial) rfl (by decide) (by decide) rfl (by simp [isOne]) fun v16 h16 hE16 HO16 => ?_)))))
  refine r_want 61 true (by kernel_rfl) rfl rfl (r_lit [v16] sl_MM ze_I64 rfl (fun _ => trivial) rfl (by decide) (by decide) rfl (by simp [(HO16).one]) fun v17 h17 hE17 HO17 => ?_)
  have HM17 : Mat h17 v17 [[1, 2]] := mat1 HO17.sl (HO16.sl.ext hE17)
  have HA17 := HM7.ext (hE8.trans (hE9.trans (hE10.trans (hE11.trans (hE12.trans (hE13.trans (hE14.trans (hE15.trans (hE16.trans hE17)))))))))
  refine r_want 61 true (by kernel_rfl) rfl rfl (r_call trivial rfl (Same_ok HA17 HM17 (by simp) (by simp)) fun w0 hz hk => ?_)
  obtain ⟨rfl, rfl⟩ := hk
  refine ⟨trivial, ?_⟩
  rw [show sameB [[1, 2]] [[1, 2]] = true by decide]
  refine r_pickT rfl (r_mv (r_want 67 true (by kernel_rfl) rfl rfl (r_mv (r_want 67 true (by kernel_rfl) rfl rfl (r_lit [.int .i64 5] sl_I64 ze_i64 rfl (fun _ => trivial) rfl (by decide) (by decide) rfl (by simp [isOne]) fun v18 h18 hE18 HO18 => ?_)))))
  refine r_want 67 true (by kernel_rfl) rfl rfl (r_lit [v18] sl_MM ze_I64 rfl (fun _ => trivial) rfl (by decide) (by decide) rfl (by simp [(HO18).one]) fun v19 h19 hE19 HO19 => ?_)
  have HM19 : Mat h19 v19 [[5]] := mat1 HO19.sl (HO18.sl.ext hE19)
  have HA19 := HM10.ext (hE11.trans (hE12.trans (hE13.trans (hE14.trans (hE15.trans (hE16.trans (hE17.trans (hE18.trans hE19))))))))
  refine r_want 67 true (by kernel_rfl) rfl rfl (r_call trivial rfl (Same_ok HA19 HM19 (by simp) (by simp)) fun w0 hz hk => ?_)
  obtain ⟨rfl, rfl⟩ := hk
  refine ⟨trivial, ?_⟩
  rw [show sameB [[5]] [[5]] = true by decide]
  refine r_pickT rfl (r_as (r_nil (q_t ?_)))
  refine w_ret ?_
  refine ⟨_, retV_1, ?_⟩
  exact ⟨hF13.trans (hE14.trans (hE15.trans (hE16.trans (hE17.trans (hE18.trans hE19))))), rfl⟩

end Go.Proofs.YtdlfineibanppaaDoor
