/-
  Contracts of the reference's functions of blocks and constituents. Conditions stand in each statement.
-/
import Derived.Test.YtccgaemmdikhcaaDoorDyR
import Derived.Test.YtccgaemmdikhcaaDoorDy1
import Derived.Test.YtccgaemmdikhcaaDoorRead
namespace Go.Proofs.YtccgaemmdikhcaaDoor
open Go Go.QF
set_option linter.unusedVariables false
set_option linter.unusedSimpArgs false
set_option maxRecDepth 100000

theorem refwellFormed_ok (b : Blk) {p : Int} (hp : p ≠ 0) (h : Heap) : CallH Tryd.prog 57 #[.agg (blkV b).toArray, .int .i64 p] h fun x h' => Ext h h' ∧ x = .bool (wfB p b) := by
  refine calls_of_W (l := [_, _]) mx Tryd.func57 rfl rfl rfl rfl rfl (by kernel_rfl) ?_
  refine w_seq ?_
  refine w_reg ?_
  refine r_boxB [.int .i64 b.exp, .int .i64 b.size, .int .i64 b.a, .int .i64 b.b, .int .i64 b.c] (fun _ => trivial) rfl rfl fun bq1 h2 V3 E4 hb5 hl6 => ?_
  have hzbq1 : Array.size h ≤ bq1 := hb5
  have sz7 := E4.1
  refine r_as (r_nil (q_t ?_))
  refine w_seq ?_
  refine w_seq ?_
  refine w_reg ?_
  refine r_fo (fs := 1) fd_Blk0 (by kernel_rfl) (by decide) rfl (r_ld na_int rfl (V3.cell (i := 0) rfl) (r_lss rfl rfl (fun hc1 => ?_) (fun hc1 => ?_)))   -- t7 := binOp lss 3 t6 0:i64 3
  · skip
    refine r_mv (r_skip 8 true (by kernel_rfl) rfl rfl (r_skip 8 true (by kernel_rfl) rfl rfl (r_skip 8 true (by kernel_rfl) rfl rfl (r_pickT rfl (r_nil (q_t ?_))))))
    refine w_true rfl ?_
    refine w_seq ?_
    refine w_reg ?_
    refine r_as (r_nil (q_t ?_))
    refine w_ret (q_tr ?_)
    refine ⟨_, retV_1, ?_⟩
    first | exact ⟨E4, congrArg Value.bool (wfB_t (by simp only [ne_eq, tmod_zero] at *; unfold WfR Ex; omega))⟩ | exact ⟨E4, congrArg Value.bool (wfB_f (by simp only [ne_eq, tmod_zero] at *; unfold WfR Ex; omega))⟩
  · skip
    refine r_mv (r_want 8 false (by kernel_rfl) rfl rfl (r_fo (fs := 1) fd_Blk0 (by kernel_rfl) (by decide) rfl (r_want 8 false (by kernel_rfl) rfl rfl (r_ld na_int rfl (V3.cell (i := 0) rfl) (r_want 8 false (by kernel_rfl) rfl rfl (r_gtr rfl rfl (fun hc2 => ?_) (fun hc2 => ?_)))))))   -- t11 := binOp gtr 3 t10 60:i64 3   [guard op3 false]
    · skip
      refine r_pickF rfl (r_nil (q_t ?_))
      refine w_true rfl ?_
      refine w_seq ?_
      refine w_reg ?_
      refine r_as (r_nil (q_t ?_))
      refine w_ret (q_tr ?_)
      refine ⟨_, retV_1, ?_⟩
      first | exact ⟨E4, congrArg Value.bool (wfB_t (by simp only [ne_eq, tmod_zero] at *; unfold WfR Ex; omega))⟩ | exact ⟨E4, congrArg Value.bool (wfB_f (by simp only [ne_eq, tmod_zero] at *; unfold WfR Ex; omega))⟩
    · skip
      refine r_pickF rfl (r_nil (q_t ?_))
      refine w_false rfl ?_
      refine w_skip (q_t ?_)
      refine w_seq ?_
      refine w_seq ?_
      refine w_reg ?_
      refine r_fo (fs := 1) fd_Blk1 (by kernel_rfl) (by decide) rfl (r_ld na_int rfl (V3.cell (i := 1) rfl) (r_eql rfl rfl (fun hc3 => ?_) (fun hc3 => ?_)))   -- t15 := binOp eql 3 t14 1:i64 3
      · skip
        refine r_nil (q_t ?_)
        refine w_true rfl ?_
        refine w_seq ?_
        refine w_reg ?_
        refine r_fo (fs := 1) fd_Blk2 (by kernel_rfl) (by decide) rfl (r_ld na_i64 rfl (V3.cell (i := 2) rfl) (r_mv (r_rem rfl rfl (by omega) (r_neq rfl rfl (fun hc4 => ?_) (fun hc4 => ?_)))))   -- t20 := binOp neq 2 t19 0:i64 2
        · skip
          refine r_mv (r_want 21 true (by kernel_rfl) rfl rfl (r_fo (fs := 1) fd_Blk3 (by kernel_rfl) (by decide) rfl (r_want 21 true (by kernel_rfl) rfl rfl (r_ld na_i64 rfl (V3.cell (i := 3) rfl) (r_want 21 true (by kernel_rfl) rfl rfl (r_eql rfl rfl (fun hc5 => ?_) (fun hc5 => ?_)))))))   -- t24 := binOp eql 2 t23 0:i64 2   [guard op5 true]
          · skip
            refine r_pickT rfl (r_mv (r_want 26 true (by kernel_rfl) rfl rfl (r_fo (fs := 1) fd_Blk4 (by kernel_rfl) (by decide) rfl (r_want 26 true (by kernel_rfl) rfl rfl (r_ld na_i64 rfl (V3.cell (i := 4) rfl) (r_want 26 true (by kernel_rfl) rfl rfl (r_eql rfl rfl (fun hc6 => ?_) (fun hc6 => ?_))))))))   -- t29 := binOp eql 2 t28 0:i64 2   [guard op10 true]
            · skip
              refine r_pickT rfl (r_as (r_nil (q_t ?_)))
              refine w_ret (q_tr ?_)
              refine ⟨_, retV_1, ?_⟩
              first | exact ⟨E4, congrArg Value.bool (wfB_t (by simp only [ne_eq, tmod_zero] at *; unfold WfR Ex; omega))⟩ | exact ⟨E4, congrArg Value.bool (wfB_f (by simp only [ne_eq, tmod_zero] at *; unfold WfR Ex; omega))⟩
            · skip
              refine r_pickT rfl (r_as (r_nil (q_t ?_)))
              refine w_ret (q_tr ?_)
              refine ⟨_, retV_1, ?_⟩
              first | exact ⟨E4, congrArg Value.bool (wfB_t (by simp only [ne_eq, tmod_zero] at *; unfold WfR Ex; omega))⟩ | exact ⟨E4, congrArg Value.bool (wfB_f (by simp only [ne_eq, tmod_zero] at *; unfold WfR Ex; omega))⟩
          · skip
            refine r_pickT rfl (r_mv (r_skip 26 false (by kernel_rfl) rfl rfl (r_skip 26 false (by kernel_rfl) rfl rfl (r_skip 26 false (by kernel_rfl) rfl rfl (r_pickF rfl (r_as (r_nil (q_t ?_))))))))
            refine w_ret (q_tr ?_)
            refine ⟨_, retV_1, ?_⟩
            first | exact ⟨E4, congrArg Value.bool (wfB_t (by simp only [ne_eq, tmod_zero] at *; unfold WfR Ex; omega))⟩ | exact ⟨E4, congrArg Value.bool (wfB_f (by simp only [ne_eq, tmod_zero] at *; unfold WfR Ex; omega))⟩
        · skip
          refine r_mv (r_skip 21 false (by kernel_rfl) rfl rfl (r_skip 21 false (by kernel_rfl) rfl rfl (r_skip 21 false (by kernel_rfl) rfl rfl (r_pickF rfl (r_mv (r_skip 26 false (by kernel_rfl) rfl rfl (r_skip 26 false (by kernel_rfl) rfl rfl (r_skip 26 false (by kernel_rfl) rfl rfl (r_pickF rfl (r_as (r_nil (q_t ?_))))))))))))
          refine w_ret (q_tr ?_)
          refine ⟨_, retV_1, ?_⟩
          first | exact ⟨E4, congrArg Value.bool (wfB_t (by simp only [ne_eq, tmod_zero] at *; unfold WfR Ex; omega))⟩ | exact ⟨E4, congrArg Value.bool (wfB_f (by simp only [ne_eq, tmod_zero] at *; unfold WfR Ex; omega))⟩
      · skip
        refine r_nil (q_t ?_)
        refine w_false rfl ?_
        refine w_skip (q_t ?_)
        refine w_seq ?_
        refine w_reg ?_
        refine r_mv (r_eql rfl rfl (fun hc7 => ?_) (fun hc7 => ?_))   -- t32 := binOp eql 2 t31 2:i64 2
        · skip
          refine r_mv (r_want 33 true (by kernel_rfl) rfl rfl (r_fo (fs := 1) fd_Blk1 (by kernel_rfl) (by decide) rfl (r_want 33 true (by kernel_rfl) rfl rfl (r_ld na_int rfl (V3.cell (i := 1) rfl) (r_want 33 true (by kernel_rfl) rfl rfl (r_eql rfl rfl (fun hc8 => ?_) (fun hc8 => ?_)))))))   -- t36 := binOp eql 3 t35 2:i64 3   [guard op2 true]
          · skip
            refine r_pickT rfl (r_mv (r_want 38 true (by kernel_rfl) rfl rfl (r_fo (fs := 1) fd_Blk2 (by kernel_rfl) (by decide) rfl (r_want 38 true (by kernel_rfl) rfl rfl (r_ld na_i64 rfl (V3.cell (i := 2) rfl) (r_want 38 true (by kernel_rfl) rfl rfl (r_rem rfl rfl (by omega) (r_want 38 true (by kernel_rfl) rfl rfl (r_eql rfl rfl (fun hc9 => ?_) (fun hc9 => ?_))))))))))   -- t42 := binOp eql 2 t41 0:i64 2   [guard op7 true]
            · skip
              refine r_pickT rfl (r_mv (r_want 44 true (by kernel_rfl) rfl rfl (r_fo (fs := 1) fd_Blk3 (by kernel_rfl) (by decide) rfl (r_want 44 true (by kernel_rfl) rfl rfl (r_ld na_i64 rfl (V3.cell (i := 3) rfl) (r_want 44 true (by kernel_rfl) rfl rfl (r_rem rfl rfl (by omega) (r_want 44 true (by kernel_rfl) rfl rfl (r_neq rfl rfl (fun hc10 => ?_) (fun hc10 => ?_))))))))))   -- t48 := binOp neq 2 t47 0:i64 2   [guard op13 true]
              · skip
                refine r_pickT rfl (r_mv (r_want 50 true (by kernel_rfl) rfl rfl (r_fo (fs := 1) fd_Blk4 (by kernel_rfl) (by decide) rfl (r_want 50 true (by kernel_rfl) rfl rfl (r_ld na_i64 rfl (V3.cell (i := 4) rfl) (r_want 50 true (by kernel_rfl) rfl rfl (r_rem rfl rfl (by omega) (r_want 50 true (by kernel_rfl) rfl rfl (r_eql rfl rfl (fun hc11 => ?_) (fun hc11 => ?_))))))))))   -- t54 := binOp eql 2 t53 0:i64 2   [guard op19 true]
                · skip
                  refine r_pickT rfl (r_as (r_nil (q_t ?_)))
                  refine w_ret ?_
                  refine ⟨_, retV_1, ?_⟩
                  first | exact ⟨E4, congrArg Value.bool (wfB_t (by simp only [ne_eq, tmod_zero] at *; unfold WfR Ex; omega))⟩ | exact ⟨E4, congrArg Value.bool (wfB_f (by simp only [ne_eq, tmod_zero] at *; unfold WfR Ex; omega))⟩
                · skip
                  refine r_pickT rfl (r_as (r_nil (q_t ?_)))
                  refine w_ret ?_
                  refine ⟨_, retV_1, ?_⟩
                  first | exact ⟨E4, congrArg Value.bool (wfB_t (by simp only [ne_eq, tmod_zero] at *; unfold WfR Ex; omega))⟩ | exact ⟨E4, congrArg Value.bool (wfB_f (by simp only [ne_eq, tmod_zero] at *; unfold WfR Ex; omega))⟩
              · skip
                refine r_pickT rfl (r_mv (r_skip 50 false (by kernel_rfl) rfl rfl (r_skip 50 false (by kernel_rfl) rfl rfl (r_skip 50 false (by kernel_rfl) rfl rfl (r_skip 50 false (by kernel_rfl) rfl rfl (r_pickF rfl (r_as (r_nil (q_t ?_)))))))))
                refine w_ret ?_
                refine ⟨_, retV_1, ?_⟩
                first | exact ⟨E4, congrArg Value.bool (wfB_t (by simp only [ne_eq, tmod_zero] at *; unfold WfR Ex; omega))⟩ | exact ⟨E4, congrArg Value.bool (wfB_f (by simp only [ne_eq, tmod_zero] at *; unfold WfR Ex; omega))⟩
            · skip
              refine r_pickT rfl (r_mv (r_skip 44 false (by kernel_rfl) rfl rfl (r_skip 44 false (by kernel_rfl) rfl rfl (r_skip 44 false (by kernel_rfl) rfl rfl (r_skip 44 false (by kernel_rfl) rfl rfl (r_pickF rfl (r_mv (r_skip 50 false (by kernel_rfl) rfl rfl (r_skip 50 false (by kernel_rfl) rfl rfl (r_skip 50 false (by kernel_rfl) rfl rfl (r_skip 50 false (by kernel_rfl) rfl rfl (r_pickF rfl (r_as (r_nil (q_t ?_)))))))))))))))
              refine w_ret ?_
              refine ⟨_, retV_1, ?_⟩
              first | exact ⟨E4, congrArg Value.bool (wfB_t (by simp only [ne_eq, tmod_zero] at *; unfold WfR Ex; omega))⟩ | exact ⟨E4, congrArg Value.bool (wfB_f (by simp only [ne_eq, tmod_zero] at *; unfold WfR Ex; omega))⟩
          · skip
            refine r_pickT rfl (r_mv (r_skip 38 false (by kernel_rfl) rfl rfl (r_skip 38 false (by kernel_rfl) rfl rfl (r_skip 38 false (by kernel_rfl) rfl rfl (r_skip 38 false (by kernel_rfl) rfl rfl (r_pickF rfl (r_mv (r_skip 44 false (by kernel_rfl) rfl rfl (r_skip 44 false (by kernel_rfl) rfl rfl (r_skip 44 false (by kernel_rfl) rfl rfl (r_skip 44 false (by kernel_rfl) rfl rfl (r_pickF rfl (r_mv (r_skip 50 false (by kernel_rfl) rfl rfl (r_skip 50 false (by kernel_rfl) rfl rfl (r_skip 50 false (by kernel_rfl) rfl rfl (r_skip 50 false (by kernel_rfl) rfl rfl (r_pickF rfl (r_as (r_nil (q_t ?_)))))))))))))))))))))
            refine w_ret ?_
            refine ⟨_, retV_1, ?_⟩
            first | exact ⟨E4, congrArg Value.bool (wfB_t (by simp only [ne_eq, tmod_zero] at *; unfold WfR Ex; omega))⟩ | exact ⟨E4, congrArg Value.bool (wfB_f (by simp only [ne_eq, tmod_zero] at *; unfold WfR Ex; omega))⟩
        · skip
          refine r_mv (r_skip 33 false (by kernel_rfl) rfl rfl (r_skip 33 false (by kernel_rfl) rfl rfl (r_skip 33 false (by kernel_rfl) rfl rfl (r_pickF rfl (r_mv (r_skip 38 false (by kernel_rfl) rfl rfl (r_skip 38 false (by kernel_rfl) rfl rfl (r_skip 38 false (by kernel_rfl) rfl rfl (r_skip 38 false (by kernel_rfl) rfl rfl (r_pickF rfl (r_mv (r_skip 44 false (by kernel_rfl) rfl rfl (r_skip 44 false (by kernel_rfl) rfl rfl (r_skip 44 false (by kernel_rfl) rfl rfl (r_skip 44 false (by kernel_rfl) rfl rfl (r_pickF rfl (r_mv (r_skip 50 false (by kernel_rfl) rfl rfl (r_skip 50 false (by kernel_rfl) rfl rfl (r_skip 50 false (by kernel_rfl) rfl rfl (r_skip 50 false (by kernel_rfl) rfl rfl (r_pickF rfl (r_as (r_nil (q_t ?_)))))))))))))))))))))))))
          refine w_ret ?_
          refine ⟨_, retV_1, ?_⟩
          first | exact ⟨E4, congrArg Value.bool (wfB_t (by simp only [ne_eq, tmod_zero] at *; unfold WfR Ex; omega))⟩ | exact ⟨E4, congrArg Value.bool (wfB_f (by simp only [ne_eq, tmod_zero] at *; unfold WfR Ex; omega))⟩

theorem listed_ok {h : Heap} {vB : Value} {p : Int} {Bs : List Blk} (HBs : SlK h 5 vB (Bs.map blkV)) (hp : p ≠ 0) (hn : Bs.length ≤ 1000) : CallH Tryd.prog 34 #[vB, .int .i64 p] h fun x h' => Ext h h' ∧ x = .bool (lstB p Bs) := by
  refine calls_of_W (l := [_, _]) mx Tryd.func34 rfl rfl rfl rfl rfl (by kernel_rfl) ?_
  refine w_seq ?_
  refine w_reg ?_
  refine r_as (r_nil (q_t ?_))
  refine w_seq ?_
  refine w_reg ?_
  refine r_as (r_nil (q_t ?_))
  refine w_seq ?_
  refine w_seq ?_
  refine w_reg ?_
  refine r_mv (r_lenKm sl_BL rfl HBs (r_mv (r_nil (q_t ?_))))
  refine w_block ?_
  refine w_loop 8796093021424 (fun y : Nat × Int => [(10, .int .i64 (y.1 : Int)), (5, .int .i64 y.2)]) (fun k y h' => Ext h h' ∧ k = Bs.length - y.1 ∧ y.1 ≤ Bs.length ∧ y.1 ≤ 8 ∧ GoodR p Bs y.1 ∧ y.2 = ssum (Bs.take y.1)) (by kernel_rfl) Bs.length (0, 0) ?_ ⟨rfl, rfl, trivial⟩ ?_
  · exact ⟨Ext.refl _, rfl, Nat.zero_le _, by first | omega | (dsimp only; omega), goodR_zero _ _, rfl⟩
  rintro k ⟨i, sz⟩ s1 hq ⟨EQ, rfl, hi, hi8, hgood, hsz⟩
  dsimp only at hi hi8 hgood hsz ⊢
  subst hsz
  have hbd := goodR_bd hgood hi
  have sz1 := EQ.1
  refine w_seq ?_
  refine w_reg ?_
  refine r_lss rfl rfl (fun hc1 => ?_) (fun hc1 => ?_)   -- t11 := binOp lss 3 t10 t9 3
  · skip
    refine r_nil (q_t ?_)
    refine w_seq ?_
    refine w_true rfl ?_
    refine w_skip (q_t ?_)
    refine w_seq ?_
    refine w_block ?_
    refine w_seq ?_
    obtain ⟨b, hb⟩ : ∃ b, Bs[i]? = some b := ⟨_, List.getElem?_eq_getElem (by omega)⟩
    refine w_reg ?_
    refine r_mv (r_ixK sl_BL rfl (HBs.ext EQ) rfl (get_blk hb) fun aq2 oq2 hkq2 => ?_)
    refine r_ldA [.int .i64 b.exp, .int .i64 b.size, .int .i64 b.a, .int .i64 b.b, .int .i64 b.c] ag_Blk rfl rfl (fun i u hu => by rw [addr_add]; exact hkq2 i u hu) ?_
    refine r_allocB [.int .i64 0, .int .i64 0, .int .i64 0, .int .i64 0, .int .i64 0] ze_Blk rfl (fun _ => trivial) fun bq3 h4 V5 E6 hb7 hl8 => ?_
    have hzbq3 : Array.size h ≤ bq3 := Nat.le_trans EQ.1 hb7
    have sz9 := E6.1
    have Z10 := EQ.trans E6
    have X11 := EQ.trans E6
    refine r_as (r_stA [.int .i64 b.exp, .int .i64 b.size, .int .i64 b.a, .int .i64 b.b, .int .i64 b.c] ag_Blk rfl rfl rfl rfl (by simp [isOne]) V5 fun h12 V5_13 U14 => ?_)
    have X15 := X11.thenUpd U14 (fun k hk => by have hk2 : k = bq3 := hk; omega)
    have sz16 := U14.1
    have Z17 := Z10.thenUpd U14 (fun k hk => by have hk2 : k = bq3 := hk; omega)
    have Y18 := E6.thenUpd U14 (fun k hk => by have hk2 : k = bq3 := hk; omega)
    refine r_nil (q_t ?_)
    refine w_join 274877874192 (fun _ : Unit => []) (fun _ h' => Ext h12 h' ∧ i < 8 ∧ WfR p b ∧ ∀ j x, j + 1 = i → Bs[j]? = some x → x.exp ≤ b.exp) (by kernel_rfl) ?_ ?_
    · skip
      refine w_seq ?_
      refine w_draw (by kernel_rfl) ?_
      refine r_mv (r_geq rfl rfl (fun hc2 => ?_) (fun hc2 => ?_))   -- t16 := binOp geq 3 t15 8:i64 3
      · skip
        refine r_mv (r_skip 17 true (by kernel_rfl) rfl rfl (r_skip 17 true (by kernel_rfl) rfl rfl (r_skip 17 true (by kernel_rfl) rfl rfl (r_skip 17 true (by kernel_rfl) rfl rfl (r_pickT rfl (r_mv (r_skip 23 true (by kernel_rfl) rfl rfl (r_skip 23 true (by kernel_rfl) rfl rfl (r_skip 23 true (by kernel_rfl) rfl rfl (r_skipU 26 (by kernel_rfl) rfl (r_skipU 26 (by kernel_rfl) rfl (r_skipU 26 (by kernel_rfl) rfl (r_skipU 26 (by kernel_rfl) rfl (r_skipU 26 (by kernel_rfl) rfl (r_skipU 26 (by kernel_rfl) rfl (r_skipU 26 (by kernel_rfl) rfl (r_skipU 26 (by kernel_rfl) rfl (r_skipU 26 (by kernel_rfl) rfl (r_skip 23 true (by kernel_rfl) rfl rfl (r_pickT rfl (r_nil (q_t ?_))))))))))))))))))))))
        refine w_true rfl ?_
        refine w_seq ?_
        refine w_reg ?_
        refine r_as (r_nil (q_t ?_))
        refine w_ret (q_tr (q_br (q_tr (q_tr (q_br (q_tr ?_))))))
        refine ⟨_, retV_1, ?_⟩
        first
          | exact ⟨X15, congrArg Value.bool (lstB_f fun hh => by have := lstR_len hh; have := (List.getElem?_eq_some_iff.1 hb).1; omega)⟩
          | exact ⟨X15, congrArg Value.bool (lstB_f fun hh => absurd (hh.1 b (List.mem_of_getElem? hb)) (not_of_wfB (by assumption)))⟩
          | exact ⟨X15, congrArg Value.bool (lstB_f fun hh => by have := hh.2.1 (i - 1) b1 b (by have := (List.getElem?_eq_some_iff.1 hb).1; omega) hb1 (by rw [show i - 1 + 1 = i by omega]; exact hb); omega)⟩
          | (obtain rfl : i = Bs.length := by omega
             rw [List.take_length] at *
             first
             | exact ⟨X15, congrArg Value.bool (lstB_t ⟨fun b hb => hgood.1 b (by rw [List.take_length]; exact hb), hgood.2, by omega, by omega⟩)⟩
             | exact ⟨X15, congrArg Value.bool (lstB_f fun hh => by have := hh.2.2.1; have := hh.2.2.2; omega)⟩)
      · skip
        refine r_mv (r_want 17 false (by kernel_rfl) rfl rfl (r_ldA [.int .i64 b.exp, .int .i64 b.size, .int .i64 b.a, .int .i64 b.b, .int .i64 b.c] ag_Blk rfl rfl V5_13.agg (r_want 17 false (by kernel_rfl) rfl rfl (r_mv (r_want 17 false (by kernel_rfl) rfl rfl (r_call trivial rfl (refwellFormed_ok b hp _) fun x19 h20 hk => ?_))))))
        obtain ⟨E21, rfl⟩ := hk
        refine ⟨trivial, ?_⟩
        have sz22 := E21.1
        have Z23 := Z17.trans E21
        have Z24 := (Ext.refl h12).trans E21
        have X25 := X15.trans E21
        have V5_26 := V5_13.ext E21
        have Y27 := Y18.trans E21
        cases hc3 : wfB p b
        · skip
          refine r_want 17 false (by kernel_rfl) rfl rfl (r_not rfl (r_pickF rfl (r_mv (r_skip 23 true (by kernel_rfl) rfl rfl (r_skip 23 true (by kernel_rfl) rfl rfl (r_skip 23 true (by kernel_rfl) rfl rfl (r_skipU 26 (by kernel_rfl) rfl (r_skipU 26 (by kernel_rfl) rfl (r_skipU 26 (by kernel_rfl) rfl (r_skipU 26 (by kernel_rfl) rfl (r_skipU 26 (by kernel_rfl) rfl (r_skipU 26 (by kernel_rfl) rfl (r_skipU 26 (by kernel_rfl) rfl (r_skipU 26 (by kernel_rfl) rfl (r_skipU 26 (by kernel_rfl) rfl (r_skip 23 true (by kernel_rfl) rfl rfl (r_pickT rfl (r_nil (q_t ?_)))))))))))))))))))
          refine w_true rfl ?_
          refine w_seq ?_
          refine w_reg ?_
          refine r_as (r_nil (q_t ?_))
          refine w_ret (q_tr (q_br (q_tr (q_tr (q_br (q_tr ?_))))))
          refine ⟨_, retV_1, ?_⟩
          first
            | exact ⟨X25, congrArg Value.bool (lstB_f fun hh => by have := lstR_len hh; have := (List.getElem?_eq_some_iff.1 hb).1; omega)⟩
            | exact ⟨X25, congrArg Value.bool (lstB_f fun hh => absurd (hh.1 b (List.mem_of_getElem? hb)) (not_of_wfB (by assumption)))⟩
            | exact ⟨X25, congrArg Value.bool (lstB_f fun hh => by have := hh.2.1 (i - 1) b1 b (by have := (List.getElem?_eq_some_iff.1 hb).1; omega) hb1 (by rw [show i - 1 + 1 = i by omega]; exact hb); omega)⟩
            | (obtain rfl : i = Bs.length := by omega
               rw [List.take_length] at *
               first
               | exact ⟨X25, congrArg Value.bool (lstB_t ⟨fun b hb => hgood.1 b (by rw [List.take_length]; exact hb), hgood.2, by omega, by omega⟩)⟩
               | exact ⟨X25, congrArg Value.bool (lstB_f fun hh => by have := hh.2.2.1; have := hh.2.2.2; omega)⟩)
        · skip
          refine r_want 17 false (by kernel_rfl) rfl rfl (r_not rfl (r_pickF rfl (r_mv (r_want 23 false (by kernel_rfl) rfl rfl (r_mv (r_want 23 false (by kernel_rfl) rfl rfl (r_gtr rfl rfl (fun hc4 => ?_) (fun hc4 => ?_))))))))   -- t25 := binOp gtr 3 t24 0:i64 3   [guard op8 false]
          · skip
            refine r_want 23 false (by kernel_rfl) rfl rfl (r_mv (r_want 26 true (by kernel_rfl) rfl rfl (r_fo (fs := 1) fd_Blk0 (by kernel_rfl) (by decide) rfl (r_want 26 true (by kernel_rfl) rfl rfl (r_ld na_int rfl (V5_26.cell (i := 0) rfl) (r_want 26 true (by kernel_rfl) rfl rfl (r_mv (r_want 26 true (by kernel_rfl) rfl rfl (r_mv (r_want 26 true (by kernel_rfl) rfl rfl (r_subb rfl rfl (by omega) (by omega) ?_)))))))))))
            rw [show ((i : Nat) : Int) - 1 = ((i - 1 : Nat) : Int) by omega]
            obtain ⟨b1, hb1⟩ : ∃ b1, Bs[i - 1]? = some b1 := ⟨_, List.getElem?_eq_getElem (by omega)⟩
            refine r_want 26 true (by kernel_rfl) rfl rfl (r_ixK sl_BL rfl (HBs.ext X25) rfl (get_blk hb1) fun aq28 oq28 hkq28 => ?_)
            refine r_want 26 true (by kernel_rfl) rfl rfl (r_fo (fs := 1) fd_Blk0 (by kernel_rfl) (by decide) rfl (r_want 26 true (by kernel_rfl) rfl rfl (r_ld na_int rfl (hkq28 0 _ rfl) (r_want 26 true (by kernel_rfl) rfl rfl (r_lss rfl rfl (fun hc5 => ?_) (fun hc5 => ?_))))))   -- t35 := binOp lss 3 t28 t34 3   [guard op11 true]
            · skip
              refine r_want 23 false (by kernel_rfl) rfl rfl (r_pickT rfl (r_pickF rfl (r_nil (q_t ?_))))
              refine w_true rfl ?_
              refine w_seq ?_
              refine w_reg ?_
              refine r_as (r_nil (q_t ?_))
              refine w_ret (q_tr (q_br (q_tr (q_tr (q_br (q_tr ?_))))))
              refine ⟨_, retV_1, ?_⟩
              first
                | exact ⟨X25, congrArg Value.bool (lstB_f fun hh => by have := lstR_len hh; have := (List.getElem?_eq_some_iff.1 hb).1; omega)⟩
                | exact ⟨X25, congrArg Value.bool (lstB_f fun hh => absurd (hh.1 b (List.mem_of_getElem? hb)) (not_of_wfB (by assumption)))⟩
                | exact ⟨X25, congrArg Value.bool (lstB_f fun hh => by have := hh.2.1 (i - 1) b1 b (by have := (List.getElem?_eq_some_iff.1 hb).1; omega) hb1 (by rw [show i - 1 + 1 = i by omega]; exact hb); omega)⟩
                | (obtain rfl : i = Bs.length := by omega
                   rw [List.take_length] at *
                   first
                   | exact ⟨X25, congrArg Value.bool (lstB_t ⟨fun b hb => hgood.1 b (by rw [List.take_length]; exact hb), hgood.2, by omega, by omega⟩)⟩
                   | exact ⟨X25, congrArg Value.bool (lstB_f fun hh => by have := hh.2.2.1; have := hh.2.2.2; omega)⟩)
            · skip
              refine r_want 23 false (by kernel_rfl) rfl rfl (r_pickT rfl (r_pickF rfl (r_nil (q_t ?_))))
              refine w_false rfl ?_
              refine w_skip (q_t ?_)
              refine ⟨(), ⟨Z24, by omega, of_wfB (by assumption), fun j x hj hx => ?_⟩, trivial⟩
              first | (exfalso; omega) | (obtain rfl : j = i - 1 := (by omega); rw [hb1] at hx; injection hx with hx; subst hx; omega)
          · skip
            refine r_want 23 false (by kernel_rfl) rfl rfl (r_mv (r_skip 26 false (by kernel_rfl) rfl rfl (r_skip 26 false (by kernel_rfl) rfl rfl (r_skip 26 false (by kernel_rfl) rfl rfl (r_skip 26 false (by kernel_rfl) rfl rfl (r_skip 26 false (by kernel_rfl) rfl rfl (r_skip 26 false (by kernel_rfl) rfl rfl (r_skip 26 false (by kernel_rfl) rfl rfl (r_skip 26 false (by kernel_rfl) rfl rfl (r_skip 26 false (by kernel_rfl) rfl rfl (r_want 23 false (by kernel_rfl) rfl rfl (r_pickF rfl (r_pickF rfl (r_nil (q_t ?_)))))))))))))))
            refine w_false rfl ?_
            refine w_skip (q_t ?_)
            refine ⟨(), ⟨Z24, by omega, of_wfB (by assumption), fun j x hj hx => ?_⟩, trivial⟩
            first | (exfalso; omega) | (obtain rfl : j = i - 1 := (by omega); rw [hb1] at hx; injection hx with hx; subst hx; omega)
    rintro _ s2 hj ⟨EJ, hi7, hwf, hprev⟩
    have hwp := wfR_pos hwf
    have sz29 := EJ.1
    have Z30 := Z17.trans EJ
    have X31 := X15.trans EJ
    have V5_32 := V5_13.ext EJ
    have Y33 := Y18.trans EJ
    refine w_reg ?_
    refine r_mv (r_fo (fs := 1) fd_Blk1 (by kernel_rfl) (by decide) rfl (r_ld na_int rfl (V5_32.cell (i := 1) rfl) (r_addb rfl rfl (by omega) (by omega) (r_as (r_nil (q_b (q_t ?_)))))))
    refine w_reg ?_
    refine r_inc rfl (by omega) (r_mv (r_nil (q_t ?_)))
    exact ⟨Bs.length - (i + 1), (i + 1, _), by first | omega | (dsimp only; omega), ⟨Z30, rfl, by first | omega | (dsimp only; omega), by first | omega | (dsimp only; omega), goodR_succ hgood hb hwf hprev, (ssum_take_succ hb).symm⟩, rfl, rfl, trivial⟩
  · skip
    refine r_nil (q_t ?_)
    refine w_seq ?_
    refine w_false rfl ?_
    refine w_exit (q_tx (q_tx (q_bx (q_t ?_))))
    refine w_seq ?_
    refine w_reg ?_
    refine r_mv (r_geq rfl rfl (fun hc6 => ?_) (fun hc6 => ?_))   -- t44 := binOp geq 3 t43 1:i64 3
    · skip
      refine r_mv (r_want 45 true (by kernel_rfl) rfl rfl (r_mv (r_want 45 true (by kernel_rfl) rfl rfl (r_leq rfl rfl (fun hc7 => ?_) (fun hc7 => ?_)))))   -- t47 := binOp leq 3 t46 8:i64 3   [guard op2 true]
      · skip
        refine r_pickT rfl (r_as (r_nil (q_t ?_)))
        refine w_ret ?_
        refine ⟨_, retV_1, ?_⟩
        first
          | exact ⟨EQ, congrArg Value.bool (lstB_f fun hh => by have := lstR_len hh; have := (List.getElem?_eq_some_iff.1 hb).1; omega)⟩
          | exact ⟨EQ, congrArg Value.bool (lstB_f fun hh => absurd (hh.1 b (List.mem_of_getElem? hb)) (not_of_wfB (by assumption)))⟩
          | exact ⟨EQ, congrArg Value.bool (lstB_f fun hh => by have := hh.2.1 (i - 1) b1 b (by have := (List.getElem?_eq_some_iff.1 hb).1; omega) hb1 (by rw [show i - 1 + 1 = i by omega]; exact hb); omega)⟩
          | (obtain rfl : i = Bs.length := by omega
             rw [List.take_length] at *
             first
             | exact ⟨EQ, congrArg Value.bool (lstB_t ⟨fun b hb => hgood.1 b (by rw [List.take_length]; exact hb), hgood.2, by omega, by omega⟩)⟩
             | exact ⟨EQ, congrArg Value.bool (lstB_f fun hh => by have := hh.2.2.1; have := hh.2.2.2; omega)⟩)
      · skip
        refine r_pickT rfl (r_as (r_nil (q_t ?_)))
        refine w_ret ?_
        refine ⟨_, retV_1, ?_⟩
        first
          | exact ⟨EQ, congrArg Value.bool (lstB_f fun hh => by have := lstR_len hh; have := (List.getElem?_eq_some_iff.1 hb).1; omega)⟩
          | exact ⟨EQ, congrArg Value.bool (lstB_f fun hh => absurd (hh.1 b (List.mem_of_getElem? hb)) (not_of_wfB (by assumption)))⟩
          | exact ⟨EQ, congrArg Value.bool (lstB_f fun hh => by have := hh.2.1 (i - 1) b1 b (by have := (List.getElem?_eq_some_iff.1 hb).1; omega) hb1 (by rw [show i - 1 + 1 = i by omega]; exact hb); omega)⟩
          | (obtain rfl : i = Bs.length := by omega
             rw [List.take_length] at *
             first
             | exact ⟨EQ, congrArg Value.bool (lstB_t ⟨fun b hb => hgood.1 b (by rw [List.take_length]; exact hb), hgood.2, by omega, by omega⟩)⟩
             | exact ⟨EQ, congrArg Value.bool (lstB_f fun hh => by have := hh.2.2.1; have := hh.2.2.2; omega)⟩)
    · skip
      refine r_mv (r_skip 45 false (by kernel_rfl) rfl rfl (r_skip 45 false (by kernel_rfl) rfl rfl (r_pickF rfl (r_as (r_nil (q_t ?_))))))
      refine w_ret ?_
      refine ⟨_, retV_1, ?_⟩
      first
        | exact ⟨EQ, congrArg Value.bool (lstB_f fun hh => by have := lstR_len hh; have := (List.getElem?_eq_some_iff.1 hb).1; omega)⟩
        | exact ⟨EQ, congrArg Value.bool (lstB_f fun hh => absurd (hh.1 b (List.mem_of_getElem? hb)) (not_of_wfB (by assumption)))⟩
        | exact ⟨EQ, congrArg Value.bool (lstB_f fun hh => by have := hh.2.1 (i - 1) b1 b (by have := (List.getElem?_eq_some_iff.1 hb).1; omega) hb1 (by rw [show i - 1 + 1 = i by omega]; exact hb); omega)⟩
        | (obtain rfl : i = Bs.length := by omega
           rw [List.take_length] at *
           first
           | exact ⟨EQ, congrArg Value.bool (lstB_t ⟨fun b hb => hgood.1 b (by rw [List.take_length]; exact hb), hgood.2, by omega, by omega⟩)⟩
           | exact ⟨EQ, congrArg Value.bool (lstB_f fun hh => by have := hh.2.2.1; have := hh.2.2.2; omega)⟩)

theorem Constituents2_ok {h : Heap} {vT vB : Value} {p : Int} {Bs : List Blk} (HBs : SlK h 5 vB (Bs.map blkV)) (hn : Bs.length ≤ 1000) : CallH Tryd.prog 13 #[.agg #[.int .i64 p, vT, vB]] h fun x h' => PostC h x h' (con2B p Bs) (con2 p Bs) := by
  refine calls_of_W (l := [_]) mx Tryd.func13 rfl rfl rfl rfl rfl (by kernel_rfl) ?_
  refine w_seq ?_
  refine w_reg ?_
  refine r_boxB [.int .i64 p, vT, vB] (fun _ => trivial) rfl rfl fun bq1 h2 V3 E4 hb5 hl6 => ?_
  have hzbq1 : Array.size h ≤ bq1 := hb5
  have sz7 := E4.1
  refine r_as (r_as (r_nil (q_t ?_)))
  refine w_seq ?_
  refine w_seq ?_
  refine w_reg ?_
  refine r_fo (fs := 1) fd_Jor0 (by kernel_rfl) (by decide) rfl (r_ld na_i64 rfl (V3.cell (i := 0) rfl) (r_neq rfl rfl (fun hc1 => ?_) (fun hc1 => ?_)))   -- t14 := binOp neq 2 t13 2:i64 2
  · skip
    refine r_mv (r_skip 15 true (by kernel_rfl) rfl rfl (r_skip 15 true (by kernel_rfl) rfl rfl (r_skip 15 true (by kernel_rfl) rfl rfl (r_skip 15 true (by kernel_rfl) rfl rfl (r_pickT rfl (r_nil (q_t ?_)))))))
    refine w_true rfl ?_
    refine w_seq ?_
    refine w_reg ?_
    refine r_as (r_as (r_nil (q_t ?_)))
    refine w_ret (q_tr ?_)
    refine ⟨_, retV_2, ?_⟩
    first
      | exact post_no E4 (fun hh => absurd hh.1 (by assumption))
      | exact post_no E4 (fun hh => absurd (lstR_2.2 hh.2) (not_of_lstB (by assumption)))
      | (obtain rfl : i = Bs.length := by omega
         exact post_yes E4 (by assumption) hlst HG.sl)
  · skip
    refine r_mv (r_want 15 false (by kernel_rfl) rfl rfl (r_fo (fs := 1) fd_Jor2 (by kernel_rfl) (by decide) rfl (r_want 15 false (by kernel_rfl) rfl rfl (r_ld na_BL rfl (V3.cell (i := 2) rfl) (r_want 15 false (by kernel_rfl) rfl rfl (r_call trivial rfl (listed_ok (p := 2) (HBs.ext E4) (by decide) hn) fun x8 h9 hk => ?_))))))
    obtain ⟨E10, rfl⟩ := hk
    refine ⟨trivial, ?_⟩
    have sz11 := E10.1
    have X12 := E4.trans E10
    have V3_13 := V3.ext E10
    have Y14 := E4.trans E10
    cases hc2 : lstB 2 Bs
    · skip
      refine r_want 15 false (by kernel_rfl) rfl rfl (r_not rfl (r_pickF rfl (r_nil (q_t ?_))))
      refine w_true rfl ?_
      refine w_seq ?_
      refine w_reg ?_
      refine r_as (r_as (r_nil (q_t ?_)))
      refine w_ret (q_tr ?_)
      refine ⟨_, retV_2, ?_⟩
      first
        | exact post_no X12 (fun hh => absurd hh.1 (by assumption))
        | exact post_no X12 (fun hh => absurd (lstR_2.2 hh.2) (not_of_lstB (by assumption)))
        | (obtain rfl : i = Bs.length := by omega
           exact post_yes X12 (by assumption) hlst HG.sl)
    · skip
      refine r_want 15 false (by kernel_rfl) rfl rfl (r_not rfl (r_pickF rfl (r_nil (q_t ?_))))
      refine w_false rfl ?_
      refine w_skip (q_t ?_)
      refine w_seq ?_
      refine w_reg ?_
      refine r_as (r_nil (q_t ?_))
      refine w_seq ?_
      refine w_seq ?_
      refine w_reg ?_
      refine r_fo (fs := 1) fd_Jor2 (by kernel_rfl) (by decide) rfl (r_ld na_BL rfl (V3_13.cell (i := 2) rfl) (r_lenKm sl_BL rfl (HBs.ext X12) (r_mv (r_nil (q_t ?_)))))
      refine w_block ?_
      obtain ⟨lo, hlo⟩ : ∃ lo, lo = Array.size h9 := ⟨_, rfl⟩
      have hblo : bq1 < lo := by rw [hlo]; exact V3_13.lt
      have hhlo : Array.size h ≤ lo := by rw [hlo]; exact X12.1
      have hlst := lstR_2.1 (of_lstB hc2)
      refine w_loop 5192296858534827628530496312446928 (fun y : Nat × Value => [(24, .int .i64 (y.1 : Int)), (4, y.2)]) (fun k y h' => k = Bs.length - y.1 ∧ y.1 ≤ Bs.length ∧ Ext h h' ∧ BoxH 31 h' bq1 [.int .i64 p, vT, vB] ∧ GroK h' 44 5 lo y.2 ((consTo inc2 Bs y.1).map conV) ∧ lo ≤ Array.size h') (by kernel_rfl) Bs.length (0, .slice none 0 0) ?_ ⟨rfl, rfl, trivial⟩ ?_
      · exact ⟨rfl, Nat.zero_le _, X12, V3_13, groK_nil _ _ _ _, by rw [hlo]; exact Nat.le_refl _⟩
      rintro k ⟨i, lv⟩ s1 hq ⟨rfl, hi, XQ, VQ, HG, hlq⟩
      dsimp only at hi HG ⊢
      have hgood := lst2_good hlst i hi
      have hi8 := good2_len hgood hi
      have hcl8 := consTo_len inc2 Bs i
      refine w_seq ?_
      refine w_reg ?_
      refine r_lss rfl rfl (fun hc3 => ?_) (fun hc3 => ?_)   -- t25 := binOp lss 3 t24 t23 3
      · skip
        refine r_nil (q_t ?_)
        refine w_seq ?_
        refine w_true rfl ?_
        refine w_skip (q_t ?_)
        refine w_seq ?_
        refine w_block ?_
        refine w_seq ?_
        obtain ⟨b, hb⟩ : ∃ b, Bs[i]? = some b := ⟨_, List.getElem?_eq_getElem (by omega)⟩
        have hwf := (hlst.1 b (List.mem_of_getElem? hb)).2
        have hwp := wf_pos hwf
        refine w_reg ?_
        refine r_ixK sl_BL rfl (HBs.ext XQ) rfl (get_blk hb) fun aq15 oq15 hkq15 => ?_
        refine r_ldA [.int .i64 b.exp, .int .i64 b.size, .int .i64 b.a, .int .i64 b.b, .int .i64 b.c] ag_Blk rfl rfl (fun i u hu => by rw [addr_add]; exact hkq15 i u hu) ?_
        refine r_allocB [.int .i64 0, .int .i64 0, .int .i64 0, .int .i64 0, .int .i64 0] ze_Blk rfl (fun _ => trivial) fun bq16 h17 V18 E19 hb20 hl21 => ?_
        have hzbq16 : Array.size h ≤ bq16 := Nat.le_trans XQ.1 hb20
        have nebq1bq16 : bq1 ≠ bq16 := by have := VQ.lt; omega
        have avHGbq16 : ∀ g, Value.ownBlock lv = some g → g < bq16 := fun g hg => by have := (HG.blk g hg).2; omega
        have sz22 := E19.1
        have X23 := XQ.trans E19
        have V3_24 := VQ.ext E19
        have HG_25 := HG.ext E19
        refine r_stA [.int .i64 b.exp, .int .i64 b.size, .int .i64 b.a, .int .i64 b.b, .int .i64 b.c] ag_Blk rfl rfl rfl rfl (by simp [isOne]) V18 fun h26 V18_27 U28 => ?_
        have X29 := X23.thenUpd U28 (fun k hk => by have hk2 : k = bq16 := hk; omega)
        have sz30 := U28.1
        have Y31 := E19.thenUpd U28 (fun k hk => by have hk2 : k = bq16 := hk; omega)
        have V3_32 := VQ.ext Y31
        have HG_33 := HG.ext Y31
        refine r_nil (q_t ?_)
        refine w_join 562949684985872 (fun lv2 : Value => [(4, lv2)]) (fun lv2 h' => Ext h h' ∧ BoxH 31 h' bq1 [.int .i64 p, vT, vB] ∧ BoxH 41 h' bq16 [.int .i64 b.exp, .int .i64 b.size, .int .i64 b.a, .int .i64 b.b, .int .i64 b.c] ∧ ∃ (g n : Nat) (c : Con) (L : List (List Value)), OwnK h' 44 5 g lv2 (L.set n (conV c)) ∧ L.length = n + 1 ∧ n ≤ 100 ∧ lo ≤ g ∧ g ≠ bq16 ∧ SmC 16 c ∧ L.set n (conV (inc2 c b)) = (consTo inc2 Bs (i + 1)).map conV) (by kernel_rfl) ?_ ?_
        · skip
          refine w_seq ?_
          refine w_draw (by kernel_rfl) ?_
          refine r_mv (r_lenKm sl_CL rfl HG_33.sl ?_)
          refine r_eql rfl rfl (fun hc4 => ?_) (fun hc4 => ?_)   -- t30 := binOp eql 3 t29 0:i64 3
          · skip
            refine r_mv (r_skip 31 true (by kernel_rfl) rfl rfl (r_skip 31 true (by kernel_rfl) rfl rfl (r_skip 31 true (by kernel_rfl) rfl rfl (r_skip 31 true (by kernel_rfl) rfl rfl (r_skip 31 true (by kernel_rfl) rfl rfl (r_skip 31 true (by kernel_rfl) rfl rfl (r_skip 31 true (by kernel_rfl) rfl rfl (r_skip 31 true (by kernel_rfl) rfl rfl (r_skip 31 true (by kernel_rfl) rfl rfl (r_skip 31 true (by kernel_rfl) rfl rfl (r_pickT rfl (r_nil (q_t ?_)))))))))))))
            refine w_true rfl ?_
            have hnw : i = 0 ∨ ∃ b1, 0 < i ∧ Bs[i - 1]? = some b1 ∧ b1.exp ≠ b.exp := by
              by_cases h0 : i = 0
              · exact .inl h0
              · right
                obtain ⟨b1, hb1⟩ : ∃ b1, Bs[i - 1]? = some b1 := ⟨_, List.getElem?_eq_getElem (by omega)⟩
                obtain ⟨c1, hc1l, hc1e⟩ := consTo_last (inc := inc2) (fun _ _ => rfl) hb1
                rw [show i - 1 + 1 = i by omega, List.getLast?_eq_getElem?] at hc1l
                refine ⟨b1, by omega, hb1, ?_⟩
                first
                | (have := (List.getElem?_eq_some_iff.1 hc1l).1; omega)
                | (rw [hcl0] at hc1l; injection hc1l with hc1l; subst hc1l; omega)
            refine w_reg ?_
            refine r_mv (r_fo (fs := 1) fd_Blk0 (by kernel_rfl) (by decide) rfl (r_ld na_int rfl (V18_27.cell (i := 0) rfl) (r_build (v := .agg #[.int .i64 b.exp, .int .i64 0, .int .i64 1, .bool false, .int .i64 0]) (build_con b.exp) ?_)))
            refine r_pushK (conV ⟨b.exp, 0, 1, false, 0⟩) sl_CL ze_Con rfl (fun _ => trivial) (fun _ => rfl) rfl rfl (by simp [conV, isOne]) (by decide) (by decide) HG_33 (by omega) (by decide) (by rw [List.length_map]; omega) fun p34 lv35 h36 HG_37 U38 bk39 => ?_
            have sz41 := U38.1
            have X40 := X29.thenUpd U38 (fun k hk => by have := HG_33.blk k hk; omega)
            have V3_42 := V3_32.upd U38 (fun hs => by have hq := HG_33.blk _ hs; have hq2 : Value.ownBlock lv = some bq1 := hs; first | omega | (have := avHGbq1 _ hs; omega))
            have V18_43 := V18_27.upd U38 (fun hs => by have hq := HG_33.blk _ hs; have hq2 : Value.ownBlock lv = some bq16 := hs; first | omega | (have := avHGbq16 _ hs; omega))
            refine r_as (r_nil (q_t ?_))
            obtain ⟨g, hgl, HOg⟩ := HG_37.own (by simp)
            have hg6 : g ≠ bq16 := by
              rcases bk39 with q | ⟨g', q, qe⟩
              · have := avHGbq16 g (q ▸ HOg.blk); omega
              · have h2 := HOg.blk; rw [q] at h2; injection h2 with h2; omega
            have hcl : ((consTo inc2 Bs i).map conV ++ [conV ⟨b.exp, 0, 1, false, 0⟩])[(consTo inc2 Bs i).length]? = some (conV ⟨b.exp, 0, 1, false, 0⟩) := get_snoc (by simp)
            have hnew := cons_new (inc := inc2) (Bs := Bs) (i := i) (b := b) (fun _ _ => rfl) hnw
            exact ⟨_, ⟨X40, V3_42, V18_43, g, (consTo inc2 Bs i).length, ⟨b.exp, 0, 1, false, 0⟩, _, by rw [set_same hcl]; exact HOg, by simp, by omega, hgl, hg6, ⟨⟨Int.le_refl 0, by show (0 : Int) ≤ 7; decide⟩, .inl rfl, Int.le_refl 0, by show (0 : Int) ≤ 16; decide⟩, by rw [consTo_succ hb]; exact set_new rfl hnew⟩, rfl, trivial⟩
          · skip
            refine r_mv (r_want 31 false (by kernel_rfl) rfl rfl (r_mv (r_want 31 false (by kernel_rfl) rfl rfl (r_mv (r_want 31 false (by kernel_rfl) rfl rfl (r_lenKm sl_CL rfl HG_33.sl ?_))))))
            refine r_want 31 false (by kernel_rfl) rfl rfl (r_subb rfl rfl (by omega) (by omega) ?_)
            rw [show (((consTo inc2 Bs i).length : Nat) : Int) - 1 = (((consTo inc2 Bs i).length - 1 : Nat) : Int) by omega]
            obtain ⟨c, hcl0⟩ : ∃ c, (consTo inc2 Bs i)[(consTo inc2 Bs i).length - 1]? = some c := ⟨_, List.getElem?_eq_getElem (by omega)⟩
            have hne : consTo inc2 Bs i ≠ [] := fun he => by rw [he] at hcl0; simp at hcl0
            refine r_want 31 false (by kernel_rfl) rfl rfl (r_ixK sl_CL rfl HG_33.sl rfl (get_con hcl0) fun aL oL hkL => ?_)
            refine r_want 31 false (by kernel_rfl) rfl rfl (r_fo (fs := 1) fd_Con0 (by kernel_rfl) (by decide) rfl (r_want 31 false (by kernel_rfl) rfl rfl (r_ld na_int rfl (hkL 0 _ rfl) (r_want 31 false (by kernel_rfl) rfl rfl (r_fo (fs := 1) fd_Blk0 (by kernel_rfl) (by decide) rfl (r_want 31 false (by kernel_rfl) rfl rfl (r_ld na_int rfl (V18_27.cell (i := 0) rfl) (r_want 31 false (by kernel_rfl) rfl rfl (r_neq rfl rfl (fun hc5 => ?_) (fun hc5 => ?_))))))))))   -- t41 := binOp neq 3 t38 t40 3   [guard op3 false]
            · skip
              refine r_pickF rfl (r_nil (q_t ?_))
              refine w_true rfl ?_
              have hnw : i = 0 ∨ ∃ b1, 0 < i ∧ Bs[i - 1]? = some b1 ∧ b1.exp ≠ b.exp := by
                by_cases h0 : i = 0
                · exact .inl h0
                · right
                  obtain ⟨b1, hb1⟩ : ∃ b1, Bs[i - 1]? = some b1 := ⟨_, List.getElem?_eq_getElem (by omega)⟩
                  obtain ⟨c1, hc1l, hc1e⟩ := consTo_last (inc := inc2) (fun _ _ => rfl) hb1
                  rw [show i - 1 + 1 = i by omega, List.getLast?_eq_getElem?] at hc1l
                  refine ⟨b1, by omega, hb1, ?_⟩
                  first
                  | (have := (List.getElem?_eq_some_iff.1 hc1l).1; omega)
                  | (rw [hcl0] at hc1l; injection hc1l with hc1l; subst hc1l; omega)
              refine w_reg ?_
              refine r_mv (r_fo (fs := 1) fd_Blk0 (by kernel_rfl) (by decide) rfl (r_ld na_int rfl (V18_27.cell (i := 0) rfl) (r_build (v := .agg #[.int .i64 b.exp, .int .i64 0, .int .i64 1, .bool false, .int .i64 0]) (build_con b.exp) ?_)))
              refine r_pushK (conV ⟨b.exp, 0, 1, false, 0⟩) sl_CL ze_Con rfl (fun _ => trivial) (fun _ => rfl) rfl rfl (by simp [conV, isOne]) (by decide) (by decide) HG_33 (by omega) (by decide) (by rw [List.length_map]; omega) fun p44 lv45 h46 HG_47 U48 bk49 => ?_
              have sz51 := U48.1
              have X50 := X29.thenUpd U48 (fun k hk => by have := HG_33.blk k hk; omega)
              have V3_52 := V3_32.upd U48 (fun hs => by have hq := HG_33.blk _ hs; have hq2 : Value.ownBlock lv = some bq1 := hs; first | omega | (have := avHGbq1 _ hs; omega))
              have V18_53 := V18_27.upd U48 (fun hs => by have hq := HG_33.blk _ hs; have hq2 : Value.ownBlock lv = some bq16 := hs; first | omega | (have := avHGbq16 _ hs; omega))
              refine r_as (r_nil (q_t ?_))
              obtain ⟨g, hgl, HOg⟩ := HG_47.own (by simp)
              have hg6 : g ≠ bq16 := by
                rcases bk49 with q | ⟨g', q, qe⟩
                · have := avHGbq16 g (q ▸ HOg.blk); omega
                · have h2 := HOg.blk; rw [q] at h2; injection h2 with h2; omega
              have hcl : ((consTo inc2 Bs i).map conV ++ [conV ⟨b.exp, 0, 1, false, 0⟩])[(consTo inc2 Bs i).length]? = some (conV ⟨b.exp, 0, 1, false, 0⟩) := get_snoc (by simp)
              have hnew := cons_new (inc := inc2) (Bs := Bs) (i := i) (b := b) (fun _ _ => rfl) hnw
              exact ⟨_, ⟨X50, V3_52, V18_53, g, (consTo inc2 Bs i).length, ⟨b.exp, 0, 1, false, 0⟩, _, by rw [set_same hcl]; exact HOg, by simp, by omega, hgl, hg6, ⟨⟨Int.le_refl 0, by show (0 : Int) ≤ 7; decide⟩, .inl rfl, Int.le_refl 0, by show (0 : Int) ≤ 16; decide⟩, by rw [consTo_succ hb]; exact set_new rfl hnew⟩, rfl, trivial⟩
            · skip
              refine r_pickF rfl (r_nil (q_t ?_))
              refine w_false rfl ?_
              refine w_skip (q_t ?_)
              obtain ⟨g, hgl, HOg⟩ := HG_33.own (by simpa using hne)
              have hg6 : g ≠ bq16 := by have := avHGbq16 g HOg.blk; omega
              have hlc : (consTo inc2 Bs i).getLast? = some c := by rw [List.getLast?_eq_getElem?]; exact hcl0
              exact ⟨_, ⟨X29, V3_32, V18_27, g, (consTo inc2 Bs i).length - 1, c, _, by rw [set_same (get_con hcl0)]; exact HOg, by rw [List.length_map]; omega, by omega, hgl, hg6, by obtain ⟨q1, q2, q3, q4⟩ := smC_cons i (fun b hb => (hgood.1 b hb).2) c (List.mem_of_getLast? hlc); exact ⟨q1, q2, q3, by omega⟩, by rw [consTo_succ hb]; exact set_old (by omega) hlc (by omega)⟩, rfl, trivial⟩
        rintro lv2 s2 hj ⟨XJ, VJ1, VJ6, g, n, c, L, HO, hLn, hn100, hgl, hg6, hsC, hres⟩
        have hnL : n < L.length := by omega
        obtain ⟨ho1, ho2, ho3, ho4⟩ := hsC
        refine w_seq ?_
        refine w_reg ?_
        refine r_mv (r_mv (r_lenK sl_CL rfl HO.sl ?_))
        rw [List.length_set, hLn]
        refine r_subb rfl rfl (by omega) (by omega) ?_
        rw [show ((n + 1 : Nat) : Int) - 1 = (n : Int) by omega]
        refine r_ixKo sl_CL rfl HO rfl (by rw [List.length_set]; omega) ?_
        refine r_as (r_nil (q_t ?_))
        refine w_seq ?_
        refine w_drawB (fun h' => Ext hj h') (by kernel_rfl) ?_
        have hB0 := Ext.refl hj
        refine r_fo (fs := 1) fd_Blk2 (by kernel_rfl) (by decide) rfl (r_ldB na_i64 rfl hB0 (fun h' hb => (VJ6.ext hb).cell (i := 2) rfl) (r_call hB0 rfl (Mod_ok _ (by omega) (by omega) _) fun x54 hj hk => ?_))
        obtain ⟨rfl, rfl⟩ := hk
        refine ⟨hB0, ?_⟩
        refine r_fo (fs := 1) fd_Blk3 (by kernel_rfl) (by decide) rfl (r_ldB na_i64 rfl hB0 (fun h' hb => (VJ6.ext hb).cell (i := 3) rfl) (r_call hB0 rfl (Mod_ok _ (by omega) (by omega) _) fun x55 hj hk => ?_))
        obtain ⟨rfl, rfl⟩ := hk
        refine ⟨hB0, ?_⟩
        refine r_fo (fs := 1) fd_Blk4 (by kernel_rfl) (by decide) rfl (r_ldB na_i64 rfl hB0 (fun h' hb => (VJ6.ext hb).cell (i := 4) rfl) (r_call hB0 rfl (Mod_ok _ (by omega) (by omega) _) fun x56 hj hk => ?_))
        obtain ⟨rfl, rfl⟩ := hk
        refine ⟨hB0, ?_⟩
        refine r_as (r_as (r_as (r_nil (q_t ?_))))
        refine w_seq ?_
        refine w_reg ?_
        refine r_mv (r_as (r_nil (q_t ?_)))
        refine w_seq ?_
        refine w_seq ?_
        refine w_reg ?_
        refine r_fo (fs := 1) fd_Blk1 (by kernel_rfl) (by decide) rfl (r_ld na_int rfl (VJ6.cell (i := 1) rfl) (r_eql rfl rfl (fun hc6 => ?_) (fun hc6 => ?_)))   -- t66 := binOp eql 3 t65 1:i64 3
        · skip
          refine r_nil (q_t ?_)
          refine w_true rfl ?_
          refine w_seq ?_
          refine w_reg ?_
          refine r_mv (r_nc rfl (r_fo (fs := 1) fd_Con3 (by kernel_rfl) (by decide) rfl (r_stK [.int .i64 c.exp, .int .i64 c.dim, .int .i64 c.sign, .bool true, .int .i64 c.oddity] na_bool rfl (show _ = .bool true from rfl) rfl HO hnL (by decide) rfl fun h57 HO_58 U59 => ?_)))
          have X60 := XJ.thenUpd U59 (fun k hk => by have hk2 : k = g := hk; omega)
          have V3_61 := VJ1.upd U59 (fun he => by have he2 : bq1 = g := he; omega)
          have V18_62 := VJ6.upd U59 (fun he => by have he2 : bq16 = g := he; omega)
          refine r_nil (q_t ?_)
          refine w_reg ?_
          refine r_mv (r_mv (r_nc rfl (r_fo (fs := 1) fd_Con4 (by kernel_rfl) (by decide) rfl (r_ld na_int rfl (HO_58.cell (i := n) (j := 4) (List.getElem?_set_self hnL) rfl) (r_mv (r_addb rfl rfl (by omega) (by omega) (r_remp rfl rfl (by omega) (by omega) (r_nc rfl (r_fo (fs := 1) fd_Con4 (by kernel_rfl) (by decide) rfl (r_stK [.int .i64 c.exp, .int .i64 c.dim, .int .i64 c.sign, .bool true, .int .i64 ((c.oddity + b.a % 8) % 8)] na_int rfl (show _ = .int .i64 ((c.oddity + b.a % 8) % 8) from rfl) rfl HO_58 hnL (by decide) rfl fun h63 HO_64 U65 => ?_))))))))))
          have X66 := X60.thenUpd U65 (fun k hk => by have hk2 : k = g := hk; omega)
          have V3_67 := V3_61.upd U65 (fun he => by have he2 : bq1 = g := he; omega)
          have V18_68 := V18_62.upd U65 (fun he => by have he2 : bq16 = g := he; omega)
          refine r_nil (q_t ?_)
          refine w_seq ?_
          refine w_draw (by kernel_rfl) ?_
          refine r_mv (r_nc rfl (r_fo (fs := 1) fd_Con1 (by kernel_rfl) (by decide) rfl (r_ld na_int rfl (HO_64.cell (i := n) (j := 1) (List.getElem?_set_self hnL) rfl) (r_fo (fs := 1) fd_Blk1 (by kernel_rfl) (by decide) rfl (r_ld na_int rfl (V18_68.cell (i := 1) rfl) (r_addb rfl rfl (by omega) (by omega) (r_nc rfl (r_fo (fs := 1) fd_Con1 (by kernel_rfl) (by decide) rfl (r_stK [.int .i64 c.exp, .int .i64 (c.dim + b.size), .int .i64 c.sign, .bool true, .int .i64 ((c.oddity + b.a % 8) % 8)] na_int rfl (show _ = .int .i64 (c.dim + b.size) from rfl) rfl HO_64 hnL (by decide) rfl fun h69 HO_70 U71 => ?_)))))))))
          have X72 := X66.thenUpd U71 (fun k hk => by have hk2 : k = g := hk; omega)
          have V3_73 := V3_67.upd U71 (fun he => by have he2 : bq1 = g := he; omega)
          have V18_74 := V18_68.upd U71 (fun he => by have he2 : bq16 = g := he; omega)
          refine r_nil (q_t ?_)
          refine w_seq ?_
          refine w_reg ?_
          refine r_mv (r_eql rfl rfl (fun hc7 => ?_) (fun hc7 => ?_))   -- t98 := binOp eql 2 t97 3:i64 2
          · skip
            refine r_mv (r_skip 99 true (by kernel_rfl) rfl rfl (r_skip 99 true (by kernel_rfl) rfl rfl (r_pickT rfl (r_nil (q_t ?_)))))
            refine w_true rfl ?_
            refine w_reg ?_
            refine r_mv (r_mv (r_nc rfl (r_fo (fs := 1) fd_Con2 (by kernel_rfl) (by decide) rfl (r_ld na_int rfl (HO_70.cell (i := n) (j := 2) (List.getElem?_set_self hnL) rfl) (r_neg rfl ?_)))))
            rw [show IntKind.i64.wrap (0 - c.sign) = -c.sign by rw [IntKind.wrap_i64]; omega]
            refine r_nc rfl (r_fo (fs := 1) fd_Con2 (by kernel_rfl) (by decide) rfl (r_stK [.int .i64 c.exp, .int .i64 (c.dim + b.size), .int .i64 (-c.sign), .bool true, .int .i64 ((c.oddity + b.a % 8) % 8)] na_int rfl (show _ = .int .i64 (-c.sign) from rfl) rfl HO_70 hnL (by decide) rfl fun h75 HO_76 U77 => ?_))
            have X78 := X72.thenUpd U77 (fun k hk => by have hk2 : k = g := hk; omega)
            have V3_79 := V3_73.upd U77 (fun he => by have he2 : bq1 = g := he; omega)
            have V18_80 := V18_74.upd U77 (fun he => by have he2 : bq16 = g := he; omega)
            refine r_nil (q_b (q_t ?_))
            refine w_reg ?_
            refine r_inc rfl (by omega) (r_mv (r_nil (q_t ?_)))
            have hHO := HO_76
            have e := det_mod b
            have hHO2 : OwnK h75 44 5 g lv2 (L.set n (conV (inc2 c b))) := by
              first | (rw [inc2_one (s1 := -c.sign) (by assumption) (by rw [if_pos (by omega)])]; exact hHO) | (rw [inc2_one (s1 := c.sign) (by assumption) (by rw [if_neg (by omega)])]; exact hHO) | (rw [inc2_two (s1 := -c.sign) (by assumption) (by rw [if_pos (by omega)])]; exact hHO) | (rw [inc2_two (s1 := c.sign) (by assumption) (by rw [if_neg (by omega)])]; exact hHO)
            rw [hres] at hHO2
            exact ⟨Bs.length - (i + 1), (i + 1, lv2), by first | omega | (dsimp only; omega), ⟨rfl, by first | omega | (dsimp only; omega), X78, V3_79, .inr ⟨g, hgl, hHO2⟩, by have := hHO2.lt; omega⟩, rfl, rfl, trivial⟩
          · skip
            refine r_mv (r_want 99 false (by kernel_rfl) rfl rfl (r_mv (r_want 99 false (by kernel_rfl) rfl rfl (r_eql rfl rfl (fun hc8 => ?_) (fun hc8 => ?_)))))   -- t101 := binOp eql 2 t100 5:i64 2   [guard op2 false]
            · skip
              refine r_pickF rfl (r_nil (q_t ?_))
              refine w_true rfl ?_
              refine w_reg ?_
              refine r_mv (r_mv (r_nc rfl (r_fo (fs := 1) fd_Con2 (by kernel_rfl) (by decide) rfl (r_ld na_int rfl (HO_70.cell (i := n) (j := 2) (List.getElem?_set_self hnL) rfl) (r_neg rfl ?_)))))
              rw [show IntKind.i64.wrap (0 - c.sign) = -c.sign by rw [IntKind.wrap_i64]; omega]
              refine r_nc rfl (r_fo (fs := 1) fd_Con2 (by kernel_rfl) (by decide) rfl (r_stK [.int .i64 c.exp, .int .i64 (c.dim + b.size), .int .i64 (-c.sign), .bool true, .int .i64 ((c.oddity + b.a % 8) % 8)] na_int rfl (show _ = .int .i64 (-c.sign) from rfl) rfl HO_70 hnL (by decide) rfl fun h81 HO_82 U83 => ?_))
              have X84 := X72.thenUpd U83 (fun k hk => by have hk2 : k = g := hk; omega)
              have V3_85 := V3_73.upd U83 (fun he => by have he2 : bq1 = g := he; omega)
              have V18_86 := V18_74.upd U83 (fun he => by have he2 : bq16 = g := he; omega)
              refine r_nil (q_b (q_t ?_))
              refine w_reg ?_
              refine r_inc rfl (by omega) (r_mv (r_nil (q_t ?_)))
              have hHO := HO_82
              have e := det_mod b
              have hHO2 : OwnK h81 44 5 g lv2 (L.set n (conV (inc2 c b))) := by
                first | (rw [inc2_one (s1 := -c.sign) (by assumption) (by rw [if_pos (by omega)])]; exact hHO) | (rw [inc2_one (s1 := c.sign) (by assumption) (by rw [if_neg (by omega)])]; exact hHO) | (rw [inc2_two (s1 := -c.sign) (by assumption) (by rw [if_pos (by omega)])]; exact hHO) | (rw [inc2_two (s1 := c.sign) (by assumption) (by rw [if_neg (by omega)])]; exact hHO)
              rw [hres] at hHO2
              exact ⟨Bs.length - (i + 1), (i + 1, lv2), by first | omega | (dsimp only; omega), ⟨rfl, by first | omega | (dsimp only; omega), X84, V3_85, .inr ⟨g, hgl, hHO2⟩, by have := hHO2.lt; omega⟩, rfl, rfl, trivial⟩
            · skip
              refine r_pickF rfl (r_nil (q_t ?_))
              refine w_false rfl ?_
              refine w_skip (q_b (q_t ?_))
              refine w_reg ?_
              refine r_inc rfl (by omega) (r_mv (r_nil (q_t ?_)))
              have hHO := HO_70
              have e := det_mod b
              have hHO2 : OwnK h69 44 5 g lv2 (L.set n (conV (inc2 c b))) := by
                first | (rw [inc2_one (s1 := -c.sign) (by assumption) (by rw [if_pos (by omega)])]; exact hHO) | (rw [inc2_one (s1 := c.sign) (by assumption) (by rw [if_neg (by omega)])]; exact hHO) | (rw [inc2_two (s1 := -c.sign) (by assumption) (by rw [if_pos (by omega)])]; exact hHO) | (rw [inc2_two (s1 := c.sign) (by assumption) (by rw [if_neg (by omega)])]; exact hHO)
              rw [hres] at hHO2
              exact ⟨Bs.length - (i + 1), (i + 1, lv2), by first | omega | (dsimp only; omega), ⟨rfl, by first | omega | (dsimp only; omega), X72, V3_73, .inr ⟨g, hgl, hHO2⟩, by have := hHO2.lt; omega⟩, rfl, rfl, trivial⟩
        · skip
          refine r_nil (q_t ?_)
          refine w_false rfl ?_
          have m1 := mul_bd (a := b.a % 8) (b := b.c % 8) (A := 7) (B := 7) (by omega) (by omega) (by omega) (by omega)
          have m2 := mul_bd (a := b.b % 8) (b := b.b % 8) (A := 7) (B := 7) (by omega) (by omega) (by omega) (by omega)
          refine w_reg ?_
          refine r_mv (r_mv (r_mulb rfl rfl (by omega) (by omega) (r_mv (r_mv (r_mulb rfl rfl (by omega) (by omega) (r_subb rfl rfl (by omega) (by omega) (r_call trivial rfl (Mod_ok _ (by omega) (by omega) _) fun x87 hj hk => ?_)))))))
          obtain ⟨rfl, rfl⟩ := hk
          refine ⟨trivial, ?_⟩
          refine r_as (r_nil (q_t ?_))
          refine w_seq ?_
          refine w_draw (by kernel_rfl) ?_
          refine r_mv (r_nc rfl (r_fo (fs := 1) fd_Con1 (by kernel_rfl) (by decide) rfl (r_ld na_int rfl (HO.cell (i := n) (j := 1) (List.getElem?_set_self hnL) rfl) (r_fo (fs := 1) fd_Blk1 (by kernel_rfl) (by decide) rfl (r_ld na_int rfl (VJ6.cell (i := 1) rfl) (r_addb rfl rfl (by omega) (by omega) (r_nc rfl (r_fo (fs := 1) fd_Con1 (by kernel_rfl) (by decide) rfl (r_stK [.int .i64 c.exp, .int .i64 (c.dim + b.size), .int .i64 c.sign, .bool c.odd, .int .i64 c.oddity] na_int rfl (show _ = .int .i64 (c.dim + b.size) from rfl) rfl HO hnL (by decide) rfl fun h88 HO_89 U90 => ?_)))))))))
          have X91 := XJ.thenUpd U90 (fun k hk => by have hk2 : k = g := hk; omega)
          have V3_92 := VJ1.upd U90 (fun he => by have he2 : bq1 = g := he; omega)
          have V18_93 := VJ6.upd U90 (fun he => by have he2 : bq16 = g := he; omega)
          refine r_nil (q_t ?_)
          refine w_seq ?_
          refine w_reg ?_
          refine r_mv (r_eql rfl rfl (fun hc9 => ?_) (fun hc9 => ?_))   -- t98 := binOp eql 2 t97 3:i64 2
          · skip
            refine r_mv (r_skip 99 true (by kernel_rfl) rfl rfl (r_skip 99 true (by kernel_rfl) rfl rfl (r_pickT rfl (r_nil (q_t ?_)))))
            refine w_true rfl ?_
            refine w_reg ?_
            refine r_mv (r_mv (r_nc rfl (r_fo (fs := 1) fd_Con2 (by kernel_rfl) (by decide) rfl (r_ld na_int rfl (HO_89.cell (i := n) (j := 2) (List.getElem?_set_self hnL) rfl) (r_neg rfl ?_)))))
            rw [show IntKind.i64.wrap (0 - c.sign) = -c.sign by rw [IntKind.wrap_i64]; omega]
            refine r_nc rfl (r_fo (fs := 1) fd_Con2 (by kernel_rfl) (by decide) rfl (r_stK [.int .i64 c.exp, .int .i64 (c.dim + b.size), .int .i64 (-c.sign), .bool c.odd, .int .i64 c.oddity] na_int rfl (show _ = .int .i64 (-c.sign) from rfl) rfl HO_89 hnL (by decide) rfl fun h94 HO_95 U96 => ?_))
            have X97 := X91.thenUpd U96 (fun k hk => by have hk2 : k = g := hk; omega)
            have V3_98 := V3_92.upd U96 (fun he => by have he2 : bq1 = g := he; omega)
            have V18_99 := V18_93.upd U96 (fun he => by have he2 : bq16 = g := he; omega)
            refine r_nil (q_b (q_t ?_))
            refine w_reg ?_
            refine r_inc rfl (by omega) (r_mv (r_nil (q_t ?_)))
            have hHO := HO_95
            have e := det_mod b
            have hHO2 : OwnK h94 44 5 g lv2 (L.set n (conV (inc2 c b))) := by
              first | (rw [inc2_one (s1 := -c.sign) (by assumption) (by rw [if_pos (by omega)])]; exact hHO) | (rw [inc2_one (s1 := c.sign) (by assumption) (by rw [if_neg (by omega)])]; exact hHO) | (rw [inc2_two (s1 := -c.sign) (by assumption) (by rw [if_pos (by omega)])]; exact hHO) | (rw [inc2_two (s1 := c.sign) (by assumption) (by rw [if_neg (by omega)])]; exact hHO)
            rw [hres] at hHO2
            exact ⟨Bs.length - (i + 1), (i + 1, lv2), by first | omega | (dsimp only; omega), ⟨rfl, by first | omega | (dsimp only; omega), X97, V3_98, .inr ⟨g, hgl, hHO2⟩, by have := hHO2.lt; omega⟩, rfl, rfl, trivial⟩
          · skip
            refine r_mv (r_want 99 false (by kernel_rfl) rfl rfl (r_mv (r_want 99 false (by kernel_rfl) rfl rfl (r_eql rfl rfl (fun hc10 => ?_) (fun hc10 => ?_)))))   -- t101 := binOp eql 2 t100 5:i64 2   [guard op2 false]
            · skip
              refine r_pickF rfl (r_nil (q_t ?_))
              refine w_true rfl ?_
              refine w_reg ?_
              refine r_mv (r_mv (r_nc rfl (r_fo (fs := 1) fd_Con2 (by kernel_rfl) (by decide) rfl (r_ld na_int rfl (HO_89.cell (i := n) (j := 2) (List.getElem?_set_self hnL) rfl) (r_neg rfl ?_)))))
              rw [show IntKind.i64.wrap (0 - c.sign) = -c.sign by rw [IntKind.wrap_i64]; omega]
              refine r_nc rfl (r_fo (fs := 1) fd_Con2 (by kernel_rfl) (by decide) rfl (r_stK [.int .i64 c.exp, .int .i64 (c.dim + b.size), .int .i64 (-c.sign), .bool c.odd, .int .i64 c.oddity] na_int rfl (show _ = .int .i64 (-c.sign) from rfl) rfl HO_89 hnL (by decide) rfl fun h100 HO_101 U102 => ?_))
              have X103 := X91.thenUpd U102 (fun k hk => by have hk2 : k = g := hk; omega)
              have V3_104 := V3_92.upd U102 (fun he => by have he2 : bq1 = g := he; omega)
              have V18_105 := V18_93.upd U102 (fun he => by have he2 : bq16 = g := he; omega)
              refine r_nil (q_b (q_t ?_))
              refine w_reg ?_
              refine r_inc rfl (by omega) (r_mv (r_nil (q_t ?_)))
              have hHO := HO_101
              have e := det_mod b
              have hHO2 : OwnK h100 44 5 g lv2 (L.set n (conV (inc2 c b))) := by
                first | (rw [inc2_one (s1 := -c.sign) (by assumption) (by rw [if_pos (by omega)])]; exact hHO) | (rw [inc2_one (s1 := c.sign) (by assumption) (by rw [if_neg (by omega)])]; exact hHO) | (rw [inc2_two (s1 := -c.sign) (by assumption) (by rw [if_pos (by omega)])]; exact hHO) | (rw [inc2_two (s1 := c.sign) (by assumption) (by rw [if_neg (by omega)])]; exact hHO)
              rw [hres] at hHO2
              exact ⟨Bs.length - (i + 1), (i + 1, lv2), by first | omega | (dsimp only; omega), ⟨rfl, by first | omega | (dsimp only; omega), X103, V3_104, .inr ⟨g, hgl, hHO2⟩, by have := hHO2.lt; omega⟩, rfl, rfl, trivial⟩
            · skip
              refine r_pickF rfl (r_nil (q_t ?_))
              refine w_false rfl ?_
              refine w_skip (q_b (q_t ?_))
              refine w_reg ?_
              refine r_inc rfl (by omega) (r_mv (r_nil (q_t ?_)))
              have hHO := HO_89
              have e := det_mod b
              have hHO2 : OwnK h88 44 5 g lv2 (L.set n (conV (inc2 c b))) := by
                first | (rw [inc2_one (s1 := -c.sign) (by assumption) (by rw [if_pos (by omega)])]; exact hHO) | (rw [inc2_one (s1 := c.sign) (by assumption) (by rw [if_neg (by omega)])]; exact hHO) | (rw [inc2_two (s1 := -c.sign) (by assumption) (by rw [if_pos (by omega)])]; exact hHO) | (rw [inc2_two (s1 := c.sign) (by assumption) (by rw [if_neg (by omega)])]; exact hHO)
              rw [hres] at hHO2
              exact ⟨Bs.length - (i + 1), (i + 1, lv2), by first | omega | (dsimp only; omega), ⟨rfl, by first | omega | (dsimp only; omega), X91, V3_92, .inr ⟨g, hgl, hHO2⟩, by have := hHO2.lt; omega⟩, rfl, rfl, trivial⟩
      · skip
        refine r_nil (q_t ?_)
        refine w_seq ?_
        refine w_false rfl ?_
        refine w_exit (q_tx (q_tx (q_bx (q_t ?_))))
        refine w_seq ?_
        refine w_reg ?_
        refine r_mv (r_as (r_as (r_nil (q_t ?_))))
        refine w_ret ?_
        refine ⟨_, retV_2, ?_⟩
        first
          | exact post_no XQ (fun hh => absurd hh.1 (by assumption))
          | exact post_no XQ (fun hh => absurd (lstR_2.2 hh.2) (not_of_lstB (by assumption)))
          | (obtain rfl : i = Bs.length := by omega
             exact post_yes XQ (by assumption) hlst HG.sl)

end Go.Proofs.YtccgaemmdikhcaaDoor
