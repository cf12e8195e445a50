/-
  Contracts of the functions of blocks and constituents at 2, of the program and of the reference. Conditions stand in each statement.
-/
import Derived.Test.YtccgaemmdikhcaaDoorDyS
import Derived.Test.YtccgaemmdikhcaaDoorTy2
namespace Go.Proofs.YtccgaemmdikhcaaDoor
open Go Go.QF
set_option linter.unusedVariables false
set_option maxRecDepth 100000

theorem wellFormed_ok (b : Blk) (h : Heap) : CallH Tryd.prog 32 #[.agg (blkV b).toArray] h fun x h' => Ext h h' ∧ x = .bool (decide (Wf2 b)) := by
  refine calls_of_W (l := [_]) mx Tryd.func32 rfl rfl rfl rfl rfl (by kernel_rfl) ?_
  refine w_seq ?_
  refine w_reg ?_
  refine r_boxB [.int .i64 b.exp, .int .i64 b.size, .int .i64 b.a, .int .i64 b.b, .int .i64 b.c] (fun _ => trivial) rfl rfl fun bq1 h2 V3 E4 hb5 hl6 => ?_
  have hzbq1 : Array.size h ≤ bq1 := hb5
  have sz7 := E4.1
  refine r_as (r_nil (q_t ?_))
  refine w_seq ?_
  refine w_seq ?_
  refine w_reg ?_
  refine r_fo (fs := 1) fd_Blk1 (by kernel_rfl) (by decide) rfl (r_ld na_int rfl (V3.cell (i := 1) rfl) (r_nil (q_t ?_)))
  refine w_block ?_
  refine w_seq ?_
  refine w_reg ?_
  refine r_eql rfl rfl (fun hc1 => ?_) (fun hc1 => ?_)   -- t6 := binOp eql 3 t4 1:i64 3
  · skip
    refine r_as (r_nil (q_t ?_))
    refine w_true rfl ?_
    refine w_seq ?_
    refine w_reg ?_
    refine r_fo (fs := 1) fd_Blk2 (by kernel_rfl) (by decide) rfl (r_ld na_i64 rfl (V3.cell (i := 2) rfl) (r_bits rfl rfl (.inl rfl) (and1 _) (r_eql rfl rfl (fun hc2 => ?_) (fun hc2 => ?_))))   -- t10 := binOp eql 2 t9 1:i64 2
    · skip
      refine r_mv (r_want 11 true (by kernel_rfl) rfl rfl (r_fo (fs := 1) fd_Blk3 (by kernel_rfl) (by decide) rfl (r_want 11 true (by kernel_rfl) rfl rfl (r_ld na_i64 rfl (V3.cell (i := 3) rfl) (r_want 11 true (by kernel_rfl) rfl rfl (r_eql rfl rfl (fun hc3 => ?_) (fun hc3 => ?_)))))))   -- t14 := binOp eql 2 t13 0:i64 2   [guard op4 true]
      · skip
        refine r_pickT rfl (r_mv (r_want 16 true (by kernel_rfl) rfl rfl (r_fo (fs := 1) fd_Blk4 (by kernel_rfl) (by decide) rfl (r_want 16 true (by kernel_rfl) rfl rfl (r_ld na_i64 rfl (V3.cell (i := 4) rfl) (r_want 16 true (by kernel_rfl) rfl rfl (r_eql rfl rfl (fun hc4 => ?_) (fun hc4 => ?_))))))))   -- t19 := binOp eql 2 t18 0:i64 2   [guard op9 true]
        · skip
          refine r_pickT rfl (r_as (r_nil (q_t ?_)))
          refine w_ret (q_br (q_tr ?_))
          refine ⟨_, retV_1, ?_⟩
          exact ⟨E4, by first | exact congrArg Value.bool (decide_eq_true (by unfold Wf2; omega)).symm | exact congrArg Value.bool (decide_eq_false (by unfold Wf2; omega)).symm⟩
        · skip
          refine r_pickT rfl (r_as (r_nil (q_t ?_)))
          refine w_ret (q_br (q_tr ?_))
          refine ⟨_, retV_1, ?_⟩
          exact ⟨E4, by first | exact congrArg Value.bool (decide_eq_true (by unfold Wf2; omega)).symm | exact congrArg Value.bool (decide_eq_false (by unfold Wf2; omega)).symm⟩
      · skip
        refine r_pickT rfl (r_mv (r_skip 16 false (by kernel_rfl) rfl rfl (r_skip 16 false (by kernel_rfl) rfl rfl (r_skip 16 false (by kernel_rfl) rfl rfl (r_pickF rfl (r_as (r_nil (q_t ?_))))))))
        refine w_ret (q_br (q_tr ?_))
        refine ⟨_, retV_1, ?_⟩
        exact ⟨E4, by first | exact congrArg Value.bool (decide_eq_true (by unfold Wf2; omega)).symm | exact congrArg Value.bool (decide_eq_false (by unfold Wf2; omega)).symm⟩
    · skip
      refine r_mv (r_skip 11 false (by kernel_rfl) rfl rfl (r_skip 11 false (by kernel_rfl) rfl rfl (r_skip 11 false (by kernel_rfl) rfl rfl (r_pickF rfl (r_mv (r_skip 16 false (by kernel_rfl) rfl rfl (r_skip 16 false (by kernel_rfl) rfl rfl (r_skip 16 false (by kernel_rfl) rfl rfl (r_pickF rfl (r_as (r_nil (q_t ?_))))))))))))
      refine w_ret (q_br (q_tr ?_))
      refine ⟨_, retV_1, ?_⟩
      exact ⟨E4, by first | exact congrArg Value.bool (decide_eq_true (by unfold Wf2; omega)).symm | exact congrArg Value.bool (decide_eq_false (by unfold Wf2; omega)).symm⟩
  · skip
    refine r_as (r_nil (q_t ?_))
    refine w_false rfl ?_
    refine w_seq ?_
    refine w_reg ?_
    refine r_eql rfl rfl (fun hc5 => ?_) (fun hc5 => ?_)   -- t22 := binOp eql 3 t4 2:i64 3
    · skip
      refine r_as (r_nil (q_t ?_))
      refine w_true rfl ?_
      refine w_seq ?_
      refine w_reg ?_
      refine r_fo (fs := 1) fd_Blk2 (by kernel_rfl) (by decide) rfl (r_ld na_i64 rfl (V3.cell (i := 2) rfl) (r_bits rfl rfl (.inl rfl) (and1 _) (r_eql rfl rfl (fun hc6 => ?_) (fun hc6 => ?_))))   -- t26 := binOp eql 2 t25 0:i64 2
      · skip
        refine r_mv (r_want 27 true (by kernel_rfl) rfl rfl (r_fo (fs := 1) fd_Blk3 (by kernel_rfl) (by decide) rfl (r_want 27 true (by kernel_rfl) rfl rfl (r_ld na_i64 rfl (V3.cell (i := 3) rfl) (r_want 27 true (by kernel_rfl) rfl rfl (r_bits rfl rfl (.inl rfl) (and1 _) (r_want 27 true (by kernel_rfl) rfl rfl (r_eql rfl rfl (fun hc7 => ?_) (fun hc7 => ?_)))))))))   -- t31 := binOp eql 2 t30 1:i64 2   [guard op4 true]
        · skip
          refine r_pickT rfl (r_mv (r_want 33 true (by kernel_rfl) rfl rfl (r_fo (fs := 1) fd_Blk4 (by kernel_rfl) (by decide) rfl (r_want 33 true (by kernel_rfl) rfl rfl (r_ld na_i64 rfl (V3.cell (i := 4) rfl) (r_want 33 true (by kernel_rfl) rfl rfl (r_bits rfl rfl (.inl rfl) (and1 _) (r_want 33 true (by kernel_rfl) rfl rfl (r_eql rfl rfl (fun hc8 => ?_) (fun hc8 => ?_))))))))))   -- t37 := binOp eql 2 t36 0:i64 2   [guard op10 true]
          · skip
            refine r_pickT rfl (r_as (r_nil (q_t ?_)))
            refine w_ret (q_br (q_tr ?_))
            refine ⟨_, retV_1, ?_⟩
            exact ⟨E4, by first | exact congrArg Value.bool (decide_eq_true (by unfold Wf2; omega)).symm | exact congrArg Value.bool (decide_eq_false (by unfold Wf2; omega)).symm⟩
          · skip
            refine r_pickT rfl (r_as (r_nil (q_t ?_)))
            refine w_ret (q_br (q_tr ?_))
            refine ⟨_, retV_1, ?_⟩
            exact ⟨E4, by first | exact congrArg Value.bool (decide_eq_true (by unfold Wf2; omega)).symm | exact congrArg Value.bool (decide_eq_false (by unfold Wf2; omega)).symm⟩
        · skip
          refine r_pickT rfl (r_mv (r_skip 33 false (by kernel_rfl) rfl rfl (r_skip 33 false (by kernel_rfl) rfl rfl (r_skip 33 false (by kernel_rfl) rfl rfl (r_skip 33 false (by kernel_rfl) rfl rfl (r_pickF rfl (r_as (r_nil (q_t ?_)))))))))
          refine w_ret (q_br (q_tr ?_))
          refine ⟨_, retV_1, ?_⟩
          exact ⟨E4, by first | exact congrArg Value.bool (decide_eq_true (by unfold Wf2; omega)).symm | exact congrArg Value.bool (decide_eq_false (by unfold Wf2; omega)).symm⟩
      · skip
        refine r_mv (r_skip 27 false (by kernel_rfl) rfl rfl (r_skip 27 false (by kernel_rfl) rfl rfl (r_skip 27 false (by kernel_rfl) rfl rfl (r_skip 27 false (by kernel_rfl) rfl rfl (r_pickF rfl (r_mv (r_skip 33 false (by kernel_rfl) rfl rfl (r_skip 33 false (by kernel_rfl) rfl rfl (r_skip 33 false (by kernel_rfl) rfl rfl (r_skip 33 false (by kernel_rfl) rfl rfl (r_pickF rfl (r_as (r_nil (q_t ?_))))))))))))))
        refine w_ret (q_br (q_tr ?_))
        refine ⟨_, retV_1, ?_⟩
        exact ⟨E4, by first | exact congrArg Value.bool (decide_eq_true (by unfold Wf2; omega)).symm | exact congrArg Value.bool (decide_eq_false (by unfold Wf2; omega)).symm⟩
    · skip
      refine r_as (r_nil (q_t ?_))
      refine w_false rfl ?_
      refine w_skip (q_b (q_t ?_))
      refine w_seq ?_
      refine w_reg ?_
      refine r_as (r_nil (q_t ?_))
      refine w_ret ?_
      refine ⟨_, retV_1, ?_⟩
      exact ⟨E4, by first | exact congrArg Value.bool (decide_eq_true (by unfold Wf2; omega)).symm | exact congrArg Value.bool (decide_eq_false (by unfold Wf2; omega)).symm⟩

theorem include_ok {h : Heap} {el g i : Nat} {v : Value} {L : List (List Value)} {c : Con} (b : Blk) (hi : i < L.length) (HO : OwnK h el 5 g v (L.set i (conV c))) (ho : 0 ≤ c.oddity ∧ c.oddity ≤ 7) (hs : c.sign = 1 ∨ c.sign = -1) (hd : 0 ≤ c.dim ∧ c.dim ≤ 100) (hb : 1 ≤ b.size ∧ b.size ≤ 2) :
    CallH Tryd.prog 33 #[.pointer (some ⟨g, i * 5, none⟩), .agg (blkV b).toArray] h fun x h' => Upd (· = g) h h' ∧ OwnK h' el 5 g v (L.set i (conV (inc2 c b))) := by
  have hglt := HO.lt
  refine calls_of_W (l := [_, _]) mx Tryd.func33 rfl rfl rfl rfl rfl (by kernel_rfl) ?_
  refine w_seq ?_
  refine w_reg ?_
  refine r_boxB [.int .i64 b.exp, .int .i64 b.size, .int .i64 b.a, .int .i64 b.b, .int .i64 b.c] (fun _ => trivial) rfl rfl fun bq1 h2 V3 E4 hb5 hl6 => ?_
  have hzbq1 : Array.size h ≤ bq1 := hb5
  have sz7 := E4.1
  have HO_8 := HO.ext E4
  refine r_nil (q_t ?_)
  refine w_seq ?_
  refine w_reg ?_
  refine r_fo (fs := 1) fd_Blk2 (by kernel_rfl) (by decide) rfl (r_ld na_i64 rfl (V3.cell (i := 2) rfl) (r_as (r_nil (q_t ?_))))
  refine w_seq ?_
  refine w_seq ?_
  refine w_reg ?_
  refine r_fo (fs := 1) fd_Blk1 (by kernel_rfl) (by decide) rfl (r_ld na_int rfl (V3.cell (i := 1) rfl) (r_eql rfl rfl (fun hc1 => ?_) (fun hc1 => ?_)))   -- t10 := binOp eql 3 t9 1:i64 3
  · skip
    refine r_nil (q_t ?_)
    refine w_true rfl ?_
    refine w_seq ?_
    refine w_reg ?_
    refine r_mv (r_nc rfl (r_fo (fs := 1) fd_Con3 (by kernel_rfl) (by decide) rfl (r_stK [.int .i64 c.exp, .int .i64 c.dim, .int .i64 c.sign, .bool true, .int .i64 c.oddity] na_bool rfl (show _ = .bool true from rfl) rfl HO_8 hi (by decide) rfl fun h9 HO_10 U11 => ?_)))
    have X12 := (Ext.upd E4).trans U11
    have V3_13 := V3.upd U11 (fun he => by have he2 : bq1 = g := he; omega)
    refine r_nil (q_t ?_)
    refine w_draw (by kernel_rfl) ?_
    refine r_mv (r_mv (r_nc rfl (r_fo (fs := 1) fd_Con4 (by kernel_rfl) (by decide) rfl (r_ld na_int rfl (HO_10.cell (i := i) (j := 4) (List.getElem?_set_self hi) rfl) (r_fo (fs := 1) fd_Blk2 (by kernel_rfl) (by decide) rfl (r_ld na_i64 rfl (V3_13.cell (i := 2) rfl) (r_bits rfl rfl (.inl rfl) (and7 _) (r_addb rfl rfl (by have := c.oddity; omega) (by omega) (r_bits rfl rfl (.inl rfl) (and7 _) (r_nc rfl (r_fo (fs := 1) fd_Con4 (by kernel_rfl) (by decide) rfl (r_stK [.int .i64 c.exp, .int .i64 c.dim, .int .i64 c.sign, .bool true, .int .i64 ((c.oddity + b.a % 8) % 8)] na_int rfl (show _ = .int .i64 ((c.oddity + b.a % 8) % 8) from rfl) rfl HO_10 hi (by decide) rfl fun h14 HO_15 U16 => ?_))))))))))))
    have X17 := X12.trans U16
    have V3_18 := V3_13.upd U16 (fun he => by have he2 : bq1 = g := he; omega)
    refine r_nil (q_t ?_)
    refine w_seq ?_
    refine w_seq ?_
    refine w_reg ?_
    refine r_mv (r_bits rfl rfl (.inl rfl) (and7 _) (r_as (r_nil (q_t ?_))))
    refine w_seq ?_
    refine w_reg ?_
    refine r_mv (r_eql rfl rfl (fun hc2 => ?_) (fun hc2 => ?_))   -- t40 := binOp eql 2 t39 3:i64 2
    · skip
      refine r_mv (r_skip 41 true (by kernel_rfl) rfl rfl (r_skip 41 true (by kernel_rfl) rfl rfl (r_pickT rfl (r_nil (q_t ?_)))))
      refine w_true rfl ?_
      refine w_reg ?_
      refine r_mv (r_mv (r_nc rfl (r_fo (fs := 1) fd_Con2 (by kernel_rfl) (by decide) rfl (r_ld na_int rfl (HO_15.cell (i := i) (j := 2) (List.getElem?_set_self hi) rfl) (r_neg rfl ?_)))))
      rw [show IntKind.i64.wrap (0 - c.sign) = -c.sign by rw [IntKind.wrap_i64]; omega]
      refine r_nc rfl (r_fo (fs := 1) fd_Con2 (by kernel_rfl) (by decide) rfl (r_stK [.int .i64 c.exp, .int .i64 c.dim, .int .i64 (-c.sign), .bool true, .int .i64 ((c.oddity + b.a % 8) % 8)] na_int rfl (show _ = .int .i64 (-c.sign) from rfl) rfl HO_15 hi (by decide) rfl fun h19 HO_20 U21 => ?_))
      have X22 := X17.trans U21
      have V3_23 := V3_18.upd U21 (fun he => by have he2 : bq1 = g := he; omega)
      refine r_nil (q_t ?_)
      refine w_draw (by kernel_rfl) ?_
      refine r_mv (r_nc rfl (r_fo (fs := 1) fd_Con1 (by kernel_rfl) (by decide) rfl (r_ld na_int rfl (HO_20.cell (i := i) (j := 1) (List.getElem?_set_self hi) rfl) (r_fo (fs := 1) fd_Blk1 (by kernel_rfl) (by decide) rfl (r_ld na_int rfl (V3_23.cell (i := 1) rfl) (r_addb rfl rfl (by omega) (by omega) (r_nc rfl (r_fo (fs := 1) fd_Con1 (by kernel_rfl) (by decide) rfl (r_stK [.int .i64 c.exp, .int .i64 (c.dim + b.size), .int .i64 (-c.sign), .bool true, .int .i64 ((c.oddity + b.a % 8) % 8)] na_int rfl (show _ = .int .i64 (c.dim + b.size) from rfl) rfl HO_20 hi (by decide) rfl fun h24 HO_25 U26 => ?_)))))))))
      have X27 := X22.trans U26
      have V3_28 := V3_23.upd U26 (fun he => by have he2 : bq1 = g := he; omega)
      refine r_nil ?_
      refine ⟨_, retV_none, ?_⟩
      refine ⟨X27, ?_⟩
      have hHO := HO_25
      have e := det_wrap b
      first | (rw [inc2_one (s1 := -c.sign) (by assumption) (by rw [if_pos (by omega)])]; exact hHO) | (rw [inc2_one (s1 := c.sign) (by assumption) (by rw [if_neg (by omega)])]; exact hHO) | (rw [inc2_two (s1 := -c.sign) (by assumption) (by rw [if_pos (by omega)])]; exact hHO) | (rw [inc2_two (s1 := c.sign) (by assumption) (by rw [if_neg (by omega)])]; exact hHO)
    · skip
      refine r_mv (r_want 41 false (by kernel_rfl) rfl rfl (r_mv (r_want 41 false (by kernel_rfl) rfl rfl (r_eql rfl rfl (fun hc3 => ?_) (fun hc3 => ?_)))))   -- t43 := binOp eql 2 t42 5:i64 2   [guard op2 false]
      · skip
        refine r_pickF rfl (r_nil (q_t ?_))
        refine w_true rfl ?_
        refine w_reg ?_
        refine r_mv (r_mv (r_nc rfl (r_fo (fs := 1) fd_Con2 (by kernel_rfl) (by decide) rfl (r_ld na_int rfl (HO_15.cell (i := i) (j := 2) (List.getElem?_set_self hi) rfl) (r_neg rfl ?_)))))
        rw [show IntKind.i64.wrap (0 - c.sign) = -c.sign by rw [IntKind.wrap_i64]; omega]
        refine r_nc rfl (r_fo (fs := 1) fd_Con2 (by kernel_rfl) (by decide) rfl (r_stK [.int .i64 c.exp, .int .i64 c.dim, .int .i64 (-c.sign), .bool true, .int .i64 ((c.oddity + b.a % 8) % 8)] na_int rfl (show _ = .int .i64 (-c.sign) from rfl) rfl HO_15 hi (by decide) rfl fun h29 HO_30 U31 => ?_))
        have X32 := X17.trans U31
        have V3_33 := V3_18.upd U31 (fun he => by have he2 : bq1 = g := he; omega)
        refine r_nil (q_t ?_)
        refine w_draw (by kernel_rfl) ?_
        refine r_mv (r_nc rfl (r_fo (fs := 1) fd_Con1 (by kernel_rfl) (by decide) rfl (r_ld na_int rfl (HO_30.cell (i := i) (j := 1) (List.getElem?_set_self hi) rfl) (r_fo (fs := 1) fd_Blk1 (by kernel_rfl) (by decide) rfl (r_ld na_int rfl (V3_33.cell (i := 1) rfl) (r_addb rfl rfl (by omega) (by omega) (r_nc rfl (r_fo (fs := 1) fd_Con1 (by kernel_rfl) (by decide) rfl (r_stK [.int .i64 c.exp, .int .i64 (c.dim + b.size), .int .i64 (-c.sign), .bool true, .int .i64 ((c.oddity + b.a % 8) % 8)] na_int rfl (show _ = .int .i64 (c.dim + b.size) from rfl) rfl HO_30 hi (by decide) rfl fun h34 HO_35 U36 => ?_)))))))))
        have X37 := X32.trans U36
        have V3_38 := V3_33.upd U36 (fun he => by have he2 : bq1 = g := he; omega)
        refine r_nil ?_
        refine ⟨_, retV_none, ?_⟩
        refine ⟨X37, ?_⟩
        have hHO := HO_35
        have e := det_wrap b
        first | (rw [inc2_one (s1 := -c.sign) (by assumption) (by rw [if_pos (by omega)])]; exact hHO) | (rw [inc2_one (s1 := c.sign) (by assumption) (by rw [if_neg (by omega)])]; exact hHO) | (rw [inc2_two (s1 := -c.sign) (by assumption) (by rw [if_pos (by omega)])]; exact hHO) | (rw [inc2_two (s1 := c.sign) (by assumption) (by rw [if_neg (by omega)])]; exact hHO)
      · skip
        refine r_pickF rfl (r_nil (q_t ?_))
        refine w_false rfl ?_
        refine w_skip (q_t ?_)
        refine w_draw (by kernel_rfl) ?_
        refine r_mv (r_nc rfl (r_fo (fs := 1) fd_Con1 (by kernel_rfl) (by decide) rfl (r_ld na_int rfl (HO_15.cell (i := i) (j := 1) (List.getElem?_set_self hi) rfl) (r_fo (fs := 1) fd_Blk1 (by kernel_rfl) (by decide) rfl (r_ld na_int rfl (V3_18.cell (i := 1) rfl) (r_addb rfl rfl (by omega) (by omega) (r_nc rfl (r_fo (fs := 1) fd_Con1 (by kernel_rfl) (by decide) rfl (r_stK [.int .i64 c.exp, .int .i64 (c.dim + b.size), .int .i64 c.sign, .bool true, .int .i64 ((c.oddity + b.a % 8) % 8)] na_int rfl (show _ = .int .i64 (c.dim + b.size) from rfl) rfl HO_15 hi (by decide) rfl fun h39 HO_40 U41 => ?_)))))))))
        have X42 := X17.trans U41
        have V3_43 := V3_18.upd U41 (fun he => by have he2 : bq1 = g := he; omega)
        refine r_nil ?_
        refine ⟨_, retV_none, ?_⟩
        refine ⟨X42, ?_⟩
        have hHO := HO_40
        have e := det_wrap b
        first | (rw [inc2_one (s1 := -c.sign) (by assumption) (by rw [if_pos (by omega)])]; exact hHO) | (rw [inc2_one (s1 := c.sign) (by assumption) (by rw [if_neg (by omega)])]; exact hHO) | (rw [inc2_two (s1 := -c.sign) (by assumption) (by rw [if_pos (by omega)])]; exact hHO) | (rw [inc2_two (s1 := c.sign) (by assumption) (by rw [if_neg (by omega)])]; exact hHO)
  · skip
    refine r_nil (q_t ?_)
    refine w_false rfl ?_
    refine w_reg ?_
    refine r_fo (fs := 1) fd_Blk2 (by kernel_rfl) (by decide) rfl (r_ld na_i64 rfl (V3.cell (i := 2) rfl) (r_fo (fs := 1) fd_Blk4 (by kernel_rfl) (by decide) rfl (r_ld na_i64 rfl (V3.cell (i := 4) rfl) (r_mul rfl rfl (r_fo (fs := 1) fd_Blk3 (by kernel_rfl) (by decide) rfl (r_ld na_i64 rfl (V3.cell (i := 3) rfl) (r_fo (fs := 1) fd_Blk3 (by kernel_rfl) (by decide) rfl (r_ld na_i64 rfl (V3.cell (i := 3) rfl) (r_mul rfl rfl (r_sub rfl rfl (r_as (r_nil (q_t ?_)))))))))))))
    refine w_seq ?_
    refine w_seq ?_
    refine w_reg ?_
    refine r_mv (r_bits rfl rfl (.inl rfl) (and7 _) (r_as (r_nil (q_t ?_))))
    refine w_seq ?_
    refine w_reg ?_
    refine r_mv (r_eql rfl rfl (fun hc4 => ?_) (fun hc4 => ?_))   -- t40 := binOp eql 2 t39 3:i64 2
    · skip
      refine r_mv (r_skip 41 true (by kernel_rfl) rfl rfl (r_skip 41 true (by kernel_rfl) rfl rfl (r_pickT rfl (r_nil (q_t ?_)))))
      refine w_true rfl ?_
      refine w_reg ?_
      refine r_mv (r_mv (r_nc rfl (r_fo (fs := 1) fd_Con2 (by kernel_rfl) (by decide) rfl (r_ld na_int rfl (HO_8.cell (i := i) (j := 2) (List.getElem?_set_self hi) rfl) (r_neg rfl ?_)))))
      rw [show IntKind.i64.wrap (0 - c.sign) = -c.sign by rw [IntKind.wrap_i64]; omega]
      refine r_nc rfl (r_fo (fs := 1) fd_Con2 (by kernel_rfl) (by decide) rfl (r_stK [.int .i64 c.exp, .int .i64 c.dim, .int .i64 (-c.sign), .bool c.odd, .int .i64 c.oddity] na_int rfl (show _ = .int .i64 (-c.sign) from rfl) rfl HO_8 hi (by decide) rfl fun h44 HO_45 U46 => ?_))
      have X47 := (Ext.upd E4).trans U46
      have V3_48 := V3.upd U46 (fun he => by have he2 : bq1 = g := he; omega)
      refine r_nil (q_t ?_)
      refine w_draw (by kernel_rfl) ?_
      refine r_mv (r_nc rfl (r_fo (fs := 1) fd_Con1 (by kernel_rfl) (by decide) rfl (r_ld na_int rfl (HO_45.cell (i := i) (j := 1) (List.getElem?_set_self hi) rfl) (r_fo (fs := 1) fd_Blk1 (by kernel_rfl) (by decide) rfl (r_ld na_int rfl (V3_48.cell (i := 1) rfl) (r_addb rfl rfl (by omega) (by omega) (r_nc rfl (r_fo (fs := 1) fd_Con1 (by kernel_rfl) (by decide) rfl (r_stK [.int .i64 c.exp, .int .i64 (c.dim + b.size), .int .i64 (-c.sign), .bool c.odd, .int .i64 c.oddity] na_int rfl (show _ = .int .i64 (c.dim + b.size) from rfl) rfl HO_45 hi (by decide) rfl fun h49 HO_50 U51 => ?_)))))))))
      have X52 := X47.trans U51
      have V3_53 := V3_48.upd U51 (fun he => by have he2 : bq1 = g := he; omega)
      refine r_nil ?_
      refine ⟨_, retV_none, ?_⟩
      refine ⟨X52, ?_⟩
      have hHO := HO_50
      have e := det_wrap b
      first | (rw [inc2_one (s1 := -c.sign) (by assumption) (by rw [if_pos (by omega)])]; exact hHO) | (rw [inc2_one (s1 := c.sign) (by assumption) (by rw [if_neg (by omega)])]; exact hHO) | (rw [inc2_two (s1 := -c.sign) (by assumption) (by rw [if_pos (by omega)])]; exact hHO) | (rw [inc2_two (s1 := c.sign) (by assumption) (by rw [if_neg (by omega)])]; exact hHO)
    · skip
      refine r_mv (r_want 41 false (by kernel_rfl) rfl rfl (r_mv (r_want 41 false (by kernel_rfl) rfl rfl (r_eql rfl rfl (fun hc5 => ?_) (fun hc5 => ?_)))))   -- t43 := binOp eql 2 t42 5:i64 2   [guard op2 false]
      · skip
        refine r_pickF rfl (r_nil (q_t ?_))
        refine w_true rfl ?_
        refine w_reg ?_
        refine r_mv (r_mv (r_nc rfl (r_fo (fs := 1) fd_Con2 (by kernel_rfl) (by decide) rfl (r_ld na_int rfl (HO_8.cell (i := i) (j := 2) (List.getElem?_set_self hi) rfl) (r_neg rfl ?_)))))
        rw [show IntKind.i64.wrap (0 - c.sign) = -c.sign by rw [IntKind.wrap_i64]; omega]
        refine r_nc rfl (r_fo (fs := 1) fd_Con2 (by kernel_rfl) (by decide) rfl (r_stK [.int .i64 c.exp, .int .i64 c.dim, .int .i64 (-c.sign), .bool c.odd, .int .i64 c.oddity] na_int rfl (show _ = .int .i64 (-c.sign) from rfl) rfl HO_8 hi (by decide) rfl fun h54 HO_55 U56 => ?_))
        have X57 := (Ext.upd E4).trans U56
        have V3_58 := V3.upd U56 (fun he => by have he2 : bq1 = g := he; omega)
        refine r_nil (q_t ?_)
        refine w_draw (by kernel_rfl) ?_
        refine r_mv (r_nc rfl (r_fo (fs := 1) fd_Con1 (by kernel_rfl) (by decide) rfl (r_ld na_int rfl (HO_55.cell (i := i) (j := 1) (List.getElem?_set_self hi) rfl) (r_fo (fs := 1) fd_Blk1 (by kernel_rfl) (by decide) rfl (r_ld na_int rfl (V3_58.cell (i := 1) rfl) (r_addb rfl rfl (by omega) (by omega) (r_nc rfl (r_fo (fs := 1) fd_Con1 (by kernel_rfl) (by decide) rfl (r_stK [.int .i64 c.exp, .int .i64 (c.dim + b.size), .int .i64 (-c.sign), .bool c.odd, .int .i64 c.oddity] na_int rfl (show _ = .int .i64 (c.dim + b.size) from rfl) rfl HO_55 hi (by decide) rfl fun h59 HO_60 U61 => ?_)))))))))
        have X62 := X57.trans U61
        have V3_63 := V3_58.upd U61 (fun he => by have he2 : bq1 = g := he; omega)
        refine r_nil ?_
        refine ⟨_, retV_none, ?_⟩
        refine ⟨X62, ?_⟩
        have hHO := HO_60
        have e := det_wrap b
        first | (rw [inc2_one (s1 := -c.sign) (by assumption) (by rw [if_pos (by omega)])]; exact hHO) | (rw [inc2_one (s1 := c.sign) (by assumption) (by rw [if_neg (by omega)])]; exact hHO) | (rw [inc2_two (s1 := -c.sign) (by assumption) (by rw [if_pos (by omega)])]; exact hHO) | (rw [inc2_two (s1 := c.sign) (by assumption) (by rw [if_neg (by omega)])]; exact hHO)
      · skip
        refine r_pickF rfl (r_nil (q_t ?_))
        refine w_false rfl ?_
        refine w_skip (q_t ?_)
        refine w_draw (by kernel_rfl) ?_
        refine r_mv (r_nc rfl (r_fo (fs := 1) fd_Con1 (by kernel_rfl) (by decide) rfl (r_ld na_int rfl (HO_8.cell (i := i) (j := 1) (List.getElem?_set_self hi) rfl) (r_fo (fs := 1) fd_Blk1 (by kernel_rfl) (by decide) rfl (r_ld na_int rfl (V3.cell (i := 1) rfl) (r_addb rfl rfl (by omega) (by omega) (r_nc rfl (r_fo (fs := 1) fd_Con1 (by kernel_rfl) (by decide) rfl (r_stK [.int .i64 c.exp, .int .i64 (c.dim + b.size), .int .i64 c.sign, .bool c.odd, .int .i64 c.oddity] na_int rfl (show _ = .int .i64 (c.dim + b.size) from rfl) rfl HO_8 hi (by decide) rfl fun h64 HO_65 U66 => ?_)))))))))
        have X67 := (Ext.upd E4).trans U66
        have V3_68 := V3.upd U66 (fun he => by have he2 : bq1 = g := he; omega)
        refine r_nil ?_
        refine ⟨_, retV_none, ?_⟩
        refine ⟨X67, ?_⟩
        have hHO := HO_65
        have e := det_wrap b
        first | (rw [inc2_one (s1 := -c.sign) (by assumption) (by rw [if_pos (by omega)])]; exact hHO) | (rw [inc2_one (s1 := c.sign) (by assumption) (by rw [if_neg (by omega)])]; exact hHO) | (rw [inc2_two (s1 := -c.sign) (by assumption) (by rw [if_pos (by omega)])]; exact hHO) | (rw [inc2_two (s1 := c.sign) (by assumption) (by rw [if_neg (by omega)])]; exact hHO)

theorem build_con (x : Int) (w : World) : (Instr.build 44 #[(0, .int .i64 x), (2, .int .i64 1)]).run Tryd.prog w = .ok (.agg #[.int .i64 x, .int .i64 0, .int .i64 1, .bool false, .int .i64 0]) w := by kernel_rfl
/-- What Constituents answers. -/
def PostC (h : Heap) (x : Value) (h' : Heap) (ok : Bool) (Cs : List Con) : Prop := Ext h h' ∧ ∃ r, x = .tuple #[r, .bool ok] ∧ SlK h' 5 r (Cs.map conV)

/-- The same, the list in new memory. -/
def PostO (h : Heap) (x : Value) (h' : Heap) (ok : Bool) (Cs : List Con) : Prop := Ext h h' ∧ ∃ r, x = .tuple #[r, .bool ok] ∧ GroK h' 44 5 (Array.size h) r (Cs.map conV)
theorem _root_.Go.QF.GroK.mono {h : Heap} {el k lo lo' : Nat} {v : Value} {L : List (List Value)} (H : GroK h el k lo v L) (hl : lo' ≤ lo) : GroK h el k lo' v L := by
  rcases H with ⟨rfl, rfl⟩ | ⟨g, hg, H⟩
  · exact .inl ⟨rfl, rfl⟩
  · exact .inr ⟨g, by omega, H⟩
theorem postO_no {h h' : Heap} {p : Int} {Bs : List Blk} (X : Ext h h') (hno : ¬ (p = 2 ∧ Lst2 Bs)) : PostO h (.tuple #[.slice none 0 0, .bool false]) h' (con2B p Bs) (con2 p Bs) := by
  unfold con2
  rw [con2B_f hno]
  exact ⟨X, _, rfl, groK_nil _ _ _ _⟩
theorem postO_yes {h h' : Heap} {p : Int} {Bs : List Blk} {r : Value} (X : Ext h h') (hp : p = 2) (hy : Lst2 Bs) (HS : GroK h' 44 5 (Array.size h) r ((consTo inc2 Bs Bs.length).map conV)) : PostO h (.tuple #[r, .bool true]) h' (con2B p Bs) (con2 p Bs) := by
  unfold con2
  rw [con2B_t hp hy]
  exact ⟨X, _, rfl, HS⟩
theorem post_no {h h' : Heap} {p : Int} {Bs : List Blk} (X : Ext h h') (hno : ¬ (p = 2 ∧ Lst2 Bs)) : PostC h (.tuple #[.slice none 0 0, .bool false]) h' (con2B p Bs) (con2 p Bs) := by
  unfold con2
  rw [con2B_f hno]
  exact ⟨X, _, rfl, slK_nil _ _⟩
theorem post_yes {h h' : Heap} {p : Int} {Bs : List Blk} {r : Value} (X : Ext h h') (hp : p = 2) (hy : Lst2 Bs) (HS : SlK h' 5 r ((consTo inc2 Bs Bs.length).map conV)) : PostC h (.tuple #[r, .bool true]) h' (con2B p Bs) (con2 p Bs) := by
  unfold con2
  rw [con2B_t hp hy]
  exact ⟨X, _, rfl, HS⟩

theorem ConstituentsO_ok {h : Heap} {vT vB : Value} {p : Int} {Bs : List Blk} (HBs : SlK h 5 vB (Bs.map blkV)) (hn : Bs.length ≤ 1000) : CallH Tryd.prog 12 #[.agg #[.int .i64 p, vT, vB]] h fun x h' => PostO h x h' (con2B p Bs) (con2 p Bs) := by
  refine calls_of_W (l := [_]) mx Tryd.func12 rfl rfl rfl rfl rfl (by kernel_rfl) ?_
  refine w_seq ?_
  refine w_reg ?_
  refine r_boxB [.int .i64 p, vT, vB] (fun _ => trivial) rfl rfl fun bq1 h2 V3 E4 hb5 hl6 => ?_
  have hzbq1 : Array.size h ≤ bq1 := hb5
  have sz7 := E4.1
  refine r_as (r_as (r_nil (q_t ?_)))
  refine w_seq ?_
  refine w_seq ?_
  refine w_reg ?_
  refine r_fo (fs := 1) fd_Jor0 (by kernel_rfl) (by decide) rfl (r_ld na_i64 rfl (V3.cell (i := 0) rfl) (r_neq rfl rfl (fun hc1 => ?_) (fun hc1 => ?_)))   -- t10 := binOp neq 2 t9 2:i64 2
  · skip
    refine r_mv (r_skip 11 true (by kernel_rfl) rfl rfl (r_skip 11 true (by kernel_rfl) rfl rfl (r_skip 11 true (by kernel_rfl) rfl rfl (r_skip 11 true (by kernel_rfl) rfl rfl (r_pickT rfl (r_nil (q_t ?_)))))))
    refine w_true rfl ?_
    refine w_seq ?_
    refine w_reg ?_
    refine r_as (r_as (r_nil (q_t ?_)))
    refine w_ret (q_tr ?_)
    refine ⟨_, retV_2, ?_⟩
    first
      | exact postO_no E4 (fun hh => absurd hh.1 (by assumption))
      | exact postO_no E4 (fun hh => by have := hh.2.2.2.1; omega)
      | exact postO_no E4 (fun hh => by obtain ⟨⟨q1, q2⟩, q3⟩ := hh.2.1 b (List.mem_of_getElem? hb); first | omega | (exact absurd q3 (of_decide_eq_false (by assumption))))
      | exact postO_no E4 (fun hh => by have := hh.2.2.1 (i - 1) b1 b (by have := (List.getElem?_eq_some_iff.1 hb).1; omega) hb1 (by rw [show i - 1 + 1 = i by omega]; exact hb); omega)
      | exact postO_no E4 (fun hh => by have := (lst2_good hh.2 (i + 1) (List.getElem?_eq_some_iff.1 hb).1).2.2; rw [ssum_take_succ hb] at this; omega)
      | (have hil : i = Bs.length := by omega
         exact postO_yes E4 (by assumption) (good2_all (by rw [← hil]; exact hgood) (by omega)) (by rw [← hil]; exact HG.mono (by omega)))
  · skip
    refine r_mv (r_want 11 false (by kernel_rfl) rfl rfl (r_fo (fs := 1) fd_Jor2 (by kernel_rfl) (by decide) rfl (r_want 11 false (by kernel_rfl) rfl rfl (r_ld na_BL rfl (V3.cell (i := 2) rfl) (r_want 11 false (by kernel_rfl) rfl rfl (r_lenKm sl_BL rfl (HBs.ext E4) (r_want 11 false (by kernel_rfl) rfl rfl (r_lss rfl rfl (fun hc2 => ?_) (fun hc2 => ?_)))))))))   -- t15 := binOp lss 3 t14 1:i64 3   [guard op3 false]
    · skip
      refine r_pickF rfl (r_nil (q_t ?_))
      refine w_true rfl ?_
      refine w_seq ?_
      refine w_reg ?_
      refine r_as (r_as (r_nil (q_t ?_)))
      refine w_ret (q_tr ?_)
      refine ⟨_, retV_2, ?_⟩
      first
        | exact postO_no E4 (fun hh => absurd hh.1 (by assumption))
        | exact postO_no E4 (fun hh => by have := hh.2.2.2.1; omega)
        | exact postO_no E4 (fun hh => by obtain ⟨⟨q1, q2⟩, q3⟩ := hh.2.1 b (List.mem_of_getElem? hb); first | omega | (exact absurd q3 (of_decide_eq_false (by assumption))))
        | exact postO_no E4 (fun hh => by have := hh.2.2.1 (i - 1) b1 b (by have := (List.getElem?_eq_some_iff.1 hb).1; omega) hb1 (by rw [show i - 1 + 1 = i by omega]; exact hb); omega)
        | exact postO_no E4 (fun hh => by have := (lst2_good hh.2 (i + 1) (List.getElem?_eq_some_iff.1 hb).1).2.2; rw [ssum_take_succ hb] at this; omega)
        | (have hil : i = Bs.length := by omega
           exact postO_yes E4 (by assumption) (good2_all (by rw [← hil]; exact hgood) (by omega)) (by rw [← hil]; exact HG.mono (by omega)))
    · skip
      refine r_pickF rfl (r_nil (q_t ?_))
      refine w_false rfl ?_
      refine w_skip (q_t ?_)
      refine w_seq ?_
      refine w_reg ?_
      refine r_as (r_nil (q_t ?_))
      refine w_seq ?_
      refine w_reg ?_
      refine r_as (r_nil (q_t ?_))
      refine w_seq ?_
      refine w_seq ?_
      refine w_reg ?_
      refine r_fo (fs := 1) fd_Jor2 (by kernel_rfl) (by decide) rfl (r_ld na_BL rfl (V3.cell (i := 2) rfl) (r_lenKm sl_BL rfl (HBs.ext E4) (r_mv (r_nil (q_t ?_)))))
      refine w_block ?_
      refine w_loop 309485009821345068723732732 (fun y : Nat × Int × Value => [(20, .int .i64 (y.1 : Int)), (5, .int .i64 y.2.1), (4, y.2.2)]) (fun k y h' => k = Bs.length - y.1 ∧ y.1 ≤ Bs.length ∧ Good2 Bs y.1 ∧ y.2.1 = ssum (Bs.take y.1) ∧ Ext h h' ∧ BoxH 31 h' bq1 [.int .i64 p, vT, vB] ∧ GroK h' 44 5 (Array.size h2) y.2.2 ((consTo inc2 Bs y.1).map conV) ∧ Array.size h2 ≤ Array.size h') (by kernel_rfl) Bs.length (0, 0, .slice none 0 0) ?_ ⟨rfl, rfl, rfl, trivial⟩ ?_
      · exact ⟨rfl, Nat.zero_le _, good2_zero _, rfl, E4, V3, groK_nil _ _ _ _, Nat.le_refl _⟩
      rintro k ⟨i, sz, lv⟩ s1 hq ⟨rfl, hi, hgood, hsz, XQ, VQ, HG, hlq⟩
      dsimp only at hi hgood hsz HG ⊢
      subst hsz
      have hi8 := good2_len hgood hi
      have hcl8 := consTo_len inc2 Bs i
      refine w_seq ?_
      refine w_reg ?_
      refine r_lss rfl rfl (fun hc3 => ?_) (fun hc3 => ?_)   -- t21 := binOp lss 3 t20 t19 3
      · skip
        refine r_nil (q_t ?_)
        refine w_seq ?_
        refine w_true rfl ?_
        refine w_skip (q_t ?_)
        refine w_seq ?_
        refine w_block ?_
        refine w_seq ?_
        obtain ⟨b, hb⟩ : ∃ b, Bs[i]? = some b := ⟨_, List.getElem?_eq_getElem (by omega)⟩
        refine w_reg ?_
        refine r_mv (r_ixK sl_BL rfl (HBs.ext XQ) rfl (get_blk hb) fun aq8 oq8 hkq8 => ?_)
        refine r_ldA [.int .i64 b.exp, .int .i64 b.size, .int .i64 b.a, .int .i64 b.b, .int .i64 b.c] ag_Blk rfl rfl (fun i u hu => by rw [addr_add]; exact hkq8 i u hu) ?_
        refine r_allocB [.int .i64 0, .int .i64 0, .int .i64 0, .int .i64 0, .int .i64 0] ze_Blk rfl (fun _ => trivial) fun bq9 h10 V11 E12 hb13 hl14 => ?_
        have hzbq9 : Array.size h ≤ bq9 := Nat.le_trans XQ.1 hb13
        have nebq1bq9 : bq1 ≠ bq9 := by have := VQ.lt; omega
        have avHGbq9 : ∀ g, Value.ownBlock lv = some g → g < bq9 := fun g hg => by have := (HG.blk g hg).2; omega
        have sz15 := E12.1
        have X16 := XQ.trans E12
        have V3_17 := VQ.ext E12
        have HG_18 := HG.ext E12
        refine r_as (r_stA [.int .i64 b.exp, .int .i64 b.size, .int .i64 b.a, .int .i64 b.b, .int .i64 b.c] ag_Blk rfl rfl rfl rfl (by simp [isOne]) V11 fun h19 V11_20 U21 => ?_)
        have X22 := X16.thenUpd U21 (fun k hk => by have hk2 : k = bq9 := hk; omega)
        have sz23 := U21.1
        have Y24 := E12.thenUpd U21 (fun k hk => by have hk2 : k = bq9 := hk; omega)
        have V3_25 := VQ.ext Y24
        have HG_26 := HG.ext Y24
        refine r_nil (q_t ?_)
        refine w_join 18014398475927564 (fun _ : Unit => []) (fun _ h' => Ext h19 h' ∧ Ex b ∧ Wf2 b ∧ ∀ j x, j + 1 = i → Bs[j]? = some x → x.exp ≤ b.exp) (by kernel_rfl) ?_ ?_
        · skip
          refine w_seq ?_
          refine w_draw (by kernel_rfl) ?_
          refine r_fo (fs := 1) fd_Blk0 (by kernel_rfl) (by decide) rfl (r_ld na_int rfl (V11_20.cell (i := 0) rfl) (r_lss rfl rfl (fun hc4 => ?_) (fun hc4 => ?_)))   -- t27 := binOp lss 3 t26 0:i64 3
          · skip
            refine r_mv (r_skip 28 true (by kernel_rfl) rfl rfl (r_skip 28 true (by kernel_rfl) rfl rfl (r_skip 28 true (by kernel_rfl) rfl rfl (r_pickT rfl (r_mv (r_skip 33 true (by kernel_rfl) rfl rfl (r_skip 33 true (by kernel_rfl) rfl rfl (r_skip 33 true (by kernel_rfl) rfl rfl (r_pickT rfl (r_mv (r_skip 38 true (by kernel_rfl) rfl rfl (r_skip 38 true (by kernel_rfl) rfl rfl (r_skip 38 true (by kernel_rfl) rfl rfl (r_skipU 41 (by kernel_rfl) rfl (r_skipU 41 (by kernel_rfl) rfl (r_skipU 41 (by kernel_rfl) rfl (r_skipU 41 (by kernel_rfl) rfl (r_skipU 41 (by kernel_rfl) rfl (r_skipU 41 (by kernel_rfl) rfl (r_skipU 41 (by kernel_rfl) rfl (r_skipU 41 (by kernel_rfl) rfl (r_skipU 41 (by kernel_rfl) rfl (r_skipU 41 (by kernel_rfl) rfl (r_skip 38 true (by kernel_rfl) rfl rfl (r_pickT rfl (r_nil (q_t ?_)))))))))))))))))))))))))))
            refine w_true rfl ?_
            refine w_seq ?_
            refine w_reg ?_
            refine r_as (r_as (r_nil (q_t ?_)))
            refine w_ret (q_tr (q_br (q_tr (q_tr (q_br (q_tr ?_))))))
            refine ⟨_, retV_2, ?_⟩
            first
              | exact postO_no X22 (fun hh => absurd hh.1 (by assumption))
              | exact postO_no X22 (fun hh => by have := hh.2.2.2.1; omega)
              | exact postO_no X22 (fun hh => by obtain ⟨⟨q1, q2⟩, q3⟩ := hh.2.1 b (List.mem_of_getElem? hb); first | omega | (exact absurd q3 (of_decide_eq_false (by assumption))))
              | exact postO_no X22 (fun hh => by have := hh.2.2.1 (i - 1) b1 b (by have := (List.getElem?_eq_some_iff.1 hb).1; omega) hb1 (by rw [show i - 1 + 1 = i by omega]; exact hb); omega)
              | exact postO_no X22 (fun hh => by have := (lst2_good hh.2 (i + 1) (List.getElem?_eq_some_iff.1 hb).1).2.2; rw [ssum_take_succ hb] at this; omega)
              | (have hil : i = Bs.length := by omega
                 exact postO_yes X22 (by assumption) (good2_all (by rw [← hil]; exact hgood) (by omega)) (by rw [← hil]; exact HG.mono (by omega)))
          · skip
            refine r_mv (r_want 28 false (by kernel_rfl) rfl rfl (r_fo (fs := 1) fd_Blk0 (by kernel_rfl) (by decide) rfl (r_want 28 false (by kernel_rfl) rfl rfl (r_ld na_int rfl (V11_20.cell (i := 0) rfl) (r_want 28 false (by kernel_rfl) rfl rfl (r_gtr rfl rfl (fun hc5 => ?_) (fun hc5 => ?_)))))))   -- t31 := binOp gtr 3 t30 60:i64 3   [guard op3 false]
            · skip
              refine r_pickF rfl (r_mv (r_skip 33 true (by kernel_rfl) rfl rfl (r_skip 33 true (by kernel_rfl) rfl rfl (r_skip 33 true (by kernel_rfl) rfl rfl (r_pickT rfl (r_mv (r_skip 38 true (by kernel_rfl) rfl rfl (r_skip 38 true (by kernel_rfl) rfl rfl (r_skip 38 true (by kernel_rfl) rfl rfl (r_skipU 41 (by kernel_rfl) rfl (r_skipU 41 (by kernel_rfl) rfl (r_skipU 41 (by kernel_rfl) rfl (r_skipU 41 (by kernel_rfl) rfl (r_skipU 41 (by kernel_rfl) rfl (r_skipU 41 (by kernel_rfl) rfl (r_skipU 41 (by kernel_rfl) rfl (r_skipU 41 (by kernel_rfl) rfl (r_skipU 41 (by kernel_rfl) rfl (r_skipU 41 (by kernel_rfl) rfl (r_skip 38 true (by kernel_rfl) rfl rfl (r_pickT rfl (r_nil (q_t ?_)))))))))))))))))))))))
              refine w_true rfl ?_
              refine w_seq ?_
              refine w_reg ?_
              refine r_as (r_as (r_nil (q_t ?_)))
              refine w_ret (q_tr (q_br (q_tr (q_tr (q_br (q_tr ?_))))))
              refine ⟨_, retV_2, ?_⟩
              first
                | exact postO_no X22 (fun hh => absurd hh.1 (by assumption))
                | exact postO_no X22 (fun hh => by have := hh.2.2.2.1; omega)
                | exact postO_no X22 (fun hh => by obtain ⟨⟨q1, q2⟩, q3⟩ := hh.2.1 b (List.mem_of_getElem? hb); first | omega | (exact absurd q3 (of_decide_eq_false (by assumption))))
                | exact postO_no X22 (fun hh => by have := hh.2.2.1 (i - 1) b1 b (by have := (List.getElem?_eq_some_iff.1 hb).1; omega) hb1 (by rw [show i - 1 + 1 = i by omega]; exact hb); omega)
                | exact postO_no X22 (fun hh => by have := (lst2_good hh.2 (i + 1) (List.getElem?_eq_some_iff.1 hb).1).2.2; rw [ssum_take_succ hb] at this; omega)
                | (have hil : i = Bs.length := by omega
                   exact postO_yes X22 (by assumption) (good2_all (by rw [← hil]; exact hgood) (by omega)) (by rw [← hil]; exact HG.mono (by omega)))
            · skip
              refine r_pickF rfl (r_mv (r_want 33 false (by kernel_rfl) rfl rfl (r_ldA [.int .i64 b.exp, .int .i64 b.size, .int .i64 b.a, .int .i64 b.b, .int .i64 b.c] ag_Blk rfl rfl V11_20.agg (r_want 33 false (by kernel_rfl) rfl rfl (r_call trivial rfl (wellFormed_ok b _) fun x27 h28 hk => ?_)))))
              obtain ⟨E29, rfl⟩ := hk
              refine ⟨trivial, ?_⟩
              have sz30 := E29.1
              have Z31 := (Ext.refl h19).trans E29
              have X32 := X22.trans E29
              have V3_33 := V3_25.ext E29
              have HG_34 := HG_26.ext E29
              have V11_35 := V11_20.ext E29
              have Y36 := Y24.trans E29
              cases hc6 : decide (Wf2 b)
              · skip
                refine r_want 33 false (by kernel_rfl) rfl rfl (r_not rfl (r_pickF rfl (r_mv (r_skip 38 true (by kernel_rfl) rfl rfl (r_skip 38 true (by kernel_rfl) rfl rfl (r_skip 38 true (by kernel_rfl) rfl rfl (r_skipU 41 (by kernel_rfl) rfl (r_skipU 41 (by kernel_rfl) rfl (r_skipU 41 (by kernel_rfl) rfl (r_skipU 41 (by kernel_rfl) rfl (r_skipU 41 (by kernel_rfl) rfl (r_skipU 41 (by kernel_rfl) rfl (r_skipU 41 (by kernel_rfl) rfl (r_skipU 41 (by kernel_rfl) rfl (r_skipU 41 (by kernel_rfl) rfl (r_skipU 41 (by kernel_rfl) rfl (r_skip 38 true (by kernel_rfl) rfl rfl (r_pickT rfl (r_nil (q_t ?_))))))))))))))))))))
                refine w_true rfl ?_
                refine w_seq ?_
                refine w_reg ?_
                refine r_as (r_as (r_nil (q_t ?_)))
                refine w_ret (q_tr (q_br (q_tr (q_tr (q_br (q_tr ?_))))))
                refine ⟨_, retV_2, ?_⟩
                first
                  | exact postO_no X32 (fun hh => absurd hh.1 (by assumption))
                  | exact postO_no X32 (fun hh => by have := hh.2.2.2.1; omega)
                  | exact postO_no X32 (fun hh => by obtain ⟨⟨q1, q2⟩, q3⟩ := hh.2.1 b (List.mem_of_getElem? hb); first | omega | (exact absurd q3 (of_decide_eq_false (by assumption))))
                  | exact postO_no X32 (fun hh => by have := hh.2.2.1 (i - 1) b1 b (by have := (List.getElem?_eq_some_iff.1 hb).1; omega) hb1 (by rw [show i - 1 + 1 = i by omega]; exact hb); omega)
                  | exact postO_no X32 (fun hh => by have := (lst2_good hh.2 (i + 1) (List.getElem?_eq_some_iff.1 hb).1).2.2; rw [ssum_take_succ hb] at this; omega)
                  | (have hil : i = Bs.length := by omega
                     exact postO_yes X32 (by assumption) (good2_all (by rw [← hil]; exact hgood) (by omega)) (by rw [← hil]; exact HG.mono (by omega)))
              · skip
                refine r_want 33 false (by kernel_rfl) rfl rfl (r_not rfl (r_pickF rfl (r_mv (r_want 38 false (by kernel_rfl) rfl rfl (r_mv (r_want 38 false (by kernel_rfl) rfl rfl (r_gtr rfl rfl (fun hc7 => ?_) (fun hc7 => ?_))))))))   -- t40 := binOp gtr 3 t39 0:i64 3   [guard op13 false]
                · skip
                  refine r_want 38 false (by kernel_rfl) rfl rfl (r_mv (r_want 41 true (by kernel_rfl) rfl rfl (r_fo (fs := 1) fd_Blk0 (by kernel_rfl) (by decide) rfl (r_want 41 true (by kernel_rfl) rfl rfl (r_ld na_int rfl (V11_35.cell (i := 0) rfl) (r_want 41 true (by kernel_rfl) rfl rfl (r_fo (fs := 1) fd_Jor2 (by kernel_rfl) (by decide) rfl (r_want 41 true (by kernel_rfl) rfl rfl (r_ld na_BL rfl (V3_33.cell (i := 2) rfl) (r_want 41 true (by kernel_rfl) rfl rfl (r_mv (r_want 41 true (by kernel_rfl) rfl rfl (r_subb rfl rfl (by omega) (by omega) ?_)))))))))))))
                  rw [show ((i : Nat) : Int) - 1 = ((i - 1 : Nat) : Int) by omega]
                  obtain ⟨b1, hb1⟩ : ∃ b1, Bs[i - 1]? = some b1 := ⟨_, List.getElem?_eq_getElem (by omega)⟩
                  refine r_want 41 true (by kernel_rfl) rfl rfl (r_ixK sl_BL rfl (HBs.ext X32) rfl (get_blk hb1) fun aq37 oq37 hkq37 => ?_)
                  refine r_want 41 true (by kernel_rfl) rfl rfl (r_fo (fs := 1) fd_Blk0 (by kernel_rfl) (by decide) rfl (r_want 41 true (by kernel_rfl) rfl rfl (r_ld na_int rfl (hkq37 0 _ rfl) (r_want 41 true (by kernel_rfl) rfl rfl (r_lss rfl rfl (fun hc8 => ?_) (fun hc8 => ?_))))))   -- t51 := binOp lss 3 t43 t50 3   [guard op16 true]
                  · skip
                    refine r_want 38 false (by kernel_rfl) rfl rfl (r_pickT rfl (r_pickF rfl (r_nil (q_t ?_))))
                    refine w_true rfl ?_
                    refine w_seq ?_
                    refine w_reg ?_
                    refine r_as (r_as (r_nil (q_t ?_)))
                    refine w_ret (q_tr (q_br (q_tr (q_tr (q_br (q_tr ?_))))))
                    refine ⟨_, retV_2, ?_⟩
                    first
                      | exact postO_no X32 (fun hh => absurd hh.1 (by assumption))
                      | exact postO_no X32 (fun hh => by have := hh.2.2.2.1; omega)
                      | exact postO_no X32 (fun hh => by obtain ⟨⟨q1, q2⟩, q3⟩ := hh.2.1 b (List.mem_of_getElem? hb); first | omega | (exact absurd q3 (of_decide_eq_false (by assumption))))
                      | exact postO_no X32 (fun hh => by have := hh.2.2.1 (i - 1) b1 b (by have := (List.getElem?_eq_some_iff.1 hb).1; omega) hb1 (by rw [show i - 1 + 1 = i by omega]; exact hb); omega)
                      | exact postO_no X32 (fun hh => by have := (lst2_good hh.2 (i + 1) (List.getElem?_eq_some_iff.1 hb).1).2.2; rw [ssum_take_succ hb] at this; omega)
                      | (have hil : i = Bs.length := by omega
                         exact postO_yes X32 (by assumption) (good2_all (by rw [← hil]; exact hgood) (by omega)) (by rw [← hil]; exact HG.mono (by omega)))
                  · skip
                    refine r_want 38 false (by kernel_rfl) rfl rfl (r_pickT rfl (r_pickF rfl (r_nil (q_t ?_))))
                    refine w_false rfl ?_
                    refine w_skip (q_t ?_)
                    refine ⟨(), ⟨Z31, ⟨by omega, by omega⟩, of_decide_eq_true (by assumption), fun j x hj hx => ?_⟩, trivial⟩
                    first | (exfalso; omega) | (obtain rfl : j = i - 1 := (by omega); rw [hb1] at hx; injection hx with hx; subst hx; omega)
                · skip
                  refine r_want 38 false (by kernel_rfl) rfl rfl (r_mv (r_skip 41 false (by kernel_rfl) rfl rfl (r_skip 41 false (by kernel_rfl) rfl rfl (r_skip 41 false (by kernel_rfl) rfl rfl (r_skip 41 false (by kernel_rfl) rfl rfl (r_skip 41 false (by kernel_rfl) rfl rfl (r_skip 41 false (by kernel_rfl) rfl rfl (r_skip 41 false (by kernel_rfl) rfl rfl (r_skip 41 false (by kernel_rfl) rfl rfl (r_skip 41 false (by kernel_rfl) rfl rfl (r_skip 41 false (by kernel_rfl) rfl rfl (r_want 38 false (by kernel_rfl) rfl rfl (r_pickF rfl (r_pickF rfl (r_nil (q_t ?_))))))))))))))))
                  refine w_false rfl ?_
                  refine w_skip (q_t ?_)
                  refine ⟨(), ⟨Z31, ⟨by omega, by omega⟩, of_decide_eq_true (by assumption), fun j x hj hx => ?_⟩, trivial⟩
                  first | (exfalso; omega) | (obtain rfl : j = i - 1 := (by omega); rw [hb1] at hx; injection hx with hx; subst hx; omega)
        rintro _ s2 hj ⟨EJ, hex, hwf, hprev⟩
        have hwp := wf_pos hwf
        have sz38 := EJ.1
        have X39 := X22.trans EJ
        have V3_40 := V3_25.ext EJ
        have HG_41 := HG_26.ext EJ
        have V11_42 := V11_20.ext EJ
        have Y43 := Y24.trans EJ
        refine w_seq ?_
        refine w_reg ?_
        refine r_mv (r_fo (fs := 1) fd_Blk1 (by kernel_rfl) (by decide) rfl (r_ld na_int rfl (V11_42.cell (i := 1) rfl) ?_))
        have hs8 := hgood.2.2
        have hs0 := ssum_ge (Bs := Bs.take i) fun b hb => (hgood.1 b hb).2
        refine r_addb rfl rfl (by omega) (by omega) ?_
        refine r_as (r_nil (q_t ?_))
        refine w_seq ?_
        refine w_seq ?_
        refine w_reg ?_
        refine r_mv (r_gtr rfl rfl (fun hc9 => ?_) (fun hc9 => ?_))   -- t59 := binOp gtr 3 t58 8:i64 3
        · skip
          refine r_nil (q_t ?_)
          refine w_true rfl ?_
          refine w_seq ?_
          refine w_reg ?_
          refine r_as (r_as (r_nil (q_t ?_)))
          refine w_ret (q_tr (q_br (q_tr (q_tr (q_br (q_tr ?_))))))
          refine ⟨_, retV_2, ?_⟩
          first
            | exact postO_no X39 (fun hh => absurd hh.1 (by assumption))
            | exact postO_no X39 (fun hh => by have := hh.2.2.2.1; omega)
            | exact postO_no X39 (fun hh => by obtain ⟨⟨q1, q2⟩, q3⟩ := hh.2.1 b (List.mem_of_getElem? hb); first | omega | (exact absurd q3 (of_decide_eq_false (by assumption))))
            | exact postO_no X39 (fun hh => by have := hh.2.2.1 (i - 1) b1 b (by have := (List.getElem?_eq_some_iff.1 hb).1; omega) hb1 (by rw [show i - 1 + 1 = i by omega]; exact hb); omega)
            | exact postO_no X39 (fun hh => by have := (lst2_good hh.2 (i + 1) (List.getElem?_eq_some_iff.1 hb).1).2.2; rw [ssum_take_succ hb] at this; omega)
            | (have hil : i = Bs.length := by omega
               exact postO_yes X39 (by assumption) (good2_all (by rw [← hil]; exact hgood) (by omega)) (by rw [← hil]; exact HG.mono (by omega)))
        · skip
          refine r_nil (q_t ?_)
          refine w_false rfl ?_
          refine w_skip (q_t ?_)
          refine w_seq ?_
          refine w_seq ?_
          refine w_draw (by kernel_rfl) ?_
          refine r_mv (r_eql rfl rfl (fun hc10 => ?_) (fun hc10 => ?_))   -- t61 := binOp eql 3 t60 0:i64 3
          · skip
            refine r_mv (r_skip 62 true (by kernel_rfl) rfl rfl (r_skip 62 true (by kernel_rfl) rfl rfl (r_skip 62 true (by kernel_rfl) rfl rfl (r_skip 62 true (by kernel_rfl) rfl rfl (r_skip 62 true (by kernel_rfl) rfl rfl (r_skip 62 true (by kernel_rfl) rfl rfl (r_skip 62 true (by kernel_rfl) rfl rfl (r_skip 62 true (by kernel_rfl) rfl rfl (r_skip 62 true (by kernel_rfl) rfl rfl (r_skip 62 true (by kernel_rfl) rfl rfl (r_pickT rfl (r_nil (q_t ?_)))))))))))))
            refine w_true rfl ?_
            refine w_reg ?_
            refine r_mv (r_fo (fs := 1) fd_Blk0 (by kernel_rfl) (by decide) rfl (r_ld na_int rfl (V11_42.cell (i := 0) rfl) (r_build (v := .agg #[.int .i64 b.exp, .int .i64 0, .int .i64 1, .bool false, .int .i64 0]) (build_con b.exp) ?_)))
            refine r_pushK (conV ⟨b.exp, 0, 1, false, 0⟩) sl_CL ze_Con rfl (fun _ => trivial) (fun _ => rfl) rfl rfl (by simp [conV, isOne]) (by decide) (by decide) HG_41 (by omega) (by decide) (by rw [List.length_map]; omega) fun p44 lv45 h46 HG_47 U48 bk49 => ?_
            have sz51 := U48.1
            have X50 := X39.thenUpd U48 (fun k hk => by have := HG_41.blk k hk; omega)
            have V3_52 := V3_40.upd U48 (fun hs => by have hq := HG_41.blk _ hs; have hq2 : Value.ownBlock lv = some bq1 := hs; first | omega | (have := avHGbq1 _ hs; omega))
            have V11_53 := V11_42.upd U48 (fun hs => by have hq := HG_41.blk _ hs; have hq2 : Value.ownBlock lv = some bq9 := hs; first | omega | (have := avHGbq9 _ hs; omega))
            refine r_as (r_nil (q_t ?_))
            refine w_draw (by kernel_rfl) ?_
            refine r_mv (r_mv (r_lenK sl_CL rfl HG_47.sl ?_))
            have hnew := cons_new (inc := inc2) (Bs := Bs) (i := i) (b := b) (fun _ _ => rfl) (by first | exact .inl (by omega) | exact .inr ⟨b1, by omega, hb1, by omega⟩)
            obtain ⟨g, hgl, HOg⟩ := HG_47.own (by simp)
            obtain ⟨n, hnn⟩ : ∃ n, n = (consTo inc2 Bs i).length := ⟨_, rfl⟩
            have hcl : ((consTo inc2 Bs i).map conV ++ [conV ⟨b.exp, 0, 1, false, 0⟩])[n]? = some (conV ⟨b.exp, 0, 1, false, 0⟩) := get_snoc (by simp [hnn])
            have hres := set_new (inc := inc2) (out := (consTo inc2 Bs i)) (b := b) hnn hnew
            have hsC : SmC 16 ⟨b.exp, 0, 1, false, 0⟩ := ⟨⟨Int.le_refl 0, by show (0 : Int) ≤ 7; decide⟩, .inl rfl, Int.le_refl 0, by show (0 : Int) ≤ 16; decide⟩
            have hcn : n < ((consTo inc2 Bs i).map conV ++ [conV ⟨b.exp, 0, 1, false, 0⟩]).length := (List.getElem?_eq_some_iff.1 hcl).1
            have hnl : ((((consTo inc2 Bs i).map conV ++ [conV ⟨b.exp, 0, 1, false, 0⟩]).length : Nat) : Int) - 1 = (n : Int) := by simp; omega
            have hln : ((consTo inc2 Bs i).map conV ++ [conV ⟨b.exp, 0, 1, false, 0⟩]).length ≤ 100 := by simp; omega
            refine r_subb rfl rfl (by omega) (by omega) ?_
            rw [hnl]
            refine r_ixKo sl_CL rfl HOg rfl hcn ?_
            refine r_ldA [.int .i64 b.exp, .int .i64 b.size, .int .i64 b.a, .int .i64 b.b, .int .i64 b.c] ag_Blk rfl rfl V11_53.agg (r_call trivial rfl (include_ok b hcn (by rw [set_same hcl]; exact HOg) hsC.1 hsC.2.1 ⟨hsC.2.2.1, by have := hsC.2.2.2; omega⟩ hwp) fun xi hi2 hk => ?_)
            obtain ⟨U6, HO6⟩ := hk
            refine ⟨trivial, ?_⟩
            have XZ := X50.thenUpd U6 (fun k hk => by have hk2 : k = g := hk; omega)
            have VZ := V3_52.upd U6 (fun he => by have he2 : bq1 = g := he; omega)
            rw [hres, ← consTo_succ hb] at HO6
            have hsz6 := U6.1
            have hszc := HG_47.blk
            refine r_nil (q_b (q_t ?_))
            refine w_reg ?_
            refine r_inc rfl (by omega) (r_mv (r_nil (q_t ?_)))
            exact ⟨Bs.length - (i + 1), (i + 1, _, _), by first | omega | (dsimp only; omega), ⟨rfl, by first | omega | (dsimp only; omega), good2_succ hgood hb hex hwf hprev (by omega), (ssum_take_succ hb).symm, XZ, VZ, .inr ⟨g, hgl, HO6⟩, by have := HOg.lt; omega⟩, rfl, rfl, rfl, trivial⟩
          · skip
            refine r_mv (r_want 62 false (by kernel_rfl) rfl rfl (r_fo (fs := 1) fd_Blk0 (by kernel_rfl) (by decide) rfl (r_want 62 false (by kernel_rfl) rfl rfl (r_ld na_int rfl (V11_42.cell (i := 0) rfl) (r_want 62 false (by kernel_rfl) rfl rfl (r_fo (fs := 1) fd_Jor2 (by kernel_rfl) (by decide) rfl (r_want 62 false (by kernel_rfl) rfl rfl (r_ld na_BL rfl (V3_40.cell (i := 2) rfl) (r_want 62 false (by kernel_rfl) rfl rfl (r_mv (r_want 62 false (by kernel_rfl) rfl rfl (r_subb rfl rfl (by omega) (by omega) ?_))))))))))))
            rw [show ((i : Nat) : Int) - 1 = ((i - 1 : Nat) : Int) by omega]
            obtain ⟨b1, hb1⟩ : ∃ b1, Bs[i - 1]? = some b1 := ⟨_, List.getElem?_eq_getElem (by omega)⟩
            refine r_want 62 false (by kernel_rfl) rfl rfl (r_ixK sl_BL rfl (HBs.ext X39) rfl (get_blk hb1) fun aq54 oq54 hkq54 => ?_)
            refine r_want 62 false (by kernel_rfl) rfl rfl (r_fo (fs := 1) fd_Blk0 (by kernel_rfl) (by decide) rfl (r_want 62 false (by kernel_rfl) rfl rfl (r_ld na_int rfl (hkq54 0 _ rfl) (r_want 62 false (by kernel_rfl) rfl rfl (r_gtr rfl rfl (fun hc11 => ?_) (fun hc11 => ?_))))))   -- t72 := binOp gtr 3 t64 t71 3   [guard op2 false]
            · skip
              refine r_pickF rfl (r_nil (q_t ?_))
              refine w_true rfl ?_
              refine w_reg ?_
              refine r_mv (r_fo (fs := 1) fd_Blk0 (by kernel_rfl) (by decide) rfl (r_ld na_int rfl (V11_42.cell (i := 0) rfl) (r_build (v := .agg #[.int .i64 b.exp, .int .i64 0, .int .i64 1, .bool false, .int .i64 0]) (build_con b.exp) ?_)))
              refine r_pushK (conV ⟨b.exp, 0, 1, false, 0⟩) sl_CL ze_Con rfl (fun _ => trivial) (fun _ => rfl) rfl rfl (by simp [conV, isOne]) (by decide) (by decide) HG_41 (by omega) (by decide) (by rw [List.length_map]; omega) fun p55 lv56 h57 HG_58 U59 bk60 => ?_
              have sz62 := U59.1
              have X61 := X39.thenUpd U59 (fun k hk => by have := HG_41.blk k hk; omega)
              have V3_63 := V3_40.upd U59 (fun hs => by have hq := HG_41.blk _ hs; have hq2 : Value.ownBlock lv = some bq1 := hs; first | omega | (have := avHGbq1 _ hs; omega))
              have V11_64 := V11_42.upd U59 (fun hs => by have hq := HG_41.blk _ hs; have hq2 : Value.ownBlock lv = some bq9 := hs; first | omega | (have := avHGbq9 _ hs; omega))
              refine r_as (r_nil (q_t ?_))
              refine w_draw (by kernel_rfl) ?_
              refine r_mv (r_mv (r_lenK sl_CL rfl HG_58.sl ?_))
              have hnew := cons_new (inc := inc2) (Bs := Bs) (i := i) (b := b) (fun _ _ => rfl) (by first | exact .inl (by omega) | exact .inr ⟨b1, by omega, hb1, by omega⟩)
              obtain ⟨g, hgl, HOg⟩ := HG_58.own (by simp)
              obtain ⟨n, hnn⟩ : ∃ n, n = (consTo inc2 Bs i).length := ⟨_, rfl⟩
              have hcl : ((consTo inc2 Bs i).map conV ++ [conV ⟨b.exp, 0, 1, false, 0⟩])[n]? = some (conV ⟨b.exp, 0, 1, false, 0⟩) := get_snoc (by simp [hnn])
              have hres := set_new (inc := inc2) (out := (consTo inc2 Bs i)) (b := b) hnn hnew
              have hsC : SmC 16 ⟨b.exp, 0, 1, false, 0⟩ := ⟨⟨Int.le_refl 0, by show (0 : Int) ≤ 7; decide⟩, .inl rfl, Int.le_refl 0, by show (0 : Int) ≤ 16; decide⟩
              have hcn : n < ((consTo inc2 Bs i).map conV ++ [conV ⟨b.exp, 0, 1, false, 0⟩]).length := (List.getElem?_eq_some_iff.1 hcl).1
              have hnl : ((((consTo inc2 Bs i).map conV ++ [conV ⟨b.exp, 0, 1, false, 0⟩]).length : Nat) : Int) - 1 = (n : Int) := by simp; omega
              have hln : ((consTo inc2 Bs i).map conV ++ [conV ⟨b.exp, 0, 1, false, 0⟩]).length ≤ 100 := by simp; omega
              refine r_subb rfl rfl (by omega) (by omega) ?_
              rw [hnl]
              refine r_ixKo sl_CL rfl HOg rfl hcn ?_
              refine r_ldA [.int .i64 b.exp, .int .i64 b.size, .int .i64 b.a, .int .i64 b.b, .int .i64 b.c] ag_Blk rfl rfl V11_64.agg (r_call trivial rfl (include_ok b hcn (by rw [set_same hcl]; exact HOg) hsC.1 hsC.2.1 ⟨hsC.2.2.1, by have := hsC.2.2.2; omega⟩ hwp) fun xi hi2 hk => ?_)
              obtain ⟨U6, HO6⟩ := hk
              refine ⟨trivial, ?_⟩
              have XZ := X61.thenUpd U6 (fun k hk => by have hk2 : k = g := hk; omega)
              have VZ := V3_63.upd U6 (fun he => by have he2 : bq1 = g := he; omega)
              rw [hres, ← consTo_succ hb] at HO6
              have hsz6 := U6.1
              have hszc := HG_58.blk
              refine r_nil (q_b (q_t ?_))
              refine w_reg ?_
              refine r_inc rfl (by omega) (r_mv (r_nil (q_t ?_)))
              exact ⟨Bs.length - (i + 1), (i + 1, _, _), by first | omega | (dsimp only; omega), ⟨rfl, by first | omega | (dsimp only; omega), good2_succ hgood hb hex hwf hprev (by omega), (ssum_take_succ hb).symm, XZ, VZ, .inr ⟨g, hgl, HO6⟩, by have := HOg.lt; omega⟩, rfl, rfl, rfl, trivial⟩
            · skip
              refine r_pickF rfl (r_nil (q_t ?_))
              refine w_false rfl ?_
              refine w_skip (q_t ?_)
              refine w_draw (by kernel_rfl) ?_
              refine r_mv (r_mv (r_lenK sl_CL rfl HG_41.sl ?_))
              obtain ⟨c, hcl0, hce⟩ := cons_old (inc := inc2) (Bs := Bs) (i := i) (b := b) (b1 := b1) (fun _ _ => rfl) (by omega) hb1 (by have := hprev (i - 1) b1 (by omega) hb1; omega)
              have hne : (consTo inc2 Bs i) ≠ [] := fun he => by rw [he] at hcl0; cases hcl0
              obtain ⟨g, hgl, HOg⟩ := HG_41.own (by simpa using hne)
              have hlen : 0 < (consTo inc2 Bs i).length := List.length_pos_iff.2 hne
              obtain ⟨n, hnn⟩ : ∃ n, n + 1 = (consTo inc2 Bs i).length := ⟨_, Nat.sub_add_cancel hlen⟩
              have hcl : ((consTo inc2 Bs i).map conV)[n]? = some (conV c) := get_con (by rw [List.getLast?_eq_getElem?, ← hnn] at hcl0; exact hcl0)
              have hres := set_old (inc := inc2) (out := (consTo inc2 Bs i)) (b := b) hnn hcl0 hce
              have hsC : SmC 16 c := by obtain ⟨q1, q2, q3, q4⟩ := smC_cons i (fun b hb => (hgood.1 b hb).2) c (List.mem_of_getLast? hcl0); exact ⟨q1, q2, q3, by omega⟩
              have hcn : n < ((consTo inc2 Bs i).map conV).length := (List.getElem?_eq_some_iff.1 hcl).1
              have hnl : ((((consTo inc2 Bs i).map conV).length : Nat) : Int) - 1 = (n : Int) := by simp; omega
              have hln : ((consTo inc2 Bs i).map conV).length ≤ 100 := by simp; omega
              refine r_subb rfl rfl (by omega) (by omega) ?_
              rw [hnl]
              refine r_ixKo sl_CL rfl HOg rfl hcn ?_
              refine r_ldA [.int .i64 b.exp, .int .i64 b.size, .int .i64 b.a, .int .i64 b.b, .int .i64 b.c] ag_Blk rfl rfl V11_42.agg (r_call trivial rfl (include_ok b hcn (by rw [set_same hcl]; exact HOg) hsC.1 hsC.2.1 ⟨hsC.2.2.1, by have := hsC.2.2.2; omega⟩ hwp) fun xi hi2 hk => ?_)
              obtain ⟨U6, HO6⟩ := hk
              refine ⟨trivial, ?_⟩
              have XZ := X39.thenUpd U6 (fun k hk => by have hk2 : k = g := hk; omega)
              have VZ := V3_40.upd U6 (fun he => by have he2 : bq1 = g := he; omega)
              rw [hres, ← consTo_succ hb] at HO6
              have hsz6 := U6.1
              have hszc := HG_41.blk
              refine r_nil (q_b (q_t ?_))
              refine w_reg ?_
              refine r_inc rfl (by omega) (r_mv (r_nil (q_t ?_)))
              exact ⟨Bs.length - (i + 1), (i + 1, _, _), by first | omega | (dsimp only; omega), ⟨rfl, by first | omega | (dsimp only; omega), good2_succ hgood hb hex hwf hprev (by omega), (ssum_take_succ hb).symm, XZ, VZ, .inr ⟨g, hgl, HO6⟩, by have := HOg.lt; omega⟩, rfl, rfl, rfl, trivial⟩
      · skip
        refine r_nil (q_t ?_)
        refine w_seq ?_
        refine w_false rfl ?_
        refine w_exit (q_tx (q_tx (q_bx (q_t ?_))))
        refine w_seq ?_
        refine w_reg ?_
        refine r_mv (r_as (r_as (r_nil (q_t ?_))))
        refine w_ret ?_
        refine ⟨_, retV_2, ?_⟩
        first
          | exact postO_no XQ (fun hh => absurd hh.1 (by assumption))
          | exact postO_no XQ (fun hh => by have := hh.2.2.2.1; omega)
          | exact postO_no XQ (fun hh => by obtain ⟨⟨q1, q2⟩, q3⟩ := hh.2.1 b (List.mem_of_getElem? hb); first | omega | (exact absurd q3 (of_decide_eq_false (by assumption))))
          | exact postO_no XQ (fun hh => by have := hh.2.2.1 (i - 1) b1 b (by have := (List.getElem?_eq_some_iff.1 hb).1; omega) hb1 (by rw [show i - 1 + 1 = i by omega]; exact hb); omega)
          | exact postO_no XQ (fun hh => by have := (lst2_good hh.2 (i + 1) (List.getElem?_eq_some_iff.1 hb).1).2.2; rw [ssum_take_succ hb] at this; omega)
          | (have hil : i = Bs.length := by omega
             exact postO_yes XQ (by assumption) (good2_all (by rw [← hil]; exact hgood) (by omega)) (by rw [← hil]; exact HG.mono (by omega)))

theorem Constituents_ok {h : Heap} {vT vB : Value} {p : Int} {Bs : List Blk} (HBs : SlK h 5 vB (Bs.map blkV)) (hn : Bs.length ≤ 1000) : CallH Tryd.prog 12 #[.agg #[.int .i64 p, vT, vB]] h fun x h' => PostC h x h' (con2B p Bs) (con2 p Bs) :=
  (ConstituentsO_ok HBs hn).mono fun v h' hk => let ⟨E, r, hr, HG⟩ := hk; ⟨E, r, hr, HG.sl⟩
end Go.Proofs.YtccgaemmdikhcaaDoor
