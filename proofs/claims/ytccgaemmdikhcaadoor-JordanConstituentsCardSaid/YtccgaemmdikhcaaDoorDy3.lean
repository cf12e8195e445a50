/-
  Contracts: lists of constituents held against one another, even forms, blocks made of numbers. Conditions stand in each statement.
-/
import Derived.Test.YtccgaemmdikhcaaDoorDy2
namespace Go.Proofs.YtccgaemmdikhcaaDoor
open Go Go.QF
set_option linter.unusedVariables false
set_option linter.unusedSimpArgs false
set_option maxRecDepth 100000
theorem con_eq (c d : Con) (w : World) : (Op.equal 44 (.agg (conV c).toArray) (.agg (conV d).toArray)).run Tryd.prog w = .ok (decide (c = d)) w := by
  show (Op.equalIn (9998 + 1 + 1) _ _ _).run _ w = _
  rw [Op.equalIn]
  obtain ⟨c1, c2, c3, c4, c5⟩ := c
  obtain ⟨d1, d2, d3, d4, d5⟩ := d
  simp [u_run Tryd.underlying44, conV, part_run na_int, part_run na_bool, eqInt_run it_int, eqBool_run un_bool]
  by_cases h1 : c1 = d1 <;> by_cases h2 : c2 = d2 <;> by_cases h3 : c3 = d3 <;> by_cases h4 : c4 = d4 <;> by_cases h5 : c5 = d5 <;> simp [h1, h2, h3, h4, h5]

theorem SameList_ok {h : Heap} {va vb : Value} {A B : List Con} (HA : SlK h 5 va (A.map conV)) (HB : SlK h 5 vb (B.map conV)) (hn : A.length ≤ 1000000) : CallH Tryd.prog 14 #[va, vb] h fun x h' => h' = h ∧ x = .bool (decide (A = B)) := by
  refine calls_of_W (l := [_, _]) mx Tryd.func14 rfl rfl rfl rfl rfl (by kernel_rfl) ?_
  refine w_seq ?_
  refine w_reg ?_
  refine r_as (r_nil (q_t ?_))
  refine w_seq ?_
  refine w_seq ?_
  refine w_reg ?_
  refine r_mv (r_lenKm sl_CL rfl HA (r_mv (r_lenKm sl_CL rfl HB (r_neq rfl rfl (fun hc1 => ?_) (fun hc1 => ?_)))))   -- t10 := binOp neq 3 t7 t9 3
  · skip
    refine r_nil (q_t ?_)
    refine w_true rfl ?_
    refine w_seq ?_
    refine w_reg ?_
    refine r_as (r_nil (q_t ?_))
    refine w_ret (q_tr ?_)
    refine ⟨_, retV_1, ?_⟩
    first
      | exact ⟨rfl, congrArg Value.bool (decide_eq_false (fun he => by subst he; first | omega | (rw [hc] at hd; injection hd with hd; exact absurd hd (of_decide_eq_false (by assumption))))).symm⟩
      | exact ⟨rfl, congrArg Value.bool (decide_eq_true (List.ext_getElem? fun j => by rcases Nat.lt_or_ge j i with q | q; exact hsame j q; rw [List.getElem?_eq_none (by omega), List.getElem?_eq_none (by omega)])).symm⟩
  · skip
    refine r_nil (q_t ?_)
    refine w_false rfl ?_
    refine w_skip (q_t ?_)
    refine w_seq ?_
    refine w_seq ?_
    refine w_reg ?_
    refine r_mv (r_lenKm sl_CL rfl HA (r_mv (r_nil (q_t ?_))))
    refine w_block ?_
    refine w_loop 67100720 (fun i : Nat => [(13, .int .i64 (i : Int))]) (fun k i h' => h' = h ∧ k = A.length - i ∧ i ≤ A.length ∧ ∀ j, j < i → A[j]? = B[j]?) (by kernel_rfl) A.length 0 ?_ ⟨rfl, trivial⟩ ?_
    · exact ⟨rfl, rfl, Nat.zero_le _, fun j hj => by omega⟩
    rintro k i s1 h ⟨rfl, rfl, hi, hsame⟩
    refine w_seq ?_
    refine w_reg ?_
    refine r_lss rfl rfl (fun hc2 => ?_) (fun hc2 => ?_)   -- t14 := binOp lss 3 t13 t12 3
    · skip
      refine r_nil (q_t ?_)
      refine w_seq ?_
      refine w_true rfl ?_
      refine w_skip (q_t ?_)
      refine w_seq ?_
      refine w_block ?_
      refine w_seq ?_
      refine w_reg ?_
      refine r_mv (r_as (r_nil (q_t ?_)))
      refine w_seq ?_
      obtain ⟨c, hc⟩ : ∃ c, A[i]? = some c := ⟨_, List.getElem?_eq_getElem (by omega)⟩
      obtain ⟨d, hd⟩ : ∃ c, B[i]? = some c := ⟨_, List.getElem?_eq_getElem (by omega)⟩
      refine w_draw (by kernel_rfl) ?_
      refine r_mv (r_mv (r_ixK sl_CL rfl HA rfl (get_con hc) fun aq1 oq1 hkq1 => ?_))
      refine r_ldA (conV c) ag_Con rfl rfl (fun i u hu => by rw [addr_add]; exact hkq1 i u hu) (r_mv (r_mv (r_ixK sl_CL rfl HB rfl (get_con hd) fun aq2 oq2 hkq2 => ?_)))
      refine r_ldA (conV d) ag_Con rfl rfl (fun i u hu => by rw [addr_add]; exact hkq2 i u hu) (r_neA (by kernel_rfl) rfl rfl (con_eq c d) ?_)
      cases hc3 : decide (c = d)
      · skip
        refine r_nil (q_t ?_)
        refine w_true rfl ?_
        refine w_seq ?_
        refine w_reg ?_
        refine r_as (r_nil (q_t ?_))
        refine w_ret (q_br (q_tr (q_tr (q_br (q_tr ?_)))))
        refine ⟨_, retV_1, ?_⟩
        first
          | exact ⟨rfl, congrArg Value.bool (decide_eq_false (fun he => by subst he; first | omega | (rw [hc] at hd; injection hd with hd; exact absurd hd (of_decide_eq_false (by assumption))))).symm⟩
          | exact ⟨rfl, congrArg Value.bool (decide_eq_true (List.ext_getElem? fun j => by rcases Nat.lt_or_ge j i with q | q; exact hsame j q; rw [List.getElem?_eq_none (by omega), List.getElem?_eq_none (by omega)])).symm⟩
      · skip
        refine r_nil (q_t ?_)
        refine w_false rfl ?_
        refine w_skip (q_b (q_t ?_))
        refine w_reg ?_
        refine r_inc rfl (by omega) (r_mv (r_nil (q_t ?_)))
        exact ⟨A.length - (i + 1), i + 1, by omega, ⟨rfl, rfl, by omega, fun j hj => by rcases Nat.lt_succ_iff_lt_or_eq.1 hj with q | rfl; exact hsame j q; rw [hc, hd]; exact congrArg some (of_decide_eq_true (by assumption))⟩, rfl, trivial⟩
    · skip
      refine r_nil (q_t ?_)
      refine w_seq ?_
      refine w_false rfl ?_
      refine w_exit (q_tx (q_tx (q_bx (q_t ?_))))
      refine w_seq ?_
      refine w_reg ?_
      refine r_as (r_nil (q_t ?_))
      refine w_ret ?_
      refine ⟨_, retV_1, ?_⟩
      first
        | exact ⟨rfl, congrArg Value.bool (decide_eq_false (fun he => by subst he; first | omega | (rw [hc] at hd; injection hd with hd; exact absurd hd (of_decide_eq_false (by assumption))))).symm⟩
        | exact ⟨rfl, congrArg Value.bool (decide_eq_true (List.ext_getElem? fun j => by rcases Nat.lt_or_ge j i with q | q; exact hsame j q; rw [List.getElem?_eq_none (by omega), List.getElem?_eq_none (by omega)])).symm⟩

theorem con2_len (p : Int) (Bs : List Blk) : (con2 p Bs).length ≤ Bs.length := by
  unfold con2
  split
  · exact consTo_len _ _ _
  · simp

theorem Even_ok {h : Heap} {vT vB : Value} {p : Int} {Bs : List Blk} (HBs : SlK h 5 vB (Bs.map blkV)) (hn : Bs.length ≤ 1000) : CallH Tryd.prog 15 #[.agg #[.int .i64 p, vT, vB]] h fun x h' => Ext h h' ∧ x = .bool (even2 p Bs) := by
  refine calls_of_W (l := [_]) mx Tryd.func15 rfl rfl rfl rfl rfl (by kernel_rfl) ?_
  refine w_seq ?_
  refine w_reg ?_
  refine r_boxB [.int .i64 p, vT, vB] (fun _ => trivial) rfl rfl fun bq1 h2 V3 E4 hb5 hl6 => ?_
  have hzbq1 : Array.size h ≤ bq1 := hb5
  have sz7 := E4.1
  refine r_as (r_nil (q_t ?_))
  refine w_seq ?_
  refine w_reg ?_
  refine r_ldA [.int .i64 p, vT, vB] ag_Jor rfl rfl V3.agg (r_call trivial rfl (Constituents_ok (HBs.ext E4) hn) fun x8 h9 hk => ?_)
  obtain ⟨E10, r, rfl, HS⟩ := hk
  refine ⟨trivial, ?_⟩
  have sz11 := E10.1
  have X12 := E4.trans E10
  have V3_13 := V3.ext E10
  have Y14 := E4.trans E10
  refine r_mv (r_ext rfl rfl (r_ext rfl rfl (r_as (r_as (r_nil (q_t ?_))))))
  refine w_seq ?_
  refine w_seq ?_
  refine w_reg ?_
  refine r_mv (r_not rfl (r_nil (q_t ?_)))
  refine ⟨_, rfl, fun hc1 => ?_, fun hc1 => ?_⟩
  · skip
    refine w_seq ?_
    refine w_reg ?_
    refine r_as (r_nil (q_t ?_))
    refine w_ret (q_tr ?_)
    refine ⟨_, retV_1, ?_⟩
    first
      | exact ⟨X12, congrArg Value.bool (show false = even2 p Bs by unfold even2; rw [show con2B p Bs = false by simpa using (by assumption : (!con2B p Bs) = true)]; rfl)⟩
      | exact ⟨X12, congrArg Value.bool (show false = even2 p Bs by unfold even2; rw [show (con2 p Bs).all evn = false from List.all_eq_false.2 ⟨c, List.mem_of_getElem? hc, by unfold evn; simp_all⟩, Bool.and_false])⟩
      | exact ⟨X12, congrArg Value.bool (show true = even2 p Bs by unfold even2; rw [show con2B p Bs = true by simpa using (by assumption : (!con2B p Bs) = false), show (con2 p Bs).all evn = true from List.all_eq_true.2 fun c hc => by obtain ⟨j, hj⟩ := List.getElem?_of_mem hc; exact hev j c (by have := (List.getElem?_eq_some_iff.1 hj).1; omega) hj]; rfl)⟩
  · skip
    refine w_skip (q_t ?_)
    refine w_seq ?_
    refine w_seq ?_
    refine w_reg ?_
    refine r_mv (r_lenKm sl_CL rfl HS (r_mv (r_nil (q_t ?_))))
    refine w_block ?_
    have hcl := con2_len p Bs
    refine w_loop 268369988 (fun i : Nat => [(16, .int .i64 (i : Int))]) (fun k i h' => Ext h9 h' ∧ k = (con2 p Bs).length - i ∧ i ≤ (con2 p Bs).length ∧ ∀ j c, j < i → (con2 p Bs)[j]? = some c → evn c = true) (by kernel_rfl) (con2 p Bs).length 0 ?_ ⟨rfl, trivial⟩ ?_
    · exact ⟨Ext.refl _, rfl, Nat.zero_le _, fun j c hj => by omega⟩
    rintro k i s1 hq ⟨EQ, rfl, hi, hev⟩
    have sz15 := EQ.1
    have X16 := X12.trans EQ
    have V3_17 := V3_13.ext EQ
    have Y18 := Y14.trans EQ
    have HS_19 := HS.ext EQ
    refine w_seq ?_
    refine w_reg ?_
    refine r_lss rfl rfl (fun hc2 => ?_) (fun hc2 => ?_)   -- t17 := binOp lss 3 t16 t15 3
    · skip
      refine r_nil (q_t ?_)
      refine w_seq ?_
      refine w_true rfl ?_
      refine w_skip (q_t ?_)
      refine w_seq ?_
      refine w_block ?_
      refine w_seq ?_
      obtain ⟨c, hc⟩ : ∃ c, (con2 p Bs)[i]? = some c := ⟨_, List.getElem?_eq_getElem (by omega)⟩
      refine w_reg ?_
      refine r_ixK sl_CL rfl HS_19 rfl (get_con hc) fun aq20 oq20 hkq20 => ?_
      refine r_ldA (conV c) ag_Con rfl rfl (fun i u hu => by rw [addr_add]; exact hkq20 i u hu) ?_
      refine r_allocB [.int .i64 0, .int .i64 0, .int .i64 0, .bool false, .int .i64 0] ze_Con rfl (fun _ => trivial) fun bq21 h22 V23 E24 hb25 hl26 => ?_
      have hzbq21 : Array.size h ≤ bq21 := Nat.le_trans X16.1 hb25
      have nebq1bq21 : bq1 ≠ bq21 := by have := V3_17.lt; omega
      have sz27 := E24.1
      have Z28 := EQ.trans E24
      have X29 := X16.trans E24
      have V3_30 := V3_17.ext E24
      have Y31 := Y18.trans E24
      have HS_32 := HS_19.ext E24
      refine r_stA [.int .i64 c.exp, .int .i64 c.dim, .int .i64 c.sign, .bool c.odd, .int .i64 c.oddity] ag_Con rfl rfl rfl rfl (by simp [isOne]) V23 fun h33 V23_34 U35 => ?_
      have X36 := X29.thenUpd U35 (fun k hk => by have hk2 : k = bq21 := hk; omega)
      have sz37 := U35.1
      have Z38 := Z28.thenUpd U35 (fun k hk => by have hk2 : k = bq21 := hk; omega)
      have Y39 := E24.thenUpd U35 (fun k hk => by have hk2 : k = bq21 := hk; omega)
      have V3_40 := V3_17.ext Y39
      have Y41 := Y31.thenUpd U35 (fun k hk => by have hk2 : k = bq21 := hk; omega)
      have HS_42 := HS_19.ext Y39
      refine r_nil (q_t ?_)
      refine w_seq ?_
      refine w_reg ?_
      refine r_fo (fs := 1) fd_Con0 (by kernel_rfl) (by decide) rfl (r_ld na_int rfl (V23_34.cell (i := 0) rfl) (r_eql rfl rfl (fun hc3 => ?_) (fun hc3 => ?_)))   -- t22 := binOp eql 3 t21 0:i64 3
      · skip
        refine r_mv (r_want 23 true (by kernel_rfl) rfl rfl (r_fo (fs := 1) fd_Con3 (by kernel_rfl) (by decide) rfl (r_want 23 true (by kernel_rfl) rfl rfl (r_ld na_bool rfl (V23_34.cell (i := 3) rfl) (r_pickT rfl (r_nil (q_t ?_)))))))
        refine ⟨_, rfl, fun hc4 => ?_, fun hc4 => ?_⟩
        · skip
          refine w_seq ?_
          refine w_reg ?_
          refine r_as (r_nil (q_t ?_))
          refine w_ret (q_br (q_tr (q_tr (q_br (q_tr ?_)))))
          refine ⟨_, retV_1, ?_⟩
          first
            | exact ⟨X36, congrArg Value.bool (show false = even2 p Bs by unfold even2; rw [show con2B p Bs = false by simpa using (by assumption : (!con2B p Bs) = true)]; rfl)⟩
            | exact ⟨X36, congrArg Value.bool (show false = even2 p Bs by unfold even2; rw [show (con2 p Bs).all evn = false from List.all_eq_false.2 ⟨c, List.mem_of_getElem? hc, by unfold evn; simp_all⟩, Bool.and_false])⟩
            | exact ⟨X36, congrArg Value.bool (show true = even2 p Bs by unfold even2; rw [show con2B p Bs = true by simpa using (by assumption : (!con2B p Bs) = false), show (con2 p Bs).all evn = true from List.all_eq_true.2 fun c hc => by obtain ⟨j, hj⟩ := List.getElem?_of_mem hc; exact hev j c (by have := (List.getElem?_eq_some_iff.1 hj).1; omega) hj]; rfl)⟩
        · skip
          refine w_skip (q_b (q_t ?_))
          refine w_reg ?_
          refine r_inc rfl (by omega) (r_mv (r_nil (q_t ?_)))
          exact ⟨(con2 p Bs).length - (i + 1), i + 1, by omega, ⟨Z38, rfl, by omega, fun j c1 hj hc1 => by rcases Nat.lt_succ_iff_lt_or_eq.1 hj with q | rfl; exact hev j c1 q hc1; rw [hc] at hc1; injection hc1 with hc1; subst hc1; unfold evn; first | (rw [decide_eq_false (by assumption)]; rfl) | (simp; omega) | simp_all⟩, rfl, trivial⟩
      · skip
        refine r_mv (r_skip 23 false (by kernel_rfl) rfl rfl (r_skip 23 false (by kernel_rfl) rfl rfl (r_pickF rfl (r_nil (q_t ?_)))))
        refine w_false rfl ?_
        refine w_skip (q_b (q_t ?_))
        refine w_reg ?_
        refine r_inc rfl (by omega) (r_mv (r_nil (q_t ?_)))
        exact ⟨(con2 p Bs).length - (i + 1), i + 1, by omega, ⟨Z38, rfl, by omega, fun j c1 hj hc1 => by rcases Nat.lt_succ_iff_lt_or_eq.1 hj with q | rfl; exact hev j c1 q hc1; rw [hc] at hc1; injection hc1 with hc1; subst hc1; unfold evn; first | (rw [decide_eq_false (by assumption)]; rfl) | (simp; omega) | simp_all⟩, rfl, trivial⟩
    · skip
      refine r_nil (q_t ?_)
      refine w_seq ?_
      refine w_false rfl ?_
      refine w_exit (q_tx (q_tx (q_bx (q_t ?_))))
      refine w_seq ?_
      refine w_reg ?_
      refine r_as (r_nil (q_t ?_))
      refine w_ret ?_
      refine ⟨_, retV_1, ?_⟩
      first
        | exact ⟨X16, congrArg Value.bool (show false = even2 p Bs by unfold even2; rw [show con2B p Bs = false by simpa using (by assumption : (!con2B p Bs) = true)]; rfl)⟩
        | exact ⟨X16, congrArg Value.bool (show false = even2 p Bs by unfold even2; rw [show (con2 p Bs).all evn = false from List.all_eq_false.2 ⟨c, List.mem_of_getElem? hc, by unfold evn; simp_all⟩, Bool.and_false])⟩
        | exact ⟨X16, congrArg Value.bool (show true = even2 p Bs by unfold even2; rw [show con2B p Bs = true by simpa using (by assumption : (!con2B p Bs) = false), show (con2 p Bs).all evn = true from List.all_eq_true.2 fun c hc => by obtain ⟨j, hj⟩ := List.getElem?_of_mem hc; exact hev j c (by have := (List.getElem?_eq_some_iff.1 hj).1; omega) hj]; rfl)⟩

theorem con2_cons {p : Int} {Bs : List Blk} (h : con2B p Bs = true) : ∃ c l, con2 p Bs = c :: l := by
  obtain ⟨hp, H⟩ := of_con2B h
  have hne : con2 p Bs ≠ [] := by
    unfold con2
    rw [h]
    have := H.2.2.1
    obtain ⟨n, hn⟩ : ∃ n, Bs.length = n + 1 := ⟨Bs.length - 1, by omega⟩
    rw [hn]; exact consTo_ne (by omega)
  cases hc : con2 p Bs with
  | nil => exact absurd hc hne
  | cons c l => exact ⟨c, l, rfl⟩

theorem refEven_ok {h : Heap} {vT vB : Value} {p : Int} {Bs : List Blk} (HBs : SlK h 5 vB (Bs.map blkV)) (hn : Bs.length ≤ 1000) : CallH Tryd.prog 16 #[.agg #[.int .i64 p, vT, vB]] h fun x h' => Ext h h' ∧ x = .bool (evenR p Bs) := by
  refine calls_of_W (l := [_]) mx Tryd.func16 rfl rfl rfl rfl rfl (by kernel_rfl) ?_
  refine w_seq ?_
  refine w_reg ?_
  refine r_boxB [.int .i64 p, vT, vB] (fun _ => trivial) rfl rfl fun bq1 h2 V3 E4 hb5 hl6 => ?_
  have hzbq1 : Array.size h ≤ bq1 := hb5
  have sz7 := E4.1
  refine r_as (r_nil (q_t ?_))
  refine w_seq ?_
  refine w_reg ?_
  refine r_ldA [.int .i64 p, vT, vB] ag_Jor rfl rfl V3.agg (r_call trivial rfl (Constituents2_ok (HBs.ext E4) hn) fun x8 h9 hk => ?_)
  obtain ⟨E10, r, rfl, HS⟩ := hk
  refine ⟨trivial, ?_⟩
  have sz11 := E10.1
  have X12 := E4.trans E10
  have V3_13 := V3.ext E10
  have Y14 := E4.trans E10
  refine r_mv (r_ext rfl rfl (r_ext rfl rfl (r_as (r_as (r_nil (q_t ?_))))))
  refine w_seq ?_
  refine w_reg ?_
  refine r_mv (r_mv ?_)
  cases hc1 : con2B p Bs
  · skip
    refine r_skip 11 false (by kernel_rfl) rfl rfl (r_skip 11 false (by kernel_rfl) rfl rfl (r_skip 11 false (by kernel_rfl) rfl rfl (r_skip 11 false (by kernel_rfl) rfl rfl (r_skip 11 false (by kernel_rfl) rfl rfl (r_skip 11 false (by kernel_rfl) rfl rfl (r_skipU 17 (by kernel_rfl) rfl (r_skipU 17 (by kernel_rfl) rfl (r_skipU 17 (by kernel_rfl) rfl (r_skipU 17 (by kernel_rfl) rfl (r_skipU 17 (by kernel_rfl) rfl (r_skip 11 false (by kernel_rfl) rfl rfl (r_pickF rfl (r_as (r_nil (q_t ?_)))))))))))))))
    refine w_ret ?_
    refine ⟨_, retV_1, ?_⟩
    first
      | exact ⟨X12, congrArg Value.bool (show false = evenR p Bs by unfold evenR; rw [show con2B p Bs = false by assumption]; rfl)⟩
      | exact ⟨X12, congrArg Value.bool (show _ = evenR p Bs by unfold evenR; rw [show con2B p Bs = true by assumption, hcl]; dsimp only; first | (simp_all; done) | (simp_all <;> intro _ <;> omega))⟩
  · skip
    refine r_want 11 true (by kernel_rfl) rfl rfl (r_mv (r_want 11 true (by kernel_rfl) rfl rfl ?_))
    obtain ⟨c, l, hcl⟩ := con2_cons (by assumption)
    refine r_ixK (n := 0) sl_CL rfl HS rfl (get_con (show (con2 p Bs)[0]? = some c by rw [hcl]; rfl)) fun a1 o1 hk1 => ?_
    refine r_want 11 true (by kernel_rfl) rfl rfl (r_fo (fs := 1) fd_Con0 (by kernel_rfl) (by decide) rfl (r_want 11 true (by kernel_rfl) rfl rfl (r_ld na_int rfl (hk1 0 _ rfl) (r_want 11 true (by kernel_rfl) rfl rfl (r_gtr rfl rfl (fun hc2 => ?_) (fun hc2 => ?_))))))   -- t16 := binOp gtr 3 t15 0:i64 3   [guard op1 true]
    · skip
      refine r_want 11 true (by kernel_rfl) rfl rfl (r_mv (r_skip 17 true (by kernel_rfl) rfl rfl (r_skip 17 true (by kernel_rfl) rfl rfl (r_skip 17 true (by kernel_rfl) rfl rfl (r_skip 17 true (by kernel_rfl) rfl rfl (r_skip 17 true (by kernel_rfl) rfl rfl (r_want 11 true (by kernel_rfl) rfl rfl (r_pickT rfl (r_pickT rfl (r_as (r_nil (q_t ?_))))))))))))
      refine w_ret ?_
      refine ⟨_, retV_1, ?_⟩
      first
        | exact ⟨X12, congrArg Value.bool (show false = evenR p Bs by unfold evenR; rw [show con2B p Bs = false by assumption]; rfl)⟩
        | exact ⟨X12, congrArg Value.bool (show _ = evenR p Bs by unfold evenR; rw [show con2B p Bs = true by assumption, hcl]; dsimp only; first | (simp_all; done) | (simp_all <;> intro _ <;> omega))⟩
    · skip
      refine r_want 11 true (by kernel_rfl) rfl rfl (r_mv (r_want 17 false (by kernel_rfl) rfl rfl (r_mv (r_want 17 false (by kernel_rfl) rfl rfl (r_ixK (n := 0) sl_CL rfl HS rfl (get_con (show (con2 p Bs)[0]? = some c by rw [hcl]; rfl)) fun a2 o2 hk2 => ?_)))))
      refine r_want 17 false (by kernel_rfl) rfl rfl (r_fo (fs := 1) fd_Con3 (by kernel_rfl) (by decide) rfl (r_want 17 false (by kernel_rfl) rfl rfl (r_ld na_bool rfl (hk2 3 _ rfl) (r_want 17 false (by kernel_rfl) rfl rfl (r_not rfl ?_)))))
      refine r_want 11 true (by kernel_rfl) rfl rfl (r_pickF rfl (r_pickT rfl (r_as (r_nil (q_t ?_)))))
      refine w_ret ?_
      refine ⟨_, retV_1, ?_⟩
      first
        | exact ⟨X12, congrArg Value.bool (show false = evenR p Bs by unfold evenR; rw [show con2B p Bs = false by assumption]; rfl)⟩
        | exact ⟨X12, congrArg Value.bool (show _ = evenR p Bs by unfold evenR; rw [show con2B p Bs = true by assumption, hcl]; dsimp only; first | (simp_all; done) | (simp_all <;> intro _ <;> omega))⟩

theorem build_blk (a b c d f : Int) (w : World) : (Instr.build 41 #[(0, .int .i64 a), (1, .int .i64 b), (2, .int .i64 c), (3, .int .i64 d), (4, .int .i64 f)]).run Tryd.prog w = .ok (.agg #[.int .i64 a, .int .i64 b, .int .i64 c, .int .i64 d, .int .i64 f]) w := by kernel_rfl

theorem Block_ok (x0 x1 x2 x3 x4 : Nat) (h0 : x0 < 256) (h1 : x1 < 256) (h2 : x2 < 256) (h3 : x3 < 256) (h4 : x4 < 256) {p : Int} (hp : 2 ≤ p) (h : Heap) : CallH Tryd.prog 37 #[.agg #[.int .u8 (x0 : Int), .int .u8 (x1 : Int), .int .u8 (x2 : Int), .int .u8 (x3 : Int), .int .u8 (x4 : Int)], .int .i64 p] h fun x h' => Ext h h' ∧ x = .agg (blkV (mkB x0 x1 x2 x3 x4 p)).toArray := by
  refine calls_of_W (l := [_, _]) mx Tryd.func37 rfl rfl rfl rfl rfl (by kernel_rfl) ?_
  refine w_seq ?_
  refine w_reg ?_
  refine r_boxB [.int .u8 (x0 : Int), .int .u8 (x1 : Int), .int .u8 (x2 : Int), .int .u8 (x3 : Int), .int .u8 (x4 : Int)] (fun _ => trivial) rfl rfl fun bq1 h2 V3 E4 hb5 hl6 => ?_
  have hzbq1 : Array.size h ≤ bq1 := hb5
  have sz7 := E4.1
  refine r_allocB [.int .i64 0, .int .i64 0, .int .i64 0, .int .i64 0, .int .i64 0] ze_Blk rfl (fun _ => trivial) fun bq8 h9 V10 E11 hb12 hl13 => ?_
  have hzbq8 : Array.size h ≤ bq8 := Nat.le_trans E4.1 hb12
  have nebq1bq8 : bq1 ≠ bq8 := by have := V3.lt; omega
  have sz14 := E11.1
  have X15 := E4.trans E11
  have V3_16 := V3.ext E11
  have Y17 := E4.trans E11
  refine r_nil (q_t ?_)
  refine w_seq ?_
  refine w_reg ?_
  refine r_ixA (s := 1) (j := 0) un_A5 (by kernel_rfl) rfl rfl (by decide) (r_ld na_u8 rfl (V3_16.cell (i := 0) rfl) (r_cvk it_u8 it_int rfl (wrap_small (by omega) (by omega)) (r_remn (b := 4) rfl rfl (by omega) (r_ixA (s := 1) (j := 1) un_A5 (by kernel_rfl) rfl rfl (by decide) (r_ld na_u8 rfl (V3_16.cell (i := 1) rfl) (r_cvk it_u8 it_int rfl (wrap_small (by omega) (by omega)) (r_remn (b := 2) rfl rfl (by omega) (r_addn (a := 1) rfl rfl (by omega) (r_ixA (s := 1) (j := 2) un_A5 (by kernel_rfl) rfl rfl (by decide) (r_ld na_u8 rfl (V3_16.cell (i := 2) rfl) (r_cvk it_u8 it_i64 rfl (wrap_small (by omega) (by omega)) (r_ixA (s := 1) (j := 3) un_A5 (by kernel_rfl) rfl rfl (by decide) (r_ld na_u8 rfl (V3_16.cell (i := 3) rfl) (r_cvk it_u8 it_i64 rfl (wrap_small (by omega) (by omega)) (r_ixA (s := 1) (j := 4) un_A5 (by kernel_rfl) rfl rfl (by decide) (r_ld na_u8 rfl (V3_16.cell (i := 4) rfl) (r_cvk it_u8 it_i64 rfl (wrap_small (by omega) (by omega)) (r_build (v := .agg #[.int .i64 ((x0 % 4 : Nat) : Int), .int .i64 ((1 + x1 % 2 : Nat) : Int), .int .i64 (x2 : Int), .int .i64 (x3 : Int), .int .i64 (x4 : Int)]) (build_blk _ _ _ _ _) ?_))))))))))))))))))
  refine r_allocB [.int .i64 0, .int .i64 0, .int .i64 0, .int .i64 0, .int .i64 0] ze_Blk rfl (fun _ => trivial) fun bq18 h19 V20 E21 hb22 hl23 => ?_
  have hzbq18 : Array.size h ≤ bq18 := Nat.le_trans X15.1 hb22
  have nebq1bq18 : bq1 ≠ bq18 := by have := V3_16.lt; omega
  have nebq8bq18 : bq8 ≠ bq18 := by have := V10.lt; omega
  have sz24 := E21.1
  have X25 := X15.trans E21
  have V3_26 := V3_16.ext E21
  have Y27 := Y17.trans E21
  have V10_28 := V10.ext E21
  have Y29 := E11.trans E21
  refine r_stA [.int .i64 ((x0 % 4 : Nat) : Int), .int .i64 ((1 + x1 % 2 : Nat) : Int), .int .i64 (x2 : Int), .int .i64 (x3 : Int), .int .i64 (x4 : Int)] ag_Blk rfl rfl rfl rfl (by simp [isOne]) V20 fun h30 V20_31 U32 => ?_
  have X33 := X25.thenUpd U32 (fun k hk => by have hk2 : k = bq18 := hk; omega)
  have sz34 := U32.1
  have Y35 := E21.thenUpd U32 (fun k hk => by have hk2 : k = bq18 := hk; omega)
  have V3_36 := V3_16.ext Y35
  have Y37 := Y27.thenUpd U32 (fun k hk => by have hk2 : k = bq18 := hk; omega)
  have V10_38 := V10.ext Y35
  have Y39 := Y29.thenUpd U32 (fun k hk => by have hk2 : k = bq18 := hk; omega)
  refine r_nil (q_t ?_)
  refine w_seq ?_
  refine w_block ?_
  refine w_seq ?_
  refine w_reg ?_
  refine r_fo (fs := 1) fd_Blk1 (by kernel_rfl) (by decide) rfl (r_ld na_int rfl (V20_31.cell (i := 1) rfl) (r_eql rfl rfl (fun hc1 => ?_) (fun hc1 => ?_)))   -- t40 := binOp eql 3 t39 1:i64 3
  · skip
    refine r_as (r_nil (q_t ?_))
    refine w_true rfl ?_
    refine w_seq ?_
    refine w_reg ?_
    refine r_fo (fs := 1) fd_Blk3 (by kernel_rfl) (by decide) rfl (r_stB [.int .i64 ((x0 % 4 : Nat) : Int), .int .i64 ((1 + x1 % 2 : Nat) : Int), .int .i64 (x2 : Int), .int .i64 0, .int .i64 (x4 : Int)] na_i64 rfl (show _ = .int .i64 0 from rfl) rfl V20_31 (Nat.le_of_ble_eq_true rfl) rfl fun h40 V20_41 U42 => ?_)
    have X43 := X33.thenUpd U42 (fun k hk => by have hk2 : k = bq18 := hk; omega)
    have sz44 := U42.1
    have Y45 := Y35.thenUpd U42 (fun k hk => by have hk2 : k = bq18 := hk; omega)
    have V3_46 := V3_16.ext Y45
    have Y47 := Y37.thenUpd U42 (fun k hk => by have hk2 : k = bq18 := hk; omega)
    have V10_48 := V10.ext Y45
    have Y49 := Y39.thenUpd U42 (fun k hk => by have hk2 : k = bq18 := hk; omega)
    refine r_fo (fs := 1) fd_Blk4 (by kernel_rfl) (by decide) rfl (r_stB [.int .i64 ((x0 % 4 : Nat) : Int), .int .i64 ((1 + x1 % 2 : Nat) : Int), .int .i64 (x2 : Int), .int .i64 0, .int .i64 0] na_i64 rfl (show _ = .int .i64 0 from rfl) rfl V20_41 (Nat.le_of_ble_eq_true rfl) rfl fun h50 V20_51 U52 => ?_)
    have X53 := X43.thenUpd U52 (fun k hk => by have hk2 : k = bq18 := hk; omega)
    have sz54 := U52.1
    have Y55 := Y45.thenUpd U52 (fun k hk => by have hk2 : k = bq18 := hk; omega)
    have V3_56 := V3_16.ext Y55
    have Y57 := Y47.thenUpd U52 (fun k hk => by have hk2 : k = bq18 := hk; omega)
    have V10_58 := V10.ext Y55
    have Y59 := Y49.thenUpd U52 (fun k hk => by have hk2 : k = bq18 := hk; omega)
    refine r_nil (q_t ?_)
    refine w_seq ?_
    refine w_reg ?_
    refine r_fo (fs := 1) fd_Blk2 (by kernel_rfl) (by decide) rfl (r_ld na_i64 rfl (V20_51.cell (i := 2) rfl) (r_mv (r_remp rfl rfl (by omega) (by omega) (r_eql rfl rfl (fun hc2 => ?_) (fun hc2 => ?_)))))   -- t47 := binOp eql 2 t46 0:i64 2
    · skip
      refine r_nil (q_t ?_)
      refine w_true rfl ?_
      refine w_reg ?_
      refine r_fo (fs := 1) fd_Blk2 (by kernel_rfl) (by decide) rfl (r_ld na_i64 rfl (V20_51.cell (i := 2) rfl) (r_addb rfl rfl (by omega) (by omega) (r_fo (fs := 1) fd_Blk2 (by kernel_rfl) (by decide) rfl (r_stB [.int .i64 ((x0 % 4 : Nat) : Int), .int .i64 ((1 + x1 % 2 : Nat) : Int), .int .i64 ((x2 : Int) + 1), .int .i64 0, .int .i64 0] na_i64 rfl (show _ = .int .i64 ((x2 : Int) + 1) from rfl) rfl V20_51 (Nat.le_of_ble_eq_true rfl) rfl fun h60 V20_61 U62 => ?_))))
      have X63 := X53.thenUpd U62 (fun k hk => by have hk2 : k = bq18 := hk; omega)
      have sz64 := U62.1
      have Y65 := Y55.thenUpd U62 (fun k hk => by have hk2 : k = bq18 := hk; omega)
      have V3_66 := V3_16.ext Y65
      have Y67 := Y57.thenUpd U62 (fun k hk => by have hk2 : k = bq18 := hk; omega)
      have V10_68 := V10.ext Y65
      have Y69 := Y59.thenUpd U62 (fun k hk => by have hk2 : k = bq18 := hk; omega)
      refine r_nil (q_b (q_t ?_))
      refine w_seq ?_
      refine w_reg ?_
      refine r_ldA [.int .i64 ((x0 % 4 : Nat) : Int), .int .i64 ((1 + x1 % 2 : Nat) : Int), .int .i64 ((x2 : Int) + 1), .int .i64 0, .int .i64 0] ag_Blk rfl rfl V20_61.agg (r_stA [.int .i64 ((x0 % 4 : Nat) : Int), .int .i64 ((1 + x1 % 2 : Nat) : Int), .int .i64 ((x2 : Int) + 1), .int .i64 0, .int .i64 0] ag_Blk rfl rfl rfl rfl (by simp [isOne]) V10_68 fun h70 V10_71 U72 => ?_)
      have X73 := X63.thenUpd U72 (fun k hk => by have hk2 : k = bq8 := hk; omega)
      have sz74 := U72.1
      have Y75 := Y69.thenUpd U72 (fun k hk => by have hk2 : k = bq8 := hk; omega)
      have V3_76 := V3.ext Y75
      have Y77 := Y67.thenUpd U72 (fun k hk => by have hk2 : k = bq8 := hk; omega)
      have V20_78 := V20_61.upd U72 (fun he => (Ne.symm nebq8bq18) (he : bq18 = bq8))
      refine r_nil (q_t ?_)
      refine w_ret ?_
      refine ⟨_, retV_c ag_Blk rfl rfl V10_71, ?_⟩
      refine ⟨X73, ?_⟩
      unfold mkB
      first
      | (rw [if_pos (by omega), if_pos (by omega)]; first | rfl | (have h1 : x1 % 2 = 0 := (by omega); rw [h1]; rfl))
      | (rw [if_pos (by omega), if_neg (by omega)]; first | rfl | (have h1 : x1 % 2 = 0 := (by omega); rw [h1]; rfl))
      | (rw [if_neg (by omega)]; have h1 : x1 % 2 = 1 := (by omega); rw [h1]; rfl)
    · skip
      refine r_nil (q_t ?_)
      refine w_false rfl ?_
      refine w_skip (q_b (q_t ?_))
      refine w_seq ?_
      refine w_reg ?_
      refine r_ldA [.int .i64 ((x0 % 4 : Nat) : Int), .int .i64 ((1 + x1 % 2 : Nat) : Int), .int .i64 (x2 : Int), .int .i64 0, .int .i64 0] ag_Blk rfl rfl V20_51.agg (r_stA [.int .i64 ((x0 % 4 : Nat) : Int), .int .i64 ((1 + x1 % 2 : Nat) : Int), .int .i64 (x2 : Int), .int .i64 0, .int .i64 0] ag_Blk rfl rfl rfl rfl (by simp [isOne]) V10_58 fun h79 V10_80 U81 => ?_)
      have X82 := X53.thenUpd U81 (fun k hk => by have hk2 : k = bq8 := hk; omega)
      have sz83 := U81.1
      have Y84 := Y59.thenUpd U81 (fun k hk => by have hk2 : k = bq8 := hk; omega)
      have V3_85 := V3.ext Y84
      have Y86 := Y57.thenUpd U81 (fun k hk => by have hk2 : k = bq8 := hk; omega)
      have V20_87 := V20_51.upd U81 (fun he => (Ne.symm nebq8bq18) (he : bq18 = bq8))
      refine r_nil (q_t ?_)
      refine w_ret ?_
      refine ⟨_, retV_c ag_Blk rfl rfl V10_80, ?_⟩
      refine ⟨X82, ?_⟩
      unfold mkB
      first
      | (rw [if_pos (by omega), if_pos (by omega)]; first | rfl | (have h1 : x1 % 2 = 0 := (by omega); rw [h1]; rfl))
      | (rw [if_pos (by omega), if_neg (by omega)]; first | rfl | (have h1 : x1 % 2 = 0 := (by omega); rw [h1]; rfl))
      | (rw [if_neg (by omega)]; have h1 : x1 % 2 = 1 := (by omega); rw [h1]; rfl)
  · skip
    refine r_as (r_nil (q_t ?_))
    refine w_false rfl ?_
    refine w_seq ?_
    refine w_reg ?_
    refine r_mv (r_eql rfl rfl (fun hc3 => ?_) (fun hc3 => ?_))   -- t54 := binOp eql 2 t53 2:i64 2
    · skip
      refine r_as (r_nil (q_t ?_))
      refine w_true rfl ?_
      refine w_reg ?_
      refine r_fo (fs := 1) fd_Blk2 (by kernel_rfl) (by decide) rfl (r_ld na_i64 rfl (V20_31.cell (i := 2) rfl) (r_mulb rfl rfl (by omega) (by omega) (r_fo (fs := 1) fd_Blk3 (by kernel_rfl) (by decide) rfl (r_ld na_i64 rfl (V20_31.cell (i := 3) rfl) (r_mulb rfl rfl (by omega) (by omega) (r_addb rfl rfl (by omega) (by omega) (r_fo (fs := 1) fd_Blk4 (by kernel_rfl) (by decide) rfl (r_ld na_i64 rfl (V20_31.cell (i := 4) rfl) (r_mulb rfl rfl (by omega) (by omega) (r_fo (fs := 1) fd_Blk2 (by kernel_rfl) (by decide) rfl (r_stB [.int .i64 ((x0 % 4 : Nat) : Int), .int .i64 ((1 + x1 % 2 : Nat) : Int), .int .i64 (2 * (x2 : Int)), .int .i64 (x3 : Int), .int .i64 (x4 : Int)] na_i64 rfl (show _ = .int .i64 (2 * (x2 : Int)) from rfl) rfl V20_31 (Nat.le_of_ble_eq_true rfl) rfl fun h88 V20_89 U90 => ?_)))))))))))
      have X91 := X33.thenUpd U90 (fun k hk => by have hk2 : k = bq18 := hk; omega)
      have sz92 := U90.1
      have Y93 := Y35.thenUpd U90 (fun k hk => by have hk2 : k = bq18 := hk; omega)
      have V3_94 := V3_16.ext Y93
      have Y95 := Y37.thenUpd U90 (fun k hk => by have hk2 : k = bq18 := hk; omega)
      have V10_96 := V10.ext Y93
      have Y97 := Y39.thenUpd U90 (fun k hk => by have hk2 : k = bq18 := hk; omega)
      refine r_fo (fs := 1) fd_Blk3 (by kernel_rfl) (by decide) rfl (r_stB [.int .i64 ((x0 % 4 : Nat) : Int), .int .i64 ((1 + x1 % 2 : Nat) : Int), .int .i64 (2 * (x2 : Int)), .int .i64 (2 * (x3 : Int) + 1), .int .i64 (x4 : Int)] na_i64 rfl (show _ = .int .i64 (2 * (x3 : Int) + 1) from rfl) rfl V20_89 (Nat.le_of_ble_eq_true rfl) rfl fun h98 V20_99 U100 => ?_)
      have X101 := X91.thenUpd U100 (fun k hk => by have hk2 : k = bq18 := hk; omega)
      have sz102 := U100.1
      have Y103 := Y93.thenUpd U100 (fun k hk => by have hk2 : k = bq18 := hk; omega)
      have V3_104 := V3_16.ext Y103
      have Y105 := Y95.thenUpd U100 (fun k hk => by have hk2 : k = bq18 := hk; omega)
      have V10_106 := V10.ext Y103
      have Y107 := Y97.thenUpd U100 (fun k hk => by have hk2 : k = bq18 := hk; omega)
      refine r_fo (fs := 1) fd_Blk4 (by kernel_rfl) (by decide) rfl (r_stB [.int .i64 ((x0 % 4 : Nat) : Int), .int .i64 ((1 + x1 % 2 : Nat) : Int), .int .i64 (2 * (x2 : Int)), .int .i64 (2 * (x3 : Int) + 1), .int .i64 (2 * (x4 : Int))] na_i64 rfl (show _ = .int .i64 (2 * (x4 : Int)) from rfl) rfl V20_99 (Nat.le_of_ble_eq_true rfl) rfl fun h108 V20_109 U110 => ?_)
      have X111 := X101.thenUpd U110 (fun k hk => by have hk2 : k = bq18 := hk; omega)
      have sz112 := U110.1
      have Y113 := Y103.thenUpd U110 (fun k hk => by have hk2 : k = bq18 := hk; omega)
      have V3_114 := V3_16.ext Y113
      have Y115 := Y105.thenUpd U110 (fun k hk => by have hk2 : k = bq18 := hk; omega)
      have V10_116 := V10.ext Y113
      have Y117 := Y107.thenUpd U110 (fun k hk => by have hk2 : k = bq18 := hk; omega)
      refine r_nil (q_b (q_t ?_))
      refine w_seq ?_
      refine w_reg ?_
      refine r_ldA [.int .i64 ((x0 % 4 : Nat) : Int), .int .i64 ((1 + x1 % 2 : Nat) : Int), .int .i64 (2 * (x2 : Int)), .int .i64 (2 * (x3 : Int) + 1), .int .i64 (2 * (x4 : Int))] ag_Blk rfl rfl V20_109.agg (r_stA [.int .i64 ((x0 % 4 : Nat) : Int), .int .i64 ((1 + x1 % 2 : Nat) : Int), .int .i64 (2 * (x2 : Int)), .int .i64 (2 * (x3 : Int) + 1), .int .i64 (2 * (x4 : Int))] ag_Blk rfl rfl rfl rfl (by simp [isOne]) V10_116 fun h118 V10_119 U120 => ?_)
      have X121 := X111.thenUpd U120 (fun k hk => by have hk2 : k = bq8 := hk; omega)
      have sz122 := U120.1
      have Y123 := Y117.thenUpd U120 (fun k hk => by have hk2 : k = bq8 := hk; omega)
      have V3_124 := V3.ext Y123
      have Y125 := Y115.thenUpd U120 (fun k hk => by have hk2 : k = bq8 := hk; omega)
      have V20_126 := V20_109.upd U120 (fun he => (Ne.symm nebq8bq18) (he : bq18 = bq8))
      refine r_nil (q_t ?_)
      refine w_ret ?_
      refine ⟨_, retV_c ag_Blk rfl rfl V10_119, ?_⟩
      refine ⟨X121, ?_⟩
      unfold mkB
      first
      | (rw [if_pos (by omega), if_pos (by omega)]; first | rfl | (have h1 : x1 % 2 = 0 := (by omega); rw [h1]; rfl))
      | (rw [if_pos (by omega), if_neg (by omega)]; first | rfl | (have h1 : x1 % 2 = 0 := (by omega); rw [h1]; rfl))
      | (rw [if_neg (by omega)]; have h1 : x1 % 2 = 1 := (by omega); rw [h1]; rfl)
    · skip
      refine r_as (r_nil (q_t ?_))
      refine w_false rfl ?_
      refine w_seq ?_
      refine w_reg ?_
      refine r_fo (fs := 1) fd_Blk1 (by kernel_rfl) (by decide) rfl (r_stB [.int .i64 ((x0 % 4 : Nat) : Int), .int .i64 1, .int .i64 (x2 : Int), .int .i64 (x3 : Int), .int .i64 (x4 : Int)] na_int rfl (show _ = .int .i64 1 from rfl) rfl V20_31 (Nat.le_of_ble_eq_true rfl) rfl fun h127 V20_128 U129 => ?_)
      have X130 := X33.thenUpd U129 (fun k hk => by have hk2 : k = bq18 := hk; omega)
      have sz131 := U129.1
      have Y132 := Y35.thenUpd U129 (fun k hk => by have hk2 : k = bq18 := hk; omega)
      have V3_133 := V3_16.ext Y132
      have Y134 := Y37.thenUpd U129 (fun k hk => by have hk2 : k = bq18 := hk; omega)
      have V10_135 := V10.ext Y132
      have Y136 := Y39.thenUpd U129 (fun k hk => by have hk2 : k = bq18 := hk; omega)
      refine r_fo (fs := 1) fd_Blk3 (by kernel_rfl) (by decide) rfl (r_stB [.int .i64 ((x0 % 4 : Nat) : Int), .int .i64 1, .int .i64 (x2 : Int), .int .i64 0, .int .i64 (x4 : Int)] na_i64 rfl (show _ = .int .i64 0 from rfl) rfl V20_128 (Nat.le_of_ble_eq_true rfl) rfl fun h137 V20_138 U139 => ?_)
      have X140 := X130.thenUpd U139 (fun k hk => by have hk2 : k = bq18 := hk; omega)
      have sz141 := U139.1
      have Y142 := Y132.thenUpd U139 (fun k hk => by have hk2 : k = bq18 := hk; omega)
      have V3_143 := V3_16.ext Y142
      have Y144 := Y134.thenUpd U139 (fun k hk => by have hk2 : k = bq18 := hk; omega)
      have V10_145 := V10.ext Y142
      have Y146 := Y136.thenUpd U139 (fun k hk => by have hk2 : k = bq18 := hk; omega)
      refine r_fo (fs := 1) fd_Blk4 (by kernel_rfl) (by decide) rfl (r_stB [.int .i64 ((x0 % 4 : Nat) : Int), .int .i64 1, .int .i64 (x2 : Int), .int .i64 0, .int .i64 0] na_i64 rfl (show _ = .int .i64 0 from rfl) rfl V20_138 (Nat.le_of_ble_eq_true rfl) rfl fun h147 V20_148 U149 => ?_)
      have X150 := X140.thenUpd U149 (fun k hk => by have hk2 : k = bq18 := hk; omega)
      have sz151 := U149.1
      have Y152 := Y142.thenUpd U149 (fun k hk => by have hk2 : k = bq18 := hk; omega)
      have V3_153 := V3_16.ext Y152
      have Y154 := Y144.thenUpd U149 (fun k hk => by have hk2 : k = bq18 := hk; omega)
      have V10_155 := V10.ext Y152
      have Y156 := Y146.thenUpd U149 (fun k hk => by have hk2 : k = bq18 := hk; omega)
      refine r_nil (q_t ?_)
      refine w_seq ?_
      refine w_reg ?_
      refine r_fo (fs := 1) fd_Blk2 (by kernel_rfl) (by decide) rfl (r_ld na_i64 rfl (V20_148.cell (i := 2) rfl) (r_mv (r_remp rfl rfl (by omega) (by omega) (r_eql rfl rfl (fun hc4 => ?_) (fun hc4 => ?_)))))   -- t32 := binOp eql 2 t31 0:i64 2
      · skip
        refine r_nil (q_t ?_)
        refine w_true rfl ?_
        refine w_reg ?_
        refine r_fo (fs := 1) fd_Blk2 (by kernel_rfl) (by decide) rfl (r_ld na_i64 rfl (V20_148.cell (i := 2) rfl) (r_addb rfl rfl (by omega) (by omega) (r_fo (fs := 1) fd_Blk2 (by kernel_rfl) (by decide) rfl (r_stB [.int .i64 ((x0 % 4 : Nat) : Int), .int .i64 1, .int .i64 ((x2 : Int) + 1), .int .i64 0, .int .i64 0] na_i64 rfl (show _ = .int .i64 ((x2 : Int) + 1) from rfl) rfl V20_148 (Nat.le_of_ble_eq_true rfl) rfl fun h157 V20_158 U159 => ?_))))
        have X160 := X150.thenUpd U159 (fun k hk => by have hk2 : k = bq18 := hk; omega)
        have sz161 := U159.1
        have Y162 := Y152.thenUpd U159 (fun k hk => by have hk2 : k = bq18 := hk; omega)
        have V3_163 := V3_16.ext Y162
        have Y164 := Y154.thenUpd U159 (fun k hk => by have hk2 : k = bq18 := hk; omega)
        have V10_165 := V10.ext Y162
        have Y166 := Y156.thenUpd U159 (fun k hk => by have hk2 : k = bq18 := hk; omega)
        refine r_nil (q_b (q_t ?_))
        refine w_seq ?_
        refine w_reg ?_
        refine r_ldA [.int .i64 ((x0 % 4 : Nat) : Int), .int .i64 1, .int .i64 ((x2 : Int) + 1), .int .i64 0, .int .i64 0] ag_Blk rfl rfl V20_158.agg (r_stA [.int .i64 ((x0 % 4 : Nat) : Int), .int .i64 1, .int .i64 ((x2 : Int) + 1), .int .i64 0, .int .i64 0] ag_Blk rfl rfl rfl rfl (by simp [isOne]) V10_165 fun h167 V10_168 U169 => ?_)
        have X170 := X160.thenUpd U169 (fun k hk => by have hk2 : k = bq8 := hk; omega)
        have sz171 := U169.1
        have Y172 := Y166.thenUpd U169 (fun k hk => by have hk2 : k = bq8 := hk; omega)
        have V3_173 := V3.ext Y172
        have Y174 := Y164.thenUpd U169 (fun k hk => by have hk2 : k = bq8 := hk; omega)
        have V20_175 := V20_158.upd U169 (fun he => (Ne.symm nebq8bq18) (he : bq18 = bq8))
        refine r_nil (q_t ?_)
        refine w_ret ?_
        refine ⟨_, retV_c ag_Blk rfl rfl V10_168, ?_⟩
        refine ⟨X170, ?_⟩
        unfold mkB
        first
        | (rw [if_pos (by omega), if_pos (by omega)]; first | rfl | (have h1 : x1 % 2 = 0 := (by omega); rw [h1]; rfl))
        | (rw [if_pos (by omega), if_neg (by omega)]; first | rfl | (have h1 : x1 % 2 = 0 := (by omega); rw [h1]; rfl))
        | (rw [if_neg (by omega)]; have h1 : x1 % 2 = 1 := (by omega); rw [h1]; rfl)
      · skip
        refine r_nil (q_t ?_)
        refine w_false rfl ?_
        refine w_skip (q_b (q_t ?_))
        refine w_seq ?_
        refine w_reg ?_
        refine r_ldA [.int .i64 ((x0 % 4 : Nat) : Int), .int .i64 1, .int .i64 (x2 : Int), .int .i64 0, .int .i64 0] ag_Blk rfl rfl V20_148.agg (r_stA [.int .i64 ((x0 % 4 : Nat) : Int), .int .i64 1, .int .i64 (x2 : Int), .int .i64 0, .int .i64 0] ag_Blk rfl rfl rfl rfl (by simp [isOne]) V10_155 fun h176 V10_177 U178 => ?_)
        have X179 := X150.thenUpd U178 (fun k hk => by have hk2 : k = bq8 := hk; omega)
        have sz180 := U178.1
        have Y181 := Y156.thenUpd U178 (fun k hk => by have hk2 : k = bq8 := hk; omega)
        have V3_182 := V3.ext Y181
        have Y183 := Y154.thenUpd U178 (fun k hk => by have hk2 : k = bq8 := hk; omega)
        have V20_184 := V20_148.upd U178 (fun he => (Ne.symm nebq8bq18) (he : bq18 = bq8))
        refine r_nil (q_t ?_)
        refine w_ret ?_
        refine ⟨_, retV_c ag_Blk rfl rfl V10_177, ?_⟩
        refine ⟨X179, ?_⟩
        unfold mkB
        first
        | (rw [if_pos (by omega), if_pos (by omega)]; first | rfl | (have h1 : x1 % 2 = 0 := (by omega); rw [h1]; rfl))
        | (rw [if_pos (by omega), if_neg (by omega)]; first | rfl | (have h1 : x1 % 2 = 0 := (by omega); rw [h1]; rfl))
        | (rw [if_neg (by omega)]; have h1 : x1 % 2 = 1 := (by omega); rw [h1]; rfl)

theorem r_incB {P : Program} {B : Heap → Prop} {st : Bool} {ops : Array Oper} {rest : List Oper} {e : Env} {h : Heap} {K : Env → Heap → Prop} {d : Nat} {ty : TypeId} {pos : String} {af : Array Edge} {x : Operand} {t t2 : TypeId} {i : Nat} (hx : e.ev x = .int .i64 (i : Int)) (hi : i < 9223372036854775807) (H : RL P B st ops rest (e.set d (.int .i64 ((i + 1 : Nat) : Int))) h K) :
    RL P B st ops (⟨some d, .binOp .add t x (.const (.int .i64 1)) t2, ty, pos, af, none⟩ :: rest) e h K := by
  refine r_add hx rfl ?_
  have : IntKind.i64.wrap ((i : Int) + 1) = ((i + 1 : Nat) : Int) := by rw [IntKind.wrap_i64]; omega
  rw [this]
  exact H
theorem Blocks_ok {h : Heap} {vX : Value} {p : Int} {Xs : List Q5} {most : Nat} (HX : SlK h 5 vX (Xs.map q5V)) (hX : ∀ q ∈ Xs, q.I) (hn : Xs.length ≤ 9223372036854775807) (hp : 2 ≤ p) (hm : most ≤ 50) : CallH Tryd.prog 20 #[vX, .int .i64 p, .int .i64 (most : Int)] h fun x h' => Ext h h' ∧ ∃ Bs, GroK h' 41 5 (Array.size h) x (Bs.map blkV) ∧ Made p most Bs := by
  refine calls_of_W (l := [_, _, _]) mx Tryd.func20 rfl rfl rfl rfl rfl (by kernel_rfl) ?_
  refine w_seq ?_
  refine w_reg ?_
  refine r_as (r_nil (q_t ?_))
  refine w_seq ?_
  refine w_reg ?_
  refine r_as (r_nil (q_t ?_))
  refine w_seq ?_
  refine w_seq ?_
  refine w_reg ?_
  refine r_mv (r_lenKm sl_A5L rfl HX (r_mv (r_nil (q_t ?_))))
  refine w_block ?_
  refine w_loop 17592186037888 (fun y : Nat × Value × List Blk => [(13, .int .i64 (y.1 : Int)), (7, y.2.1)]) (fun k y h' => k = Xs.length - y.1 ∧ y.1 ≤ Xs.length ∧ Ext h h' ∧ GroK h' 41 5 (Array.size h) y.2.1 (y.2.2.map blkV) ∧ MadeTo p y.2.2 ∧ y.2.2.length ≤ most) (by kernel_rfl) Xs.length (0, .slice none 0 0, []) ?_ ⟨rfl, rfl, trivial⟩ ?_
  · exact ⟨rfl, Nat.zero_le _, (Ext.refl _), groK_nil _ _ _ _, made_nil _, Nat.zero_le _⟩
  rintro k ⟨i, lv, Bs⟩ s1 hq ⟨rfl, hi, XQ, HG, hmade, hlm⟩
  dsimp only at hi HG hmade hlm ⊢
  have szq := XQ.1
  refine w_seq ?_
  refine w_reg ?_
  refine r_lss rfl rfl (fun hc1 => ?_) (fun hc1 => ?_)   -- t14 := binOp lss 3 t13 t12 3
  · skip
    refine r_nil (q_t ?_)
    refine w_seq ?_
    refine w_true rfl ?_
    refine w_skip (q_t ?_)
    refine w_seq ?_
    refine w_block ?_
    refine w_seq ?_
    obtain ⟨q, hq0⟩ : ∃ q, Xs[i]? = some q := ⟨_, List.getElem?_eq_getElem (by omega)⟩
    have hqi := hX q (List.mem_of_getElem? hq0)
    have hmk := wf_mkB (x0 := q.a) (x1 := q.b) (x2 := q.c) (x3 := q.d) (x4 := q.e) hp hqi.2.2.1 (e := 0) ⟨by omega, by omega⟩
    refine w_reg ?_
    refine r_ixK sl_A5L rfl (HX.ext XQ) rfl (get_q5 hq0) fun aq1 oq1 hkq1 => ?_
    refine r_ldA [.int .u8 (q.a : Int), .int .u8 (q.b : Int), .int .u8 (q.c : Int), .int .u8 (q.d : Int), .int .u8 (q.e : Int)] ag_A5 rfl rfl (fun i u hu => by rw [addr_add]; exact hkq1 i u hu) ?_
    refine r_allocB [.int .u8 0, .int .u8 0, .int .u8 0, .int .u8 0, .int .u8 0] ze_A5 rfl (fun _ => trivial) fun bq2 h3 V4 E5 hb6 hl7 => ?_
    have hzbq2 : Array.size h ≤ bq2 := Nat.le_trans XQ.1 hb6
    have avHGbq2 : ∀ g, Value.ownBlock lv = some g → g < bq2 := fun g hg => by have := (HG.blk g hg).2; omega
    have sz8 := E5.1
    have X9 := XQ.trans E5
    have HG_10 := HG.ext E5
    refine r_stA [.int .u8 (q.a : Int), .int .u8 (q.b : Int), .int .u8 (q.c : Int), .int .u8 (q.d : Int), .int .u8 (q.e : Int)] ag_A5 rfl rfl rfl rfl (by simp [isOne]) V4 fun h11 V4_12 U13 => ?_
    have X14 := X9.thenUpd U13 (fun k hk => by have hk2 : k = bq2 := hk; omega)
    have sz15 := U13.1
    have Y16 := E5.thenUpd U13 (fun k hk => by have hk2 : k = bq2 := hk; omega)
    have HG_17 := HG.ext Y16
    refine r_nil (q_t ?_)
    refine w_seq ?_
    refine w_seq ?_
    refine w_reg ?_
    refine r_mv (r_lenKm sl_BL rfl HG_17.sl ?_)
    refine r_mv (r_geq rfl rfl (fun hc2 => ?_) (fun hc2 => ?_))   -- t20 := binOp geq 3 t18 t19 3
    · skip
      refine r_nil (q_t ?_)
      refine w_true rfl ?_
      refine w_exit (q_tx (q_bn (by decide) (q_tx (q_tx (q_bx (q_t ?_))))))
      refine w_seq ?_
      refine w_reg ?_
      refine r_mv (r_as (r_nil (q_t ?_)))
      refine w_ret ?_
      refine ⟨_, retV_1, ?_⟩
      exact ⟨X14, Bs, HG_17, ⟨fun b hb => (hmade.1 b hb).1, hmade.2, hlm, fun b hb => ⟨(hmade.1 b hb).2.1, (hmade.1 b hb).2.2.1, by have := (hmade.1 b hb).2.2.2; omega⟩⟩⟩
    · skip
      refine r_nil (q_t ?_)
      refine w_false rfl ?_
      refine w_skip (q_t ?_)
      refine w_seq ?_
      refine w_reg ?_
      refine r_ldA [.int .u8 (q.a : Int), .int .u8 (q.b : Int), .int .u8 (q.c : Int), .int .u8 (q.d : Int), .int .u8 (q.e : Int)] ag_A5 rfl rfl V4_12.agg (r_mv (r_call trivial rfl (Block_ok q.a q.b q.c q.d q.e hqi.1 hqi.2.1 hqi.2.2.1 hqi.2.2.2.1 hqi.2.2.2.2 hp _) fun x18 h19 hk => ?_))
      obtain ⟨E20, rfl⟩ := hk
      refine ⟨trivial, ?_⟩
      have sz21 := E20.1
      have X22 := X14.trans E20
      have HG_23 := HG_17.ext E20
      have V4_24 := V4_12.ext E20
      have Y25 := Y16.trans E20
      refine r_allocB [.int .i64 0, .int .i64 0, .int .i64 0, .int .i64 0, .int .i64 0] ze_Blk rfl (fun _ => trivial) fun bq26 h27 V28 E29 hb30 hl31 => ?_
      have hzbq26 : Array.size h ≤ bq26 := Nat.le_trans X22.1 hb30
      have avHGbq26 : ∀ g, Value.ownBlock lv = some g → g < bq26 := fun g hg => by have := (HG_23.blk g hg).2; omega
      have nebq2bq26 : bq2 ≠ bq26 := by have := V4_24.lt; omega
      have sz32 := E29.1
      have X33 := X22.trans E29
      have HG_34 := HG_23.ext E29
      have V4_35 := V4_24.ext E29
      have Y36 := Y25.trans E29
      refine r_stA [.int .i64 (mkB q.a q.b q.c q.d q.e p).exp, .int .i64 (mkB q.a q.b q.c q.d q.e p).size, .int .i64 (mkB q.a q.b q.c q.d q.e p).a, .int .i64 (mkB q.a q.b q.c q.d q.e p).b, .int .i64 (mkB q.a q.b q.c q.d q.e p).c] ag_Blk rfl rfl rfl rfl (by simp [isOne]) V28 fun h37 V28_38 U39 => ?_
      have X40 := X33.thenUpd U39 (fun k hk => by have hk2 : k = bq26 := hk; omega)
      have sz41 := U39.1
      have Y42 := E29.thenUpd U39 (fun k hk => by have hk2 : k = bq26 := hk; omega)
      have HG_43 := HG_23.ext Y42
      have V4_44 := V4_24.ext Y42
      have Y45 := Y36.thenUpd U39 (fun k hk => by have hk2 : k = bq26 := hk; omega)
      refine r_nil (q_t ?_)
      refine w_seq ?_
      refine w_seq ?_
      refine w_reg ?_
      refine r_mv (r_lenKm sl_BL rfl HG_43.sl ?_)
      refine r_gtr rfl rfl (fun hc3 => ?_) (fun hc3 => ?_)   -- t26 := binOp gtr 3 t25 0:i64 3
      · skip
        refine r_nil (q_t ?_)
        refine w_true rfl ?_
        refine w_draw (by kernel_rfl) ?_
        refine r_mv (r_mv (r_lenKm sl_BL rfl HG_43.sl ?_))
        refine r_subb rfl rfl (by omega) (by omega) ?_
        rw [show ((Bs.length : Nat) : Int) - 1 = ((Bs.length - 1 : Nat) : Int) by omega]
        obtain ⟨bl, hbl⟩ : ∃ bl, Bs[Bs.length - 1]? = some bl := ⟨_, List.getElem?_eq_getElem (by omega)⟩
        have hbe := hmade.1 bl (List.mem_of_getElem? hbl)
        have hbe0 := hbe.1.1
        refine r_ixK sl_BL rfl HG_43.sl rfl (get_blk hbl) fun aL oL hkL => ?_
        refine r_fo (fs := 1) fd_Blk0 (by kernel_rfl) (by decide) rfl (r_ld na_int rfl (hkL 0 _ rfl) (r_fo (fs := 1) fd_Blk0 (by kernel_rfl) (by decide) rfl (r_ld na_int rfl (V28_38.cell (i := 0) rfl) (r_remp rfl rfl (by have := hmk.2.2.2.1; omega) (by omega) ?_))))
        have hr2 : 0 ≤ (mkB q.a q.b q.c q.d q.e p).exp % 2 ∧ (mkB q.a q.b q.c q.d q.e p).exp % 2 ≤ 1 := by omega
        refine r_addb rfl rfl (by have := hbe0.1; omega) (by have := hbe0.2; omega) ?_
        refine r_fo (fs := 1) fd_Blk0 (by kernel_rfl) (by decide) rfl (r_stB [.int .i64 (bl.exp + (mkB q.a q.b q.c q.d q.e p).exp % 2), .int .i64 (mkB q.a q.b q.c q.d q.e p).size, .int .i64 (mkB q.a q.b q.c q.d q.e p).a, .int .i64 (mkB q.a q.b q.c q.d q.e p).b, .int .i64 (mkB q.a q.b q.c q.d q.e p).c] na_int rfl (show _ = .int .i64 (bl.exp + (mkB q.a q.b q.c q.d q.e p).exp % 2) from rfl) rfl V28_38 (Nat.le_of_ble_eq_true rfl) rfl fun h46 V28_47 U48 => ?_)
        have X49 := X40.thenUpd U48 (fun k hk => by have hk2 : k = bq26 := hk; omega)
        have sz50 := U48.1
        have Y51 := Y42.thenUpd U48 (fun k hk => by have hk2 : k = bq26 := hk; omega)
        have HG_52 := HG_23.ext Y51
        have V4_53 := V4_24.ext Y51
        have Y54 := Y45.thenUpd U48 (fun k hk => by have hk2 : k = bq26 := hk; omega)
        refine r_nil (q_t ?_)
        refine w_reg ?_
        have hmn := made_snoc (e := bl.exp + (mkB q.a q.b q.c q.d q.e p).exp % 2) hmade hp hqi (by omega) (fun x hx => by rw [List.getLast?_eq_getElem?, hbl] at hx; injection hx with hx; subst hx; omega) (fun he => by rw [he] at hbl; simp at hbl)
        refine r_mv ?_
        refine r_ldA [.int .i64 (bl.exp + (mkB q.a q.b q.c q.d q.e p).exp % 2), .int .i64 (mkB q.a q.b q.c q.d q.e p).size, .int .i64 (mkB q.a q.b q.c q.d q.e p).a, .int .i64 (mkB q.a q.b q.c q.d q.e p).b, .int .i64 (mkB q.a q.b q.c q.d q.e p).c] ag_Blk rfl rfl V28_47.agg (r_pushK [.int .i64 (bl.exp + (mkB q.a q.b q.c q.d q.e p).exp % 2), .int .i64 (mkB q.a q.b q.c q.d q.e p).size, .int .i64 (mkB q.a q.b q.c q.d q.e p).a, .int .i64 (mkB q.a q.b q.c q.d q.e p).b, .int .i64 (mkB q.a q.b q.c q.d q.e p).c] sl_BL ze_Blk rfl (fun _ => trivial) (fun _ => rfl) rfl rfl (by simp [isOne]) (by decide) (by decide) HG_52 (by omega) (by decide) (by rw [List.length_map]; omega) fun p55 lv56 h57 HG_58 U59 bk60 => ?_)
        have sz62 := U59.1
        have X61 := X49.thenUpd U59 (fun k hk => by have := HG_52.blk k hk; omega)
        have V4_63 := V4_53.upd U59 (fun hs => by have hq := HG_52.blk _ hs; have hq2 : Value.ownBlock lv = some bq2 := hs; first | omega | (have := avHGbq2 _ hs; omega))
        have V28_64 := V28_47.upd U59 (fun hs => by have hq := HG_52.blk _ hs; have hq2 : Value.ownBlock lv = some bq26 := hs; first | omega | (have := avHGbq26 _ hs; omega))
        refine r_as (r_nil (q_b (q_t ?_)))
        refine w_reg ?_
        refine r_incB rfl (by omega) (r_mv (r_nil (q_t ?_)))
        exact ⟨Xs.length - (i + 1), (i + 1, _, Bs ++ [{ mkB q.a q.b q.c q.d q.e p with exp := bl.exp + (mkB q.a q.b q.c q.d q.e p).exp % 2 }]), by first | omega | (dsimp only; omega), ⟨rfl, by first | omega | (dsimp only; omega), X61, by rw [List.map_append]; exact HG_58, hmn, by rw [List.length_append, List.length_singleton]; omega⟩, rfl, rfl, trivial⟩
      · skip
        refine r_nil (q_t ?_)
        refine w_false rfl ?_
        refine w_skip (q_t ?_)
        refine w_reg ?_
        have hmn := made_snoc (e := (mkB q.a q.b q.c q.d q.e p).exp) hmade hp hqi (by omega) (fun x hx => by have : Bs = [] := List.length_eq_zero_iff.1 (by omega); rw [this] at hx; cases hx) (fun _ => hmk.2.2.2)
        refine r_mv ?_
        refine r_ldA [.int .i64 (mkB q.a q.b q.c q.d q.e p).exp, .int .i64 (mkB q.a q.b q.c q.d q.e p).size, .int .i64 (mkB q.a q.b q.c q.d q.e p).a, .int .i64 (mkB q.a q.b q.c q.d q.e p).b, .int .i64 (mkB q.a q.b q.c q.d q.e p).c] ag_Blk rfl rfl V28_38.agg (r_pushK [.int .i64 (mkB q.a q.b q.c q.d q.e p).exp, .int .i64 (mkB q.a q.b q.c q.d q.e p).size, .int .i64 (mkB q.a q.b q.c q.d q.e p).a, .int .i64 (mkB q.a q.b q.c q.d q.e p).b, .int .i64 (mkB q.a q.b q.c q.d q.e p).c] sl_BL ze_Blk rfl (fun _ => trivial) (fun _ => rfl) rfl rfl (by simp [isOne]) (by decide) (by decide) HG_43 (by omega) (by decide) (by rw [List.length_map]; omega) fun p65 lv66 h67 HG_68 U69 bk70 => ?_)
        have sz72 := U69.1
        have X71 := X40.thenUpd U69 (fun k hk => by have := HG_43.blk k hk; omega)
        have V4_73 := V4_44.upd U69 (fun hs => by have hq := HG_43.blk _ hs; have hq2 : Value.ownBlock lv = some bq2 := hs; first | omega | (have := avHGbq2 _ hs; omega))
        have V28_74 := V28_38.upd U69 (fun hs => by have hq := HG_43.blk _ hs; have hq2 : Value.ownBlock lv = some bq26 := hs; first | omega | (have := avHGbq26 _ hs; omega))
        refine r_as (r_nil (q_b (q_t ?_)))
        refine w_reg ?_
        refine r_incB rfl (by omega) (r_mv (r_nil (q_t ?_)))
        exact ⟨Xs.length - (i + 1), (i + 1, _, Bs ++ [{ mkB q.a q.b q.c q.d q.e p with exp := (mkB q.a q.b q.c q.d q.e p).exp }]), by first | omega | (dsimp only; omega), ⟨rfl, by first | omega | (dsimp only; omega), X71, by rw [List.map_append]; exact HG_68, hmn, by rw [List.length_append, List.length_singleton]; omega⟩, rfl, rfl, trivial⟩
  · skip
    refine r_nil (q_t ?_)
    refine w_seq ?_
    refine w_false rfl ?_
    refine w_exit (q_tx (q_tx (q_bx (q_t ?_))))
    refine w_seq ?_
    refine w_reg ?_
    refine r_mv (r_as (r_nil (q_t ?_)))
    refine w_ret ?_
    refine ⟨_, retV_1, ?_⟩
    exact ⟨XQ, Bs, HG, ⟨fun b hb => (hmade.1 b hb).1, hmade.2, hlm, fun b hb => ⟨(hmade.1 b hb).2.1, (hmade.1 b hb).2.2.1, by have := (hmade.1 b hb).2.2.2; omega⟩⟩⟩

end Go.Proofs.YtccgaemmdikhcaaDoor
