/-
  jordan.Constituents and the reference's, for every prime and list; the law JordanConstituents. Conditions stand in each statement.
-/
import Derived.Test.YtccgaemmdikhcaaDoorKr
import Derived.Test.YtccgaemmdikhcaaDoorJoG
import Derived.Test.YtccgaemmdikhcaaDoorDy3
import Derived.Test.YtccgaemmdikhcaaDoorK24
import Derived.Test.YtccgaemmdikhcaaDoorJ24
namespace Go.Proofs.YtccgaemmdikhcaaDoor
open Go Go.QF
set_option linter.unusedVariables false
set_option linter.unusedSimpArgs false
set_option maxRecDepth 100000
def PostG (h : Heap) (x : Value) (h' : Heap) (p : Int) (Bs : List Blk) : Prop := Ext h h' ∧ ∃ r, x = .tuple #[r, .bool (lgB p Bs)] ∧ SlK h' 5 r ((conG p Bs).map conV)
theorem postG_no {h h' : Heap} {p : Int} {Bs : List Blk} (X : Ext h h') (hno : ¬ LG p Bs) : PostG h (.tuple #[.slice none 0 0, .bool false]) h' p Bs := by
  refine ⟨X, _, by rw [lgB_f hno], ?_⟩
  unfold conG
  rw [lgB_f hno]
  exact slK_nil _ _
theorem postG_yes {h h' : Heap} {p : Int} {Bs : List Blk} {r : Value} (X : Ext h h') (hy : LG p Bs) (HS : SlK h' 5 r ((consTo (incG p) Bs Bs.length).map conV)) : PostG h (.tuple #[r, .bool true]) h' p Bs := by
  refine ⟨X, r, by rw [lgB_t hy], ?_⟩
  unfold conG
  rw [lgB_t hy]
  exact HS
theorem odd_no {p : Int} {Bs : List Blk} (h : oddB p = false) : ¬ LG p Bs := fun hh => by have := oddB_t hh.1; rw [h] at this; cases this
theorem odd_yes {p : Int} (h : oddB p = true) : OddP p ∧ OPr p := ⟨of_oddB h, opr_of ⟨(of_oddB h).1, (of_oddB h).2.2⟩⟩

theorem ConG_ok {h : Heap} {vT vB : Value} {p : Int} {Bs : List Blk} (HF : OffH h) (HBs : SlK h 5 vB (Bs.map blkV)) (hn : Bs.length ≤ 1000) : CallH Tryd.prog 21 #[.agg #[.int .i64 p, vT, vB]] h fun x h' => PostG h x h' p Bs := by
  refine calls_of_W (l := [_]) mx Tryd.func21 rfl rfl rfl rfl rfl (by kernel_rfl) ?_
  refine w_seq ?_
  refine w_reg ?_
  refine r_boxB [.int .i64 p, vT, vB] (fun _ => trivial) rfl rfl fun bq1 h2 V3 E4 hb5 hl6 => ?_
  have hzbq1 : Array.size h ≤ bq1 := hb5
  have sz7 := E4.1
  have Z8 := (Ext.refl h).trans E4
  refine r_as (r_as (r_nil (q_t ?_)))
  refine w_seq ?_
  refine w_seq ?_
  refine w_reg ?_
  refine r_fo (fs := 1) fd_Jor0 (by kernel_rfl) (by decide) rfl (r_ld na_i64 rfl (V3.cell (i := 0) rfl) (r_call trivial rfl (oddG_ok p (HF.ext E4)) fun x9 h2 hk => ?_))
  obtain ⟨rfl, rfl⟩ := hk
  refine ⟨trivial, ?_⟩
  cases hc1 : oddB p
  · skip
    refine r_not rfl (r_mv (r_skip 14 true (by kernel_rfl) rfl rfl (r_skip 14 true (by kernel_rfl) rfl rfl (r_skip 14 true (by kernel_rfl) rfl rfl (r_skip 14 true (by kernel_rfl) rfl rfl (r_pickT rfl (r_mv (r_skip 20 true (by kernel_rfl) rfl rfl (r_skip 20 true (by kernel_rfl) rfl rfl (r_skip 20 true (by kernel_rfl) rfl rfl (r_skip 20 true (by kernel_rfl) rfl rfl (r_pickT rfl (r_nil (q_t ?_))))))))))))))
    refine w_true rfl ?_
    refine w_seq ?_
    refine w_reg ?_
    refine r_as (r_as (r_nil (q_t ?_)))
    refine w_ret (q_tr ?_)
    refine ⟨_, retV_2, ?_⟩
    first
      | exact postG_no E4 (odd_no (by assumption))
      | exact postG_no E4 (fun hh => by have := hh.2.2.2; omega)
      | exact postG_no E4 (fun hh => by obtain ⟨⟨q1, q2⟩, q3, q4, q5, q6⟩ := hh.2.1 b (List.mem_of_getElem? hb); first | omega | exact q6 (tmod_zero.1 (by assumption)))
      | exact postG_no E4 (fun hh => by have := hh.2.2.1 (i - 1) b1 b (by have := (List.getElem?_eq_some_iff.1 hb).1; omega) hb1 (by rw [show i - 1 + 1 = i by omega]; exact hb); omega)
      | (have hil : i = Bs.length := by omega
         exact postG_yes E4 (goodG_all (by rw [← hil]; exact hgood) hod (by omega) (by omega)) (by rw [← hil]; exact HG.sl))
  · skip
    refine r_not rfl (r_mv (r_want 14 false (by kernel_rfl) rfl rfl (r_fo (fs := 1) fd_Jor2 (by kernel_rfl) (by decide) rfl (r_want 14 false (by kernel_rfl) rfl rfl (r_ld na_BL rfl (V3.cell (i := 2) rfl) (r_want 14 false (by kernel_rfl) rfl rfl (r_lenKm sl_BL rfl (HBs.ext E4) (r_want 14 false (by kernel_rfl) rfl rfl (r_lss rfl rfl (fun hc2 => ?_) (fun hc2 => ?_))))))))))   -- t18 := binOp lss 3 t17 1:i64 3   [guard op4 false]
    · skip
      refine r_pickF rfl (r_mv (r_skip 20 true (by kernel_rfl) rfl rfl (r_skip 20 true (by kernel_rfl) rfl rfl (r_skip 20 true (by kernel_rfl) rfl rfl (r_skip 20 true (by kernel_rfl) rfl rfl (r_pickT rfl (r_nil (q_t ?_))))))))
      refine w_true rfl ?_
      refine w_seq ?_
      refine w_reg ?_
      refine r_as (r_as (r_nil (q_t ?_)))
      refine w_ret (q_tr ?_)
      refine ⟨_, retV_2, ?_⟩
      first
        | exact postG_no E4 (odd_no (by assumption))
        | exact postG_no E4 (fun hh => by have := hh.2.2.2; omega)
        | exact postG_no E4 (fun hh => by obtain ⟨⟨q1, q2⟩, q3, q4, q5, q6⟩ := hh.2.1 b (List.mem_of_getElem? hb); first | omega | exact q6 (tmod_zero.1 (by assumption)))
        | exact postG_no E4 (fun hh => by have := hh.2.2.1 (i - 1) b1 b (by have := (List.getElem?_eq_some_iff.1 hb).1; omega) hb1 (by rw [show i - 1 + 1 = i by omega]; exact hb); omega)
        | (have hil : i = Bs.length := by omega
           exact postG_yes E4 (goodG_all (by rw [← hil]; exact hgood) hod (by omega) (by omega)) (by rw [← hil]; exact HG.sl))
    · skip
      refine r_pickF rfl (r_mv (r_want 20 false (by kernel_rfl) rfl rfl (r_fo (fs := 1) fd_Jor2 (by kernel_rfl) (by decide) rfl (r_want 20 false (by kernel_rfl) rfl rfl (r_ld na_BL rfl (V3.cell (i := 2) rfl) (r_want 20 false (by kernel_rfl) rfl rfl (r_lenKm sl_BL rfl (HBs.ext E4) (r_want 20 false (by kernel_rfl) rfl rfl (r_gtr rfl rfl (fun hc3 => ?_) (fun hc3 => ?_))))))))))   -- t24 := binOp gtr 3 t23 8:i64 3   [guard op10 false]
      · skip
        refine r_pickF rfl (r_nil (q_t ?_))
        refine w_true rfl ?_
        refine w_seq ?_
        refine w_reg ?_
        refine r_as (r_as (r_nil (q_t ?_)))
        refine w_ret (q_tr ?_)
        refine ⟨_, retV_2, ?_⟩
        first
          | exact postG_no E4 (odd_no (by assumption))
          | exact postG_no E4 (fun hh => by have := hh.2.2.2; omega)
          | exact postG_no E4 (fun hh => by obtain ⟨⟨q1, q2⟩, q3, q4, q5, q6⟩ := hh.2.1 b (List.mem_of_getElem? hb); first | omega | exact q6 (tmod_zero.1 (by assumption)))
          | exact postG_no E4 (fun hh => by have := hh.2.2.1 (i - 1) b1 b (by have := (List.getElem?_eq_some_iff.1 hb).1; omega) hb1 (by rw [show i - 1 + 1 = i by omega]; exact hb); omega)
          | (have hil : i = Bs.length := by omega
             exact postG_yes E4 (goodG_all (by rw [← hil]; exact hgood) hod (by omega) (by omega)) (by rw [← hil]; exact HG.sl))
      · skip
        refine r_pickF rfl (r_nil (q_t ?_))
        refine w_false rfl ?_
        refine w_skip (q_t ?_)
        refine w_seq ?_
        refine w_reg ?_
        refine r_as (r_nil (q_t ?_))
        refine w_seq ?_
        refine w_seq ?_
        refine w_reg ?_
        refine r_fo (fs := 1) fd_Jor2 (by kernel_rfl) (by decide) rfl (r_ld na_BL rfl (V3.cell (i := 2) rfl) (r_lenKm sl_BL rfl (HBs.ext E4) (r_mv (r_nil (q_t ?_)))))
        refine w_block ?_
        obtain ⟨lo, hlo⟩ : ∃ lo, lo = Array.size h2 := ⟨_, rfl⟩
        have hblo : bq1 < lo := by rw [hlo]; exact V3.lt
        have hhlo : Array.size h ≤ lo := by rw [hlo]; exact E4.1
        obtain ⟨hod, hop⟩ := odd_yes (by assumption)
        have hod1 := hod.1
        have hod2 := hod.2.1
        refine w_loop 2722258935367507707706996859453608821756 (fun y : Nat × Value => [(29, .int .i64 (y.1 : Int)), (4, y.2)]) (fun k y h' => k = Bs.length - y.1 ∧ y.1 ≤ Bs.length ∧ GoodG p Bs y.1 ∧ Ext h h' ∧ BoxH 31 h' bq1 [.int .i64 p, vT, vB] ∧ GroK h' 44 5 lo y.2 ((consTo (incG p) Bs y.1).map conV) ∧ lo ≤ Array.size h') (by kernel_rfl) Bs.length (0, .slice none 0 0) ?_ ⟨rfl, rfl, trivial⟩ ?_
        · exact ⟨rfl, Nat.zero_le _, goodG_zero _ _, E4, V3, groK_nil _ _ _ _, by rw [hlo]; exact Nat.le_refl _⟩
        rintro k ⟨i, lv⟩ s1 hq ⟨rfl, hi, hgood, XQ, VQ, HG, hlq⟩
        dsimp only at hi hgood HG ⊢
        have hcl8 := consTo_len (incG p) Bs i
        refine w_seq ?_
        refine w_reg ?_
        refine r_lss rfl rfl (fun hc4 => ?_) (fun hc4 => ?_)   -- t30 := binOp lss 3 t29 t28 3
        · skip
          refine r_nil (q_t ?_)
          refine w_seq ?_
          refine w_true rfl ?_
          refine w_skip (q_t ?_)
          refine w_seq ?_
          refine w_block ?_
          refine w_seq ?_
          obtain ⟨b, hb⟩ : ∃ b, Bs[i]? = some b := ⟨_, List.getElem?_eq_getElem (by omega)⟩
          refine w_reg ?_
          refine r_mv (r_ixK sl_BL rfl (HBs.ext XQ) rfl (get_blk hb) fun aq10 oq10 hkq10 => ?_)
          refine r_ldA [.int .i64 b.exp, .int .i64 b.size, .int .i64 b.a, .int .i64 b.b, .int .i64 b.c] ag_Blk rfl rfl (fun i u hu => by rw [addr_add]; exact hkq10 i u hu) ?_
          refine r_allocB [.int .i64 0, .int .i64 0, .int .i64 0, .int .i64 0, .int .i64 0] ze_Blk rfl (fun _ => trivial) fun bq11 h12 V13 E14 hb15 hl16 => ?_
          have hzbq11 : Array.size h ≤ bq11 := Nat.le_trans XQ.1 hb15
          have nebq1bq11 : bq1 ≠ bq11 := by have := VQ.lt; omega
          have avHGbq11 : ∀ g, Value.ownBlock lv = some g → g < bq11 := fun g hg => by have := (HG.blk g hg).2; omega
          have sz17 := E14.1
          have X18 := XQ.trans E14
          have V3_19 := VQ.ext E14
          have HG_20 := HG.ext E14
          refine r_as (r_stA [.int .i64 b.exp, .int .i64 b.size, .int .i64 b.a, .int .i64 b.b, .int .i64 b.c] ag_Blk rfl rfl rfl rfl (by simp [isOne]) V13 fun h21 V13_22 U23 => ?_)
          have X24 := X18.thenUpd U23 (fun k hk => by have hk2 : k = bq11 := hk; omega)
          have sz25 := U23.1
          have Y26 := E14.thenUpd U23 (fun k hk => by have hk2 : k = bq11 := hk; omega)
          have V3_27 := VQ.ext Y26
          have HG_28 := HG.ext Y26
          refine r_nil (q_t ?_)
          refine w_seq ?_
          refine w_seq ?_
          refine w_reg ?_
          refine r_fo (fs := 1) fd_Blk1 (by kernel_rfl) (by decide) rfl (r_ld na_int rfl (V13_22.cell (i := 1) rfl) (r_neq rfl rfl (fun hc5 => ?_) (fun hc5 => ?_)))   -- t36 := binOp neq 3 t35 1:i64 3
          · skip
            refine r_mv (r_skip 37 true (by kernel_rfl) rfl rfl (r_skip 37 true (by kernel_rfl) rfl rfl (r_skip 37 true (by kernel_rfl) rfl rfl (r_pickT rfl (r_mv (r_skip 42 true (by kernel_rfl) rfl rfl (r_skip 42 true (by kernel_rfl) rfl rfl (r_skip 42 true (by kernel_rfl) rfl rfl (r_pickT rfl (r_mv (r_skip 47 true (by kernel_rfl) rfl rfl (r_skip 47 true (by kernel_rfl) rfl rfl (r_skip 47 true (by kernel_rfl) rfl rfl (r_pickT rfl (r_mv (r_skip 52 true (by kernel_rfl) rfl rfl (r_skip 52 true (by kernel_rfl) rfl rfl (r_skip 52 true (by kernel_rfl) rfl rfl (r_pickT rfl (r_mv (r_skip 57 true (by kernel_rfl) rfl rfl (r_skip 57 true (by kernel_rfl) rfl rfl (r_skip 57 true (by kernel_rfl) rfl rfl (r_skip 57 true (by kernel_rfl) rfl rfl (r_skip 57 true (by kernel_rfl) rfl rfl (r_skip 57 true (by kernel_rfl) rfl rfl (r_pickT rfl (r_nil (q_t ?_)))))))))))))))))))))))))))))
            refine w_true rfl ?_
            refine w_seq ?_
            refine w_reg ?_
            refine r_as (r_as (r_nil (q_t ?_)))
            refine w_ret (q_tr (q_br (q_tr (q_tr (q_br (q_tr ?_))))))
            refine ⟨_, retV_2, ?_⟩
            first
              | exact postG_no X24 (odd_no (by assumption))
              | exact postG_no X24 (fun hh => by have := hh.2.2.2; omega)
              | exact postG_no X24 (fun hh => by obtain ⟨⟨q1, q2⟩, q3, q4, q5, q6⟩ := hh.2.1 b (List.mem_of_getElem? hb); first | omega | exact q6 (tmod_zero.1 (by assumption)))
              | exact postG_no X24 (fun hh => by have := hh.2.2.1 (i - 1) b1 b (by have := (List.getElem?_eq_some_iff.1 hb).1; omega) hb1 (by rw [show i - 1 + 1 = i by omega]; exact hb); omega)
              | (have hil : i = Bs.length := by omega
                 exact postG_yes X24 (goodG_all (by rw [← hil]; exact hgood) hod (by omega) (by omega)) (by rw [← hil]; exact HG.sl))
          · skip
            refine r_mv (r_want 37 false (by kernel_rfl) rfl rfl (r_fo (fs := 1) fd_Blk0 (by kernel_rfl) (by decide) rfl (r_want 37 false (by kernel_rfl) rfl rfl (r_ld na_int rfl (V13_22.cell (i := 0) rfl) (r_want 37 false (by kernel_rfl) rfl rfl (r_lss rfl rfl (fun hc6 => ?_) (fun hc6 => ?_)))))))   -- t40 := binOp lss 3 t39 0:i64 3   [guard op3 false]
            · skip
              refine r_pickF rfl (r_mv (r_skip 42 true (by kernel_rfl) rfl rfl (r_skip 42 true (by kernel_rfl) rfl rfl (r_skip 42 true (by kernel_rfl) rfl rfl (r_pickT rfl (r_mv (r_skip 47 true (by kernel_rfl) rfl rfl (r_skip 47 true (by kernel_rfl) rfl rfl (r_skip 47 true (by kernel_rfl) rfl rfl (r_pickT rfl (r_mv (r_skip 52 true (by kernel_rfl) rfl rfl (r_skip 52 true (by kernel_rfl) rfl rfl (r_skip 52 true (by kernel_rfl) rfl rfl (r_pickT rfl (r_mv (r_skip 57 true (by kernel_rfl) rfl rfl (r_skip 57 true (by kernel_rfl) rfl rfl (r_skip 57 true (by kernel_rfl) rfl rfl (r_skip 57 true (by kernel_rfl) rfl rfl (r_skip 57 true (by kernel_rfl) rfl rfl (r_skip 57 true (by kernel_rfl) rfl rfl (r_pickT rfl (r_nil (q_t ?_)))))))))))))))))))))))))
              refine w_true rfl ?_
              refine w_seq ?_
              refine w_reg ?_
              refine r_as (r_as (r_nil (q_t ?_)))
              refine w_ret (q_tr (q_br (q_tr (q_tr (q_br (q_tr ?_))))))
              refine ⟨_, retV_2, ?_⟩
              first
                | exact postG_no X24 (odd_no (by assumption))
                | exact postG_no X24 (fun hh => by have := hh.2.2.2; omega)
                | exact postG_no X24 (fun hh => by obtain ⟨⟨q1, q2⟩, q3, q4, q5, q6⟩ := hh.2.1 b (List.mem_of_getElem? hb); first | omega | exact q6 (tmod_zero.1 (by assumption)))
                | exact postG_no X24 (fun hh => by have := hh.2.2.1 (i - 1) b1 b (by have := (List.getElem?_eq_some_iff.1 hb).1; omega) hb1 (by rw [show i - 1 + 1 = i by omega]; exact hb); omega)
                | (have hil : i = Bs.length := by omega
                   exact postG_yes X24 (goodG_all (by rw [← hil]; exact hgood) hod (by omega) (by omega)) (by rw [← hil]; exact HG.sl))
            · skip
              refine r_pickF rfl (r_mv (r_want 42 false (by kernel_rfl) rfl rfl (r_fo (fs := 1) fd_Blk0 (by kernel_rfl) (by decide) rfl (r_want 42 false (by kernel_rfl) rfl rfl (r_ld na_int rfl (V13_22.cell (i := 0) rfl) (r_want 42 false (by kernel_rfl) rfl rfl (r_gtr rfl rfl (fun hc7 => ?_) (fun hc7 => ?_))))))))   -- t45 := binOp gtr 3 t44 60:i64 3   [guard op8 false]
              · skip
                refine r_pickF rfl (r_mv (r_skip 47 true (by kernel_rfl) rfl rfl (r_skip 47 true (by kernel_rfl) rfl rfl (r_skip 47 true (by kernel_rfl) rfl rfl (r_pickT rfl (r_mv (r_skip 52 true (by kernel_rfl) rfl rfl (r_skip 52 true (by kernel_rfl) rfl rfl (r_skip 52 true (by kernel_rfl) rfl rfl (r_pickT rfl (r_mv (r_skip 57 true (by kernel_rfl) rfl rfl (r_skip 57 true (by kernel_rfl) rfl rfl (r_skip 57 true (by kernel_rfl) rfl rfl (r_skip 57 true (by kernel_rfl) rfl rfl (r_skip 57 true (by kernel_rfl) rfl rfl (r_skip 57 true (by kernel_rfl) rfl rfl (r_pickT rfl (r_nil (q_t ?_))))))))))))))))))))
                refine w_true rfl ?_
                refine w_seq ?_
                refine w_reg ?_
                refine r_as (r_as (r_nil (q_t ?_)))
                refine w_ret (q_tr (q_br (q_tr (q_tr (q_br (q_tr ?_))))))
                refine ⟨_, retV_2, ?_⟩
                first
                  | exact postG_no X24 (odd_no (by assumption))
                  | exact postG_no X24 (fun hh => by have := hh.2.2.2; omega)
                  | exact postG_no X24 (fun hh => by obtain ⟨⟨q1, q2⟩, q3, q4, q5, q6⟩ := hh.2.1 b (List.mem_of_getElem? hb); first | omega | exact q6 (tmod_zero.1 (by assumption)))
                  | exact postG_no X24 (fun hh => by have := hh.2.2.1 (i - 1) b1 b (by have := (List.getElem?_eq_some_iff.1 hb).1; omega) hb1 (by rw [show i - 1 + 1 = i by omega]; exact hb); omega)
                  | (have hil : i = Bs.length := by omega
                     exact postG_yes X24 (goodG_all (by rw [← hil]; exact hgood) hod (by omega) (by omega)) (by rw [← hil]; exact HG.sl))
              · skip
                refine r_pickF rfl (r_mv (r_want 47 false (by kernel_rfl) rfl rfl (r_fo (fs := 1) fd_Blk3 (by kernel_rfl) (by decide) rfl (r_want 47 false (by kernel_rfl) rfl rfl (r_ld na_i64 rfl (V13_22.cell (i := 3) rfl) (r_want 47 false (by kernel_rfl) rfl rfl (r_neq rfl rfl (fun hc8 => ?_) (fun hc8 => ?_))))))))   -- t50 := binOp neq 2 t49 0:i64 2   [guard op13 false]
                · skip
                  refine r_pickF rfl (r_mv (r_skip 52 true (by kernel_rfl) rfl rfl (r_skip 52 true (by kernel_rfl) rfl rfl (r_skip 52 true (by kernel_rfl) rfl rfl (r_pickT rfl (r_mv (r_skip 57 true (by kernel_rfl) rfl rfl (r_skip 57 true (by kernel_rfl) rfl rfl (r_skip 57 true (by kernel_rfl) rfl rfl (r_skip 57 true (by kernel_rfl) rfl rfl (r_skip 57 true (by kernel_rfl) rfl rfl (r_skip 57 true (by kernel_rfl) rfl rfl (r_pickT rfl (r_nil (q_t ?_)))))))))))))))
                  refine w_true rfl ?_
                  refine w_seq ?_
                  refine w_reg ?_
                  refine r_as (r_as (r_nil (q_t ?_)))
                  refine w_ret (q_tr (q_br (q_tr (q_tr (q_br (q_tr ?_))))))
                  refine ⟨_, retV_2, ?_⟩
                  first
                    | exact postG_no X24 (odd_no (by assumption))
                    | exact postG_no X24 (fun hh => by have := hh.2.2.2; omega)
                    | exact postG_no X24 (fun hh => by obtain ⟨⟨q1, q2⟩, q3, q4, q5, q6⟩ := hh.2.1 b (List.mem_of_getElem? hb); first | omega | exact q6 (tmod_zero.1 (by assumption)))
                    | exact postG_no X24 (fun hh => by have := hh.2.2.1 (i - 1) b1 b (by have := (List.getElem?_eq_some_iff.1 hb).1; omega) hb1 (by rw [show i - 1 + 1 = i by omega]; exact hb); omega)
                    | (have hil : i = Bs.length := by omega
                       exact postG_yes X24 (goodG_all (by rw [← hil]; exact hgood) hod (by omega) (by omega)) (by rw [← hil]; exact HG.sl))
                · skip
                  refine r_pickF rfl (r_mv (r_want 52 false (by kernel_rfl) rfl rfl (r_fo (fs := 1) fd_Blk4 (by kernel_rfl) (by decide) rfl (r_want 52 false (by kernel_rfl) rfl rfl (r_ld na_i64 rfl (V13_22.cell (i := 4) rfl) (r_want 52 false (by kernel_rfl) rfl rfl (r_neq rfl rfl (fun hc9 => ?_) (fun hc9 => ?_))))))))   -- t55 := binOp neq 2 t54 0:i64 2   [guard op18 false]
                  · skip
                    refine r_pickF rfl (r_mv (r_skip 57 true (by kernel_rfl) rfl rfl (r_skip 57 true (by kernel_rfl) rfl rfl (r_skip 57 true (by kernel_rfl) rfl rfl (r_skip 57 true (by kernel_rfl) rfl rfl (r_skip 57 true (by kernel_rfl) rfl rfl (r_skip 57 true (by kernel_rfl) rfl rfl (r_pickT rfl (r_nil (q_t ?_))))))))))
                    refine w_true rfl ?_
                    refine w_seq ?_
                    refine w_reg ?_
                    refine r_as (r_as (r_nil (q_t ?_)))
                    refine w_ret (q_tr (q_br (q_tr (q_tr (q_br (q_tr ?_))))))
                    refine ⟨_, retV_2, ?_⟩
                    first
                      | exact postG_no X24 (odd_no (by assumption))
                      | exact postG_no X24 (fun hh => by have := hh.2.2.2; omega)
                      | exact postG_no X24 (fun hh => by obtain ⟨⟨q1, q2⟩, q3, q4, q5, q6⟩ := hh.2.1 b (List.mem_of_getElem? hb); first | omega | exact q6 (tmod_zero.1 (by assumption)))
                      | exact postG_no X24 (fun hh => by have := hh.2.2.1 (i - 1) b1 b (by have := (List.getElem?_eq_some_iff.1 hb).1; omega) hb1 (by rw [show i - 1 + 1 = i by omega]; exact hb); omega)
                      | (have hil : i = Bs.length := by omega
                         exact postG_yes X24 (goodG_all (by rw [← hil]; exact hgood) hod (by omega) (by omega)) (by rw [← hil]; exact HG.sl))
                  · skip
                    refine r_pickF rfl (r_mv (r_want 57 false (by kernel_rfl) rfl rfl (r_fo (fs := 1) fd_Blk2 (by kernel_rfl) (by decide) rfl (r_want 57 false (by kernel_rfl) rfl rfl (r_ld na_i64 rfl (V13_22.cell (i := 2) rfl) (r_want 57 false (by kernel_rfl) rfl rfl (r_fo (fs := 1) fd_Jor0 (by kernel_rfl) (by decide) rfl (r_want 57 false (by kernel_rfl) rfl rfl (r_ld na_i64 rfl (V3_27.cell (i := 0) rfl) (r_want 57 false (by kernel_rfl) rfl rfl (r_rem rfl rfl (by omega) ?_)))))))))))
                    refine r_want 57 false (by kernel_rfl) rfl rfl (r_eql rfl rfl (fun hc10 => ?_) (fun hc10 => ?_))   -- t63 := binOp eql 2 t62 0:i64 2   [guard op23 false]
                    · skip
                      refine r_pickF rfl (r_nil (q_t ?_))
                      refine w_true rfl ?_
                      refine w_seq ?_
                      refine w_reg ?_
                      refine r_as (r_as (r_nil (q_t ?_)))
                      refine w_ret (q_tr (q_br (q_tr (q_tr (q_br (q_tr ?_))))))
                      refine ⟨_, retV_2, ?_⟩
                      first
                        | exact postG_no X24 (odd_no (by assumption))
                        | exact postG_no X24 (fun hh => by have := hh.2.2.2; omega)
                        | exact postG_no X24 (fun hh => by obtain ⟨⟨q1, q2⟩, q3, q4, q5, q6⟩ := hh.2.1 b (List.mem_of_getElem? hb); first | omega | exact q6 (tmod_zero.1 (by assumption)))
                        | exact postG_no X24 (fun hh => by have := hh.2.2.1 (i - 1) b1 b (by have := (List.getElem?_eq_some_iff.1 hb).1; omega) hb1 (by rw [show i - 1 + 1 = i by omega]; exact hb); omega)
                        | (have hil : i = Bs.length := by omega
                           exact postG_yes X24 (goodG_all (by rw [← hil]; exact hgood) hod (by omega) (by omega)) (by rw [← hil]; exact HG.sl))
                    · skip
                      refine r_pickF rfl (r_nil (q_t ?_))
                      refine w_false rfl ?_
                      refine w_skip (q_t ?_)
                      refine w_seq ?_
                      refine w_seq ?_
                      have w9 : b.a % p ≠ 0 := fun he => absurd (tmod_zero.2 he) (by assumption)
                      have hWG : WG p b := ⟨⟨by omega, by omega⟩, by omega, by omega, by omega, w9⟩
                      have hsb := lg_pm hop w9
                      refine w_draw (by kernel_rfl) ?_
                      refine r_mv (r_gtr rfl rfl (fun hc11 => ?_) (fun hc11 => ?_))   -- t66 := binOp gtr 3 t65 0:i64 3
                      · skip
                        refine r_mv (r_want 67 true (by kernel_rfl) rfl rfl (r_fo (fs := 1) fd_Blk0 (by kernel_rfl) (by decide) rfl (r_want 67 true (by kernel_rfl) rfl rfl (r_ld na_int rfl (V13_22.cell (i := 0) rfl) (r_want 67 true (by kernel_rfl) rfl rfl (r_fo (fs := 1) fd_Jor2 (by kernel_rfl) (by decide) rfl (r_want 67 true (by kernel_rfl) rfl rfl (r_ld na_BL rfl (V3_27.cell (i := 2) rfl) (r_want 67 true (by kernel_rfl) rfl rfl (r_mv (r_want 67 true (by kernel_rfl) rfl rfl (r_subb rfl rfl (by omega) (by omega) ?_))))))))))))
                        rw [show ((i : Nat) : Int) - 1 = ((i - 1 : Nat) : Int) by omega]
                        obtain ⟨b1, hb1⟩ : ∃ b1, Bs[i - 1]? = some b1 := ⟨_, List.getElem?_eq_getElem (by omega)⟩
                        refine r_want 67 true (by kernel_rfl) rfl rfl (r_ixK sl_BL rfl (HBs.ext X24) rfl (get_blk hb1) fun aq29 oq29 hkq29 => ?_)
                        refine r_want 67 true (by kernel_rfl) rfl rfl (r_fo (fs := 1) fd_Blk0 (by kernel_rfl) (by decide) rfl (r_want 67 true (by kernel_rfl) rfl rfl (r_ld na_int rfl (hkq29 0 _ rfl) (r_want 67 true (by kernel_rfl) rfl rfl (r_lss rfl rfl (fun hc12 => ?_) (fun hc12 => ?_))))))   -- t77 := binOp lss 3 t69 t76 3   [guard op2 true]
                        · skip
                          refine r_pickT rfl (r_nil (q_t ?_))
                          refine w_true rfl ?_
                          refine w_seq ?_
                          refine w_reg ?_
                          refine r_as (r_as (r_nil (q_t ?_)))
                          refine w_ret (q_tr (q_br (q_tr (q_tr (q_br (q_tr ?_))))))
                          refine ⟨_, retV_2, ?_⟩
                          first
                            | exact postG_no X24 (odd_no (by assumption))
                            | exact postG_no X24 (fun hh => by have := hh.2.2.2; omega)
                            | exact postG_no X24 (fun hh => by obtain ⟨⟨q1, q2⟩, q3, q4, q5, q6⟩ := hh.2.1 b (List.mem_of_getElem? hb); first | omega | exact q6 (tmod_zero.1 (by assumption)))
                            | exact postG_no X24 (fun hh => by have := hh.2.2.1 (i - 1) b1 b (by have := (List.getElem?_eq_some_iff.1 hb).1; omega) hb1 (by rw [show i - 1 + 1 = i by omega]; exact hb); omega)
                            | (have hil : i = Bs.length := by omega
                               exact postG_yes X24 (goodG_all (by rw [← hil]; exact hgood) hod (by omega) (by omega)) (by rw [← hil]; exact HG.sl))
                        · skip
                          refine r_pickT rfl (r_nil (q_t ?_))
                          refine w_false rfl ?_
                          refine w_skip (q_t ?_)
                          refine w_seq ?_
                          refine w_seq ?_
                          have hprev : ∀ j x, j + 1 = i → Bs[j]? = some x → x.exp ≤ b.exp := fun j x hj hx => by first | (exfalso; omega) | (obtain rfl : j = i - 1 := (by omega); rw [hb1] at hx; injection hx with hx; subst hx; omega)
                          refine w_draw (by kernel_rfl) ?_
                          refine r_mv (r_eql rfl rfl (fun hc13 => ?_) (fun hc13 => ?_))   -- t80 := binOp eql 3 t79 0:i64 3
                          · skip
                            refine r_mv (r_skip 81 true (by kernel_rfl) rfl rfl (r_skip 81 true (by kernel_rfl) rfl rfl (r_skip 81 true (by kernel_rfl) rfl rfl (r_skip 81 true (by kernel_rfl) rfl rfl (r_skip 81 true (by kernel_rfl) rfl rfl (r_skip 81 true (by kernel_rfl) rfl rfl (r_skip 81 true (by kernel_rfl) rfl rfl (r_skip 81 true (by kernel_rfl) rfl rfl (r_skip 81 true (by kernel_rfl) rfl rfl (r_skip 81 true (by kernel_rfl) rfl rfl (r_pickT rfl (r_nil (q_t ?_)))))))))))))
                            refine w_true rfl ?_
                            refine w_reg ?_
                            refine r_mv (r_fo (fs := 1) fd_Blk0 (by kernel_rfl) (by decide) rfl (r_ld na_int rfl (V13_22.cell (i := 0) rfl) (r_build (v := .agg #[.int .i64 b.exp, .int .i64 0, .int .i64 1, .bool false, .int .i64 0]) (build_con b.exp) ?_)))
                            refine r_pushK (conV ⟨b.exp, 0, 1, false, 0⟩) sl_CL ze_Con rfl (fun _ => trivial) (fun _ => rfl) rfl rfl (by simp [conV, isOne]) (by decide) (by decide) HG_28 (by omega) (by decide) (by rw [List.length_map]; omega) fun p30 lv31 h32 HG_33 U34 bk35 => ?_
                            have sz37 := U34.1
                            have X36 := X24.thenUpd U34 (fun k hk => by have := HG_28.blk k hk; omega)
                            have V3_38 := V3_27.upd U34 (fun hs => by have hq := HG_28.blk _ hs; have hq2 : Value.ownBlock lv = some bq1 := hs; first | omega | (have := avHGbq1 _ hs; omega))
                            have V13_39 := V13_22.upd U34 (fun hs => by have hq := HG_28.blk _ hs; have hq2 : Value.ownBlock lv = some bq11 := hs; first | omega | (have := avHGbq11 _ hs; omega))
                            refine r_as (r_nil (q_t ?_))
                            refine w_seq ?_
                            refine w_draw (by kernel_rfl) ?_
                            refine r_fo (fs := 1) fd_Blk2 (by kernel_rfl) (by decide) rfl (r_ld na_i64 rfl (V13_39.cell (i := 2) rfl) (r_fo (fs := 1) fd_Jor0 (by kernel_rfl) (by decide) rfl (r_ld na_i64 rfl (V3_38.cell (i := 0) rfl) (r_rem rfl rfl (by omega) ?_))))
                            refine r_fo (fs := 1) fd_Jor0 (by kernel_rfl) (by decide) rfl (r_ld na_i64 rfl (V3_38.cell (i := 0) rfl) (r_call trivial rfl (Kronecker_ok hop (by have := hod.2.1; omega) (tmod_rng b.a (by have := hod.1; omega)).1 (tmod_rng b.a (by have := hod.1; omega)).2 _) fun x40 h32 hk => ?_))
                            obtain ⟨rfl, r9, rfl⟩ := hk
                            refine ⟨trivial, ?_⟩
                            rw [lg_congr hop (tmod_mod b.a)]
                            refine r_mv (r_ext rfl rfl (r_ext rfl rfl (r_as (r_as (r_nil (q_t ?_))))))
                            refine w_seq ?_
                            refine w_reg ?_
                            refine r_mv (r_mv (r_lenK sl_CL rfl HG_33.sl ?_))
                            have hnew := cons_new (inc := incG p) (Bs := Bs) (i := i) (b := b) (fun _ _ => rfl) (by first | exact .inl (by omega) | exact .inr ⟨b1, by omega, hb1, by omega⟩)
                            obtain ⟨g, hgl, HOg⟩ := HG_33.own (by simp)
                            obtain ⟨n, hnn⟩ : ∃ n, n = (consTo (incG p) Bs i).length := ⟨_, rfl⟩
                            have hcl : ((consTo (incG p) Bs i).map conV ++ [conV ⟨b.exp, 0, 1, false, 0⟩])[n]? = some (conV ⟨b.exp, 0, 1, false, 0⟩) := get_snoc (by simp [hnn])
                            have hres := set_new (inc := incG p) (out := (consTo (incG p) Bs i)) (b := b) hnn hnew
                            have hsC : SmJ 16 ⟨b.exp, 0, 1, false, 0⟩ := ⟨.inl rfl, Int.le_refl 0, by show (0 : Int) ≤ 16; decide⟩
                            have hcn : n < ((consTo (incG p) Bs i).map conV ++ [conV ⟨b.exp, 0, 1, false, 0⟩]).length := (List.getElem?_eq_some_iff.1 hcl).1
                            have hnl : ((((consTo (incG p) Bs i).map conV ++ [conV ⟨b.exp, 0, 1, false, 0⟩]).length : Nat) : Int) - 1 = (n : Int) := by simp; omega
                            have hln : ((consTo (incG p) Bs i).map conV ++ [conV ⟨b.exp, 0, 1, false, 0⟩]).length ≤ 100 := by simp; omega
                            have HO : OwnK h32 44 5 g lv31 (((consTo (incG p) Bs i).map conV ++ [conV ⟨b.exp, 0, 1, false, 0⟩]).set n (conV ⟨b.exp, 0, 1, false, 0⟩)) := by rw [set_same hcl]; exact HOg
                            obtain ⟨hsC1, hsC2, hsC3⟩ := hsC
                            refine r_subb rfl rfl (by omega) (by omega) ?_
                            rw [hnl]
                            refine r_ixKo sl_CL rfl HO rfl (by rw [List.length_set]; exact hcn) ?_
                            refine r_as (r_nil (q_t ?_))
                            refine w_seq ?_
                            refine w_reg ?_
                            refine r_mv (r_nc rfl (r_fo (fs := 1) fd_Con1 (by kernel_rfl) (by decide) rfl (r_ld na_int rfl (HO.cell (i := n) (j := 1) (List.getElem?_set_self hcn) rfl) (r_addb rfl rfl (by first | omega | (simp; done) | (simp; omega)) (by first | omega | (simp; done) | (simp; omega)) (r_nc rfl (r_fo (fs := 1) fd_Con1 (by kernel_rfl) (by decide) rfl (r_stK [.int .i64 b.exp, .int .i64 (0 + 1), .int .i64 1, .bool false, .int .i64 0] na_int rfl (show _ = .int .i64 (0 + 1) from rfl) rfl HO hcn (by decide) rfl fun h41 HO_42 U43 => ?_)))))))
                            have X44 := X36.thenUpd U43 (fun k hk => by have hk2 : k = g := hk; omega)
                            have V3_45 := V3_38.upd U43 (fun he => by have he2 : bq1 = g := he; omega)
                            refine r_nil (q_t ?_)
                            refine w_reg ?_
                            refine r_mv (r_nc rfl (r_fo (fs := 1) fd_Con2 (by kernel_rfl) (by decide) rfl (r_ld na_int rfl (HO_42.cell (i := n) (j := 2) (List.getElem?_set_self hcn) rfl) (r_mv (r_mul rfl rfl ?_)))))
                            rw [sgn_mul (x := 1) hsC1 hsb]
                            refine r_nc rfl (r_fo (fs := 1) fd_Con2 (by kernel_rfl) (by decide) rfl (r_stK [.int .i64 b.exp, .int .i64 (0 + 1), .int .i64 (1 * lg p b.a), .bool false, .int .i64 0] na_int rfl (show _ = .int .i64 (1 * lg p b.a) from rfl) rfl HO_42 hcn (by decide) rfl fun h46 HO_47 U48 => ?_))
                            have X49 := X44.thenUpd U48 (fun k hk => by have hk2 : k = g := hk; omega)
                            have V3_50 := V3_45.upd U48 (fun he => by have he2 : bq1 = g := he; omega)
                            refine r_nil (q_b (q_t ?_))
                            refine w_reg ?_
                            refine r_inc rfl (by omega) (r_mv (r_nil (q_t ?_)))
                            have hHO : OwnK h46 44 5 g lv31 (((consTo (incG p) Bs i).map conV ++ [conV ⟨b.exp, 0, 1, false, 0⟩]).set n (conV (incG p ⟨b.exp, 0, 1, false, 0⟩ b))) := HO_47
                            rw [hres, ← consTo_succ hb] at hHO
                            exact ⟨Bs.length - (i + 1), (i + 1, lv31), by first | omega | (dsimp only; omega), ⟨rfl, by first | omega | (dsimp only; omega), goodG_succ hgood hb hWG hprev, X49, V3_50, .inr ⟨g, hgl, hHO⟩, by have := hHO.lt; omega⟩, rfl, rfl, trivial⟩
                          · skip
                            refine r_mv (r_want 81 false (by kernel_rfl) rfl rfl (r_fo (fs := 1) fd_Blk0 (by kernel_rfl) (by decide) rfl (r_want 81 false (by kernel_rfl) rfl rfl (r_ld na_int rfl (V13_22.cell (i := 0) rfl) (r_want 81 false (by kernel_rfl) rfl rfl (r_fo (fs := 1) fd_Jor2 (by kernel_rfl) (by decide) rfl (r_want 81 false (by kernel_rfl) rfl rfl (r_ld na_BL rfl (V3_27.cell (i := 2) rfl) (r_want 81 false (by kernel_rfl) rfl rfl (r_mv (r_want 81 false (by kernel_rfl) rfl rfl (r_subb rfl rfl (by omega) (by omega) ?_))))))))))))
                            rw [show ((i : Nat) : Int) - 1 = ((i - 1 : Nat) : Int) by omega]
                            obtain ⟨b1, hb1⟩ : ∃ b1, Bs[i - 1]? = some b1 := ⟨_, List.getElem?_eq_getElem (by omega)⟩
                            have hle1 := hprev (i - 1) b1 (by omega) hb1
                            refine r_want 81 false (by kernel_rfl) rfl rfl (r_ixK sl_BL rfl (HBs.ext X24) rfl (get_blk hb1) fun aq51 oq51 hkq51 => ?_)
                            refine r_want 81 false (by kernel_rfl) rfl rfl (r_fo (fs := 1) fd_Blk0 (by kernel_rfl) (by decide) rfl (r_want 81 false (by kernel_rfl) rfl rfl (r_ld na_int rfl (hkq51 0 _ rfl) (r_want 81 false (by kernel_rfl) rfl rfl (r_gtr rfl rfl (fun hc14 => ?_) (fun hc14 => ?_))))))   -- t91 := binOp gtr 3 t83 t90 3   [guard op2 false]
                            · skip
                              refine r_pickF rfl (r_nil (q_t ?_))
                              refine w_true rfl ?_
                              refine w_reg ?_
                              refine r_mv (r_fo (fs := 1) fd_Blk0 (by kernel_rfl) (by decide) rfl (r_ld na_int rfl (V13_22.cell (i := 0) rfl) (r_build (v := .agg #[.int .i64 b.exp, .int .i64 0, .int .i64 1, .bool false, .int .i64 0]) (build_con b.exp) ?_)))
                              refine r_pushK (conV ⟨b.exp, 0, 1, false, 0⟩) sl_CL ze_Con rfl (fun _ => trivial) (fun _ => rfl) rfl rfl (by simp [conV, isOne]) (by decide) (by decide) HG_28 (by omega) (by decide) (by rw [List.length_map]; omega) fun p52 lv53 h54 HG_55 U56 bk57 => ?_
                              have sz59 := U56.1
                              have X58 := X24.thenUpd U56 (fun k hk => by have := HG_28.blk k hk; omega)
                              have V3_60 := V3_27.upd U56 (fun hs => by have hq := HG_28.blk _ hs; have hq2 : Value.ownBlock lv = some bq1 := hs; first | omega | (have := avHGbq1 _ hs; omega))
                              have V13_61 := V13_22.upd U56 (fun hs => by have hq := HG_28.blk _ hs; have hq2 : Value.ownBlock lv = some bq11 := hs; first | omega | (have := avHGbq11 _ hs; omega))
                              refine r_as (r_nil (q_t ?_))
                              refine w_seq ?_
                              refine w_draw (by kernel_rfl) ?_
                              refine r_fo (fs := 1) fd_Blk2 (by kernel_rfl) (by decide) rfl (r_ld na_i64 rfl (V13_61.cell (i := 2) rfl) (r_fo (fs := 1) fd_Jor0 (by kernel_rfl) (by decide) rfl (r_ld na_i64 rfl (V3_60.cell (i := 0) rfl) (r_rem rfl rfl (by omega) ?_))))
                              refine r_fo (fs := 1) fd_Jor0 (by kernel_rfl) (by decide) rfl (r_ld na_i64 rfl (V3_60.cell (i := 0) rfl) (r_call trivial rfl (Kronecker_ok hop (by have := hod.2.1; omega) (tmod_rng b.a (by have := hod.1; omega)).1 (tmod_rng b.a (by have := hod.1; omega)).2 _) fun x62 h54 hk => ?_))
                              obtain ⟨rfl, r9, rfl⟩ := hk
                              refine ⟨trivial, ?_⟩
                              rw [lg_congr hop (tmod_mod b.a)]
                              refine r_mv (r_ext rfl rfl (r_ext rfl rfl (r_as (r_as (r_nil (q_t ?_))))))
                              refine w_seq ?_
                              refine w_reg ?_
                              refine r_mv (r_mv (r_lenK sl_CL rfl HG_55.sl ?_))
                              have hnew := cons_new (inc := incG p) (Bs := Bs) (i := i) (b := b) (fun _ _ => rfl) (by first | exact .inl (by omega) | exact .inr ⟨b1, by omega, hb1, by omega⟩)
                              obtain ⟨g, hgl, HOg⟩ := HG_55.own (by simp)
                              obtain ⟨n, hnn⟩ : ∃ n, n = (consTo (incG p) Bs i).length := ⟨_, rfl⟩
                              have hcl : ((consTo (incG p) Bs i).map conV ++ [conV ⟨b.exp, 0, 1, false, 0⟩])[n]? = some (conV ⟨b.exp, 0, 1, false, 0⟩) := get_snoc (by simp [hnn])
                              have hres := set_new (inc := incG p) (out := (consTo (incG p) Bs i)) (b := b) hnn hnew
                              have hsC : SmJ 16 ⟨b.exp, 0, 1, false, 0⟩ := ⟨.inl rfl, Int.le_refl 0, by show (0 : Int) ≤ 16; decide⟩
                              have hcn : n < ((consTo (incG p) Bs i).map conV ++ [conV ⟨b.exp, 0, 1, false, 0⟩]).length := (List.getElem?_eq_some_iff.1 hcl).1
                              have hnl : ((((consTo (incG p) Bs i).map conV ++ [conV ⟨b.exp, 0, 1, false, 0⟩]).length : Nat) : Int) - 1 = (n : Int) := by simp; omega
                              have hln : ((consTo (incG p) Bs i).map conV ++ [conV ⟨b.exp, 0, 1, false, 0⟩]).length ≤ 100 := by simp; omega
                              have HO : OwnK h54 44 5 g lv53 (((consTo (incG p) Bs i).map conV ++ [conV ⟨b.exp, 0, 1, false, 0⟩]).set n (conV ⟨b.exp, 0, 1, false, 0⟩)) := by rw [set_same hcl]; exact HOg
                              obtain ⟨hsC1, hsC2, hsC3⟩ := hsC
                              refine r_subb rfl rfl (by omega) (by omega) ?_
                              rw [hnl]
                              refine r_ixKo sl_CL rfl HO rfl (by rw [List.length_set]; exact hcn) ?_
                              refine r_as (r_nil (q_t ?_))
                              refine w_seq ?_
                              refine w_reg ?_
                              refine r_mv (r_nc rfl (r_fo (fs := 1) fd_Con1 (by kernel_rfl) (by decide) rfl (r_ld na_int rfl (HO.cell (i := n) (j := 1) (List.getElem?_set_self hcn) rfl) (r_addb rfl rfl (by first | omega | (simp; done) | (simp; omega)) (by first | omega | (simp; done) | (simp; omega)) (r_nc rfl (r_fo (fs := 1) fd_Con1 (by kernel_rfl) (by decide) rfl (r_stK [.int .i64 b.exp, .int .i64 (0 + 1), .int .i64 1, .bool false, .int .i64 0] na_int rfl (show _ = .int .i64 (0 + 1) from rfl) rfl HO hcn (by decide) rfl fun h63 HO_64 U65 => ?_)))))))
                              have X66 := X58.thenUpd U65 (fun k hk => by have hk2 : k = g := hk; omega)
                              have V3_67 := V3_60.upd U65 (fun he => by have he2 : bq1 = g := he; omega)
                              refine r_nil (q_t ?_)
                              refine w_reg ?_
                              refine r_mv (r_nc rfl (r_fo (fs := 1) fd_Con2 (by kernel_rfl) (by decide) rfl (r_ld na_int rfl (HO_64.cell (i := n) (j := 2) (List.getElem?_set_self hcn) rfl) (r_mv (r_mul rfl rfl ?_)))))
                              rw [sgn_mul (x := 1) hsC1 hsb]
                              refine r_nc rfl (r_fo (fs := 1) fd_Con2 (by kernel_rfl) (by decide) rfl (r_stK [.int .i64 b.exp, .int .i64 (0 + 1), .int .i64 (1 * lg p b.a), .bool false, .int .i64 0] na_int rfl (show _ = .int .i64 (1 * lg p b.a) from rfl) rfl HO_64 hcn (by decide) rfl fun h68 HO_69 U70 => ?_))
                              have X71 := X66.thenUpd U70 (fun k hk => by have hk2 : k = g := hk; omega)
                              have V3_72 := V3_67.upd U70 (fun he => by have he2 : bq1 = g := he; omega)
                              refine r_nil (q_b (q_t ?_))
                              refine w_reg ?_
                              refine r_inc rfl (by omega) (r_mv (r_nil (q_t ?_)))
                              have hHO : OwnK h68 44 5 g lv53 (((consTo (incG p) Bs i).map conV ++ [conV ⟨b.exp, 0, 1, false, 0⟩]).set n (conV (incG p ⟨b.exp, 0, 1, false, 0⟩ b))) := HO_69
                              rw [hres, ← consTo_succ hb] at hHO
                              exact ⟨Bs.length - (i + 1), (i + 1, lv53), by first | omega | (dsimp only; omega), ⟨rfl, by first | omega | (dsimp only; omega), goodG_succ hgood hb hWG hprev, X71, V3_72, .inr ⟨g, hgl, hHO⟩, by have := hHO.lt; omega⟩, rfl, rfl, trivial⟩
                            · skip
                              refine r_pickF rfl (r_nil (q_t ?_))
                              refine w_false rfl ?_
                              refine w_skip (q_t ?_)
                              refine w_seq ?_
                              refine w_draw (by kernel_rfl) ?_
                              refine r_fo (fs := 1) fd_Blk2 (by kernel_rfl) (by decide) rfl (r_ld na_i64 rfl (V13_22.cell (i := 2) rfl) (r_fo (fs := 1) fd_Jor0 (by kernel_rfl) (by decide) rfl (r_ld na_i64 rfl (V3_27.cell (i := 0) rfl) (r_rem rfl rfl (by omega) ?_))))
                              refine r_fo (fs := 1) fd_Jor0 (by kernel_rfl) (by decide) rfl (r_ld na_i64 rfl (V3_27.cell (i := 0) rfl) (r_call trivial rfl (Kronecker_ok hop (by have := hod.2.1; omega) (tmod_rng b.a (by have := hod.1; omega)).1 (tmod_rng b.a (by have := hod.1; omega)).2 _) fun x73 h21 hk => ?_))
                              obtain ⟨rfl, r9, rfl⟩ := hk
                              refine ⟨trivial, ?_⟩
                              rw [lg_congr hop (tmod_mod b.a)]
                              refine r_mv (r_ext rfl rfl (r_ext rfl rfl (r_as (r_as (r_nil (q_t ?_))))))
                              refine w_seq ?_
                              refine w_reg ?_
                              refine r_mv (r_mv (r_lenK sl_CL rfl HG_28.sl ?_))
                              obtain ⟨c, hlc0, hce⟩ := cons_old (inc := incG p) (Bs := Bs) (i := i) (b := b) (b1 := b1) (fun _ _ => rfl) (by omega) hb1 (by omega)
                              have hne : (consTo (incG p) Bs i) ≠ [] := fun he => by rw [he] at hlc0; cases hlc0
                              obtain ⟨g, hgl, HOg⟩ := HG_28.own (by simpa using hne)
                              have hlen : 0 < (consTo (incG p) Bs i).length := List.length_pos_iff.2 hne
                              obtain ⟨n, hnn⟩ : ∃ n, n + 1 = (consTo (incG p) Bs i).length := ⟨_, Nat.sub_add_cancel hlen⟩
                              have hcl : ((consTo (incG p) Bs i).map conV)[n]? = some (conV c) := get_con (by rw [List.getLast?_eq_getElem?, ← hnn] at hlc0; exact hlc0)
                              have hres := set_old (inc := incG p) (out := (consTo (incG p) Bs i)) (b := b) hnn hlc0 hce
                              have hsC : SmJ 16 c := smJ_mono (smG_cons hop i hgood.1 c (List.mem_of_getLast? hlc0)) (by omega)
                              have hcn : n < ((consTo (incG p) Bs i).map conV).length := (List.getElem?_eq_some_iff.1 hcl).1
                              have hnl : ((((consTo (incG p) Bs i).map conV).length : Nat) : Int) - 1 = (n : Int) := by simp; omega
                              have hln : ((consTo (incG p) Bs i).map conV).length ≤ 100 := by simp; omega
                              have HO : OwnK h21 44 5 g lv (((consTo (incG p) Bs i).map conV).set n (conV c)) := by rw [set_same hcl]; exact HOg
                              obtain ⟨hsC1, hsC2, hsC3⟩ := hsC
                              refine r_subb rfl rfl (by omega) (by omega) ?_
                              rw [hnl]
                              refine r_ixKo sl_CL rfl HO rfl (by rw [List.length_set]; exact hcn) ?_
                              refine r_as (r_nil (q_t ?_))
                              refine w_seq ?_
                              refine w_reg ?_
                              refine r_mv (r_nc rfl (r_fo (fs := 1) fd_Con1 (by kernel_rfl) (by decide) rfl (r_ld na_int rfl (HO.cell (i := n) (j := 1) (List.getElem?_set_self hcn) rfl) (r_addb rfl rfl (by first | omega | (simp; done) | (simp; omega)) (by first | omega | (simp; done) | (simp; omega)) (r_nc rfl (r_fo (fs := 1) fd_Con1 (by kernel_rfl) (by decide) rfl (r_stK [.int .i64 c.exp, .int .i64 (c.dim + 1), .int .i64 c.sign, .bool c.odd, .int .i64 c.oddity] na_int rfl (show _ = .int .i64 (c.dim + 1) from rfl) rfl HO hcn (by decide) rfl fun h74 HO_75 U76 => ?_)))))))
                              have X77 := X24.thenUpd U76 (fun k hk => by have hk2 : k = g := hk; omega)
                              have V3_78 := V3_27.upd U76 (fun he => by have he2 : bq1 = g := he; omega)
                              refine r_nil (q_t ?_)
                              refine w_reg ?_
                              refine r_mv (r_nc rfl (r_fo (fs := 1) fd_Con2 (by kernel_rfl) (by decide) rfl (r_ld na_int rfl (HO_75.cell (i := n) (j := 2) (List.getElem?_set_self hcn) rfl) (r_mv (r_mul rfl rfl ?_)))))
                              rw [sgn_mul (x := c.sign) hsC1 hsb]
                              refine r_nc rfl (r_fo (fs := 1) fd_Con2 (by kernel_rfl) (by decide) rfl (r_stK [.int .i64 c.exp, .int .i64 (c.dim + 1), .int .i64 (c.sign * lg p b.a), .bool c.odd, .int .i64 c.oddity] na_int rfl (show _ = .int .i64 (c.sign * lg p b.a) from rfl) rfl HO_75 hcn (by decide) rfl fun h79 HO_80 U81 => ?_))
                              have X82 := X77.thenUpd U81 (fun k hk => by have hk2 : k = g := hk; omega)
                              have V3_83 := V3_78.upd U81 (fun he => by have he2 : bq1 = g := he; omega)
                              refine r_nil (q_b (q_t ?_))
                              refine w_reg ?_
                              refine r_inc rfl (by omega) (r_mv (r_nil (q_t ?_)))
                              have hHO : OwnK h79 44 5 g lv (((consTo (incG p) Bs i).map conV).set n (conV (incG p c b))) := HO_80
                              rw [hres, ← consTo_succ hb] at hHO
                              exact ⟨Bs.length - (i + 1), (i + 1, lv), by first | omega | (dsimp only; omega), ⟨rfl, by first | omega | (dsimp only; omega), goodG_succ hgood hb hWG hprev, X82, V3_83, .inr ⟨g, hgl, hHO⟩, by have := hHO.lt; omega⟩, rfl, rfl, trivial⟩
                      · skip
                        refine r_mv (r_skip 67 false (by kernel_rfl) rfl rfl (r_skip 67 false (by kernel_rfl) rfl rfl (r_skip 67 false (by kernel_rfl) rfl rfl (r_skip 67 false (by kernel_rfl) rfl rfl (r_skip 67 false (by kernel_rfl) rfl rfl (r_skip 67 false (by kernel_rfl) rfl rfl (r_skip 67 false (by kernel_rfl) rfl rfl (r_skip 67 false (by kernel_rfl) rfl rfl (r_skip 67 false (by kernel_rfl) rfl rfl (r_skip 67 false (by kernel_rfl) rfl rfl (r_pickF rfl (r_nil (q_t ?_)))))))))))))
                        refine w_false rfl ?_
                        refine w_skip (q_t ?_)
                        refine w_seq ?_
                        refine w_seq ?_
                        have hprev : ∀ j x, j + 1 = i → Bs[j]? = some x → x.exp ≤ b.exp := fun j x hj hx => by first | (exfalso; omega) | (obtain rfl : j = i - 1 := (by omega); rw [hb1] at hx; injection hx with hx; subst hx; omega)
                        refine w_draw (by kernel_rfl) ?_
                        refine r_mv (r_eql rfl rfl (fun hc15 => ?_) (fun hc15 => ?_))   -- t80 := binOp eql 3 t79 0:i64 3
                        · skip
                          refine r_mv (r_skip 81 true (by kernel_rfl) rfl rfl (r_skip 81 true (by kernel_rfl) rfl rfl (r_skip 81 true (by kernel_rfl) rfl rfl (r_skip 81 true (by kernel_rfl) rfl rfl (r_skip 81 true (by kernel_rfl) rfl rfl (r_skip 81 true (by kernel_rfl) rfl rfl (r_skip 81 true (by kernel_rfl) rfl rfl (r_skip 81 true (by kernel_rfl) rfl rfl (r_skip 81 true (by kernel_rfl) rfl rfl (r_skip 81 true (by kernel_rfl) rfl rfl (r_pickT rfl (r_nil (q_t ?_)))))))))))))
                          refine w_true rfl ?_
                          refine w_reg ?_
                          refine r_mv (r_fo (fs := 1) fd_Blk0 (by kernel_rfl) (by decide) rfl (r_ld na_int rfl (V13_22.cell (i := 0) rfl) (r_build (v := .agg #[.int .i64 b.exp, .int .i64 0, .int .i64 1, .bool false, .int .i64 0]) (build_con b.exp) ?_)))
                          refine r_pushK (conV ⟨b.exp, 0, 1, false, 0⟩) sl_CL ze_Con rfl (fun _ => trivial) (fun _ => rfl) rfl rfl (by simp [conV, isOne]) (by decide) (by decide) HG_28 (by omega) (by decide) (by rw [List.length_map]; omega) fun p84 lv85 h86 HG_87 U88 bk89 => ?_
                          have sz91 := U88.1
                          have X90 := X24.thenUpd U88 (fun k hk => by have := HG_28.blk k hk; omega)
                          have V3_92 := V3_27.upd U88 (fun hs => by have hq := HG_28.blk _ hs; have hq2 : Value.ownBlock lv = some bq1 := hs; first | omega | (have := avHGbq1 _ hs; omega))
                          have V13_93 := V13_22.upd U88 (fun hs => by have hq := HG_28.blk _ hs; have hq2 : Value.ownBlock lv = some bq11 := hs; first | omega | (have := avHGbq11 _ hs; omega))
                          refine r_as (r_nil (q_t ?_))
                          refine w_seq ?_
                          refine w_draw (by kernel_rfl) ?_
                          refine r_fo (fs := 1) fd_Blk2 (by kernel_rfl) (by decide) rfl (r_ld na_i64 rfl (V13_93.cell (i := 2) rfl) (r_fo (fs := 1) fd_Jor0 (by kernel_rfl) (by decide) rfl (r_ld na_i64 rfl (V3_92.cell (i := 0) rfl) (r_rem rfl rfl (by omega) ?_))))
                          refine r_fo (fs := 1) fd_Jor0 (by kernel_rfl) (by decide) rfl (r_ld na_i64 rfl (V3_92.cell (i := 0) rfl) (r_call trivial rfl (Kronecker_ok hop (by have := hod.2.1; omega) (tmod_rng b.a (by have := hod.1; omega)).1 (tmod_rng b.a (by have := hod.1; omega)).2 _) fun x94 h86 hk => ?_))
                          obtain ⟨rfl, r9, rfl⟩ := hk
                          refine ⟨trivial, ?_⟩
                          rw [lg_congr hop (tmod_mod b.a)]
                          refine r_mv (r_ext rfl rfl (r_ext rfl rfl (r_as (r_as (r_nil (q_t ?_))))))
                          refine w_seq ?_
                          refine w_reg ?_
                          refine r_mv (r_mv (r_lenK sl_CL rfl HG_87.sl ?_))
                          have hnew := cons_new (inc := incG p) (Bs := Bs) (i := i) (b := b) (fun _ _ => rfl) (by first | exact .inl (by omega) | exact .inr ⟨b1, by omega, hb1, by omega⟩)
                          obtain ⟨g, hgl, HOg⟩ := HG_87.own (by simp)
                          obtain ⟨n, hnn⟩ : ∃ n, n = (consTo (incG p) Bs i).length := ⟨_, rfl⟩
                          have hcl : ((consTo (incG p) Bs i).map conV ++ [conV ⟨b.exp, 0, 1, false, 0⟩])[n]? = some (conV ⟨b.exp, 0, 1, false, 0⟩) := get_snoc (by simp [hnn])
                          have hres := set_new (inc := incG p) (out := (consTo (incG p) Bs i)) (b := b) hnn hnew
                          have hsC : SmJ 16 ⟨b.exp, 0, 1, false, 0⟩ := ⟨.inl rfl, Int.le_refl 0, by show (0 : Int) ≤ 16; decide⟩
                          have hcn : n < ((consTo (incG p) Bs i).map conV ++ [conV ⟨b.exp, 0, 1, false, 0⟩]).length := (List.getElem?_eq_some_iff.1 hcl).1
                          have hnl : ((((consTo (incG p) Bs i).map conV ++ [conV ⟨b.exp, 0, 1, false, 0⟩]).length : Nat) : Int) - 1 = (n : Int) := by simp; omega
                          have hln : ((consTo (incG p) Bs i).map conV ++ [conV ⟨b.exp, 0, 1, false, 0⟩]).length ≤ 100 := by simp; omega
                          have HO : OwnK h86 44 5 g lv85 (((consTo (incG p) Bs i).map conV ++ [conV ⟨b.exp, 0, 1, false, 0⟩]).set n (conV ⟨b.exp, 0, 1, false, 0⟩)) := by rw [set_same hcl]; exact HOg
                          obtain ⟨hsC1, hsC2, hsC3⟩ := hsC
                          refine r_subb rfl rfl (by omega) (by omega) ?_
                          rw [hnl]
                          refine r_ixKo sl_CL rfl HO rfl (by rw [List.length_set]; exact hcn) ?_
                          refine r_as (r_nil (q_t ?_))
                          refine w_seq ?_
                          refine w_reg ?_
                          refine r_mv (r_nc rfl (r_fo (fs := 1) fd_Con1 (by kernel_rfl) (by decide) rfl (r_ld na_int rfl (HO.cell (i := n) (j := 1) (List.getElem?_set_self hcn) rfl) (r_addb rfl rfl (by first | omega | (simp; done) | (simp; omega)) (by first | omega | (simp; done) | (simp; omega)) (r_nc rfl (r_fo (fs := 1) fd_Con1 (by kernel_rfl) (by decide) rfl (r_stK [.int .i64 b.exp, .int .i64 (0 + 1), .int .i64 1, .bool false, .int .i64 0] na_int rfl (show _ = .int .i64 (0 + 1) from rfl) rfl HO hcn (by decide) rfl fun h95 HO_96 U97 => ?_)))))))
                          have X98 := X90.thenUpd U97 (fun k hk => by have hk2 : k = g := hk; omega)
                          have V3_99 := V3_92.upd U97 (fun he => by have he2 : bq1 = g := he; omega)
                          refine r_nil (q_t ?_)
                          refine w_reg ?_
                          refine r_mv (r_nc rfl (r_fo (fs := 1) fd_Con2 (by kernel_rfl) (by decide) rfl (r_ld na_int rfl (HO_96.cell (i := n) (j := 2) (List.getElem?_set_self hcn) rfl) (r_mv (r_mul rfl rfl ?_)))))
                          rw [sgn_mul (x := 1) hsC1 hsb]
                          refine r_nc rfl (r_fo (fs := 1) fd_Con2 (by kernel_rfl) (by decide) rfl (r_stK [.int .i64 b.exp, .int .i64 (0 + 1), .int .i64 (1 * lg p b.a), .bool false, .int .i64 0] na_int rfl (show _ = .int .i64 (1 * lg p b.a) from rfl) rfl HO_96 hcn (by decide) rfl fun h100 HO_101 U102 => ?_))
                          have X103 := X98.thenUpd U102 (fun k hk => by have hk2 : k = g := hk; omega)
                          have V3_104 := V3_99.upd U102 (fun he => by have he2 : bq1 = g := he; omega)
                          refine r_nil (q_b (q_t ?_))
                          refine w_reg ?_
                          refine r_inc rfl (by omega) (r_mv (r_nil (q_t ?_)))
                          have hHO : OwnK h100 44 5 g lv85 (((consTo (incG p) Bs i).map conV ++ [conV ⟨b.exp, 0, 1, false, 0⟩]).set n (conV (incG p ⟨b.exp, 0, 1, false, 0⟩ b))) := HO_101
                          rw [hres, ← consTo_succ hb] at hHO
                          exact ⟨Bs.length - (i + 1), (i + 1, lv85), by first | omega | (dsimp only; omega), ⟨rfl, by first | omega | (dsimp only; omega), goodG_succ hgood hb hWG hprev, X103, V3_104, .inr ⟨g, hgl, hHO⟩, by have := hHO.lt; omega⟩, rfl, rfl, trivial⟩
                        · skip
                          refine r_mv (r_want 81 false (by kernel_rfl) rfl rfl (r_fo (fs := 1) fd_Blk0 (by kernel_rfl) (by decide) rfl (r_want 81 false (by kernel_rfl) rfl rfl (r_ld na_int rfl (V13_22.cell (i := 0) rfl) (r_want 81 false (by kernel_rfl) rfl rfl (r_fo (fs := 1) fd_Jor2 (by kernel_rfl) (by decide) rfl (r_want 81 false (by kernel_rfl) rfl rfl (r_ld na_BL rfl (V3_27.cell (i := 2) rfl) (r_want 81 false (by kernel_rfl) rfl rfl (r_mv (r_want 81 false (by kernel_rfl) rfl rfl (r_subb rfl rfl (by omega) (by omega) ?_))))))))))))
                          rw [show ((i : Nat) : Int) - 1 = ((i - 1 : Nat) : Int) by omega]
                          obtain ⟨b1, hb1⟩ : ∃ b1, Bs[i - 1]? = some b1 := ⟨_, List.getElem?_eq_getElem (by omega)⟩
                          have hle1 := hprev (i - 1) b1 (by omega) hb1
                          refine r_want 81 false (by kernel_rfl) rfl rfl (r_ixK sl_BL rfl (HBs.ext X24) rfl (get_blk hb1) fun aq105 oq105 hkq105 => ?_)
                          refine r_want 81 false (by kernel_rfl) rfl rfl (r_fo (fs := 1) fd_Blk0 (by kernel_rfl) (by decide) rfl (r_want 81 false (by kernel_rfl) rfl rfl (r_ld na_int rfl (hkq105 0 _ rfl) (r_want 81 false (by kernel_rfl) rfl rfl (r_gtr rfl rfl (fun hc16 => ?_) (fun hc16 => ?_))))))   -- t91 := binOp gtr 3 t83 t90 3   [guard op2 false]
                          · skip
                            refine r_pickF rfl (r_nil (q_t ?_))
                            refine w_true rfl ?_
                            refine w_reg ?_
                            refine r_mv (r_fo (fs := 1) fd_Blk0 (by kernel_rfl) (by decide) rfl (r_ld na_int rfl (V13_22.cell (i := 0) rfl) (r_build (v := .agg #[.int .i64 b.exp, .int .i64 0, .int .i64 1, .bool false, .int .i64 0]) (build_con b.exp) ?_)))
                            refine r_pushK (conV ⟨b.exp, 0, 1, false, 0⟩) sl_CL ze_Con rfl (fun _ => trivial) (fun _ => rfl) rfl rfl (by simp [conV, isOne]) (by decide) (by decide) HG_28 (by omega) (by decide) (by rw [List.length_map]; omega) fun p106 lv107 h108 HG_109 U110 bk111 => ?_
                            have sz113 := U110.1
                            have X112 := X24.thenUpd U110 (fun k hk => by have := HG_28.blk k hk; omega)
                            have V3_114 := V3_27.upd U110 (fun hs => by have hq := HG_28.blk _ hs; have hq2 : Value.ownBlock lv = some bq1 := hs; first | omega | (have := avHGbq1 _ hs; omega))
                            have V13_115 := V13_22.upd U110 (fun hs => by have hq := HG_28.blk _ hs; have hq2 : Value.ownBlock lv = some bq11 := hs; first | omega | (have := avHGbq11 _ hs; omega))
                            refine r_as (r_nil (q_t ?_))
                            refine w_seq ?_
                            refine w_draw (by kernel_rfl) ?_
                            refine r_fo (fs := 1) fd_Blk2 (by kernel_rfl) (by decide) rfl (r_ld na_i64 rfl (V13_115.cell (i := 2) rfl) (r_fo (fs := 1) fd_Jor0 (by kernel_rfl) (by decide) rfl (r_ld na_i64 rfl (V3_114.cell (i := 0) rfl) (r_rem rfl rfl (by omega) ?_))))
                            refine r_fo (fs := 1) fd_Jor0 (by kernel_rfl) (by decide) rfl (r_ld na_i64 rfl (V3_114.cell (i := 0) rfl) (r_call trivial rfl (Kronecker_ok hop (by have := hod.2.1; omega) (tmod_rng b.a (by have := hod.1; omega)).1 (tmod_rng b.a (by have := hod.1; omega)).2 _) fun x116 h108 hk => ?_))
                            obtain ⟨rfl, r9, rfl⟩ := hk
                            refine ⟨trivial, ?_⟩
                            rw [lg_congr hop (tmod_mod b.a)]
                            refine r_mv (r_ext rfl rfl (r_ext rfl rfl (r_as (r_as (r_nil (q_t ?_))))))
                            refine w_seq ?_
                            refine w_reg ?_
                            refine r_mv (r_mv (r_lenK sl_CL rfl HG_109.sl ?_))
                            have hnew := cons_new (inc := incG p) (Bs := Bs) (i := i) (b := b) (fun _ _ => rfl) (by first | exact .inl (by omega) | exact .inr ⟨b1, by omega, hb1, by omega⟩)
                            obtain ⟨g, hgl, HOg⟩ := HG_109.own (by simp)
                            obtain ⟨n, hnn⟩ : ∃ n, n = (consTo (incG p) Bs i).length := ⟨_, rfl⟩
                            have hcl : ((consTo (incG p) Bs i).map conV ++ [conV ⟨b.exp, 0, 1, false, 0⟩])[n]? = some (conV ⟨b.exp, 0, 1, false, 0⟩) := get_snoc (by simp [hnn])
                            have hres := set_new (inc := incG p) (out := (consTo (incG p) Bs i)) (b := b) hnn hnew
                            have hsC : SmJ 16 ⟨b.exp, 0, 1, false, 0⟩ := ⟨.inl rfl, Int.le_refl 0, by show (0 : Int) ≤ 16; decide⟩
                            have hcn : n < ((consTo (incG p) Bs i).map conV ++ [conV ⟨b.exp, 0, 1, false, 0⟩]).length := (List.getElem?_eq_some_iff.1 hcl).1
                            have hnl : ((((consTo (incG p) Bs i).map conV ++ [conV ⟨b.exp, 0, 1, false, 0⟩]).length : Nat) : Int) - 1 = (n : Int) := by simp; omega
                            have hln : ((consTo (incG p) Bs i).map conV ++ [conV ⟨b.exp, 0, 1, false, 0⟩]).length ≤ 100 := by simp; omega
                            have HO : OwnK h108 44 5 g lv107 (((consTo (incG p) Bs i).map conV ++ [conV ⟨b.exp, 0, 1, false, 0⟩]).set n (conV ⟨b.exp, 0, 1, false, 0⟩)) := by rw [set_same hcl]; exact HOg
                            obtain ⟨hsC1, hsC2, hsC3⟩ := hsC
                            refine r_subb rfl rfl (by omega) (by omega) ?_
                            rw [hnl]
                            refine r_ixKo sl_CL rfl HO rfl (by rw [List.length_set]; exact hcn) ?_
                            refine r_as (r_nil (q_t ?_))
                            refine w_seq ?_
                            refine w_reg ?_
                            refine r_mv (r_nc rfl (r_fo (fs := 1) fd_Con1 (by kernel_rfl) (by decide) rfl (r_ld na_int rfl (HO.cell (i := n) (j := 1) (List.getElem?_set_self hcn) rfl) (r_addb rfl rfl (by first | omega | (simp; done) | (simp; omega)) (by first | omega | (simp; done) | (simp; omega)) (r_nc rfl (r_fo (fs := 1) fd_Con1 (by kernel_rfl) (by decide) rfl (r_stK [.int .i64 b.exp, .int .i64 (0 + 1), .int .i64 1, .bool false, .int .i64 0] na_int rfl (show _ = .int .i64 (0 + 1) from rfl) rfl HO hcn (by decide) rfl fun h117 HO_118 U119 => ?_)))))))
                            have X120 := X112.thenUpd U119 (fun k hk => by have hk2 : k = g := hk; omega)
                            have V3_121 := V3_114.upd U119 (fun he => by have he2 : bq1 = g := he; omega)
                            refine r_nil (q_t ?_)
                            refine w_reg ?_
                            refine r_mv (r_nc rfl (r_fo (fs := 1) fd_Con2 (by kernel_rfl) (by decide) rfl (r_ld na_int rfl (HO_118.cell (i := n) (j := 2) (List.getElem?_set_self hcn) rfl) (r_mv (r_mul rfl rfl ?_)))))
                            rw [sgn_mul (x := 1) hsC1 hsb]
                            refine r_nc rfl (r_fo (fs := 1) fd_Con2 (by kernel_rfl) (by decide) rfl (r_stK [.int .i64 b.exp, .int .i64 (0 + 1), .int .i64 (1 * lg p b.a), .bool false, .int .i64 0] na_int rfl (show _ = .int .i64 (1 * lg p b.a) from rfl) rfl HO_118 hcn (by decide) rfl fun h122 HO_123 U124 => ?_))
                            have X125 := X120.thenUpd U124 (fun k hk => by have hk2 : k = g := hk; omega)
                            have V3_126 := V3_121.upd U124 (fun he => by have he2 : bq1 = g := he; omega)
                            refine r_nil (q_b (q_t ?_))
                            refine w_reg ?_
                            refine r_inc rfl (by omega) (r_mv (r_nil (q_t ?_)))
                            have hHO : OwnK h122 44 5 g lv107 (((consTo (incG p) Bs i).map conV ++ [conV ⟨b.exp, 0, 1, false, 0⟩]).set n (conV (incG p ⟨b.exp, 0, 1, false, 0⟩ b))) := HO_123
                            rw [hres, ← consTo_succ hb] at hHO
                            exact ⟨Bs.length - (i + 1), (i + 1, lv107), by first | omega | (dsimp only; omega), ⟨rfl, by first | omega | (dsimp only; omega), goodG_succ hgood hb hWG hprev, X125, V3_126, .inr ⟨g, hgl, hHO⟩, by have := hHO.lt; omega⟩, rfl, rfl, trivial⟩
                          · skip
                            refine r_pickF rfl (r_nil (q_t ?_))
                            refine w_false rfl ?_
                            refine w_skip (q_t ?_)
                            refine w_seq ?_
                            refine w_draw (by kernel_rfl) ?_
                            refine r_fo (fs := 1) fd_Blk2 (by kernel_rfl) (by decide) rfl (r_ld na_i64 rfl (V13_22.cell (i := 2) rfl) (r_fo (fs := 1) fd_Jor0 (by kernel_rfl) (by decide) rfl (r_ld na_i64 rfl (V3_27.cell (i := 0) rfl) (r_rem rfl rfl (by omega) ?_))))
                            refine r_fo (fs := 1) fd_Jor0 (by kernel_rfl) (by decide) rfl (r_ld na_i64 rfl (V3_27.cell (i := 0) rfl) (r_call trivial rfl (Kronecker_ok hop (by have := hod.2.1; omega) (tmod_rng b.a (by have := hod.1; omega)).1 (tmod_rng b.a (by have := hod.1; omega)).2 _) fun x127 h21 hk => ?_))
                            obtain ⟨rfl, r9, rfl⟩ := hk
                            refine ⟨trivial, ?_⟩
                            rw [lg_congr hop (tmod_mod b.a)]
                            refine r_mv (r_ext rfl rfl (r_ext rfl rfl (r_as (r_as (r_nil (q_t ?_))))))
                            refine w_seq ?_
                            refine w_reg ?_
                            refine r_mv (r_mv (r_lenK sl_CL rfl HG_28.sl ?_))
                            obtain ⟨c, hlc0, hce⟩ := cons_old (inc := incG p) (Bs := Bs) (i := i) (b := b) (b1 := b1) (fun _ _ => rfl) (by omega) hb1 (by omega)
                            have hne : (consTo (incG p) Bs i) ≠ [] := fun he => by rw [he] at hlc0; cases hlc0
                            obtain ⟨g, hgl, HOg⟩ := HG_28.own (by simpa using hne)
                            have hlen : 0 < (consTo (incG p) Bs i).length := List.length_pos_iff.2 hne
                            obtain ⟨n, hnn⟩ : ∃ n, n + 1 = (consTo (incG p) Bs i).length := ⟨_, Nat.sub_add_cancel hlen⟩
                            have hcl : ((consTo (incG p) Bs i).map conV)[n]? = some (conV c) := get_con (by rw [List.getLast?_eq_getElem?, ← hnn] at hlc0; exact hlc0)
                            have hres := set_old (inc := incG p) (out := (consTo (incG p) Bs i)) (b := b) hnn hlc0 hce
                            have hsC : SmJ 16 c := smJ_mono (smG_cons hop i hgood.1 c (List.mem_of_getLast? hlc0)) (by omega)
                            have hcn : n < ((consTo (incG p) Bs i).map conV).length := (List.getElem?_eq_some_iff.1 hcl).1
                            have hnl : ((((consTo (incG p) Bs i).map conV).length : Nat) : Int) - 1 = (n : Int) := by simp; omega
                            have hln : ((consTo (incG p) Bs i).map conV).length ≤ 100 := by simp; omega
                            have HO : OwnK h21 44 5 g lv (((consTo (incG p) Bs i).map conV).set n (conV c)) := by rw [set_same hcl]; exact HOg
                            obtain ⟨hsC1, hsC2, hsC3⟩ := hsC
                            refine r_subb rfl rfl (by omega) (by omega) ?_
                            rw [hnl]
                            refine r_ixKo sl_CL rfl HO rfl (by rw [List.length_set]; exact hcn) ?_
                            refine r_as (r_nil (q_t ?_))
                            refine w_seq ?_
                            refine w_reg ?_
                            refine r_mv (r_nc rfl (r_fo (fs := 1) fd_Con1 (by kernel_rfl) (by decide) rfl (r_ld na_int rfl (HO.cell (i := n) (j := 1) (List.getElem?_set_self hcn) rfl) (r_addb rfl rfl (by first | omega | (simp; done) | (simp; omega)) (by first | omega | (simp; done) | (simp; omega)) (r_nc rfl (r_fo (fs := 1) fd_Con1 (by kernel_rfl) (by decide) rfl (r_stK [.int .i64 c.exp, .int .i64 (c.dim + 1), .int .i64 c.sign, .bool c.odd, .int .i64 c.oddity] na_int rfl (show _ = .int .i64 (c.dim + 1) from rfl) rfl HO hcn (by decide) rfl fun h128 HO_129 U130 => ?_)))))))
                            have X131 := X24.thenUpd U130 (fun k hk => by have hk2 : k = g := hk; omega)
                            have V3_132 := V3_27.upd U130 (fun he => by have he2 : bq1 = g := he; omega)
                            refine r_nil (q_t ?_)
                            refine w_reg ?_
                            refine r_mv (r_nc rfl (r_fo (fs := 1) fd_Con2 (by kernel_rfl) (by decide) rfl (r_ld na_int rfl (HO_129.cell (i := n) (j := 2) (List.getElem?_set_self hcn) rfl) (r_mv (r_mul rfl rfl ?_)))))
                            rw [sgn_mul (x := c.sign) hsC1 hsb]
                            refine r_nc rfl (r_fo (fs := 1) fd_Con2 (by kernel_rfl) (by decide) rfl (r_stK [.int .i64 c.exp, .int .i64 (c.dim + 1), .int .i64 (c.sign * lg p b.a), .bool c.odd, .int .i64 c.oddity] na_int rfl (show _ = .int .i64 (c.sign * lg p b.a) from rfl) rfl HO_129 hcn (by decide) rfl fun h133 HO_134 U135 => ?_))
                            have X136 := X131.thenUpd U135 (fun k hk => by have hk2 : k = g := hk; omega)
                            have V3_137 := V3_132.upd U135 (fun he => by have he2 : bq1 = g := he; omega)
                            refine r_nil (q_b (q_t ?_))
                            refine w_reg ?_
                            refine r_inc rfl (by omega) (r_mv (r_nil (q_t ?_)))
                            have hHO : OwnK h133 44 5 g lv (((consTo (incG p) Bs i).map conV).set n (conV (incG p c b))) := HO_134
                            rw [hres, ← consTo_succ hb] at hHO
                            exact ⟨Bs.length - (i + 1), (i + 1, lv), by first | omega | (dsimp only; omega), ⟨rfl, by first | omega | (dsimp only; omega), goodG_succ hgood hb hWG hprev, X136, V3_137, .inr ⟨g, hgl, hHO⟩, by have := hHO.lt; omega⟩, rfl, rfl, trivial⟩
        · skip
          refine r_nil (q_t ?_)
          refine w_seq ?_
          refine w_false rfl ?_
          refine w_exit (q_tx (q_tx (q_bx (q_t ?_))))
          refine w_seq ?_
          refine w_reg ?_
          refine r_mv (r_as (r_as (r_nil (q_t ?_))))
          refine w_ret ?_
          refine ⟨_, retV_2, ?_⟩
          first
            | exact postG_no XQ (odd_no (by assumption))
            | exact postG_no XQ (fun hh => by have := hh.2.2.2; omega)
            | exact postG_no XQ (fun hh => by obtain ⟨⟨q1, q2⟩, q3, q4, q5, q6⟩ := hh.2.1 b (List.mem_of_getElem? hb); first | omega | exact q6 (tmod_zero.1 (by assumption)))
            | exact postG_no XQ (fun hh => by have := hh.2.2.1 (i - 1) b1 b (by have := (List.getElem?_eq_some_iff.1 hb).1; omega) hb1 (by rw [show i - 1 + 1 = i by omega]; exact hb); omega)
            | (have hil : i = Bs.length := by omega
               exact postG_yes XQ (goodG_all (by rw [← hil]; exact hgood) hod (by omega) (by omega)) (by rw [← hil]; exact HG.sl))

theorem refConG_ok {h : Heap} {vT vB : Value} {p : Int} {Bs : List Blk} (HBs : SlK h 5 vB (Bs.map blkV)) (hn : Bs.length ≤ 1000) : CallH Tryd.prog 22 #[.agg #[.int .i64 p, vT, vB]] h fun x h' => PostG h x h' p Bs := by
  refine calls_of_W (l := [_]) mx Tryd.func22 rfl rfl rfl rfl rfl (by kernel_rfl) ?_
  refine w_seq ?_
  refine w_reg ?_
  refine r_boxB [.int .i64 p, vT, vB] (fun _ => trivial) rfl rfl fun bq1 h2 V3 E4 hb5 hl6 => ?_
  have hzbq1 : Array.size h ≤ bq1 := hb5
  have sz7 := E4.1
  have Z8 := (Ext.refl h).trans E4
  refine r_as (r_as (r_nil (q_t ?_)))
  refine w_seq ?_
  refine w_seq ?_
  refine w_reg ?_
  refine r_fo (fs := 1) fd_Jor0 (by kernel_rfl) (by decide) rfl (r_ld na_i64 rfl (V3.cell (i := 0) rfl) (r_call trivial rfl (refOdd_ok p _) fun x9 h2 hk => ?_))
  obtain ⟨rfl, rfl⟩ := hk
  refine ⟨trivial, ?_⟩
  cases hc1 : oddB p
  · skip
    refine r_not rfl (r_mv (r_skip 12 true (by kernel_rfl) rfl rfl (r_skip 12 true (by kernel_rfl) rfl rfl (r_skip 12 true (by kernel_rfl) rfl rfl (r_skip 12 true (by kernel_rfl) rfl rfl (r_skip 12 true (by kernel_rfl) rfl rfl (r_skip 12 true (by kernel_rfl) rfl rfl (r_pickT rfl (r_nil (q_t ?_))))))))))
    refine w_true rfl ?_
    refine w_seq ?_
    refine w_reg ?_
    refine r_as (r_as (r_nil (q_t ?_)))
    refine w_ret (q_tr ?_)
    refine ⟨_, retV_2, ?_⟩
    first
      | exact postG_no E4 (odd_no (by assumption))
      | exact postG_no E4 (fun hh => absurd ((lg_lst (odd_yes (by assumption)).1).1 hh) (not_of_lstB (by assumption)))
      | (obtain rfl : i = Bs.length := by omega
         exact postG_yes E4 hlst HG.sl)
  · skip
    refine r_not rfl (r_mv (r_want 12 false (by kernel_rfl) rfl rfl (r_fo (fs := 1) fd_Jor2 (by kernel_rfl) (by decide) rfl (r_want 12 false (by kernel_rfl) rfl rfl (r_ld na_BL rfl (V3.cell (i := 2) rfl) (r_want 12 false (by kernel_rfl) rfl rfl (r_fo (fs := 1) fd_Jor0 (by kernel_rfl) (by decide) rfl (r_want 12 false (by kernel_rfl) rfl rfl (r_ld na_i64 rfl (V3.cell (i := 0) rfl) (r_want 12 false (by kernel_rfl) rfl rfl (r_call trivial rfl (listed_ok (p := p) (HBs.ext E4) (by have := (odd_yes (by assumption)).1.1; omega) hn) fun x10 h11 hk => ?_)))))))))))
    obtain ⟨E12, rfl⟩ := hk
    refine ⟨trivial, ?_⟩
    have sz13 := E12.1
    have Z14 := Z8.trans E12
    have X15 := E4.trans E12
    have V3_16 := V3.ext E12
    have Y17 := E4.trans E12
    cases hc2 : lstB p Bs
    · skip
      refine r_want 12 false (by kernel_rfl) rfl rfl (r_not rfl (r_pickF rfl (r_nil (q_t ?_))))
      refine w_true rfl ?_
      refine w_seq ?_
      refine w_reg ?_
      refine r_as (r_as (r_nil (q_t ?_)))
      refine w_ret (q_tr ?_)
      refine ⟨_, retV_2, ?_⟩
      first
        | exact postG_no X15 (odd_no (by assumption))
        | exact postG_no X15 (fun hh => absurd ((lg_lst (odd_yes (by assumption)).1).1 hh) (not_of_lstB (by assumption)))
        | (obtain rfl : i = Bs.length := by omega
           exact postG_yes X15 hlst HG.sl)
    · skip
      refine r_want 12 false (by kernel_rfl) rfl rfl (r_not rfl (r_pickF rfl (r_nil (q_t ?_))))
      refine w_false rfl ?_
      refine w_skip (q_t ?_)
      refine w_seq ?_
      refine w_reg ?_
      refine r_as (r_nil (q_t ?_))
      refine w_seq ?_
      refine w_seq ?_
      refine w_reg ?_
      refine r_fo (fs := 1) fd_Jor2 (by kernel_rfl) (by decide) rfl (r_ld na_BL rfl (V3_16.cell (i := 2) rfl) (r_lenKm sl_BL rfl (HBs.ext X15) (r_mv (r_nil (q_t ?_)))))
      refine w_block ?_
      obtain ⟨lo, hlo⟩ : ∃ lo, lo = Array.size h11 := ⟨_, rfl⟩
      have hblo : bq1 < lo := by rw [hlo]; exact V3_16.lt
      have hhlo : Array.size h ≤ lo := by rw [hlo]; exact X15.1
      obtain ⟨hod, hop⟩ := odd_yes (p := p) (by assumption)
      have hod1 := hod.1
      have hod2 := hod.2.1
      have hlst := (lg_lst hod).2 (of_lstB (by assumption))
      have hl8 := hlst.2.2.2
      refine w_loop 9444732965739282038992 (fun y : Nat × Value => [(23, .int .i64 (y.1 : Int)), (4, y.2)]) (fun k y h' => k = Bs.length - y.1 ∧ y.1 ≤ Bs.length ∧ Ext h h' ∧ BoxH 31 h' bq1 [.int .i64 p, vT, vB] ∧ GroK h' 44 5 lo y.2 ((consTo (incG p) Bs y.1).map conV) ∧ lo ≤ Array.size h') (by kernel_rfl) Bs.length (0, .slice none 0 0) ?_ ⟨rfl, rfl, trivial⟩ ?_
      · exact ⟨rfl, Nat.zero_le _, X15, V3_16, groK_nil _ _ _ _, by rw [hlo]; exact Nat.le_refl _⟩
      rintro k ⟨i, lv⟩ s1 hq ⟨rfl, hi, XQ, VQ, HG, hlq⟩
      dsimp only at hi HG ⊢
      have hgood := lg_good hlst i hi
      have hcl8 := consTo_len (incG p) Bs i
      refine w_seq ?_
      refine w_reg ?_
      refine r_lss rfl rfl (fun hc3 => ?_) (fun hc3 => ?_)   -- t24 := binOp lss 3 t23 t22 3
      · skip
        refine r_nil (q_t ?_)
        refine w_seq ?_
        refine w_true rfl ?_
        refine w_skip (q_t ?_)
        refine w_seq ?_
        refine w_block ?_
        refine w_seq ?_
        obtain ⟨b, hb⟩ : ∃ b, Bs[i]? = some b := ⟨_, List.getElem?_eq_getElem (by omega)⟩
        have hWG := hlst.2.1 b (List.mem_of_getElem? hb)
        have hsb := lg_pm hop hWG.2.2.2.2
        refine w_reg ?_
        refine r_ixK sl_BL rfl (HBs.ext XQ) rfl (get_blk hb) fun aq18 oq18 hkq18 => ?_
        refine r_ldA [.int .i64 b.exp, .int .i64 b.size, .int .i64 b.a, .int .i64 b.b, .int .i64 b.c] ag_Blk rfl rfl (fun i u hu => by rw [addr_add]; exact hkq18 i u hu) ?_
        refine r_allocB [.int .i64 0, .int .i64 0, .int .i64 0, .int .i64 0, .int .i64 0] ze_Blk rfl (fun _ => trivial) fun bq19 h20 V21 E22 hb23 hl24 => ?_
        have hzbq19 : Array.size h ≤ bq19 := Nat.le_trans XQ.1 hb23
        have nebq1bq19 : bq1 ≠ bq19 := by have := VQ.lt; omega
        have avHGbq19 : ∀ g, Value.ownBlock lv = some g → g < bq19 := fun g hg => by have := (HG.blk g hg).2; omega
        have sz25 := E22.1
        have X26 := XQ.trans E22
        have V3_27 := VQ.ext E22
        have HG_28 := HG.ext E22
        refine r_stA [.int .i64 b.exp, .int .i64 b.size, .int .i64 b.a, .int .i64 b.b, .int .i64 b.c] ag_Blk rfl rfl rfl rfl (by simp [isOne]) V21 fun h29 V21_30 U31 => ?_
        have X32 := X26.thenUpd U31 (fun k hk => by have hk2 : k = bq19 := hk; omega)
        have sz33 := U31.1
        have Y34 := E22.thenUpd U31 (fun k hk => by have hk2 : k = bq19 := hk; omega)
        have V3_35 := VQ.ext Y34
        have HG_36 := HG.ext Y34
        refine r_nil (q_t ?_)
        refine w_seq ?_
        refine w_seq ?_
        refine w_draw (by kernel_rfl) ?_
        refine r_mv (r_lenKm sl_CL rfl HG_36.sl ?_)
        refine r_eql rfl rfl (fun hc4 => ?_) (fun hc4 => ?_)   -- t29 := binOp eql 3 t28 0:i64 3
        · skip
          refine r_mv (r_skip 30 true (by kernel_rfl) rfl rfl (r_skip 30 true (by kernel_rfl) rfl rfl (r_skip 30 true (by kernel_rfl) rfl rfl (r_skip 30 true (by kernel_rfl) rfl rfl (r_skip 30 true (by kernel_rfl) rfl rfl (r_skip 30 true (by kernel_rfl) rfl rfl (r_skip 30 true (by kernel_rfl) rfl rfl (r_skip 30 true (by kernel_rfl) rfl rfl (r_skip 30 true (by kernel_rfl) rfl rfl (r_skip 30 true (by kernel_rfl) rfl rfl (r_pickT rfl (r_nil (q_t ?_)))))))))))))
          refine w_true rfl ?_
          have hnw : i = 0 ∨ ∃ b1, 0 < i ∧ Bs[i - 1]? = some b1 ∧ b1.exp ≠ b.exp := by
            by_cases h0 : i = 0
            · exact .inl h0
            · right
              obtain ⟨b1, hb1⟩ : ∃ b1, Bs[i - 1]? = some b1 := ⟨_, List.getElem?_eq_getElem (by omega)⟩
              obtain ⟨c1, hc1l, hc1e⟩ := consTo_last (inc := incG p) (fun _ _ => rfl) hb1
              rw [show i - 1 + 1 = i by omega, List.getLast?_eq_getElem?] at hc1l
              refine ⟨b1, by omega, hb1, ?_⟩
              first
              | (have := (List.getElem?_eq_some_iff.1 hc1l).1; omega)
              | (rw [hcl0] at hc1l; injection hc1l with hc1l; subst hc1l; omega)
          refine w_reg ?_
          refine r_mv (r_fo (fs := 1) fd_Blk0 (by kernel_rfl) (by decide) rfl (r_ld na_int rfl (V21_30.cell (i := 0) rfl) (r_build (v := .agg #[.int .i64 b.exp, .int .i64 0, .int .i64 1, .bool false, .int .i64 0]) (build_con b.exp) ?_)))
          refine r_pushK (conV ⟨b.exp, 0, 1, false, 0⟩) sl_CL ze_Con rfl (fun _ => trivial) (fun _ => rfl) rfl rfl (by simp [conV, isOne]) (by decide) (by decide) HG_36 (by omega) (by decide) (by rw [List.length_map]; omega) fun p37 lv38 h39 HG_40 U41 bk42 => ?_
          have sz44 := U41.1
          have X43 := X32.thenUpd U41 (fun k hk => by have := HG_36.blk k hk; omega)
          have V3_45 := V3_35.upd U41 (fun hs => by have hq := HG_36.blk _ hs; have hq2 : Value.ownBlock lv = some bq1 := hs; first | omega | (have := avHGbq1 _ hs; omega))
          have V21_46 := V21_30.upd U41 (fun hs => by have hq := HG_36.blk _ hs; have hq2 : Value.ownBlock lv = some bq19 := hs; first | omega | (have := avHGbq19 _ hs; omega))
          refine r_as (r_nil (q_t ?_))
          refine w_seq ?_
          refine w_reg ?_
          refine r_mv (r_mv (r_lenK sl_CL rfl HG_40.sl ?_))
          have hnew := cons_new (inc := incG p) (Bs := Bs) (i := i) (b := b) (fun _ _ => rfl) hnw
          obtain ⟨g, hgl, HOg⟩ := HG_40.own (by simp)
          obtain ⟨n, hnn⟩ : ∃ n, n = (consTo (incG p) Bs i).length := ⟨_, rfl⟩
          have hcl : ((consTo (incG p) Bs i).map conV ++ [conV ⟨b.exp, 0, 1, false, 0⟩])[n]? = some (conV ⟨b.exp, 0, 1, false, 0⟩) := get_snoc (by simp [hnn])
          have hres := set_new (inc := incG p) (out := (consTo (incG p) Bs i)) (b := b) hnn hnew
          have hsC : SmJ 16 ⟨b.exp, 0, 1, false, 0⟩ := ⟨.inl rfl, Int.le_refl 0, by show (0 : Int) ≤ 16; decide⟩
          have hg6 : g ≠ bq19 := by
            rcases bk42 with q | ⟨g', q, qe⟩
            · have := avHGbq19 g (q ▸ HOg.blk); omega
            · have h2 := HOg.blk; rw [q] at h2; injection h2 with h2; omega
          have hcn : n < ((consTo (incG p) Bs i).map conV ++ [conV ⟨b.exp, 0, 1, false, 0⟩]).length := (List.getElem?_eq_some_iff.1 hcl).1
          have hnl : ((((consTo (incG p) Bs i).map conV ++ [conV ⟨b.exp, 0, 1, false, 0⟩]).length : Nat) : Int) - 1 = (n : Int) := by simp; omega
          have hln : ((consTo (incG p) Bs i).map conV ++ [conV ⟨b.exp, 0, 1, false, 0⟩]).length ≤ 100 := by simp; omega
          have HO : OwnK h39 44 5 g lv38 (((consTo (incG p) Bs i).map conV ++ [conV ⟨b.exp, 0, 1, false, 0⟩]).set n (conV ⟨b.exp, 0, 1, false, 0⟩)) := by rw [set_same hcl]; exact HOg
          obtain ⟨hsC1, hsC2, hsC3⟩ := hsC
          refine r_subb rfl rfl (by omega) (by omega) ?_
          rw [hnl]
          refine r_ixKo sl_CL rfl HO rfl (by rw [List.length_set]; exact hcn) ?_
          refine r_as (r_nil (q_t ?_))
          refine w_seq ?_
          refine w_reg ?_
          refine r_mv (r_nc rfl (r_fo (fs := 1) fd_Con1 (by kernel_rfl) (by decide) rfl (r_ld na_int rfl (HO.cell (i := n) (j := 1) (List.getElem?_set_self hcn) rfl) (r_addb rfl rfl (by first | omega | (simp; done) | (simp; omega)) (by first | omega | (simp; done) | (simp; omega)) (r_nc rfl (r_fo (fs := 1) fd_Con1 (by kernel_rfl) (by decide) rfl (r_stK [.int .i64 b.exp, .int .i64 (0 + 1), .int .i64 1, .bool false, .int .i64 0] na_int rfl (show _ = .int .i64 (0 + 1) from rfl) rfl HO hcn (by decide) rfl fun h47 HO_48 U49 => ?_)))))))
          have X50 := X43.thenUpd U49 (fun k hk => by have hk2 : k = g := hk; omega)
          have V3_51 := V3_45.upd U49 (fun he => by have he2 : bq1 = g := he; omega)
          have V21_52 := V21_46.upd U49 (fun he => by have he2 : bq19 = g := he; omega)
          refine r_nil (q_t ?_)
          refine w_drawB (fun h' => Ext h47 h') (by kernel_rfl) ?_
          have hB0 := Ext.refl h47
          refine r_mv (r_nc rfl (r_fo (fs := 1) fd_Con2 (by kernel_rfl) (by decide) rfl (r_ldB na_int rfl hB0 (fun h' hb => (HO_48.ext hb).cell (i := n) (j := 2) (List.getElem?_set_self hcn) rfl) ?_)))
          refine r_fo (fs := 1) fd_Blk2 (by kernel_rfl) (by decide) rfl (r_ldB na_i64 rfl hB0 (fun h' hb => (V21_52.ext hb).cell (i := 2) rfl) (r_fo (fs := 1) fd_Jor0 (by kernel_rfl) (by decide) rfl (r_ldB na_i64 rfl hB0 (fun h' hb => (V3_51.ext hb).cell (i := 0) rfl) (r_call hB0 rfl (Legendre_ok b.a hop (by omega) _) fun x53 h47 hk => ?_))))
          obtain ⟨rfl, rfl⟩ := hk
          refine ⟨hB0, ?_⟩
          refine r_mul rfl rfl ?_
          rw [sgn_mul (x := 1) hsC1 hsb]
          refine r_nc rfl (r_fo (fs := 1) fd_Con2 (by kernel_rfl) (by decide) rfl (r_stK [.int .i64 b.exp, .int .i64 (0 + 1), .int .i64 (1 * lg p b.a), .bool false, .int .i64 0] na_int rfl (show _ = .int .i64 (1 * lg p b.a) from rfl) rfl HO_48 hcn (by decide) rfl fun h54 HO_55 U56 => ?_))
          have X57 := X50.thenUpd U56 (fun k hk => by have hk2 : k = g := hk; omega)
          have V3_58 := V3_51.upd U56 (fun he => by have he2 : bq1 = g := he; omega)
          have V21_59 := V21_52.upd U56 (fun he => by have he2 : bq19 = g := he; omega)
          refine r_nil (q_b (q_t ?_))
          refine w_reg ?_
          refine r_inc rfl (by omega) (r_mv (r_nil (q_t ?_)))
          have hHO : OwnK h54 44 5 g lv38 (((consTo (incG p) Bs i).map conV ++ [conV ⟨b.exp, 0, 1, false, 0⟩]).set n (conV (incG p ⟨b.exp, 0, 1, false, 0⟩ b))) := HO_55
          rw [hres, ← consTo_succ hb] at hHO
          exact ⟨Bs.length - (i + 1), (i + 1, lv38), by first | omega | (dsimp only; omega), ⟨rfl, by first | omega | (dsimp only; omega), X57, V3_58, .inr ⟨g, hgl, hHO⟩, by have := hHO.lt; omega⟩, rfl, rfl, trivial⟩
        · skip
          refine r_mv (r_want 30 false (by kernel_rfl) rfl rfl (r_mv (r_want 30 false (by kernel_rfl) rfl rfl (r_mv (r_want 30 false (by kernel_rfl) rfl rfl (r_lenKm sl_CL rfl HG_36.sl ?_))))))
          refine r_want 30 false (by kernel_rfl) rfl rfl (r_subb rfl rfl (by omega) (by omega) ?_)
          rw [show (((consTo (incG p) Bs i).length : Nat) : Int) - 1 = (((consTo (incG p) Bs i).length - 1 : Nat) : Int) by omega]
          obtain ⟨c, hcl0⟩ : ∃ c, (consTo (incG p) Bs i)[(consTo (incG p) Bs i).length - 1]? = some c := ⟨_, List.getElem?_eq_getElem (by omega)⟩
          refine r_want 30 false (by kernel_rfl) rfl rfl (r_ixK sl_CL rfl HG_36.sl rfl (get_con hcl0) fun aL oL hkL => ?_)
          refine r_want 30 false (by kernel_rfl) rfl rfl (r_fo (fs := 1) fd_Con0 (by kernel_rfl) (by decide) rfl (r_want 30 false (by kernel_rfl) rfl rfl (r_ld na_int rfl (hkL 0 _ rfl) (r_want 30 false (by kernel_rfl) rfl rfl (r_fo (fs := 1) fd_Blk0 (by kernel_rfl) (by decide) rfl (r_want 30 false (by kernel_rfl) rfl rfl (r_ld na_int rfl (V21_30.cell (i := 0) rfl) (r_want 30 false (by kernel_rfl) rfl rfl (r_neq rfl rfl (fun hc5 => ?_) (fun hc5 => ?_))))))))))   -- t40 := binOp neq 3 t37 t39 3   [guard op3 false]
          · skip
            refine r_pickF rfl (r_nil (q_t ?_))
            refine w_true rfl ?_
            have hnw : i = 0 ∨ ∃ b1, 0 < i ∧ Bs[i - 1]? = some b1 ∧ b1.exp ≠ b.exp := by
              by_cases h0 : i = 0
              · exact .inl h0
              · right
                obtain ⟨b1, hb1⟩ : ∃ b1, Bs[i - 1]? = some b1 := ⟨_, List.getElem?_eq_getElem (by omega)⟩
                obtain ⟨c1, hc1l, hc1e⟩ := consTo_last (inc := incG p) (fun _ _ => rfl) hb1
                rw [show i - 1 + 1 = i by omega, List.getLast?_eq_getElem?] at hc1l
                refine ⟨b1, by omega, hb1, ?_⟩
                first
                | (have := (List.getElem?_eq_some_iff.1 hc1l).1; omega)
                | (rw [hcl0] at hc1l; injection hc1l with hc1l; subst hc1l; omega)
            refine w_reg ?_
            refine r_mv (r_fo (fs := 1) fd_Blk0 (by kernel_rfl) (by decide) rfl (r_ld na_int rfl (V21_30.cell (i := 0) rfl) (r_build (v := .agg #[.int .i64 b.exp, .int .i64 0, .int .i64 1, .bool false, .int .i64 0]) (build_con b.exp) ?_)))
            refine r_pushK (conV ⟨b.exp, 0, 1, false, 0⟩) sl_CL ze_Con rfl (fun _ => trivial) (fun _ => rfl) rfl rfl (by simp [conV, isOne]) (by decide) (by decide) HG_36 (by omega) (by decide) (by rw [List.length_map]; omega) fun p60 lv61 h62 HG_63 U64 bk65 => ?_
            have sz67 := U64.1
            have X66 := X32.thenUpd U64 (fun k hk => by have := HG_36.blk k hk; omega)
            have V3_68 := V3_35.upd U64 (fun hs => by have hq := HG_36.blk _ hs; have hq2 : Value.ownBlock lv = some bq1 := hs; first | omega | (have := avHGbq1 _ hs; omega))
            have V21_69 := V21_30.upd U64 (fun hs => by have hq := HG_36.blk _ hs; have hq2 : Value.ownBlock lv = some bq19 := hs; first | omega | (have := avHGbq19 _ hs; omega))
            refine r_as (r_nil (q_t ?_))
            refine w_seq ?_
            refine w_reg ?_
            refine r_mv (r_mv (r_lenK sl_CL rfl HG_63.sl ?_))
            have hnew := cons_new (inc := incG p) (Bs := Bs) (i := i) (b := b) (fun _ _ => rfl) hnw
            obtain ⟨g, hgl, HOg⟩ := HG_63.own (by simp)
            obtain ⟨n, hnn⟩ : ∃ n, n = (consTo (incG p) Bs i).length := ⟨_, rfl⟩
            have hcl : ((consTo (incG p) Bs i).map conV ++ [conV ⟨b.exp, 0, 1, false, 0⟩])[n]? = some (conV ⟨b.exp, 0, 1, false, 0⟩) := get_snoc (by simp [hnn])
            have hres := set_new (inc := incG p) (out := (consTo (incG p) Bs i)) (b := b) hnn hnew
            have hsC : SmJ 16 ⟨b.exp, 0, 1, false, 0⟩ := ⟨.inl rfl, Int.le_refl 0, by show (0 : Int) ≤ 16; decide⟩
            have hg6 : g ≠ bq19 := by
              rcases bk65 with q | ⟨g', q, qe⟩
              · have := avHGbq19 g (q ▸ HOg.blk); omega
              · have h2 := HOg.blk; rw [q] at h2; injection h2 with h2; omega
            have hcn : n < ((consTo (incG p) Bs i).map conV ++ [conV ⟨b.exp, 0, 1, false, 0⟩]).length := (List.getElem?_eq_some_iff.1 hcl).1
            have hnl : ((((consTo (incG p) Bs i).map conV ++ [conV ⟨b.exp, 0, 1, false, 0⟩]).length : Nat) : Int) - 1 = (n : Int) := by simp; omega
            have hln : ((consTo (incG p) Bs i).map conV ++ [conV ⟨b.exp, 0, 1, false, 0⟩]).length ≤ 100 := by simp; omega
            have HO : OwnK h62 44 5 g lv61 (((consTo (incG p) Bs i).map conV ++ [conV ⟨b.exp, 0, 1, false, 0⟩]).set n (conV ⟨b.exp, 0, 1, false, 0⟩)) := by rw [set_same hcl]; exact HOg
            obtain ⟨hsC1, hsC2, hsC3⟩ := hsC
            refine r_subb rfl rfl (by omega) (by omega) ?_
            rw [hnl]
            refine r_ixKo sl_CL rfl HO rfl (by rw [List.length_set]; exact hcn) ?_
            refine r_as (r_nil (q_t ?_))
            refine w_seq ?_
            refine w_reg ?_
            refine r_mv (r_nc rfl (r_fo (fs := 1) fd_Con1 (by kernel_rfl) (by decide) rfl (r_ld na_int rfl (HO.cell (i := n) (j := 1) (List.getElem?_set_self hcn) rfl) (r_addb rfl rfl (by first | omega | (simp; done) | (simp; omega)) (by first | omega | (simp; done) | (simp; omega)) (r_nc rfl (r_fo (fs := 1) fd_Con1 (by kernel_rfl) (by decide) rfl (r_stK [.int .i64 b.exp, .int .i64 (0 + 1), .int .i64 1, .bool false, .int .i64 0] na_int rfl (show _ = .int .i64 (0 + 1) from rfl) rfl HO hcn (by decide) rfl fun h70 HO_71 U72 => ?_)))))))
            have X73 := X66.thenUpd U72 (fun k hk => by have hk2 : k = g := hk; omega)
            have V3_74 := V3_68.upd U72 (fun he => by have he2 : bq1 = g := he; omega)
            have V21_75 := V21_69.upd U72 (fun he => by have he2 : bq19 = g := he; omega)
            refine r_nil (q_t ?_)
            refine w_drawB (fun h' => Ext h70 h') (by kernel_rfl) ?_
            have hB0 := Ext.refl h70
            refine r_mv (r_nc rfl (r_fo (fs := 1) fd_Con2 (by kernel_rfl) (by decide) rfl (r_ldB na_int rfl hB0 (fun h' hb => (HO_71.ext hb).cell (i := n) (j := 2) (List.getElem?_set_self hcn) rfl) ?_)))
            refine r_fo (fs := 1) fd_Blk2 (by kernel_rfl) (by decide) rfl (r_ldB na_i64 rfl hB0 (fun h' hb => (V21_75.ext hb).cell (i := 2) rfl) (r_fo (fs := 1) fd_Jor0 (by kernel_rfl) (by decide) rfl (r_ldB na_i64 rfl hB0 (fun h' hb => (V3_74.ext hb).cell (i := 0) rfl) (r_call hB0 rfl (Legendre_ok b.a hop (by omega) _) fun x76 h70 hk => ?_))))
            obtain ⟨rfl, rfl⟩ := hk
            refine ⟨hB0, ?_⟩
            refine r_mul rfl rfl ?_
            rw [sgn_mul (x := 1) hsC1 hsb]
            refine r_nc rfl (r_fo (fs := 1) fd_Con2 (by kernel_rfl) (by decide) rfl (r_stK [.int .i64 b.exp, .int .i64 (0 + 1), .int .i64 (1 * lg p b.a), .bool false, .int .i64 0] na_int rfl (show _ = .int .i64 (1 * lg p b.a) from rfl) rfl HO_71 hcn (by decide) rfl fun h77 HO_78 U79 => ?_))
            have X80 := X73.thenUpd U79 (fun k hk => by have hk2 : k = g := hk; omega)
            have V3_81 := V3_74.upd U79 (fun he => by have he2 : bq1 = g := he; omega)
            have V21_82 := V21_75.upd U79 (fun he => by have he2 : bq19 = g := he; omega)
            refine r_nil (q_b (q_t ?_))
            refine w_reg ?_
            refine r_inc rfl (by omega) (r_mv (r_nil (q_t ?_)))
            have hHO : OwnK h77 44 5 g lv61 (((consTo (incG p) Bs i).map conV ++ [conV ⟨b.exp, 0, 1, false, 0⟩]).set n (conV (incG p ⟨b.exp, 0, 1, false, 0⟩ b))) := HO_78
            rw [hres, ← consTo_succ hb] at hHO
            exact ⟨Bs.length - (i + 1), (i + 1, lv61), by first | omega | (dsimp only; omega), ⟨rfl, by first | omega | (dsimp only; omega), X80, V3_81, .inr ⟨g, hgl, hHO⟩, by have := hHO.lt; omega⟩, rfl, rfl, trivial⟩
          · skip
            refine r_pickF rfl (r_nil (q_t ?_))
            refine w_false rfl ?_
            refine w_skip (q_t ?_)
            refine w_seq ?_
            refine w_reg ?_
            refine r_mv (r_mv (r_lenK sl_CL rfl HG_36.sl ?_))
            have hlc0 : (consTo (incG p) Bs i).getLast? = some c := by rw [List.getLast?_eq_getElem?]; exact hcl0
            have hce : c.exp = b.exp := by omega
            have hne : (consTo (incG p) Bs i) ≠ [] := fun he => by rw [he] at hlc0; cases hlc0
            obtain ⟨g, hgl, HOg⟩ := HG_36.own (by simpa using hne)
            have hlen : 0 < (consTo (incG p) Bs i).length := List.length_pos_iff.2 hne
            obtain ⟨n, hnn⟩ : ∃ n, n + 1 = (consTo (incG p) Bs i).length := ⟨_, Nat.sub_add_cancel hlen⟩
            have hcl : ((consTo (incG p) Bs i).map conV)[n]? = some (conV c) := get_con (by rw [List.getLast?_eq_getElem?, ← hnn] at hlc0; exact hlc0)
            have hres := set_old (inc := incG p) (out := (consTo (incG p) Bs i)) (b := b) hnn hlc0 hce
            have hsC : SmJ 16 c := smJ_mono (smG_cons hop i hgood.1 c (List.mem_of_getLast? hlc0)) (by omega)
            have hg6 : g ≠ bq19 := by have := avHGbq19 g HOg.blk; omega
            have hcn : n < ((consTo (incG p) Bs i).map conV).length := (List.getElem?_eq_some_iff.1 hcl).1
            have hnl : ((((consTo (incG p) Bs i).map conV).length : Nat) : Int) - 1 = (n : Int) := by simp; omega
            have hln : ((consTo (incG p) Bs i).map conV).length ≤ 100 := by simp; omega
            have HO : OwnK h29 44 5 g lv (((consTo (incG p) Bs i).map conV).set n (conV c)) := by rw [set_same hcl]; exact HOg
            obtain ⟨hsC1, hsC2, hsC3⟩ := hsC
            refine r_subb rfl rfl (by omega) (by omega) ?_
            rw [hnl]
            refine r_ixKo sl_CL rfl HO rfl (by rw [List.length_set]; exact hcn) ?_
            refine r_as (r_nil (q_t ?_))
            refine w_seq ?_
            refine w_reg ?_
            refine r_mv (r_nc rfl (r_fo (fs := 1) fd_Con1 (by kernel_rfl) (by decide) rfl (r_ld na_int rfl (HO.cell (i := n) (j := 1) (List.getElem?_set_self hcn) rfl) (r_addb rfl rfl (by first | omega | (simp; done) | (simp; omega)) (by first | omega | (simp; done) | (simp; omega)) (r_nc rfl (r_fo (fs := 1) fd_Con1 (by kernel_rfl) (by decide) rfl (r_stK [.int .i64 c.exp, .int .i64 (c.dim + 1), .int .i64 c.sign, .bool c.odd, .int .i64 c.oddity] na_int rfl (show _ = .int .i64 (c.dim + 1) from rfl) rfl HO hcn (by decide) rfl fun h83 HO_84 U85 => ?_)))))))
            have X86 := X32.thenUpd U85 (fun k hk => by have hk2 : k = g := hk; omega)
            have V3_87 := V3_35.upd U85 (fun he => by have he2 : bq1 = g := he; omega)
            have V21_88 := V21_30.upd U85 (fun he => by have he2 : bq19 = g := he; omega)
            refine r_nil (q_t ?_)
            refine w_drawB (fun h' => Ext h83 h') (by kernel_rfl) ?_
            have hB0 := Ext.refl h83
            refine r_mv (r_nc rfl (r_fo (fs := 1) fd_Con2 (by kernel_rfl) (by decide) rfl (r_ldB na_int rfl hB0 (fun h' hb => (HO_84.ext hb).cell (i := n) (j := 2) (List.getElem?_set_self hcn) rfl) ?_)))
            refine r_fo (fs := 1) fd_Blk2 (by kernel_rfl) (by decide) rfl (r_ldB na_i64 rfl hB0 (fun h' hb => (V21_88.ext hb).cell (i := 2) rfl) (r_fo (fs := 1) fd_Jor0 (by kernel_rfl) (by decide) rfl (r_ldB na_i64 rfl hB0 (fun h' hb => (V3_87.ext hb).cell (i := 0) rfl) (r_call hB0 rfl (Legendre_ok b.a hop (by omega) _) fun x89 h83 hk => ?_))))
            obtain ⟨rfl, rfl⟩ := hk
            refine ⟨hB0, ?_⟩
            refine r_mul rfl rfl ?_
            rw [sgn_mul (x := c.sign) hsC1 hsb]
            refine r_nc rfl (r_fo (fs := 1) fd_Con2 (by kernel_rfl) (by decide) rfl (r_stK [.int .i64 c.exp, .int .i64 (c.dim + 1), .int .i64 (c.sign * lg p b.a), .bool c.odd, .int .i64 c.oddity] na_int rfl (show _ = .int .i64 (c.sign * lg p b.a) from rfl) rfl HO_84 hcn (by decide) rfl fun h90 HO_91 U92 => ?_))
            have X93 := X86.thenUpd U92 (fun k hk => by have hk2 : k = g := hk; omega)
            have V3_94 := V3_87.upd U92 (fun he => by have he2 : bq1 = g := he; omega)
            have V21_95 := V21_88.upd U92 (fun he => by have he2 : bq19 = g := he; omega)
            refine r_nil (q_b (q_t ?_))
            refine w_reg ?_
            refine r_inc rfl (by omega) (r_mv (r_nil (q_t ?_)))
            have hHO : OwnK h90 44 5 g lv (((consTo (incG p) Bs i).map conV).set n (conV (incG p c b))) := HO_91
            rw [hres, ← consTo_succ hb] at hHO
            exact ⟨Bs.length - (i + 1), (i + 1, lv), by first | omega | (dsimp only; omega), ⟨rfl, by first | omega | (dsimp only; omega), X93, V3_94, .inr ⟨g, hgl, hHO⟩, by have := hHO.lt; omega⟩, rfl, rfl, trivial⟩
      · skip
        refine r_nil (q_t ?_)
        refine w_seq ?_
        refine w_false rfl ?_
        refine w_exit (q_tx (q_tx (q_bx (q_t ?_))))
        refine w_seq ?_
        refine w_reg ?_
        refine r_mv (r_as (r_as (r_nil (q_t ?_))))
        refine w_ret ?_
        refine ⟨_, retV_2, ?_⟩
        first
          | exact postG_no XQ (odd_no (by assumption))
          | exact postG_no XQ (fun hh => absurd ((lg_lst (odd_yes (by assumption)).1).1 hh) (not_of_lstB (by assumption)))
          | (obtain rfl : i = Bs.length := by omega
             exact postG_yes XQ hlst HG.sl)

theorem JordanConstituents_ok {h : Heap} {vT vB vX : Value} {p : Int} {Bs : List Blk} {Xs : List Q5} (k : Nat) (hk : k < 256) (made : Bool) (HF : OffH h) (HBs : SlK h 5 vB (Bs.map blkV)) (HX : SlK h 5 vX (Xs.map q5V)) (hX : ∀ q ∈ Xs, q.I) : CallH Tryd.prog 6 #[.agg #[.int .i64 p, vT, vB], vX, .int .u8 (k : Int), .bool made] h fun x h' => Ext h h' ∧ x = .bool true := by
  refine calls_of_W (l := [_, _, _, _]) mx Tryd.func6 rfl rfl rfl rfl rfl (by kernel_rfl) ?_
  refine w_seq ?_
  refine w_reg ?_
  refine r_boxB [.int .i64 p, vT, vB] (fun _ => trivial) rfl rfl fun bq1 h2 V3 E4 hb5 hl6 => ?_
  have hzbq1 : Array.size h ≤ bq1 := hb5
  have sz7 := E4.1
  have Z8 := (Ext.refl h).trans E4
  refine r_as (r_nil (q_t ?_))
  refine w_seq ?_
  refine w_seq ?_
  refine w_reg ?_
  refine r_fo (fs := 1) fd_Jor2 (by kernel_rfl) (by decide) rfl (r_ld na_BL rfl (V3.cell (i := 2) rfl) (r_lenKm sl_BL rfl (HBs.ext E4) (r_gtr rfl rfl (fun hc1 => ?_) (fun hc1 => ?_))))   -- t16 := binOp gtr 3 t15 20:i64 3
  · skip
    refine r_mv (r_skip 17 true (by kernel_rfl) rfl rfl (r_skip 17 true (by kernel_rfl) rfl rfl (r_skip 17 true (by kernel_rfl) rfl rfl (r_pickT rfl (r_nil (q_t ?_))))))
    refine w_true rfl ?_
    refine w_seq ?_
    refine w_reg ?_
    refine r_call trivial rfl (awake24_ok (HF.ext E4)) fun x9 h10 hk => ?_
    obtain ⟨E11, rfl⟩ := hk
    refine ⟨trivial, ?_⟩
    have sz12 := E11.1
    have Z13 := Z8.trans E11
    have X14 := E4.trans E11
    have V3_15 := V3.ext E11
    have Y16 := E4.trans E11
    refine r_as (r_nil (q_t ?_))
    refine w_ret (q_tr ?_)
    refine ⟨_, retV_1, ?_⟩
    exact ⟨X14, rfl⟩
  · skip
    refine r_mv (r_want 17 false (by kernel_rfl) rfl rfl (r_mv (r_want 17 false (by kernel_rfl) rfl rfl (r_lenKm sl_A5L rfl (HX.ext E4) (r_want 17 false (by kernel_rfl) rfl rfl (r_gtr rfl rfl (fun hc2 => ?_) (fun hc2 => ?_)))))))   -- t20 := binOp gtr 3 t19 20:i64 3   [guard op4 false]
    · skip
      refine r_pickF rfl (r_nil (q_t ?_))
      refine w_true rfl ?_
      refine w_seq ?_
      refine w_reg ?_
      refine r_call trivial rfl (awake24_ok (HF.ext E4)) fun x17 h18 hk => ?_
      obtain ⟨E19, rfl⟩ := hk
      refine ⟨trivial, ?_⟩
      have sz20 := E19.1
      have Z21 := Z8.trans E19
      have X22 := E4.trans E19
      have V3_23 := V3.ext E19
      have Y24 := E4.trans E19
      refine r_as (r_nil (q_t ?_))
      refine w_ret (q_tr ?_)
      refine ⟨_, retV_1, ?_⟩
      exact ⟨X22, rfl⟩
    · skip
      refine r_pickF rfl (r_nil (q_t ?_))
      refine w_false rfl ?_
      refine w_skip (q_t ?_)
      refine w_seq ?_
      refine w_seq ?_
      refine w_reg ?_
      refine r_mv ?_
      cases hc3 : made
      · skip
        refine r_nil (q_t ?_)
        refine w_false rfl ?_
        refine w_skip (q_t ?_)
        refine w_seq ?_
        refine w_reg ?_
        refine r_ldA [.int .i64 p, vT, vB] ag_Jor rfl rfl V3.agg (r_call trivial rfl (ConG_ok (HF.ext E4) (HBs.ext E4) (by first | omega | (have := hmade.len; omega))) fun x25 h26 hk => ?_)
        obtain ⟨E27, r1, rfl, HS1⟩ := hk
        refine ⟨trivial, ?_⟩
        have sz28 := E27.1
        have Z29 := Z8.trans E27
        have X30 := E4.trans E27
        have V3_31 := V3.ext E27
        have Y32 := E4.trans E27
        refine r_mv (r_ext rfl rfl (r_ext rfl rfl (r_as (r_as (r_nil (q_t ?_))))))
        refine w_seq ?_
        refine w_reg ?_
        refine r_ldA [.int .i64 p, vT, vB] ag_Jor rfl rfl V3_31.agg (r_call trivial rfl (refConG_ok (HBs.ext X30) (by first | omega | (have := hmade.len; omega))) fun x33 h34 hk => ?_)
        obtain ⟨E35, r2, rfl, HS2⟩ := hk
        refine ⟨trivial, ?_⟩
        have sz36 := E35.1
        have Z37 := Z29.trans E35
        have X38 := X30.trans E35
        have V3_39 := V3_31.ext E35
        have Y40 := Y32.trans E35
        have HS1_41 := HS1.ext E35
        refine r_mv (r_ext rfl rfl (r_ext rfl rfl (r_as (r_as (r_nil (q_t ?_))))))
        refine w_seq ?_
        refine w_reg ?_
        refine r_mv (r_mv (r_eqBool un_bool rfl rfl ?_))
        rw [show (lgB p Bs == lgB p Bs) = true from beq_self_eq_true _]
        refine r_mv (r_want 45 true (by kernel_rfl) rfl rfl (r_mv (r_want 45 true (by kernel_rfl) rfl rfl (r_mv (r_want 45 true (by kernel_rfl) rfl rfl (r_call trivial rfl (SameList_ok HS1_41 HS2 (by have := conG_len p Bs; first | omega | (have := hmade.len; omega))) fun x42 h34 hk => ?_))))))
        obtain ⟨rfl, rfl⟩ := hk
        refine ⟨trivial, ?_⟩
        rw [decide_eq_true rfl]
        refine r_pickT rfl (r_mv (r_want 50 true (by kernel_rfl) rfl rfl (r_call trivial rfl (awake24_ok (HF.ext X38)) fun x43 h44 hk => ?_)))
        obtain ⟨E45, rfl⟩ := hk
        refine ⟨trivial, ?_⟩
        have sz46 := E45.1
        have Z47 := Z37.trans E45
        have X48 := X38.trans E45
        have V3_49 := V3_39.ext E45
        have Y50 := Y40.trans E45
        have HS1_51 := HS1_41.ext E45
        have HS2_52 := HS2.ext E45
        refine r_pickT rfl (r_as (r_nil (q_t ?_)))
        refine w_ret ?_
        refine ⟨_, retV_1, ?_⟩
        exact ⟨X48, rfl⟩
      · skip
        refine r_nil (q_t ?_)
        refine w_true rfl ?_
        refine w_seq ?_
        refine w_reg ?_
        refine r_mv (r_call trivial rfl (OddPrime_ok hk _) fun x53 h54 hk => ?_)
        obtain ⟨E55, q, hq8, rfl⟩ := hk
        refine ⟨trivial, ?_⟩
        have sz56 := E55.1
        have Z57 := Z8.trans E55
        have X58 := E4.trans E55
        have V3_59 := V3.ext E55
        have Y60 := E4.trans E55
        have hp3 := p8_range hq8
        refine r_fo (fs := 1) fd_Jor0 (by kernel_rfl) (by decide) rfl (r_stB [.int .i64 (q : Int), vT, vB] na_i64 rfl (show _ = .int .i64 (q : Int) from rfl) rfl V3_59 (Nat.le_of_ble_eq_true rfl) rfl fun h61 V3_62 U63 => ?_)
        have X64 := X58.thenUpd U63 (fun k hk => by have hk2 : k = bq1 := hk; omega)
        have sz65 := U63.1
        have Z66 := Z57.thenUpd U63 (fun k hk => by have hk2 : k = bq1 := hk; omega)
        have Y67 := Y60.thenUpd U63 (fun k hk => by have hk2 : k = bq1 := hk; omega)
        refine r_nil (q_t ?_)
        refine w_reg ?_
        refine r_mv (r_fo (fs := 1) fd_Jor0 (by kernel_rfl) (by decide) rfl (r_ld na_i64 rfl (V3_62.cell (i := 0) rfl) (r_call trivial rfl (Blocks_ok (most := 9) (p := (q : Int)) (HX.ext X64) hX (by omega) (by omega) (by omega)) fun x68 h69 hk => ?_)))
        obtain ⟨E70, Bm, HG, hmade⟩ := hk
        refine ⟨trivial, ?_⟩
        have sz71 := E70.1
        have Z72 := Z66.trans E70
        have X73 := X64.trans E70
        have V3_74 := V3_62.ext E70
        have Y75 := Y67.trans E70
        obtain ⟨a7, c7, hv7⟩ := HG.sl.len
        subst hv7
        refine r_fo (fs := 1) fd_Jor2 (by kernel_rfl) (by decide) rfl (r_stB [.int .i64 (q : Int), vT, (.slice a7 (Bm.map blkV).length c7)] na_BL rfl (show _ = (.slice a7 (Bm.map blkV).length c7) from rfl) (by simp [isOne]) V3_74 (Nat.le_of_ble_eq_true rfl) rfl fun h76 V3_77 U78 => ?_)
        have X79 := X73.thenUpd U78 (fun k hk => by have hk2 : k = bq1 := hk; omega)
        have sz80 := U78.1
        have Z81 := Z72.thenUpd U78 (fun k hk => by have hk2 : k = bq1 := hk; omega)
        have Y82 := Y75.thenUpd U78 (fun k hk => by have hk2 : k = bq1 := hk; omega)
        have HG_83 := HG.updLo U78 (by omega)
        refine r_nil (q_t ?_)
        refine w_seq ?_
        refine w_reg ?_
        refine r_ldA [.int .i64 (q : Int), vT, (.slice a7 (Bm.map blkV).length c7)] ag_Jor rfl rfl V3_77.agg (r_call trivial rfl (ConG_ok (HF.ext X79) HG_83.sl (by first | omega | (have := hmade.len; omega))) fun x84 h85 hk => ?_)
        obtain ⟨E86, r1, rfl, HS1⟩ := hk
        refine ⟨trivial, ?_⟩
        have sz87 := E86.1
        have Z88 := Z81.trans E86
        have X89 := X79.trans E86
        have V3_90 := V3_77.ext E86
        have Y91 := Y82.trans E86
        have HG_92 := HG_83.ext E86
        refine r_mv (r_ext rfl rfl (r_ext rfl rfl (r_as (r_as (r_nil (q_t ?_))))))
        refine w_seq ?_
        refine w_reg ?_
        refine r_ldA [.int .i64 (q : Int), vT, (.slice a7 (Bm.map blkV).length c7)] ag_Jor rfl rfl V3_90.agg (r_call trivial rfl (refConG_ok HG_92.sl (by first | omega | (have := hmade.len; omega))) fun x93 h94 hk => ?_)
        obtain ⟨E95, r2, rfl, HS2⟩ := hk
        refine ⟨trivial, ?_⟩
        have sz96 := E95.1
        have Z97 := Z88.trans E95
        have X98 := X89.trans E95
        have V3_99 := V3_90.ext E95
        have Y100 := Y91.trans E95
        have HG_101 := HG_92.ext E95
        have HS1_102 := HS1.ext E95
        refine r_mv (r_ext rfl rfl (r_ext rfl rfl (r_as (r_as (r_nil (q_t ?_))))))
        refine w_seq ?_
        refine w_reg ?_
        refine r_mv (r_mv (r_eqBool un_bool rfl rfl ?_))
        rw [show (lgB (q : Int) Bm == lgB (q : Int) Bm) = true from beq_self_eq_true _]
        refine r_mv (r_want 45 true (by kernel_rfl) rfl rfl (r_mv (r_want 45 true (by kernel_rfl) rfl rfl (r_mv (r_want 45 true (by kernel_rfl) rfl rfl (r_call trivial rfl (SameList_ok HS1_102 HS2 (by have := conG_len (q : Int) Bm; first | omega | (have := hmade.len; omega))) fun x103 h94 hk => ?_))))))
        obtain ⟨rfl, rfl⟩ := hk
        refine ⟨trivial, ?_⟩
        rw [decide_eq_true rfl]
        refine r_pickT rfl (r_mv (r_want 50 true (by kernel_rfl) rfl rfl (r_call trivial rfl (awake24_ok (HF.ext X98)) fun x104 h105 hk => ?_)))
        obtain ⟨E106, rfl⟩ := hk
        refine ⟨trivial, ?_⟩
        have sz107 := E106.1
        have Z108 := Z97.trans E106
        have X109 := X98.trans E106
        have V3_110 := V3_99.ext E106
        have Y111 := Y100.trans E106
        have HG_112 := HG_101.ext E106
        have HS1_113 := HS1_102.ext E106
        have HS2_114 := HS2.ext E106
        refine r_pickT rfl (r_as (r_nil (q_t ?_)))
        refine w_ret ?_
        refine ⟨_, retV_1, ?_⟩
        exact ⟨X109, rfl⟩

end Go.Proofs.YtccgaemmdikhcaaDoor
