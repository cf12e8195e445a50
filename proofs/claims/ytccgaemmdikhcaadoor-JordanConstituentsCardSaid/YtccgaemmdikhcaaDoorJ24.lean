/-
  jordan.Constituents for well-formed lists at the eight primes of the scene. Conditions stand in each statement.
-/
import Derived.Test.YtccgaemmdikhcaaDoorK24
import Derived.Test.YtccgaemmdikhcaaDoorDy1
namespace Go.Proofs.YtccgaemmdikhcaaDoor
open Go Go.QF
set_option linter.unusedVariables false
set_option linter.unusedSimpArgs false
set_option maxRecDepth 100000
theorem sgn_mul {x y : Int} (hx : x = 1 ∨ x = -1) (hy : y = 1 ∨ y = -1) : IntKind.i64.wrap (x * y) = x * y := by
  rcases hx with rfl | rfl <;> rcases hy with rfl | rfl <;> decide
def PostJ (h : Heap) (x : Value) (h' : Heap) (Cs : List Con) : Prop := Ext h h' ∧ ∃ r, x = .tuple #[r, .bool true] ∧ GroK h' 44 5 (Array.size h) r (Cs.map conV)

theorem ConJ_ok {h : Heap} {vT vB : Value} {p : Nat} {Bs : List Blk} (hp : p ∈ p8) (HF : OffH h) (HBs : SlK h 5 vB (Bs.map blkV)) (hG : GoodJ p Bs) : CallH Tryd.prog 21 #[.agg #[.int .i64 (p : Int), vT, vB]] h fun x h' => PostJ h x h' (conJ p Bs) := by
  have hp3 := p8_range hp
  have hlo1 := hG.lo
  have hhi8 := hG.hi
  refine calls_of_W (l := [_]) mx Tryd.func21 rfl rfl rfl rfl rfl (by kernel_rfl) ?_
  refine w_seq ?_
  refine w_reg ?_
  refine r_boxB [.int .i64 (p : Int), vT, vB] (fun _ => trivial) rfl rfl fun bq1 h2 V3 E4 hb5 hl6 => ?_
  have hzbq1 : Array.size h ≤ bq1 := hb5
  have sz7 := E4.1
  have Z8 := (Ext.refl h).trans E4
  refine r_as (r_as (r_nil (q_t ?_)))
  refine w_seq ?_
  refine w_seq ?_
  refine w_reg ?_
  refine r_fo (fs := 1) fd_Jor0 (by kernel_rfl) (by decide) rfl (r_ld na_i64 rfl (V3.cell (i := 0) rfl) (r_call trivial rfl (odd_ok hp (HF.ext E4)) fun x9 h10 hk => ?_))
  obtain ⟨E11, rfl⟩ := hk
  refine ⟨trivial, ?_⟩
  have sz12 := E11.1
  have Z13 := Z8.trans E11
  have X14 := E4.trans E11
  have V3_15 := V3.ext E11
  have Y16 := E4.trans E11
  refine r_not rfl (r_mv (r_want 14 false (by kernel_rfl) rfl rfl (r_fo (fs := 1) fd_Jor2 (by kernel_rfl) (by decide) rfl (r_want 14 false (by kernel_rfl) rfl rfl (r_ld na_BL rfl (V3_15.cell (i := 2) rfl) (r_want 14 false (by kernel_rfl) rfl rfl (r_lenKm sl_BL rfl (HBs.ext X14) (r_want 14 false (by kernel_rfl) rfl rfl (r_lss rfl rfl (fun hc1 => ?_) (fun hc1 => ?_))))))))))   -- t18 := binOp lss 3 t17 1:i64 3   [guard op4 false]
  · skip
    refine r_pickF rfl (r_mv (r_skip 20 true (by kernel_rfl) rfl rfl (r_skip 20 true (by kernel_rfl) rfl rfl (r_skip 20 true (by kernel_rfl) rfl rfl (r_skip 20 true (by kernel_rfl) rfl rfl (r_pickT rfl (r_nil (q_t ?_))))))))
    refine w_true rfl ?_
    refine w_seq ?_
    refine w_reg ?_
    refine r_as (r_as (r_nil (q_t ?_)))
    refine w_ret (q_tr ?_)
    refine ⟨_, retV_2, ?_⟩
    first
      | (exfalso; omega)
      | (exfalso; exact w9 (by assumption))
      | (obtain rfl : i = Bs.length := by omega
         exact ⟨X14, _, rfl, HG.mono (by omega)⟩)
  · skip
    refine r_pickF rfl (r_mv (r_want 20 false (by kernel_rfl) rfl rfl (r_fo (fs := 1) fd_Jor2 (by kernel_rfl) (by decide) rfl (r_want 20 false (by kernel_rfl) rfl rfl (r_ld na_BL rfl (V3_15.cell (i := 2) rfl) (r_want 20 false (by kernel_rfl) rfl rfl (r_lenKm sl_BL rfl (HBs.ext X14) (r_want 20 false (by kernel_rfl) rfl rfl (r_gtr rfl rfl (fun hc2 => ?_) (fun hc2 => ?_))))))))))   -- t24 := binOp gtr 3 t23 8:i64 3   [guard op10 false]
    · skip
      refine r_pickF rfl (r_nil (q_t ?_))
      refine w_true rfl ?_
      refine w_seq ?_
      refine w_reg ?_
      refine r_as (r_as (r_nil (q_t ?_)))
      refine w_ret (q_tr ?_)
      refine ⟨_, retV_2, ?_⟩
      first
        | (exfalso; omega)
        | (exfalso; exact w9 (by assumption))
        | (obtain rfl : i = Bs.length := by omega
           exact ⟨X14, _, rfl, HG.mono (by omega)⟩)
    · skip
      refine r_pickF rfl (r_nil (q_t ?_))
      refine w_false rfl ?_
      refine w_skip (q_t ?_)
      refine w_seq ?_
      refine w_reg ?_
      refine r_as (r_nil (q_t ?_))
      refine w_seq ?_
      refine w_seq ?_
      refine w_reg ?_
      refine r_fo (fs := 1) fd_Jor2 (by kernel_rfl) (by decide) rfl (r_ld na_BL rfl (V3_15.cell (i := 2) rfl) (r_lenKm sl_BL rfl (HBs.ext X14) (r_mv (r_nil (q_t ?_)))))
      refine w_block ?_
      obtain ⟨lo, hlo⟩ : ∃ lo, lo = Array.size h10 := ⟨_, rfl⟩
      have hblo : bq1 < lo := by rw [hlo]; exact V3_15.lt
      have hhlo : Array.size h ≤ lo := by rw [hlo]; exact X14.1
      refine w_loop 2722258935367507707706996859453608821756 (fun y : Nat × Value => [(29, .int .i64 (y.1 : Int)), (4, y.2)]) (fun k y h' => k = Bs.length - y.1 ∧ y.1 ≤ Bs.length ∧ Ext h h' ∧ BoxH 31 h' bq1 [.int .i64 (p : Int), vT, vB] ∧ GroK h' 44 5 lo y.2 ((consTo (incJ p) Bs y.1).map conV) ∧ lo ≤ Array.size h') (by kernel_rfl) Bs.length (0, .slice none 0 0) ?_ ⟨rfl, rfl, trivial⟩ ?_
      · exact ⟨rfl, Nat.zero_le _, X14, V3_15, groK_nil _ _ _ _, by rw [hlo]; exact Nat.le_refl _⟩
      rintro k ⟨i, lv⟩ s1 hq ⟨rfl, hi, XQ, VQ, HG, hlq⟩
      dsimp only at hi HG ⊢
      have hcl8 := consTo_len (incJ p) Bs i
      have hi8 := hG.hi
      refine w_seq ?_
      refine w_reg ?_
      refine r_lss rfl rfl (fun hc3 => ?_) (fun hc3 => ?_)   -- t30 := binOp lss 3 t29 t28 3
      · skip
        refine r_nil (q_t ?_)
        refine w_seq ?_
        refine w_true rfl ?_
        refine w_skip (q_t ?_)
        refine w_seq ?_
        refine w_block ?_
        refine w_seq ?_
        obtain ⟨b, hb⟩ : ∃ b, Bs[i]? = some b := ⟨_, List.getElem?_eq_getElem (by omega)⟩
        obtain ⟨w1, w2, w3, w4, w5, w6, w7, w8⟩ := hG.wf b (List.mem_of_getElem? hb)
        have w9 : b.a % (p : Int) ≠ 0 := by have hz : ((b.a.toNat % p : Nat) : Int) = b.a % (p : Int) := (by rw [Int.natCast_emod, Int.toNat_of_nonneg w6]); omega
        refine w_reg ?_
        refine r_mv (r_ixK sl_BL rfl (HBs.ext XQ) rfl (get_blk hb) fun aq17 oq17 hkq17 => ?_)
        refine r_ldA [.int .i64 b.exp, .int .i64 b.size, .int .i64 b.a, .int .i64 b.b, .int .i64 b.c] ag_Blk rfl rfl (fun i u hu => by rw [addr_add]; exact hkq17 i u hu) ?_
        refine r_allocB [.int .i64 0, .int .i64 0, .int .i64 0, .int .i64 0, .int .i64 0] ze_Blk rfl (fun _ => trivial) fun bq18 h19 V20 E21 hb22 hl23 => ?_
        have hzbq18 : Array.size h ≤ bq18 := Nat.le_trans XQ.1 hb22
        have nebq1bq18 : bq1 ≠ bq18 := by have := VQ.lt; omega
        have avHGbq18 : ∀ g, Value.ownBlock lv = some g → g < bq18 := fun g hg => by have := (HG.blk g hg).2; omega
        have sz24 := E21.1
        have X25 := XQ.trans E21
        have V3_26 := VQ.ext E21
        have HG_27 := HG.ext E21
        refine r_as (r_stA [.int .i64 b.exp, .int .i64 b.size, .int .i64 b.a, .int .i64 b.b, .int .i64 b.c] ag_Blk rfl rfl rfl rfl (by simp [isOne]) V20 fun h28 V20_29 U30 => ?_)
        have X31 := X25.thenUpd U30 (fun k hk => by have hk2 : k = bq18 := hk; omega)
        have sz32 := U30.1
        have Y33 := E21.thenUpd U30 (fun k hk => by have hk2 : k = bq18 := hk; omega)
        have V3_34 := VQ.ext Y33
        have HG_35 := HG.ext Y33
        refine r_nil (q_t ?_)
        refine w_seq ?_
        refine w_seq ?_
        refine w_reg ?_
        refine r_fo (fs := 1) fd_Blk1 (by kernel_rfl) (by decide) rfl (r_ld na_int rfl (V20_29.cell (i := 1) rfl) (r_neq rfl rfl (fun hc4 => ?_) (fun hc4 => ?_)))   -- t36 := binOp neq 3 t35 1:i64 3
        · skip
          refine r_mv (r_skip 37 true (by kernel_rfl) rfl rfl (r_skip 37 true (by kernel_rfl) rfl rfl (r_skip 37 true (by kernel_rfl) rfl rfl (r_pickT rfl (r_mv (r_skip 42 true (by kernel_rfl) rfl rfl (r_skip 42 true (by kernel_rfl) rfl rfl (r_skip 42 true (by kernel_rfl) rfl rfl (r_pickT rfl (r_mv (r_skip 47 true (by kernel_rfl) rfl rfl (r_skip 47 true (by kernel_rfl) rfl rfl (r_skip 47 true (by kernel_rfl) rfl rfl (r_pickT rfl (r_mv (r_skip 52 true (by kernel_rfl) rfl rfl (r_skip 52 true (by kernel_rfl) rfl rfl (r_skip 52 true (by kernel_rfl) rfl rfl (r_pickT rfl (r_mv (r_skip 57 true (by kernel_rfl) rfl rfl (r_skip 57 true (by kernel_rfl) rfl rfl (r_skip 57 true (by kernel_rfl) rfl rfl (r_skip 57 true (by kernel_rfl) rfl rfl (r_skip 57 true (by kernel_rfl) rfl rfl (r_skip 57 true (by kernel_rfl) rfl rfl (r_pickT rfl (r_nil (q_t ?_)))))))))))))))))))))))))))))
          refine w_true rfl ?_
          refine w_seq ?_
          refine w_reg ?_
          refine r_as (r_as (r_nil (q_t ?_)))
          refine w_ret (q_tr (q_br (q_tr (q_tr (q_br (q_tr ?_))))))
          refine ⟨_, retV_2, ?_⟩
          first
            | (exfalso; omega)
            | (exfalso; exact w9 (by assumption))
            | (obtain rfl : i = Bs.length := by omega
               exact ⟨X31, _, rfl, HG.mono (by omega)⟩)
        · skip
          refine r_mv (r_want 37 false (by kernel_rfl) rfl rfl (r_fo (fs := 1) fd_Blk0 (by kernel_rfl) (by decide) rfl (r_want 37 false (by kernel_rfl) rfl rfl (r_ld na_int rfl (V20_29.cell (i := 0) rfl) (r_want 37 false (by kernel_rfl) rfl rfl (r_lss rfl rfl (fun hc5 => ?_) (fun hc5 => ?_)))))))   -- t40 := binOp lss 3 t39 0:i64 3   [guard op3 false]
          · skip
            refine r_pickF rfl (r_mv (r_skip 42 true (by kernel_rfl) rfl rfl (r_skip 42 true (by kernel_rfl) rfl rfl (r_skip 42 true (by kernel_rfl) rfl rfl (r_pickT rfl (r_mv (r_skip 47 true (by kernel_rfl) rfl rfl (r_skip 47 true (by kernel_rfl) rfl rfl (r_skip 47 true (by kernel_rfl) rfl rfl (r_pickT rfl (r_mv (r_skip 52 true (by kernel_rfl) rfl rfl (r_skip 52 true (by kernel_rfl) rfl rfl (r_skip 52 true (by kernel_rfl) rfl rfl (r_pickT rfl (r_mv (r_skip 57 true (by kernel_rfl) rfl rfl (r_skip 57 true (by kernel_rfl) rfl rfl (r_skip 57 true (by kernel_rfl) rfl rfl (r_skip 57 true (by kernel_rfl) rfl rfl (r_skip 57 true (by kernel_rfl) rfl rfl (r_skip 57 true (by kernel_rfl) rfl rfl (r_pickT rfl (r_nil (q_t ?_)))))))))))))))))))))))))
            refine w_true rfl ?_
            refine w_seq ?_
            refine w_reg ?_
            refine r_as (r_as (r_nil (q_t ?_)))
            refine w_ret (q_tr (q_br (q_tr (q_tr (q_br (q_tr ?_))))))
            refine ⟨_, retV_2, ?_⟩
            first
              | (exfalso; omega)
              | (exfalso; exact w9 (by assumption))
              | (obtain rfl : i = Bs.length := by omega
                 exact ⟨X31, _, rfl, HG.mono (by omega)⟩)
          · skip
            refine r_pickF rfl (r_mv (r_want 42 false (by kernel_rfl) rfl rfl (r_fo (fs := 1) fd_Blk0 (by kernel_rfl) (by decide) rfl (r_want 42 false (by kernel_rfl) rfl rfl (r_ld na_int rfl (V20_29.cell (i := 0) rfl) (r_want 42 false (by kernel_rfl) rfl rfl (r_gtr rfl rfl (fun hc6 => ?_) (fun hc6 => ?_))))))))   -- t45 := binOp gtr 3 t44 60:i64 3   [guard op8 false]
            · skip
              refine r_pickF rfl (r_mv (r_skip 47 true (by kernel_rfl) rfl rfl (r_skip 47 true (by kernel_rfl) rfl rfl (r_skip 47 true (by kernel_rfl) rfl rfl (r_pickT rfl (r_mv (r_skip 52 true (by kernel_rfl) rfl rfl (r_skip 52 true (by kernel_rfl) rfl rfl (r_skip 52 true (by kernel_rfl) rfl rfl (r_pickT rfl (r_mv (r_skip 57 true (by kernel_rfl) rfl rfl (r_skip 57 true (by kernel_rfl) rfl rfl (r_skip 57 true (by kernel_rfl) rfl rfl (r_skip 57 true (by kernel_rfl) rfl rfl (r_skip 57 true (by kernel_rfl) rfl rfl (r_skip 57 true (by kernel_rfl) rfl rfl (r_pickT rfl (r_nil (q_t ?_))))))))))))))))))))
              refine w_true rfl ?_
              refine w_seq ?_
              refine w_reg ?_
              refine r_as (r_as (r_nil (q_t ?_)))
              refine w_ret (q_tr (q_br (q_tr (q_tr (q_br (q_tr ?_))))))
              refine ⟨_, retV_2, ?_⟩
              first
                | (exfalso; omega)
                | (exfalso; exact w9 (by assumption))
                | (obtain rfl : i = Bs.length := by omega
                   exact ⟨X31, _, rfl, HG.mono (by omega)⟩)
            · skip
              refine r_pickF rfl (r_mv (r_want 47 false (by kernel_rfl) rfl rfl (r_fo (fs := 1) fd_Blk3 (by kernel_rfl) (by decide) rfl (r_want 47 false (by kernel_rfl) rfl rfl (r_ld na_i64 rfl (V20_29.cell (i := 3) rfl) (r_want 47 false (by kernel_rfl) rfl rfl (r_neq rfl rfl (fun hc7 => ?_) (fun hc7 => ?_))))))))   -- t50 := binOp neq 2 t49 0:i64 2   [guard op13 false]
              · skip
                refine r_pickF rfl (r_mv (r_skip 52 true (by kernel_rfl) rfl rfl (r_skip 52 true (by kernel_rfl) rfl rfl (r_skip 52 true (by kernel_rfl) rfl rfl (r_pickT rfl (r_mv (r_skip 57 true (by kernel_rfl) rfl rfl (r_skip 57 true (by kernel_rfl) rfl rfl (r_skip 57 true (by kernel_rfl) rfl rfl (r_skip 57 true (by kernel_rfl) rfl rfl (r_skip 57 true (by kernel_rfl) rfl rfl (r_skip 57 true (by kernel_rfl) rfl rfl (r_pickT rfl (r_nil (q_t ?_)))))))))))))))
                refine w_true rfl ?_
                refine w_seq ?_
                refine w_reg ?_
                refine r_as (r_as (r_nil (q_t ?_)))
                refine w_ret (q_tr (q_br (q_tr (q_tr (q_br (q_tr ?_))))))
                refine ⟨_, retV_2, ?_⟩
                first
                  | (exfalso; omega)
                  | (exfalso; exact w9 (by assumption))
                  | (obtain rfl : i = Bs.length := by omega
                     exact ⟨X31, _, rfl, HG.mono (by omega)⟩)
              · skip
                refine r_pickF rfl (r_mv (r_want 52 false (by kernel_rfl) rfl rfl (r_fo (fs := 1) fd_Blk4 (by kernel_rfl) (by decide) rfl (r_want 52 false (by kernel_rfl) rfl rfl (r_ld na_i64 rfl (V20_29.cell (i := 4) rfl) (r_want 52 false (by kernel_rfl) rfl rfl (r_neq rfl rfl (fun hc8 => ?_) (fun hc8 => ?_))))))))   -- t55 := binOp neq 2 t54 0:i64 2   [guard op18 false]
                · skip
                  refine r_pickF rfl (r_mv (r_skip 57 true (by kernel_rfl) rfl rfl (r_skip 57 true (by kernel_rfl) rfl rfl (r_skip 57 true (by kernel_rfl) rfl rfl (r_skip 57 true (by kernel_rfl) rfl rfl (r_skip 57 true (by kernel_rfl) rfl rfl (r_skip 57 true (by kernel_rfl) rfl rfl (r_pickT rfl (r_nil (q_t ?_))))))))))
                  refine w_true rfl ?_
                  refine w_seq ?_
                  refine w_reg ?_
                  refine r_as (r_as (r_nil (q_t ?_)))
                  refine w_ret (q_tr (q_br (q_tr (q_tr (q_br (q_tr ?_))))))
                  refine ⟨_, retV_2, ?_⟩
                  first
                    | (exfalso; omega)
                    | (exfalso; exact w9 (by assumption))
                    | (obtain rfl : i = Bs.length := by omega
                       exact ⟨X31, _, rfl, HG.mono (by omega)⟩)
                · skip
                  refine r_pickF rfl (r_mv (r_want 57 false (by kernel_rfl) rfl rfl (r_fo (fs := 1) fd_Blk2 (by kernel_rfl) (by decide) rfl (r_want 57 false (by kernel_rfl) rfl rfl (r_ld na_i64 rfl (V20_29.cell (i := 2) rfl) (r_want 57 false (by kernel_rfl) rfl rfl (r_fo (fs := 1) fd_Jor0 (by kernel_rfl) (by decide) rfl (r_want 57 false (by kernel_rfl) rfl rfl (r_ld na_i64 rfl (V3_34.cell (i := 0) rfl) (r_want 57 false (by kernel_rfl) rfl rfl (r_remp rfl rfl (by omega) (by omega) ?_)))))))))))
                  refine r_want 57 false (by kernel_rfl) rfl rfl (r_eql rfl rfl (fun hc9 => ?_) (fun hc9 => ?_))   -- t63 := binOp eql 2 t62 0:i64 2   [guard op23 false]
                  · skip
                    refine r_pickF rfl (r_nil (q_t ?_))
                    refine w_true rfl ?_
                    refine w_seq ?_
                    refine w_reg ?_
                    refine r_as (r_as (r_nil (q_t ?_)))
                    refine w_ret (q_tr (q_br (q_tr (q_tr (q_br (q_tr ?_))))))
                    refine ⟨_, retV_2, ?_⟩
                    first
                      | (exfalso; omega)
                      | (exfalso; exact w9 (by assumption))
                      | (obtain rfl : i = Bs.length := by omega
                         exact ⟨X31, _, rfl, HG.mono (by omega)⟩)
                  · skip
                    refine r_pickF rfl (r_nil (q_t ?_))
                    refine w_false rfl ?_
                    refine w_skip (q_t ?_)
                    refine w_seq ?_
                    refine w_seq ?_
                    refine w_draw (by kernel_rfl) ?_
                    refine r_mv (r_gtr rfl rfl (fun hc10 => ?_) (fun hc10 => ?_))   -- t66 := binOp gtr 3 t65 0:i64 3
                    · skip
                      refine r_mv (r_want 67 true (by kernel_rfl) rfl rfl (r_fo (fs := 1) fd_Blk0 (by kernel_rfl) (by decide) rfl (r_want 67 true (by kernel_rfl) rfl rfl (r_ld na_int rfl (V20_29.cell (i := 0) rfl) (r_want 67 true (by kernel_rfl) rfl rfl (r_fo (fs := 1) fd_Jor2 (by kernel_rfl) (by decide) rfl (r_want 67 true (by kernel_rfl) rfl rfl (r_ld na_BL rfl (V3_34.cell (i := 2) rfl) (r_want 67 true (by kernel_rfl) rfl rfl (r_mv (r_want 67 true (by kernel_rfl) rfl rfl (r_subb rfl rfl (by omega) (by omega) ?_))))))))))))
                      rw [show ((i : Nat) : Int) - 1 = ((i - 1 : Nat) : Int) by omega]
                      obtain ⟨b1, hb1⟩ : ∃ b1, Bs[i - 1]? = some b1 := ⟨_, List.getElem?_eq_getElem (by omega)⟩
                      have hasc : b1.exp ≤ b.exp := hG.asc (i - 1) b1 b (by omega) hb1 (by rw [show i - 1 + 1 = i by omega]; exact hb)
                      refine r_want 67 true (by kernel_rfl) rfl rfl (r_ixK sl_BL rfl (HBs.ext X31) rfl (get_blk hb1) fun aq36 oq36 hkq36 => ?_)
                      refine r_want 67 true (by kernel_rfl) rfl rfl (r_fo (fs := 1) fd_Blk0 (by kernel_rfl) (by decide) rfl (r_want 67 true (by kernel_rfl) rfl rfl (r_ld na_int rfl (hkq36 0 _ rfl) (r_want 67 true (by kernel_rfl) rfl rfl (r_lss rfl rfl (fun hc11 => ?_) (fun hc11 => ?_))))))   -- t77 := binOp lss 3 t69 t76 3   [guard op2 true]
                      · skip
                        refine r_pickT rfl (r_nil (q_t ?_))
                        refine w_true rfl ?_
                        refine w_seq ?_
                        refine w_reg ?_
                        refine r_as (r_as (r_nil (q_t ?_)))
                        refine w_ret (q_tr (q_br (q_tr (q_tr (q_br (q_tr ?_))))))
                        refine ⟨_, retV_2, ?_⟩
                        first
                          | (exfalso; omega)
                          | (exfalso; exact w9 (by assumption))
                          | (obtain rfl : i = Bs.length := by omega
                             exact ⟨X31, _, rfl, HG.mono (by omega)⟩)
                      · skip
                        refine r_pickT rfl (r_nil (q_t ?_))
                        refine w_false rfl ?_
                        refine w_skip (q_t ?_)
                        refine w_seq ?_
                        refine w_seq ?_
                        refine w_draw (by kernel_rfl) ?_
                        refine r_mv (r_eql rfl rfl (fun hc12 => ?_) (fun hc12 => ?_))   -- t80 := binOp eql 3 t79 0:i64 3
                        · skip
                          refine r_mv (r_skip 81 true (by kernel_rfl) rfl rfl (r_skip 81 true (by kernel_rfl) rfl rfl (r_skip 81 true (by kernel_rfl) rfl rfl (r_skip 81 true (by kernel_rfl) rfl rfl (r_skip 81 true (by kernel_rfl) rfl rfl (r_skip 81 true (by kernel_rfl) rfl rfl (r_skip 81 true (by kernel_rfl) rfl rfl (r_skip 81 true (by kernel_rfl) rfl rfl (r_skip 81 true (by kernel_rfl) rfl rfl (r_skip 81 true (by kernel_rfl) rfl rfl (r_pickT rfl (r_nil (q_t ?_)))))))))))))
                          refine w_true rfl ?_
                          refine w_reg ?_
                          refine r_mv (r_fo (fs := 1) fd_Blk0 (by kernel_rfl) (by decide) rfl (r_ld na_int rfl (V20_29.cell (i := 0) rfl) (r_build (v := .agg #[.int .i64 b.exp, .int .i64 0, .int .i64 1, .bool false, .int .i64 0]) (build_con b.exp) ?_)))
                          refine r_pushK (conV ⟨b.exp, 0, 1, false, 0⟩) sl_CL ze_Con rfl (fun _ => trivial) (fun _ => rfl) rfl rfl (by simp [conV, isOne]) (by decide) (by decide) HG_35 (by omega) (by decide) (by rw [List.length_map]; omega) fun p37 lv38 h39 HG_40 U41 bk42 => ?_
                          have sz44 := U41.1
                          have X43 := X31.thenUpd U41 (fun k hk => by have := HG_35.blk k hk; omega)
                          have V3_45 := V3_34.upd U41 (fun hs => by have hq := HG_35.blk _ hs; have hq2 : Value.ownBlock lv = some bq1 := hs; first | omega | (have := avHGbq1 _ hs; omega))
                          have V20_46 := V20_29.upd U41 (fun hs => by have hq := HG_35.blk _ hs; have hq2 : Value.ownBlock lv = some bq18 := hs; first | omega | (have := avHGbq18 _ hs; omega))
                          refine r_as (r_nil (q_t ?_))
                          refine w_seq ?_
                          refine w_draw (by kernel_rfl) ?_
                          refine r_fo (fs := 1) fd_Blk2 (by kernel_rfl) (by decide) rfl (r_ld na_i64 rfl (V20_46.cell (i := 2) rfl) (r_fo (fs := 1) fd_Jor0 (by kernel_rfl) (by decide) rfl (r_ld na_i64 rfl (V3_45.cell (i := 0) rfl) (r_remp rfl rfl (by omega) (by omega) ?_))))
                          obtain ⟨q, hqe⟩ : ∃ q : Nat, q = b.a.toNat % p := ⟨_, rfl⟩
                          have hq2 : b.a % (p : Int) = (q : Int) := by rw [hqe, Int.natCast_emod, Int.toNat_of_nonneg w6]
                          have hqp : q < p := by rw [hqe]; exact Nat.mod_lt _ (by omega)
                          have hqs : leg q p = sJ p b := by rw [hqe, leg_mod]; rfl
                          have hsb : sJ p b = 1 ∨ sJ p b = -1 := leg_pm w8
                          rw [hq2]
                          refine r_fo (fs := 1) fd_Jor0 (by kernel_rfl) (by decide) rfl (r_ld na_i64 rfl (V3_45.cell (i := 0) rfl) (r_call trivial rfl (Kron_ok hp hqp _) fun x47 h48 hk => ?_))
                          obtain ⟨E49, r9, rfl⟩ := hk
                          refine ⟨trivial, ?_⟩
                          have sz50 := E49.1
                          have X51 := X43.trans E49
                          have V3_52 := V3_45.ext E49
                          have HG_53 := HG_40.ext E49
                          have V20_54 := V20_46.ext E49
                          rw [hqs]
                          refine r_mv (r_ext rfl rfl (r_ext rfl rfl (r_as (r_as (r_nil (q_t ?_))))))
                          refine w_seq ?_
                          refine w_reg ?_
                          refine r_mv (r_mv (r_lenK sl_CL rfl HG_53.sl ?_))
                          have hnew := cons_new (inc := incJ p) (Bs := Bs) (i := i) (b := b) (fun _ _ => rfl) (by first | exact .inl (by omega) | exact .inr ⟨b1, by omega, hb1, by omega⟩)
                          obtain ⟨g, hgl, HOg⟩ := HG_53.own (by simp)
                          obtain ⟨n, hnn⟩ : ∃ n, n = (consTo (incJ p) Bs i).length := ⟨_, rfl⟩
                          have hcl : ((consTo (incJ p) Bs i).map conV ++ [conV ⟨b.exp, 0, 1, false, 0⟩])[n]? = some (conV ⟨b.exp, 0, 1, false, 0⟩) := get_snoc (by simp [hnn])
                          have hres := set_new (inc := incJ p) (out := (consTo (incJ p) Bs i)) (b := b) hnn hnew
                          have hsC : SmJ 16 ⟨b.exp, 0, 1, false, 0⟩ := ⟨.inl rfl, Int.le_refl 0, by show (0 : Int) ≤ 16; decide⟩
                          have hcn : n < ((consTo (incJ p) Bs i).map conV ++ [conV ⟨b.exp, 0, 1, false, 0⟩]).length := (List.getElem?_eq_some_iff.1 hcl).1
                          have hnl : ((((consTo (incJ p) Bs i).map conV ++ [conV ⟨b.exp, 0, 1, false, 0⟩]).length : Nat) : Int) - 1 = (n : Int) := by simp; omega
                          have hln : ((consTo (incJ p) Bs i).map conV ++ [conV ⟨b.exp, 0, 1, false, 0⟩]).length ≤ 100 := by simp; omega
                          have HO : OwnK h48 44 5 g lv38 (((consTo (incJ p) Bs i).map conV ++ [conV ⟨b.exp, 0, 1, false, 0⟩]).set n (conV ⟨b.exp, 0, 1, false, 0⟩)) := by rw [set_same hcl]; exact HOg
                          obtain ⟨hsC1, hsC2, hsC3⟩ := hsC
                          refine r_subb rfl rfl (by omega) (by omega) ?_
                          rw [hnl]
                          refine r_ixKo sl_CL rfl HO rfl (by rw [List.length_set]; exact hcn) ?_
                          refine r_as (r_nil (q_t ?_))
                          refine w_seq ?_
                          refine w_reg ?_
                          refine r_mv (r_nc rfl (r_fo (fs := 1) fd_Con1 (by kernel_rfl) (by decide) rfl (r_ld na_int rfl (HO.cell (i := n) (j := 1) (List.getElem?_set_self hcn) rfl) (r_addb rfl rfl (by first | omega | (simp; done) | (simp; omega)) (by first | omega | (simp; done) | (simp; omega)) (r_nc rfl (r_fo (fs := 1) fd_Con1 (by kernel_rfl) (by decide) rfl (r_stK [.int .i64 b.exp, .int .i64 (0 + 1), .int .i64 1, .bool false, .int .i64 0] na_int rfl (show _ = .int .i64 (0 + 1) from rfl) rfl HO hcn (by decide) rfl fun h55 HO_56 U57 => ?_)))))))
                          have X58 := X51.thenUpd U57 (fun k hk => by have hk2 : k = g := hk; omega)
                          have V3_59 := V3_52.upd U57 (fun he => by have he2 : bq1 = g := he; omega)
                          refine r_nil (q_t ?_)
                          refine w_reg ?_
                          refine r_mv (r_nc rfl (r_fo (fs := 1) fd_Con2 (by kernel_rfl) (by decide) rfl (r_ld na_int rfl (HO_56.cell (i := n) (j := 2) (List.getElem?_set_self hcn) rfl) (r_mv (r_mul rfl rfl ?_)))))
                          rw [sgn_mul (x := 1) hsC1 hsb]
                          refine r_nc rfl (r_fo (fs := 1) fd_Con2 (by kernel_rfl) (by decide) rfl (r_stK [.int .i64 b.exp, .int .i64 (0 + 1), .int .i64 (1 * sJ p b), .bool false, .int .i64 0] na_int rfl (show _ = .int .i64 (1 * sJ p b) from rfl) rfl HO_56 hcn (by decide) rfl fun h60 HO_61 U62 => ?_))
                          have X63 := X58.thenUpd U62 (fun k hk => by have hk2 : k = g := hk; omega)
                          have V3_64 := V3_59.upd U62 (fun he => by have he2 : bq1 = g := he; omega)
                          refine r_nil (q_b (q_t ?_))
                          refine w_reg ?_
                          refine r_inc rfl (by omega) (r_mv (r_nil (q_t ?_)))
                          have hHO : OwnK h60 44 5 g lv38 (((consTo (incJ p) Bs i).map conV ++ [conV ⟨b.exp, 0, 1, false, 0⟩]).set n (conV (incJ p ⟨b.exp, 0, 1, false, 0⟩ b))) := HO_61
                          rw [hres, ← consTo_succ hb] at hHO
                          exact ⟨Bs.length - (i + 1), (i + 1, lv38), by first | omega | (dsimp only; omega), ⟨rfl, by first | omega | (dsimp only; omega), X63, V3_64, .inr ⟨g, hgl, hHO⟩, by have := hHO.lt; omega⟩, rfl, rfl, trivial⟩
                        · skip
                          refine r_mv (r_want 81 false (by kernel_rfl) rfl rfl (r_fo (fs := 1) fd_Blk0 (by kernel_rfl) (by decide) rfl (r_want 81 false (by kernel_rfl) rfl rfl (r_ld na_int rfl (V20_29.cell (i := 0) rfl) (r_want 81 false (by kernel_rfl) rfl rfl (r_fo (fs := 1) fd_Jor2 (by kernel_rfl) (by decide) rfl (r_want 81 false (by kernel_rfl) rfl rfl (r_ld na_BL rfl (V3_34.cell (i := 2) rfl) (r_want 81 false (by kernel_rfl) rfl rfl (r_mv (r_want 81 false (by kernel_rfl) rfl rfl (r_subb rfl rfl (by omega) (by omega) ?_))))))))))))
                          rw [show ((i : Nat) : Int) - 1 = ((i - 1 : Nat) : Int) by omega]
                          obtain ⟨b1, hb1⟩ : ∃ b1, Bs[i - 1]? = some b1 := ⟨_, List.getElem?_eq_getElem (by omega)⟩
                          have hasc : b1.exp ≤ b.exp := hG.asc (i - 1) b1 b (by omega) hb1 (by rw [show i - 1 + 1 = i by omega]; exact hb)
                          refine r_want 81 false (by kernel_rfl) rfl rfl (r_ixK sl_BL rfl (HBs.ext X31) rfl (get_blk hb1) fun aq65 oq65 hkq65 => ?_)
                          refine r_want 81 false (by kernel_rfl) rfl rfl (r_fo (fs := 1) fd_Blk0 (by kernel_rfl) (by decide) rfl (r_want 81 false (by kernel_rfl) rfl rfl (r_ld na_int rfl (hkq65 0 _ rfl) (r_want 81 false (by kernel_rfl) rfl rfl (r_gtr rfl rfl (fun hc13 => ?_) (fun hc13 => ?_))))))   -- t91 := binOp gtr 3 t83 t90 3   [guard op2 false]
                          · skip
                            refine r_pickF rfl (r_nil (q_t ?_))
                            refine w_true rfl ?_
                            refine w_reg ?_
                            refine r_mv (r_fo (fs := 1) fd_Blk0 (by kernel_rfl) (by decide) rfl (r_ld na_int rfl (V20_29.cell (i := 0) rfl) (r_build (v := .agg #[.int .i64 b.exp, .int .i64 0, .int .i64 1, .bool false, .int .i64 0]) (build_con b.exp) ?_)))
                            refine r_pushK (conV ⟨b.exp, 0, 1, false, 0⟩) sl_CL ze_Con rfl (fun _ => trivial) (fun _ => rfl) rfl rfl (by simp [conV, isOne]) (by decide) (by decide) HG_35 (by omega) (by decide) (by rw [List.length_map]; omega) fun p66 lv67 h68 HG_69 U70 bk71 => ?_
                            have sz73 := U70.1
                            have X72 := X31.thenUpd U70 (fun k hk => by have := HG_35.blk k hk; omega)
                            have V3_74 := V3_34.upd U70 (fun hs => by have hq := HG_35.blk _ hs; have hq2 : Value.ownBlock lv = some bq1 := hs; first | omega | (have := avHGbq1 _ hs; omega))
                            have V20_75 := V20_29.upd U70 (fun hs => by have hq := HG_35.blk _ hs; have hq2 : Value.ownBlock lv = some bq18 := hs; first | omega | (have := avHGbq18 _ hs; omega))
                            refine r_as (r_nil (q_t ?_))
                            refine w_seq ?_
                            refine w_draw (by kernel_rfl) ?_
                            refine r_fo (fs := 1) fd_Blk2 (by kernel_rfl) (by decide) rfl (r_ld na_i64 rfl (V20_75.cell (i := 2) rfl) (r_fo (fs := 1) fd_Jor0 (by kernel_rfl) (by decide) rfl (r_ld na_i64 rfl (V3_74.cell (i := 0) rfl) (r_remp rfl rfl (by omega) (by omega) ?_))))
                            obtain ⟨q, hqe⟩ : ∃ q : Nat, q = b.a.toNat % p := ⟨_, rfl⟩
                            have hq2 : b.a % (p : Int) = (q : Int) := by rw [hqe, Int.natCast_emod, Int.toNat_of_nonneg w6]
                            have hqp : q < p := by rw [hqe]; exact Nat.mod_lt _ (by omega)
                            have hqs : leg q p = sJ p b := by rw [hqe, leg_mod]; rfl
                            have hsb : sJ p b = 1 ∨ sJ p b = -1 := leg_pm w8
                            rw [hq2]
                            refine r_fo (fs := 1) fd_Jor0 (by kernel_rfl) (by decide) rfl (r_ld na_i64 rfl (V3_74.cell (i := 0) rfl) (r_call trivial rfl (Kron_ok hp hqp _) fun x76 h77 hk => ?_))
                            obtain ⟨E78, r9, rfl⟩ := hk
                            refine ⟨trivial, ?_⟩
                            have sz79 := E78.1
                            have X80 := X72.trans E78
                            have V3_81 := V3_74.ext E78
                            have HG_82 := HG_69.ext E78
                            have V20_83 := V20_75.ext E78
                            rw [hqs]
                            refine r_mv (r_ext rfl rfl (r_ext rfl rfl (r_as (r_as (r_nil (q_t ?_))))))
                            refine w_seq ?_
                            refine w_reg ?_
                            refine r_mv (r_mv (r_lenK sl_CL rfl HG_82.sl ?_))
                            have hnew := cons_new (inc := incJ p) (Bs := Bs) (i := i) (b := b) (fun _ _ => rfl) (by first | exact .inl (by omega) | exact .inr ⟨b1, by omega, hb1, by omega⟩)
                            obtain ⟨g, hgl, HOg⟩ := HG_82.own (by simp)
                            obtain ⟨n, hnn⟩ : ∃ n, n = (consTo (incJ p) Bs i).length := ⟨_, rfl⟩
                            have hcl : ((consTo (incJ p) Bs i).map conV ++ [conV ⟨b.exp, 0, 1, false, 0⟩])[n]? = some (conV ⟨b.exp, 0, 1, false, 0⟩) := get_snoc (by simp [hnn])
                            have hres := set_new (inc := incJ p) (out := (consTo (incJ p) Bs i)) (b := b) hnn hnew
                            have hsC : SmJ 16 ⟨b.exp, 0, 1, false, 0⟩ := ⟨.inl rfl, Int.le_refl 0, by show (0 : Int) ≤ 16; decide⟩
                            have hcn : n < ((consTo (incJ p) Bs i).map conV ++ [conV ⟨b.exp, 0, 1, false, 0⟩]).length := (List.getElem?_eq_some_iff.1 hcl).1
                            have hnl : ((((consTo (incJ p) Bs i).map conV ++ [conV ⟨b.exp, 0, 1, false, 0⟩]).length : Nat) : Int) - 1 = (n : Int) := by simp; omega
                            have hln : ((consTo (incJ p) Bs i).map conV ++ [conV ⟨b.exp, 0, 1, false, 0⟩]).length ≤ 100 := by simp; omega
                            have HO : OwnK h77 44 5 g lv67 (((consTo (incJ p) Bs i).map conV ++ [conV ⟨b.exp, 0, 1, false, 0⟩]).set n (conV ⟨b.exp, 0, 1, false, 0⟩)) := by rw [set_same hcl]; exact HOg
                            obtain ⟨hsC1, hsC2, hsC3⟩ := hsC
                            refine r_subb rfl rfl (by omega) (by omega) ?_
                            rw [hnl]
                            refine r_ixKo sl_CL rfl HO rfl (by rw [List.length_set]; exact hcn) ?_
                            refine r_as (r_nil (q_t ?_))
                            refine w_seq ?_
                            refine w_reg ?_
                            refine r_mv (r_nc rfl (r_fo (fs := 1) fd_Con1 (by kernel_rfl) (by decide) rfl (r_ld na_int rfl (HO.cell (i := n) (j := 1) (List.getElem?_set_self hcn) rfl) (r_addb rfl rfl (by first | omega | (simp; done) | (simp; omega)) (by first | omega | (simp; done) | (simp; omega)) (r_nc rfl (r_fo (fs := 1) fd_Con1 (by kernel_rfl) (by decide) rfl (r_stK [.int .i64 b.exp, .int .i64 (0 + 1), .int .i64 1, .bool false, .int .i64 0] na_int rfl (show _ = .int .i64 (0 + 1) from rfl) rfl HO hcn (by decide) rfl fun h84 HO_85 U86 => ?_)))))))
                            have X87 := X80.thenUpd U86 (fun k hk => by have hk2 : k = g := hk; omega)
                            have V3_88 := V3_81.upd U86 (fun he => by have he2 : bq1 = g := he; omega)
                            refine r_nil (q_t ?_)
                            refine w_reg ?_
                            refine r_mv (r_nc rfl (r_fo (fs := 1) fd_Con2 (by kernel_rfl) (by decide) rfl (r_ld na_int rfl (HO_85.cell (i := n) (j := 2) (List.getElem?_set_self hcn) rfl) (r_mv (r_mul rfl rfl ?_)))))
                            rw [sgn_mul (x := 1) hsC1 hsb]
                            refine r_nc rfl (r_fo (fs := 1) fd_Con2 (by kernel_rfl) (by decide) rfl (r_stK [.int .i64 b.exp, .int .i64 (0 + 1), .int .i64 (1 * sJ p b), .bool false, .int .i64 0] na_int rfl (show _ = .int .i64 (1 * sJ p b) from rfl) rfl HO_85 hcn (by decide) rfl fun h89 HO_90 U91 => ?_))
                            have X92 := X87.thenUpd U91 (fun k hk => by have hk2 : k = g := hk; omega)
                            have V3_93 := V3_88.upd U91 (fun he => by have he2 : bq1 = g := he; omega)
                            refine r_nil (q_b (q_t ?_))
                            refine w_reg ?_
                            refine r_inc rfl (by omega) (r_mv (r_nil (q_t ?_)))
                            have hHO : OwnK h89 44 5 g lv67 (((consTo (incJ p) Bs i).map conV ++ [conV ⟨b.exp, 0, 1, false, 0⟩]).set n (conV (incJ p ⟨b.exp, 0, 1, false, 0⟩ b))) := HO_90
                            rw [hres, ← consTo_succ hb] at hHO
                            exact ⟨Bs.length - (i + 1), (i + 1, lv67), by first | omega | (dsimp only; omega), ⟨rfl, by first | omega | (dsimp only; omega), X92, V3_93, .inr ⟨g, hgl, hHO⟩, by have := hHO.lt; omega⟩, rfl, rfl, trivial⟩
                          · skip
                            refine r_pickF rfl (r_nil (q_t ?_))
                            refine w_false rfl ?_
                            refine w_skip (q_t ?_)
                            refine w_seq ?_
                            refine w_draw (by kernel_rfl) ?_
                            refine r_fo (fs := 1) fd_Blk2 (by kernel_rfl) (by decide) rfl (r_ld na_i64 rfl (V20_29.cell (i := 2) rfl) (r_fo (fs := 1) fd_Jor0 (by kernel_rfl) (by decide) rfl (r_ld na_i64 rfl (V3_34.cell (i := 0) rfl) (r_remp rfl rfl (by omega) (by omega) ?_))))
                            obtain ⟨q, hqe⟩ : ∃ q : Nat, q = b.a.toNat % p := ⟨_, rfl⟩
                            have hq2 : b.a % (p : Int) = (q : Int) := by rw [hqe, Int.natCast_emod, Int.toNat_of_nonneg w6]
                            have hqp : q < p := by rw [hqe]; exact Nat.mod_lt _ (by omega)
                            have hqs : leg q p = sJ p b := by rw [hqe, leg_mod]; rfl
                            have hsb : sJ p b = 1 ∨ sJ p b = -1 := leg_pm w8
                            rw [hq2]
                            refine r_fo (fs := 1) fd_Jor0 (by kernel_rfl) (by decide) rfl (r_ld na_i64 rfl (V3_34.cell (i := 0) rfl) (r_call trivial rfl (Kron_ok hp hqp _) fun x94 h95 hk => ?_))
                            obtain ⟨E96, r9, rfl⟩ := hk
                            refine ⟨trivial, ?_⟩
                            have sz97 := E96.1
                            have X98 := X31.trans E96
                            have V3_99 := V3_34.ext E96
                            have HG_100 := HG_35.ext E96
                            have V20_101 := V20_29.ext E96
                            have Y102 := Y33.trans E96
                            rw [hqs]
                            refine r_mv (r_ext rfl rfl (r_ext rfl rfl (r_as (r_as (r_nil (q_t ?_))))))
                            refine w_seq ?_
                            refine w_reg ?_
                            refine r_mv (r_mv (r_lenK sl_CL rfl HG_100.sl ?_))
                            obtain ⟨c, hcl0, hce⟩ := cons_old (inc := incJ p) (Bs := Bs) (i := i) (b := b) (b1 := b1) (fun _ _ => rfl) (by omega) hb1 (by omega)
                            have hne : (consTo (incJ p) Bs i) ≠ [] := fun he => by rw [he] at hcl0; cases hcl0
                            obtain ⟨g, hgl, HOg⟩ := HG_100.own (by simpa using hne)
                            have hlen : 0 < (consTo (incJ p) Bs i).length := List.length_pos_iff.2 hne
                            obtain ⟨n, hnn⟩ : ∃ n, n + 1 = (consTo (incJ p) Bs i).length := ⟨_, Nat.sub_add_cancel hlen⟩
                            have hcl : ((consTo (incJ p) Bs i).map conV)[n]? = some (conV c) := get_con (by rw [List.getLast?_eq_getElem?, ← hnn] at hcl0; exact hcl0)
                            have hres := set_old (inc := incJ p) (out := (consTo (incJ p) Bs i)) (b := b) hnn hcl0 hce
                            have hsC : SmJ 16 c := smJ_mono (smJ_cons hG i c (List.mem_of_getLast? hcl0)) (by omega)
                            have hcn : n < ((consTo (incJ p) Bs i).map conV).length := (List.getElem?_eq_some_iff.1 hcl).1
                            have hnl : ((((consTo (incJ p) Bs i).map conV).length : Nat) : Int) - 1 = (n : Int) := by simp; omega
                            have hln : ((consTo (incJ p) Bs i).map conV).length ≤ 100 := by simp; omega
                            have HO : OwnK h95 44 5 g lv (((consTo (incJ p) Bs i).map conV).set n (conV c)) := by rw [set_same hcl]; exact HOg
                            obtain ⟨hsC1, hsC2, hsC3⟩ := hsC
                            refine r_subb rfl rfl (by omega) (by omega) ?_
                            rw [hnl]
                            refine r_ixKo sl_CL rfl HO rfl (by rw [List.length_set]; exact hcn) ?_
                            refine r_as (r_nil (q_t ?_))
                            refine w_seq ?_
                            refine w_reg ?_
                            refine r_mv (r_nc rfl (r_fo (fs := 1) fd_Con1 (by kernel_rfl) (by decide) rfl (r_ld na_int rfl (HO.cell (i := n) (j := 1) (List.getElem?_set_self hcn) rfl) (r_addb rfl rfl (by first | omega | (simp; done) | (simp; omega)) (by first | omega | (simp; done) | (simp; omega)) (r_nc rfl (r_fo (fs := 1) fd_Con1 (by kernel_rfl) (by decide) rfl (r_stK [.int .i64 c.exp, .int .i64 (c.dim + 1), .int .i64 c.sign, .bool c.odd, .int .i64 c.oddity] na_int rfl (show _ = .int .i64 (c.dim + 1) from rfl) rfl HO hcn (by decide) rfl fun h103 HO_104 U105 => ?_)))))))
                            have X106 := X98.thenUpd U105 (fun k hk => by have hk2 : k = g := hk; omega)
                            have V3_107 := V3_99.upd U105 (fun he => by have he2 : bq1 = g := he; omega)
                            refine r_nil (q_t ?_)
                            refine w_reg ?_
                            refine r_mv (r_nc rfl (r_fo (fs := 1) fd_Con2 (by kernel_rfl) (by decide) rfl (r_ld na_int rfl (HO_104.cell (i := n) (j := 2) (List.getElem?_set_self hcn) rfl) (r_mv (r_mul rfl rfl ?_)))))
                            rw [sgn_mul (x := c.sign) hsC1 hsb]
                            refine r_nc rfl (r_fo (fs := 1) fd_Con2 (by kernel_rfl) (by decide) rfl (r_stK [.int .i64 c.exp, .int .i64 (c.dim + 1), .int .i64 (c.sign * sJ p b), .bool c.odd, .int .i64 c.oddity] na_int rfl (show _ = .int .i64 (c.sign * sJ p b) from rfl) rfl HO_104 hcn (by decide) rfl fun h108 HO_109 U110 => ?_))
                            have X111 := X106.thenUpd U110 (fun k hk => by have hk2 : k = g := hk; omega)
                            have V3_112 := V3_107.upd U110 (fun he => by have he2 : bq1 = g := he; omega)
                            refine r_nil (q_b (q_t ?_))
                            refine w_reg ?_
                            refine r_inc rfl (by omega) (r_mv (r_nil (q_t ?_)))
                            have hHO : OwnK h108 44 5 g lv (((consTo (incJ p) Bs i).map conV).set n (conV (incJ p c b))) := HO_109
                            rw [hres, ← consTo_succ hb] at hHO
                            exact ⟨Bs.length - (i + 1), (i + 1, lv), by first | omega | (dsimp only; omega), ⟨rfl, by first | omega | (dsimp only; omega), X111, V3_112, .inr ⟨g, hgl, hHO⟩, by have := hHO.lt; omega⟩, rfl, rfl, trivial⟩
                    · skip
                      refine r_mv (r_skip 67 false (by kernel_rfl) rfl rfl (r_skip 67 false (by kernel_rfl) rfl rfl (r_skip 67 false (by kernel_rfl) rfl rfl (r_skip 67 false (by kernel_rfl) rfl rfl (r_skip 67 false (by kernel_rfl) rfl rfl (r_skip 67 false (by kernel_rfl) rfl rfl (r_skip 67 false (by kernel_rfl) rfl rfl (r_skip 67 false (by kernel_rfl) rfl rfl (r_skip 67 false (by kernel_rfl) rfl rfl (r_skip 67 false (by kernel_rfl) rfl rfl (r_pickF rfl (r_nil (q_t ?_)))))))))))))
                      refine w_false rfl ?_
                      refine w_skip (q_t ?_)
                      refine w_seq ?_
                      refine w_seq ?_
                      refine w_draw (by kernel_rfl) ?_
                      refine r_mv (r_eql rfl rfl (fun hc14 => ?_) (fun hc14 => ?_))   -- t80 := binOp eql 3 t79 0:i64 3
                      · skip
                        refine r_mv (r_skip 81 true (by kernel_rfl) rfl rfl (r_skip 81 true (by kernel_rfl) rfl rfl (r_skip 81 true (by kernel_rfl) rfl rfl (r_skip 81 true (by kernel_rfl) rfl rfl (r_skip 81 true (by kernel_rfl) rfl rfl (r_skip 81 true (by kernel_rfl) rfl rfl (r_skip 81 true (by kernel_rfl) rfl rfl (r_skip 81 true (by kernel_rfl) rfl rfl (r_skip 81 true (by kernel_rfl) rfl rfl (r_skip 81 true (by kernel_rfl) rfl rfl (r_pickT rfl (r_nil (q_t ?_)))))))))))))
                        refine w_true rfl ?_
                        refine w_reg ?_
                        refine r_mv (r_fo (fs := 1) fd_Blk0 (by kernel_rfl) (by decide) rfl (r_ld na_int rfl (V20_29.cell (i := 0) rfl) (r_build (v := .agg #[.int .i64 b.exp, .int .i64 0, .int .i64 1, .bool false, .int .i64 0]) (build_con b.exp) ?_)))
                        refine r_pushK (conV ⟨b.exp, 0, 1, false, 0⟩) sl_CL ze_Con rfl (fun _ => trivial) (fun _ => rfl) rfl rfl (by simp [conV, isOne]) (by decide) (by decide) HG_35 (by omega) (by decide) (by rw [List.length_map]; omega) fun p113 lv114 h115 HG_116 U117 bk118 => ?_
                        have sz120 := U117.1
                        have X119 := X31.thenUpd U117 (fun k hk => by have := HG_35.blk k hk; omega)
                        have V3_121 := V3_34.upd U117 (fun hs => by have hq := HG_35.blk _ hs; have hq2 : Value.ownBlock lv = some bq1 := hs; first | omega | (have := avHGbq1 _ hs; omega))
                        have V20_122 := V20_29.upd U117 (fun hs => by have hq := HG_35.blk _ hs; have hq2 : Value.ownBlock lv = some bq18 := hs; first | omega | (have := avHGbq18 _ hs; omega))
                        refine r_as (r_nil (q_t ?_))
                        refine w_seq ?_
                        refine w_draw (by kernel_rfl) ?_
                        refine r_fo (fs := 1) fd_Blk2 (by kernel_rfl) (by decide) rfl (r_ld na_i64 rfl (V20_122.cell (i := 2) rfl) (r_fo (fs := 1) fd_Jor0 (by kernel_rfl) (by decide) rfl (r_ld na_i64 rfl (V3_121.cell (i := 0) rfl) (r_remp rfl rfl (by omega) (by omega) ?_))))
                        obtain ⟨q, hqe⟩ : ∃ q : Nat, q = b.a.toNat % p := ⟨_, rfl⟩
                        have hq2 : b.a % (p : Int) = (q : Int) := by rw [hqe, Int.natCast_emod, Int.toNat_of_nonneg w6]
                        have hqp : q < p := by rw [hqe]; exact Nat.mod_lt _ (by omega)
                        have hqs : leg q p = sJ p b := by rw [hqe, leg_mod]; rfl
                        have hsb : sJ p b = 1 ∨ sJ p b = -1 := leg_pm w8
                        rw [hq2]
                        refine r_fo (fs := 1) fd_Jor0 (by kernel_rfl) (by decide) rfl (r_ld na_i64 rfl (V3_121.cell (i := 0) rfl) (r_call trivial rfl (Kron_ok hp hqp _) fun x123 h124 hk => ?_))
                        obtain ⟨E125, r9, rfl⟩ := hk
                        refine ⟨trivial, ?_⟩
                        have sz126 := E125.1
                        have X127 := X119.trans E125
                        have V3_128 := V3_121.ext E125
                        have HG_129 := HG_116.ext E125
                        have V20_130 := V20_122.ext E125
                        rw [hqs]
                        refine r_mv (r_ext rfl rfl (r_ext rfl rfl (r_as (r_as (r_nil (q_t ?_))))))
                        refine w_seq ?_
                        refine w_reg ?_
                        refine r_mv (r_mv (r_lenK sl_CL rfl HG_129.sl ?_))
                        have hnew := cons_new (inc := incJ p) (Bs := Bs) (i := i) (b := b) (fun _ _ => rfl) (by first | exact .inl (by omega) | exact .inr ⟨b1, by omega, hb1, by omega⟩)
                        obtain ⟨g, hgl, HOg⟩ := HG_129.own (by simp)
                        obtain ⟨n, hnn⟩ : ∃ n, n = (consTo (incJ p) Bs i).length := ⟨_, rfl⟩
                        have hcl : ((consTo (incJ p) Bs i).map conV ++ [conV ⟨b.exp, 0, 1, false, 0⟩])[n]? = some (conV ⟨b.exp, 0, 1, false, 0⟩) := get_snoc (by simp [hnn])
                        have hres := set_new (inc := incJ p) (out := (consTo (incJ p) Bs i)) (b := b) hnn hnew
                        have hsC : SmJ 16 ⟨b.exp, 0, 1, false, 0⟩ := ⟨.inl rfl, Int.le_refl 0, by show (0 : Int) ≤ 16; decide⟩
                        have hcn : n < ((consTo (incJ p) Bs i).map conV ++ [conV ⟨b.exp, 0, 1, false, 0⟩]).length := (List.getElem?_eq_some_iff.1 hcl).1
                        have hnl : ((((consTo (incJ p) Bs i).map conV ++ [conV ⟨b.exp, 0, 1, false, 0⟩]).length : Nat) : Int) - 1 = (n : Int) := by simp; omega
                        have hln : ((consTo (incJ p) Bs i).map conV ++ [conV ⟨b.exp, 0, 1, false, 0⟩]).length ≤ 100 := by simp; omega
                        have HO : OwnK h124 44 5 g lv114 (((consTo (incJ p) Bs i).map conV ++ [conV ⟨b.exp, 0, 1, false, 0⟩]).set n (conV ⟨b.exp, 0, 1, false, 0⟩)) := by rw [set_same hcl]; exact HOg
                        obtain ⟨hsC1, hsC2, hsC3⟩ := hsC
                        refine r_subb rfl rfl (by omega) (by omega) ?_
                        rw [hnl]
                        refine r_ixKo sl_CL rfl HO rfl (by rw [List.length_set]; exact hcn) ?_
                        refine r_as (r_nil (q_t ?_))
                        refine w_seq ?_
                        refine w_reg ?_
                        refine r_mv (r_nc rfl (r_fo (fs := 1) fd_Con1 (by kernel_rfl) (by decide) rfl (r_ld na_int rfl (HO.cell (i := n) (j := 1) (List.getElem?_set_self hcn) rfl) (r_addb rfl rfl (by first | omega | (simp; done) | (simp; omega)) (by first | omega | (simp; done) | (simp; omega)) (r_nc rfl (r_fo (fs := 1) fd_Con1 (by kernel_rfl) (by decide) rfl (r_stK [.int .i64 b.exp, .int .i64 (0 + 1), .int .i64 1, .bool false, .int .i64 0] na_int rfl (show _ = .int .i64 (0 + 1) from rfl) rfl HO hcn (by decide) rfl fun h131 HO_132 U133 => ?_)))))))
                        have X134 := X127.thenUpd U133 (fun k hk => by have hk2 : k = g := hk; omega)
                        have V3_135 := V3_128.upd U133 (fun he => by have he2 : bq1 = g := he; omega)
                        refine r_nil (q_t ?_)
                        refine w_reg ?_
                        refine r_mv (r_nc rfl (r_fo (fs := 1) fd_Con2 (by kernel_rfl) (by decide) rfl (r_ld na_int rfl (HO_132.cell (i := n) (j := 2) (List.getElem?_set_self hcn) rfl) (r_mv (r_mul rfl rfl ?_)))))
                        rw [sgn_mul (x := 1) hsC1 hsb]
                        refine r_nc rfl (r_fo (fs := 1) fd_Con2 (by kernel_rfl) (by decide) rfl (r_stK [.int .i64 b.exp, .int .i64 (0 + 1), .int .i64 (1 * sJ p b), .bool false, .int .i64 0] na_int rfl (show _ = .int .i64 (1 * sJ p b) from rfl) rfl HO_132 hcn (by decide) rfl fun h136 HO_137 U138 => ?_))
                        have X139 := X134.thenUpd U138 (fun k hk => by have hk2 : k = g := hk; omega)
                        have V3_140 := V3_135.upd U138 (fun he => by have he2 : bq1 = g := he; omega)
                        refine r_nil (q_b (q_t ?_))
                        refine w_reg ?_
                        refine r_inc rfl (by omega) (r_mv (r_nil (q_t ?_)))
                        have hHO : OwnK h136 44 5 g lv114 (((consTo (incJ p) Bs i).map conV ++ [conV ⟨b.exp, 0, 1, false, 0⟩]).set n (conV (incJ p ⟨b.exp, 0, 1, false, 0⟩ b))) := HO_137
                        rw [hres, ← consTo_succ hb] at hHO
                        exact ⟨Bs.length - (i + 1), (i + 1, lv114), by first | omega | (dsimp only; omega), ⟨rfl, by first | omega | (dsimp only; omega), X139, V3_140, .inr ⟨g, hgl, hHO⟩, by have := hHO.lt; omega⟩, rfl, rfl, trivial⟩
                      · skip
                        refine r_mv (r_want 81 false (by kernel_rfl) rfl rfl (r_fo (fs := 1) fd_Blk0 (by kernel_rfl) (by decide) rfl (r_want 81 false (by kernel_rfl) rfl rfl (r_ld na_int rfl (V20_29.cell (i := 0) rfl) (r_want 81 false (by kernel_rfl) rfl rfl (r_fo (fs := 1) fd_Jor2 (by kernel_rfl) (by decide) rfl (r_want 81 false (by kernel_rfl) rfl rfl (r_ld na_BL rfl (V3_34.cell (i := 2) rfl) (r_want 81 false (by kernel_rfl) rfl rfl (r_mv (r_want 81 false (by kernel_rfl) rfl rfl (r_subb rfl rfl (by omega) (by omega) ?_))))))))))))
                        rw [show ((i : Nat) : Int) - 1 = ((i - 1 : Nat) : Int) by omega]
                        obtain ⟨b1, hb1⟩ : ∃ b1, Bs[i - 1]? = some b1 := ⟨_, List.getElem?_eq_getElem (by omega)⟩
                        have hasc : b1.exp ≤ b.exp := hG.asc (i - 1) b1 b (by omega) hb1 (by rw [show i - 1 + 1 = i by omega]; exact hb)
                        refine r_want 81 false (by kernel_rfl) rfl rfl (r_ixK sl_BL rfl (HBs.ext X31) rfl (get_blk hb1) fun aq141 oq141 hkq141 => ?_)
                        refine r_want 81 false (by kernel_rfl) rfl rfl (r_fo (fs := 1) fd_Blk0 (by kernel_rfl) (by decide) rfl (r_want 81 false (by kernel_rfl) rfl rfl (r_ld na_int rfl (hkq141 0 _ rfl) (r_want 81 false (by kernel_rfl) rfl rfl (r_gtr rfl rfl (fun hc15 => ?_) (fun hc15 => ?_))))))   -- t91 := binOp gtr 3 t83 t90 3   [guard op2 false]
                        · skip
                          refine r_pickF rfl (r_nil (q_t ?_))
                          refine w_true rfl ?_
                          refine w_reg ?_
                          refine r_mv (r_fo (fs := 1) fd_Blk0 (by kernel_rfl) (by decide) rfl (r_ld na_int rfl (V20_29.cell (i := 0) rfl) (r_build (v := .agg #[.int .i64 b.exp, .int .i64 0, .int .i64 1, .bool false, .int .i64 0]) (build_con b.exp) ?_)))
                          refine r_pushK (conV ⟨b.exp, 0, 1, false, 0⟩) sl_CL ze_Con rfl (fun _ => trivial) (fun _ => rfl) rfl rfl (by simp [conV, isOne]) (by decide) (by decide) HG_35 (by omega) (by decide) (by rw [List.length_map]; omega) fun p142 lv143 h144 HG_145 U146 bk147 => ?_
                          have sz149 := U146.1
                          have X148 := X31.thenUpd U146 (fun k hk => by have := HG_35.blk k hk; omega)
                          have V3_150 := V3_34.upd U146 (fun hs => by have hq := HG_35.blk _ hs; have hq2 : Value.ownBlock lv = some bq1 := hs; first | omega | (have := avHGbq1 _ hs; omega))
                          have V20_151 := V20_29.upd U146 (fun hs => by have hq := HG_35.blk _ hs; have hq2 : Value.ownBlock lv = some bq18 := hs; first | omega | (have := avHGbq18 _ hs; omega))
                          refine r_as (r_nil (q_t ?_))
                          refine w_seq ?_
                          refine w_draw (by kernel_rfl) ?_
                          refine r_fo (fs := 1) fd_Blk2 (by kernel_rfl) (by decide) rfl (r_ld na_i64 rfl (V20_151.cell (i := 2) rfl) (r_fo (fs := 1) fd_Jor0 (by kernel_rfl) (by decide) rfl (r_ld na_i64 rfl (V3_150.cell (i := 0) rfl) (r_remp rfl rfl (by omega) (by omega) ?_))))
                          obtain ⟨q, hqe⟩ : ∃ q : Nat, q = b.a.toNat % p := ⟨_, rfl⟩
                          have hq2 : b.a % (p : Int) = (q : Int) := by rw [hqe, Int.natCast_emod, Int.toNat_of_nonneg w6]
                          have hqp : q < p := by rw [hqe]; exact Nat.mod_lt _ (by omega)
                          have hqs : leg q p = sJ p b := by rw [hqe, leg_mod]; rfl
                          have hsb : sJ p b = 1 ∨ sJ p b = -1 := leg_pm w8
                          rw [hq2]
                          refine r_fo (fs := 1) fd_Jor0 (by kernel_rfl) (by decide) rfl (r_ld na_i64 rfl (V3_150.cell (i := 0) rfl) (r_call trivial rfl (Kron_ok hp hqp _) fun x152 h153 hk => ?_))
                          obtain ⟨E154, r9, rfl⟩ := hk
                          refine ⟨trivial, ?_⟩
                          have sz155 := E154.1
                          have X156 := X148.trans E154
                          have V3_157 := V3_150.ext E154
                          have HG_158 := HG_145.ext E154
                          have V20_159 := V20_151.ext E154
                          rw [hqs]
                          refine r_mv (r_ext rfl rfl (r_ext rfl rfl (r_as (r_as (r_nil (q_t ?_))))))
                          refine w_seq ?_
                          refine w_reg ?_
                          refine r_mv (r_mv (r_lenK sl_CL rfl HG_158.sl ?_))
                          have hnew := cons_new (inc := incJ p) (Bs := Bs) (i := i) (b := b) (fun _ _ => rfl) (by first | exact .inl (by omega) | exact .inr ⟨b1, by omega, hb1, by omega⟩)
                          obtain ⟨g, hgl, HOg⟩ := HG_158.own (by simp)
                          obtain ⟨n, hnn⟩ : ∃ n, n = (consTo (incJ p) Bs i).length := ⟨_, rfl⟩
                          have hcl : ((consTo (incJ p) Bs i).map conV ++ [conV ⟨b.exp, 0, 1, false, 0⟩])[n]? = some (conV ⟨b.exp, 0, 1, false, 0⟩) := get_snoc (by simp [hnn])
                          have hres := set_new (inc := incJ p) (out := (consTo (incJ p) Bs i)) (b := b) hnn hnew
                          have hsC : SmJ 16 ⟨b.exp, 0, 1, false, 0⟩ := ⟨.inl rfl, Int.le_refl 0, by show (0 : Int) ≤ 16; decide⟩
                          have hcn : n < ((consTo (incJ p) Bs i).map conV ++ [conV ⟨b.exp, 0, 1, false, 0⟩]).length := (List.getElem?_eq_some_iff.1 hcl).1
                          have hnl : ((((consTo (incJ p) Bs i).map conV ++ [conV ⟨b.exp, 0, 1, false, 0⟩]).length : Nat) : Int) - 1 = (n : Int) := by simp; omega
                          have hln : ((consTo (incJ p) Bs i).map conV ++ [conV ⟨b.exp, 0, 1, false, 0⟩]).length ≤ 100 := by simp; omega
                          have HO : OwnK h153 44 5 g lv143 (((consTo (incJ p) Bs i).map conV ++ [conV ⟨b.exp, 0, 1, false, 0⟩]).set n (conV ⟨b.exp, 0, 1, false, 0⟩)) := by rw [set_same hcl]; exact HOg
                          obtain ⟨hsC1, hsC2, hsC3⟩ := hsC
                          refine r_subb rfl rfl (by omega) (by omega) ?_
                          rw [hnl]
                          refine r_ixKo sl_CL rfl HO rfl (by rw [List.length_set]; exact hcn) ?_
                          refine r_as (r_nil (q_t ?_))
                          refine w_seq ?_
                          refine w_reg ?_
                          refine r_mv (r_nc rfl (r_fo (fs := 1) fd_Con1 (by kernel_rfl) (by decide) rfl (r_ld na_int rfl (HO.cell (i := n) (j := 1) (List.getElem?_set_self hcn) rfl) (r_addb rfl rfl (by first | omega | (simp; done) | (simp; omega)) (by first | omega | (simp; done) | (simp; omega)) (r_nc rfl (r_fo (fs := 1) fd_Con1 (by kernel_rfl) (by decide) rfl (r_stK [.int .i64 b.exp, .int .i64 (0 + 1), .int .i64 1, .bool false, .int .i64 0] na_int rfl (show _ = .int .i64 (0 + 1) from rfl) rfl HO hcn (by decide) rfl fun h160 HO_161 U162 => ?_)))))))
                          have X163 := X156.thenUpd U162 (fun k hk => by have hk2 : k = g := hk; omega)
                          have V3_164 := V3_157.upd U162 (fun he => by have he2 : bq1 = g := he; omega)
                          refine r_nil (q_t ?_)
                          refine w_reg ?_
                          refine r_mv (r_nc rfl (r_fo (fs := 1) fd_Con2 (by kernel_rfl) (by decide) rfl (r_ld na_int rfl (HO_161.cell (i := n) (j := 2) (List.getElem?_set_self hcn) rfl) (r_mv (r_mul rfl rfl ?_)))))
                          rw [sgn_mul (x := 1) hsC1 hsb]
                          refine r_nc rfl (r_fo (fs := 1) fd_Con2 (by kernel_rfl) (by decide) rfl (r_stK [.int .i64 b.exp, .int .i64 (0 + 1), .int .i64 (1 * sJ p b), .bool false, .int .i64 0] na_int rfl (show _ = .int .i64 (1 * sJ p b) from rfl) rfl HO_161 hcn (by decide) rfl fun h165 HO_166 U167 => ?_))
                          have X168 := X163.thenUpd U167 (fun k hk => by have hk2 : k = g := hk; omega)
                          have V3_169 := V3_164.upd U167 (fun he => by have he2 : bq1 = g := he; omega)
                          refine r_nil (q_b (q_t ?_))
                          refine w_reg ?_
                          refine r_inc rfl (by omega) (r_mv (r_nil (q_t ?_)))
                          have hHO : OwnK h165 44 5 g lv143 (((consTo (incJ p) Bs i).map conV ++ [conV ⟨b.exp, 0, 1, false, 0⟩]).set n (conV (incJ p ⟨b.exp, 0, 1, false, 0⟩ b))) := HO_166
                          rw [hres, ← consTo_succ hb] at hHO
                          exact ⟨Bs.length - (i + 1), (i + 1, lv143), by first | omega | (dsimp only; omega), ⟨rfl, by first | omega | (dsimp only; omega), X168, V3_169, .inr ⟨g, hgl, hHO⟩, by have := hHO.lt; omega⟩, rfl, rfl, trivial⟩
                        · skip
                          refine r_pickF rfl (r_nil (q_t ?_))
                          refine w_false rfl ?_
                          refine w_skip (q_t ?_)
                          refine w_seq ?_
                          refine w_draw (by kernel_rfl) ?_
                          refine r_fo (fs := 1) fd_Blk2 (by kernel_rfl) (by decide) rfl (r_ld na_i64 rfl (V20_29.cell (i := 2) rfl) (r_fo (fs := 1) fd_Jor0 (by kernel_rfl) (by decide) rfl (r_ld na_i64 rfl (V3_34.cell (i := 0) rfl) (r_remp rfl rfl (by omega) (by omega) ?_))))
                          obtain ⟨q, hqe⟩ : ∃ q : Nat, q = b.a.toNat % p := ⟨_, rfl⟩
                          have hq2 : b.a % (p : Int) = (q : Int) := by rw [hqe, Int.natCast_emod, Int.toNat_of_nonneg w6]
                          have hqp : q < p := by rw [hqe]; exact Nat.mod_lt _ (by omega)
                          have hqs : leg q p = sJ p b := by rw [hqe, leg_mod]; rfl
                          have hsb : sJ p b = 1 ∨ sJ p b = -1 := leg_pm w8
                          rw [hq2]
                          refine r_fo (fs := 1) fd_Jor0 (by kernel_rfl) (by decide) rfl (r_ld na_i64 rfl (V3_34.cell (i := 0) rfl) (r_call trivial rfl (Kron_ok hp hqp _) fun x170 h171 hk => ?_))
                          obtain ⟨E172, r9, rfl⟩ := hk
                          refine ⟨trivial, ?_⟩
                          have sz173 := E172.1
                          have X174 := X31.trans E172
                          have V3_175 := V3_34.ext E172
                          have HG_176 := HG_35.ext E172
                          have V20_177 := V20_29.ext E172
                          have Y178 := Y33.trans E172
                          rw [hqs]
                          refine r_mv (r_ext rfl rfl (r_ext rfl rfl (r_as (r_as (r_nil (q_t ?_))))))
                          refine w_seq ?_
                          refine w_reg ?_
                          refine r_mv (r_mv (r_lenK sl_CL rfl HG_176.sl ?_))
                          obtain ⟨c, hcl0, hce⟩ := cons_old (inc := incJ p) (Bs := Bs) (i := i) (b := b) (b1 := b1) (fun _ _ => rfl) (by omega) hb1 (by omega)
                          have hne : (consTo (incJ p) Bs i) ≠ [] := fun he => by rw [he] at hcl0; cases hcl0
                          obtain ⟨g, hgl, HOg⟩ := HG_176.own (by simpa using hne)
                          have hlen : 0 < (consTo (incJ p) Bs i).length := List.length_pos_iff.2 hne
                          obtain ⟨n, hnn⟩ : ∃ n, n + 1 = (consTo (incJ p) Bs i).length := ⟨_, Nat.sub_add_cancel hlen⟩
                          have hcl : ((consTo (incJ p) Bs i).map conV)[n]? = some (conV c) := get_con (by rw [List.getLast?_eq_getElem?, ← hnn] at hcl0; exact hcl0)
                          have hres := set_old (inc := incJ p) (out := (consTo (incJ p) Bs i)) (b := b) hnn hcl0 hce
                          have hsC : SmJ 16 c := smJ_mono (smJ_cons hG i c (List.mem_of_getLast? hcl0)) (by omega)
                          have hcn : n < ((consTo (incJ p) Bs i).map conV).length := (List.getElem?_eq_some_iff.1 hcl).1
                          have hnl : ((((consTo (incJ p) Bs i).map conV).length : Nat) : Int) - 1 = (n : Int) := by simp; omega
                          have hln : ((consTo (incJ p) Bs i).map conV).length ≤ 100 := by simp; omega
                          have HO : OwnK h171 44 5 g lv (((consTo (incJ p) Bs i).map conV).set n (conV c)) := by rw [set_same hcl]; exact HOg
                          obtain ⟨hsC1, hsC2, hsC3⟩ := hsC
                          refine r_subb rfl rfl (by omega) (by omega) ?_
                          rw [hnl]
                          refine r_ixKo sl_CL rfl HO rfl (by rw [List.length_set]; exact hcn) ?_
                          refine r_as (r_nil (q_t ?_))
                          refine w_seq ?_
                          refine w_reg ?_
                          refine r_mv (r_nc rfl (r_fo (fs := 1) fd_Con1 (by kernel_rfl) (by decide) rfl (r_ld na_int rfl (HO.cell (i := n) (j := 1) (List.getElem?_set_self hcn) rfl) (r_addb rfl rfl (by first | omega | (simp; done) | (simp; omega)) (by first | omega | (simp; done) | (simp; omega)) (r_nc rfl (r_fo (fs := 1) fd_Con1 (by kernel_rfl) (by decide) rfl (r_stK [.int .i64 c.exp, .int .i64 (c.dim + 1), .int .i64 c.sign, .bool c.odd, .int .i64 c.oddity] na_int rfl (show _ = .int .i64 (c.dim + 1) from rfl) rfl HO hcn (by decide) rfl fun h179 HO_180 U181 => ?_)))))))
                          have X182 := X174.thenUpd U181 (fun k hk => by have hk2 : k = g := hk; omega)
                          have V3_183 := V3_175.upd U181 (fun he => by have he2 : bq1 = g := he; omega)
                          refine r_nil (q_t ?_)
                          refine w_reg ?_
                          refine r_mv (r_nc rfl (r_fo (fs := 1) fd_Con2 (by kernel_rfl) (by decide) rfl (r_ld na_int rfl (HO_180.cell (i := n) (j := 2) (List.getElem?_set_self hcn) rfl) (r_mv (r_mul rfl rfl ?_)))))
                          rw [sgn_mul (x := c.sign) hsC1 hsb]
                          refine r_nc rfl (r_fo (fs := 1) fd_Con2 (by kernel_rfl) (by decide) rfl (r_stK [.int .i64 c.exp, .int .i64 (c.dim + 1), .int .i64 (c.sign * sJ p b), .bool c.odd, .int .i64 c.oddity] na_int rfl (show _ = .int .i64 (c.sign * sJ p b) from rfl) rfl HO_180 hcn (by decide) rfl fun h184 HO_185 U186 => ?_))
                          have X187 := X182.thenUpd U186 (fun k hk => by have hk2 : k = g := hk; omega)
                          have V3_188 := V3_183.upd U186 (fun he => by have he2 : bq1 = g := he; omega)
                          refine r_nil (q_b (q_t ?_))
                          refine w_reg ?_
                          refine r_inc rfl (by omega) (r_mv (r_nil (q_t ?_)))
                          have hHO : OwnK h184 44 5 g lv (((consTo (incJ p) Bs i).map conV).set n (conV (incJ p c b))) := HO_185
                          rw [hres, ← consTo_succ hb] at hHO
                          exact ⟨Bs.length - (i + 1), (i + 1, lv), by first | omega | (dsimp only; omega), ⟨rfl, by first | omega | (dsimp only; omega), X187, V3_188, .inr ⟨g, hgl, hHO⟩, by have := hHO.lt; omega⟩, rfl, rfl, trivial⟩
      · skip
        refine r_nil (q_t ?_)
        refine w_seq ?_
        refine w_false rfl ?_
        refine w_exit (q_tx (q_tx (q_bx (q_t ?_))))
        refine w_seq ?_
        refine w_reg ?_
        refine r_mv (r_as (r_as (r_nil (q_t ?_))))
        refine w_ret ?_
        refine ⟨_, retV_2, ?_⟩
        first
          | (exfalso; omega)
          | (exfalso; exact w9 (by assumption))
          | (obtain rfl : i = Bs.length := by omega
             exact ⟨XQ, _, rfl, HG.mono (by omega)⟩)

end Go.Proofs.YtccgaemmdikhcaaDoor
