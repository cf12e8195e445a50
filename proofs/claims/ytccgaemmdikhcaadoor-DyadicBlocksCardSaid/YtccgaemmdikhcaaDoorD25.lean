/-
  Blocks made of numbers, as chapter 25's laws take them; the law DyadicConstituents. Conditions stand in each statement.
-/
import Derived.Test.YtccgaemmdikhcaaDoorDy3
import Derived.Test.YtccgaemmdikhcaaDoorAw25
namespace Go.Proofs.YtccgaemmdikhcaaDoor
open Go Go.QF
set_option linter.unusedVariables false
set_option linter.unusedSimpArgs false
set_option maxRecDepth 100000
theorem build_jor (a : Option Addr) (n c : Nat) (w : World) : (Instr.build 31 #[(0, .int .i64 2), (2, .slice a n c)]).run Tryd.prog w = .ok (.agg #[.int .i64 2, .slice none 0 0, .slice a n c]) w := by kernel_rfl

theorem blocks25_ok {h : Heap} {vX : Value} {Xs : List Q5} {most : Nat} (HX : SlK h 5 vX (Xs.map q5V)) (hX : ∀ q ∈ Xs, q.I) (hn : Xs.length ≤ 9223372036854775807) (hm : most ≤ 50) : CallH Tryd.prog 11 #[vX, .int .i64 (most : Int)] h fun x h' => Ext h h' ∧ ∃ Bs v, x = .agg #[.int .i64 2, .slice none 0 0, v] ∧ GroK h' 41 5 (Array.size h) v (Bs.map blkV) ∧ Made 2 most Bs := by
  refine calls_of_W (l := [_, _]) mx Tryd.func11 rfl rfl rfl rfl rfl (by kernel_rfl) ?_
  refine w_seq ?_
  refine w_reg ?_
  refine r_allocB [.int .i64 0, .slice none 0 0, .slice none 0 0] ze_Jor rfl (fun _ => trivial) fun bq1 h2 V3 E4 hb5 hl6 => ?_
  have hzbq1 : Array.size h ≤ bq1 := hb5
  have sz7 := E4.1
  have Z8 := (Ext.refl h).trans E4
  refine r_nil (q_t ?_)
  refine w_seq ?_
  refine w_reg ?_
  refine r_mv (r_mv (r_call trivial rfl (Blocks_ok (HX.ext E4) hX hn (by omega) hm) fun x9 h10 hk => ?_))
  obtain ⟨E11, Bs, HG, hmade⟩ := hk
  refine ⟨trivial, ?_⟩
  have sz12 := E11.1
  have Z13 := Z8.trans E11
  have X14 := E4.trans E11
  have V3_15 := V3.ext E11
  have Y16 := E4.trans E11
  obtain ⟨a7, c7, hv7⟩ := HG.sl.len
  subst hv7
  refine r_build (v := .agg #[.int .i64 2, .slice none 0 0, (.slice a7 (Bs.map blkV).length c7)]) (build_jor _ _ _) ?_
  refine r_stA [.int .i64 2, .slice none 0 0, (.slice a7 (Bs.map blkV).length c7)] ag_Jor rfl rfl rfl rfl (by simp [isOne]) V3_15 fun h17 V3_18 U19 => ?_
  have X20 := X14.thenUpd U19 (fun k hk => by have hk2 : k = bq1 := hk; omega)
  have sz21 := U19.1
  have Z22 := Z13.thenUpd U19 (fun k hk => by have hk2 : k = bq1 := hk; omega)
  have Y23 := Y16.thenUpd U19 (fun k hk => by have hk2 : k = bq1 := hk; omega)
  have HG_24 := HG.updLo U19 (by omega)
  refine r_nil (q_t ?_)
  refine w_ret ?_
  refine ⟨_, retV_c ag_Jor rfl rfl V3_18, ?_⟩
  exact ⟨X20, Bs, _, rfl, HG_24.mono (by omega), hmade⟩

theorem DyadicConstituents_ok {h : Heap} {vT vB vX : Value} {p : Int} {Bs : List Blk} {Xs : List Q5} (made : Bool) (HBs : SlK h 5 vB (Bs.map blkV)) (HX : SlK h 5 vX (Xs.map q5V)) (hX : ∀ q ∈ Xs, q.I) : CallH Tryd.prog 4 #[.agg #[.int .i64 p, vT, vB], vX, .bool made] h fun x h' => Ext h h' ∧ x = .bool true := by
  refine calls_of_W (l := [_, _, _]) mx Tryd.func4 rfl rfl rfl rfl rfl (by kernel_rfl) ?_
  refine w_seq ?_
  refine w_reg ?_
  refine r_boxB [.int .i64 p, vT, vB] (fun _ => trivial) rfl rfl fun bq1 h2 V3 E4 hb5 hl6 => ?_
  have hzbq1 : Array.size h ≤ bq1 := hb5
  have sz7 := E4.1
  have Z8 := (Ext.refl h).trans E4
  refine r_as (r_nil (q_t ?_))
  refine w_seq ?_
  refine w_seq ?_
  refine w_reg ?_
  refine r_fo (fs := 1) fd_Jor2 (by kernel_rfl) (by decide) rfl (r_ld na_BL rfl (V3.cell (i := 2) rfl) (r_lenKm sl_BL rfl (HBs.ext E4) (r_gtr rfl rfl (fun hc1 => ?_) (fun hc1 => ?_))))   -- t14 := binOp gtr 3 t13 20:i64 3
  · skip
    refine r_mv (r_skip 15 true (by kernel_rfl) rfl rfl (r_skip 15 true (by kernel_rfl) rfl rfl (r_skip 15 true (by kernel_rfl) rfl rfl (r_pickT rfl (r_nil (q_t ?_))))))
    refine w_true rfl ?_
    refine w_seq ?_
    refine w_reg ?_
    refine r_call trivial rfl (awake25_ok _) fun x9 h10 hk => ?_
    obtain ⟨E11, rfl⟩ := hk
    refine ⟨trivial, ?_⟩
    have sz12 := E11.1
    have Z13 := Z8.trans E11
    have X14 := E4.trans E11
    have V3_15 := V3.ext E11
    have Y16 := E4.trans E11
    refine r_as (r_nil (q_t ?_))
    refine w_ret (q_tr ?_)
    refine ⟨_, retV_1, ?_⟩
    exact ⟨X14, rfl⟩
  · skip
    refine r_mv (r_want 15 false (by kernel_rfl) rfl rfl (r_mv (r_want 15 false (by kernel_rfl) rfl rfl (r_lenKm sl_A5L rfl (HX.ext E4) (r_want 15 false (by kernel_rfl) rfl rfl (r_gtr rfl rfl (fun hc2 => ?_) (fun hc2 => ?_)))))))   -- t18 := binOp gtr 3 t17 20:i64 3   [guard op4 false]
    · skip
      refine r_pickF rfl (r_nil (q_t ?_))
      refine w_true rfl ?_
      refine w_seq ?_
      refine w_reg ?_
      refine r_call trivial rfl (awake25_ok _) fun x17 h18 hk => ?_
      obtain ⟨E19, rfl⟩ := hk
      refine ⟨trivial, ?_⟩
      have sz20 := E19.1
      have Z21 := Z8.trans E19
      have X22 := E4.trans E19
      have V3_23 := V3.ext E19
      have Y24 := E4.trans E19
      refine r_as (r_nil (q_t ?_))
      refine w_ret (q_tr ?_)
      refine ⟨_, retV_1, ?_⟩
      exact ⟨X22, rfl⟩
    · skip
      refine r_pickF rfl (r_nil (q_t ?_))
      refine w_false rfl ?_
      refine w_skip (q_t ?_)
      refine w_seq ?_
      refine w_seq ?_
      refine w_reg ?_
      refine r_mv ?_
      cases hc3 : made
      · skip
        refine r_nil (q_t ?_)
        refine w_false rfl ?_
        refine w_skip (q_t ?_)
        refine w_seq ?_
        refine w_reg ?_
        refine r_ldA [.int .i64 p, vT, vB] ag_Jor rfl rfl V3.agg (r_call trivial rfl (Constituents_ok (HBs.ext E4) (by first | omega | (have := hmade.len; omega))) fun x25 h26 hk => ?_)
        obtain ⟨E27, r1, rfl, HS1⟩ := hk
        refine ⟨trivial, ?_⟩
        have sz28 := E27.1
        have Z29 := Z8.trans E27
        have X30 := E4.trans E27
        have V3_31 := V3.ext E27
        have Y32 := E4.trans E27
        refine r_mv (r_ext rfl rfl (r_ext rfl rfl (r_as (r_as (r_nil (q_t ?_))))))
        refine w_seq ?_
        refine w_reg ?_
        refine r_ldA [.int .i64 p, vT, vB] ag_Jor rfl rfl V3_31.agg (r_call trivial rfl (Constituents2_ok (HBs.ext X30) (by first | omega | (have := hmade.len; omega))) fun x33 h34 hk => ?_)
        obtain ⟨E35, r2, rfl, HS2⟩ := hk
        refine ⟨trivial, ?_⟩
        have sz36 := E35.1
        have Z37 := Z29.trans E35
        have X38 := X30.trans E35
        have V3_39 := V3_31.ext E35
        have Y40 := Y32.trans E35
        have HS1_41 := HS1.ext E35
        refine r_mv (r_ext rfl rfl (r_ext rfl rfl (r_as (r_as (r_nil (q_t ?_))))))
        refine w_seq ?_
        refine w_drawB (fun h' => Ext h34 h') (by kernel_rfl) ?_
        have hB0 := Ext.refl h34
        refine r_mv (r_mv (r_eqBool un_bool rfl rfl ?_))
        rw [show (con2B p Bs == con2B p Bs) = true from beq_self_eq_true _]
        refine r_mv (r_want 37 true (by kernel_rfl) rfl rfl (r_mv (r_want 37 true (by kernel_rfl) rfl rfl (r_mv (r_want 37 true (by kernel_rfl) rfl rfl (r_call hB0 rfl (SameList_ok HS1_41 HS2 (by have := con2_len p Bs; first | omega | (have := hmade.len; omega))) fun x42 h34 hk => ?_))))))
        obtain ⟨rfl, rfl⟩ := hk
        refine ⟨hB0, ?_⟩
        rw [decide_eq_true rfl]
        refine r_pickT rfl (r_mv (r_want 42 true (by kernel_rfl) rfl rfl (r_ldAB [.int .i64 p, vT, vB] ag_Jor rfl rfl hB0 (fun h' hb => (V3_39.ext hb).agg) (r_want 42 true (by kernel_rfl) rfl rfl (r_call hB0 rfl (Even_ok (HBs.ext X38) (by first | omega | (have := hmade.len; omega))) fun x43 h44 hk => ?_)))))
        obtain ⟨E45, rfl⟩ := hk
        have hB46 := hB0.trans E45
        refine ⟨hB46, ?_⟩
        have sz47 := E45.1
        have Z48 := Z37.trans E45
        have X49 := X38.trans E45
        have V3_50 := V3_39.ext E45
        have Y51 := Y40.trans E45
        have HS1_52 := HS1_41.ext E45
        have HS2_53 := HS2.ext E45
        refine r_want 42 true (by kernel_rfl) rfl rfl (r_ldAB [.int .i64 p, vT, vB] ag_Jor rfl rfl hB46 (fun h' hb => (V3_39.ext hb).agg) (r_want 42 true (by kernel_rfl) rfl rfl (r_call hB46 rfl (refEven_ok (HBs.ext X49) (by first | omega | (have := hmade.len; omega))) fun x54 h55 hk => ?_)))
        obtain ⟨E56, rfl⟩ := hk
        have hB57 := hB46.trans E56
        refine ⟨hB57, ?_⟩
        have sz58 := E56.1
        have Z59 := Z48.trans E56
        have X60 := X49.trans E56
        have V3_61 := V3_50.ext E56
        have Y62 := Y51.trans E56
        have HS1_63 := HS1_52.ext E56
        have HS2_64 := HS2_53.ext E56
        refine r_want 42 true (by kernel_rfl) rfl rfl (r_eqBool un_bool rfl rfl ?_)
        rw [show (even2 p Bs == evenR p Bs) = true by rw [even_eq]; exact beq_self_eq_true _]
        refine r_pickT rfl (r_mv (r_want 49 true (by kernel_rfl) rfl rfl (r_call hB57 rfl (awake25_ok _) fun x65 h66 hk => ?_)))
        obtain ⟨E67, rfl⟩ := hk
        have hB68 := hB57.trans E67
        refine ⟨hB68, ?_⟩
        have sz69 := E67.1
        have Z70 := Z59.trans E67
        have X71 := X60.trans E67
        have V3_72 := V3_61.ext E67
        have Y73 := Y62.trans E67
        have HS1_74 := HS1_63.ext E67
        have HS2_75 := HS2_64.ext E67
        refine r_pickT rfl (r_as (r_nil (q_t ?_)))
        refine w_ret ?_
        refine ⟨_, retV_1, ?_⟩
        exact ⟨X71, rfl⟩
      · skip
        refine r_nil (q_t ?_)
        refine w_true rfl ?_
        refine w_reg ?_
        refine r_mv (r_call trivial rfl (blocks25_ok (most := 7) (HX.ext E4) hX (by omega) (by omega)) fun x76 h77 hk => ?_)
        obtain ⟨E78, Bm, vm, rfl, HG, hmade⟩ := hk
        refine ⟨trivial, ?_⟩
        have sz79 := E78.1
        have Z80 := Z8.trans E78
        have X81 := E4.trans E78
        have V3_82 := V3.ext E78
        have Y83 := E4.trans E78
        refine r_stA [.int .i64 2, .slice none 0 0, vm] ag_Jor rfl rfl rfl rfl (by obtain ⟨a9, c9, hv9⟩ := HG.sl.len; subst hv9; simp [isOne]) V3_82 fun h84 V3_85 U86 => ?_
        have X87 := X81.thenUpd U86 (fun k hk => by have hk2 : k = bq1 := hk; omega)
        have sz88 := U86.1
        have Z89 := Z80.thenUpd U86 (fun k hk => by have hk2 : k = bq1 := hk; omega)
        have Y90 := Y83.thenUpd U86 (fun k hk => by have hk2 : k = bq1 := hk; omega)
        have HG_91 := HG.updLo U86 (by omega)
        refine r_nil (q_t ?_)
        refine w_seq ?_
        refine w_reg ?_
        refine r_ldA [.int .i64 2, .slice none 0 0, vm] ag_Jor rfl rfl V3_85.agg (r_call trivial rfl (Constituents_ok HG_91.sl (by first | omega | (have := hmade.len; omega))) fun x92 h93 hk => ?_)
        obtain ⟨E94, r1, rfl, HS1⟩ := hk
        refine ⟨trivial, ?_⟩
        have sz95 := E94.1
        have Z96 := Z89.trans E94
        have X97 := X87.trans E94
        have V3_98 := V3_85.ext E94
        have Y99 := Y90.trans E94
        have HG_100 := HG_91.ext E94
        refine r_mv (r_ext rfl rfl (r_ext rfl rfl (r_as (r_as (r_nil (q_t ?_))))))
        refine w_seq ?_
        refine w_reg ?_
        refine r_ldA [.int .i64 2, .slice none 0 0, vm] ag_Jor rfl rfl V3_98.agg (r_call trivial rfl (Constituents2_ok HG_100.sl (by first | omega | (have := hmade.len; omega))) fun x101 h102 hk => ?_)
        obtain ⟨E103, r2, rfl, HS2⟩ := hk
        refine ⟨trivial, ?_⟩
        have sz104 := E103.1
        have Z105 := Z96.trans E103
        have X106 := X97.trans E103
        have V3_107 := V3_98.ext E103
        have Y108 := Y99.trans E103
        have HG_109 := HG_100.ext E103
        have HS1_110 := HS1.ext E103
        refine r_mv (r_ext rfl rfl (r_ext rfl rfl (r_as (r_as (r_nil (q_t ?_))))))
        refine w_seq ?_
        refine w_drawB (fun h' => Ext h102 h') (by kernel_rfl) ?_
        have hB0 := Ext.refl h102
        refine r_mv (r_mv (r_eqBool un_bool rfl rfl ?_))
        rw [show (con2B 2 Bm == con2B 2 Bm) = true from beq_self_eq_true _]
        refine r_mv (r_want 37 true (by kernel_rfl) rfl rfl (r_mv (r_want 37 true (by kernel_rfl) rfl rfl (r_mv (r_want 37 true (by kernel_rfl) rfl rfl (r_call hB0 rfl (SameList_ok HS1_110 HS2 (by have := con2_len 2 Bm; first | omega | (have := hmade.len; omega))) fun x111 h102 hk => ?_))))))
        obtain ⟨rfl, rfl⟩ := hk
        refine ⟨hB0, ?_⟩
        rw [decide_eq_true rfl]
        refine r_pickT rfl (r_mv (r_want 42 true (by kernel_rfl) rfl rfl (r_ldAB [.int .i64 2, .slice none 0 0, vm] ag_Jor rfl rfl hB0 (fun h' hb => (V3_107.ext hb).agg) (r_want 42 true (by kernel_rfl) rfl rfl (r_call hB0 rfl (Even_ok HG_109.sl (by first | omega | (have := hmade.len; omega))) fun x112 h113 hk => ?_)))))
        obtain ⟨E114, rfl⟩ := hk
        have hB115 := hB0.trans E114
        refine ⟨hB115, ?_⟩
        have sz116 := E114.1
        have Z117 := Z105.trans E114
        have X118 := X106.trans E114
        have V3_119 := V3_107.ext E114
        have Y120 := Y108.trans E114
        have HG_121 := HG_109.ext E114
        have HS1_122 := HS1_110.ext E114
        have HS2_123 := HS2.ext E114
        refine r_want 42 true (by kernel_rfl) rfl rfl (r_ldAB [.int .i64 2, .slice none 0 0, vm] ag_Jor rfl rfl hB115 (fun h' hb => (V3_107.ext hb).agg) (r_want 42 true (by kernel_rfl) rfl rfl (r_call hB115 rfl (refEven_ok HG_121.sl (by first | omega | (have := hmade.len; omega))) fun x124 h125 hk => ?_)))
        obtain ⟨E126, rfl⟩ := hk
        have hB127 := hB115.trans E126
        refine ⟨hB127, ?_⟩
        have sz128 := E126.1
        have Z129 := Z117.trans E126
        have X130 := X118.trans E126
        have V3_131 := V3_119.ext E126
        have Y132 := Y120.trans E126
        have HG_133 := HG_121.ext E126
        have HS1_134 := HS1_122.ext E126
        have HS2_135 := HS2_123.ext E126
        refine r_want 42 true (by kernel_rfl) rfl rfl (r_eqBool un_bool rfl rfl ?_)
        rw [show (even2 2 Bm == evenR 2 Bm) = true by rw [even_eq]; exact beq_self_eq_true _]
        refine r_pickT rfl (r_mv (r_want 49 true (by kernel_rfl) rfl rfl (r_call hB127 rfl (awake25_ok _) fun x136 h137 hk => ?_)))
        obtain ⟨E138, rfl⟩ := hk
        have hB139 := hB127.trans E138
        refine ⟨hB139, ?_⟩
        have sz140 := E138.1
        have Z141 := Z129.trans E138
        have X142 := X130.trans E138
        have V3_143 := V3_131.ext E138
        have Y144 := Y132.trans E138
        have HG_145 := HG_133.ext E138
        have HS1_146 := HS1_134.ext E138
        have HS2_147 := HS2_135.ext E138
        refine r_pickT rfl (r_as (r_nil (q_t ?_)))
        refine w_ret ?_
        refine ⟨_, retV_1, ?_⟩
        exact ⟨X142, rfl⟩

end Go.Proofs.YtccgaemmdikhcaaDoor
