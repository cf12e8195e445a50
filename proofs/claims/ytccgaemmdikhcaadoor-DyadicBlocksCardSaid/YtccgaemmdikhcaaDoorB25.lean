/-
  The law DyadicBlocks. Conditions stand in each statement.
-/
import Derived.Test.YtccgaemmdikhcaaDoorD25
import Derived.Test.YtccgaemmdikhcaaDoorDyB
namespace Go.Proofs.YtccgaemmdikhcaaDoor
open Go Go.QF
set_option linter.unusedVariables false
set_option linter.unusedSimpArgs false
set_option maxRecDepth 100000
theorem sign_back {x sg D : Int} (hx : x = 1 ∨ x = -1) (hsg : sg = if D = 3 ∨ D = 5 then -x else x) (hD : D = 3 ∨ D = 5) : IntKind.i64.wrap (0 - sg) = x := by
  rw [if_pos hD] at hsg
  subst hsg
  rcases hx with rfl | rfl <;> decide
theorem sign_stay {x sg D : Int} (hsg : sg = if D = 3 ∨ D = 5 then -x else x) (h3 : ¬ D = 3) (h5 : ¬ D = 5) : sg = x := by
  rw [if_neg (by omega)] at hsg
  exact hsg
theorem det_add (e : Int) (a b c : Nat) : IntKind.i64.wrap (IntKind.i64.wrap (2 * (a : Int) * (2 * (c : Int))) - IntKind.i64.wrap ((2 * (b : Int) + 1) * (2 * (b : Int) + 1))) % 8 = (4 * ((a : Int) * c) - (2 * (b : Int) + 1) * (2 * (b : Int) + 1)) % 8 := by
  have h : 2 * (a : Int) * (2 * (c : Int)) = 4 * ((a : Int) * c) := by rw [Int.mul_assoc, Int.mul_left_comm (a : Int) 2 (c : Int), ← Int.mul_assoc]; rfl
  have := det_wrap (addB e a b c)
  simp only [addB, h] at this
  rw [h]; exact this

theorem DyadicBlocks_ok {h : Heap} {vX : Value} {Xs : List Q5} (a b c : Nat) (ha : a < 256) (hb : b < 256) (hc : c < 256) (HX : SlK h 5 vX (Xs.map q5V)) (hX : ∀ q ∈ Xs, q.I) (hn : Xs.length ≤ 9223372036854775807) : CallH Tryd.prog 5 #[vX, .int .u8 (a : Int), .int .u8 (b : Int), .int .u8 (c : Int)] h fun x h' => Ext h h' ∧ x = .bool true := by
  refine calls_of_W (l := [_, _, _, _]) mx Tryd.func5 rfl rfl rfl rfl rfl (by kernel_rfl) ?_
  refine w_seq ?_
  refine w_reg ?_
  refine r_as (r_nil (q_t ?_))
  refine w_seq ?_
  refine w_reg ?_
  refine r_mv (r_call trivial rfl (blocks25_ok (most := 5) HX hX hn (by omega)) fun x1 h2 hk => ?_)
  obtain ⟨E3, Bs, vm, rfl, HG, hmade⟩ := hk
  refine ⟨trivial, ?_⟩
  have sz4 := E3.1
  have Z5 := (Ext.refl h).trans E3
  refine r_allocB [.int .i64 0, .slice none 0 0, .slice none 0 0] ze_Jor rfl (fun _ => trivial) fun bq6 h7 V8 E9 hb10 hl11 => ?_
  have hzbq6 : Array.size h ≤ bq6 := Nat.le_trans E3.1 hb10
  have avHGbq6 : ∀ g, Value.ownBlock vm = some g → g < bq6 := fun g hg => by have := (HG.blk g hg).2; omega
  have sz12 := E9.1
  have Z13 := Z5.trans E9
  have X14 := E3.trans E9
  have HG_15 := HG.ext E9
  refine r_stA [.int .i64 2, .slice none 0 0, vm] ag_Jor rfl rfl rfl rfl (by obtain ⟨a9, c9, hv9⟩ := HG.sl.len; subst hv9; simp [isOne]) V8 fun h16 V8_17 U18 => ?_
  have X19 := X14.thenUpd U18 (fun k hk => by have hk2 : k = bq6 := hk; omega)
  have sz20 := U18.1
  have Z21 := Z13.thenUpd U18 (fun k hk => by have hk2 : k = bq6 := hk; omega)
  have Y22 := E9.thenUpd U18 (fun k hk => by have hk2 : k = bq6 := hk; omega)
  have HG_23 := HG.ext Y22
  refine r_nil (q_t ?_)
  refine w_seq ?_
  refine w_seq ?_
  refine w_reg ?_
  refine r_fo (fs := 1) fd_Jor2 (by kernel_rfl) (by decide) rfl (r_ld na_BL rfl (V8_17.cell (i := 2) rfl) (r_lenKm sl_BL rfl HG_23.sl ?_))
  refine r_eql rfl rfl (fun hc1 => ?_) (fun hc1 => ?_)   -- t26 := binOp eql 3 t25 0:i64 3
  · skip
    refine r_nil (q_t ?_)
    refine w_true rfl ?_
    refine w_seq ?_
    refine w_reg ?_
    refine r_call trivial rfl (awake25_ok _) fun x24 h25 hk => ?_
    obtain ⟨E26, rfl⟩ := hk
    refine ⟨trivial, ?_⟩
    have sz27 := E26.1
    have Z28 := Z21.trans E26
    have X29 := X19.trans E26
    have HG_30 := HG_23.ext E26
    have V8_31 := V8_17.ext E26
    have Y32 := Y22.trans E26
    refine r_as (r_nil (q_t ?_))
    refine w_ret (q_tr ?_)
    refine ⟨_, retV_1, ?_⟩
    first | exact ⟨X29, rfl⟩ | (exfalso; first | omega | (have q : con2B 2 (Bs ++ [(addB bl.exp a b c)]) = true := (by assumption); rw [hm2] at q; have := of_decide_eq_true q; omega))
  · skip
    refine r_nil (q_t ?_)
    refine w_false rfl ?_
    refine w_skip (q_t ?_)
    refine w_seq ?_
    refine w_reg ?_
    refine r_ldA [.int .i64 2, .slice none 0 0, vm] ag_Jor rfl rfl V8_17.agg ?_
    have hbm := fun g hg => (HG_23.blk g hg).2
    refine r_call trivial rfl (ConstituentsO_ok (p := 2) (Bs := Bs) HG_23.sl (by have := hmade.len; omega)) fun x33 h34 hk => ?_
    obtain ⟨E35, r1, rfl, HC1⟩ := hk
    refine ⟨trivial, ?_⟩
    have sz36 := E35.1
    have Z37 := Z21.trans E35
    have X38 := X19.trans E35
    have HG_39 := HG_23.ext E35
    have V8_40 := V8_17.ext E35
    have Y41 := Y22.trans E35
    refine r_mv (r_ext rfl rfl (r_ext rfl rfl (r_as (r_as (r_nil (q_t ?_))))))
    refine w_seq ?_
    refine w_reg ?_
    refine r_fo (fs := 1) fd_Jor2 (by kernel_rfl) (by decide) rfl (r_ld na_BL rfl (V8_40.cell (i := 2) rfl) (r_fo (fs := 1) fd_Jor2 (by kernel_rfl) (by decide) rfl (r_ld na_BL rfl (V8_40.cell (i := 2) rfl) (r_lenKm sl_BL rfl HG_39.sl ?_))))
    refine r_subb rfl rfl (by have := hmade.len; omega) (by have := hmade.len; omega) ?_
    rw [show ((Bs.length : Nat) : Int) - 1 = ((Bs.length - 1 : Nat) : Int) by omega]
    obtain ⟨bl, hbl⟩ : ∃ bl, Bs[Bs.length - 1]? = some bl := ⟨_, List.getElem?_eq_getElem (by omega)⟩
    have hm1 := made_lst hmade (by omega)
    have hm2 := made_add hmade hbl a b c
    refine r_ixK sl_BL rfl HG_39.sl rfl (get_blk hbl) fun aL oL hkL => ?_
    refine r_ldA (blkV bl) ag_Blk rfl rfl (fun i u hu => by rw [addr_add]; exact hkL i u hu) ?_
    refine r_allocB [.int .i64 0, .int .i64 0, .int .i64 0, .int .i64 0, .int .i64 0] ze_Blk rfl (fun _ => trivial) fun bq42 h43 V44 E45 hb46 hl47 => ?_
    have hzbq42 : Array.size h ≤ bq42 := Nat.le_trans X38.1 hb46
    have avHGbq42 : ∀ g, Value.ownBlock vm = some g → g < bq42 := fun g hg => by have := (HG_39.blk g hg).2; omega
    have nebq6bq42 : bq6 ≠ bq42 := by have := V8_40.lt; omega
    have avHC1bq42 : ∀ g, Value.ownBlock r1 = some g → g < bq42 := fun g hg => by have := (HC1.blk g hg).2; omega
    have sz48 := E45.1
    have Z49 := Z37.trans E45
    have X50 := X38.trans E45
    have HG_51 := HG_39.ext E45
    have V8_52 := V8_40.ext E45
    have Y53 := Y41.trans E45
    have HC1_54 := HC1.ext E45
    refine r_stA [.int .i64 bl.exp, .int .i64 bl.size, .int .i64 bl.a, .int .i64 bl.b, .int .i64 bl.c] ag_Blk rfl rfl rfl rfl (by simp [isOne]) V44 fun h55 V44_56 U57 => ?_
    have X58 := X50.thenUpd U57 (fun k hk => by have hk2 : k = bq42 := hk; omega)
    have sz59 := U57.1
    have Z60 := Z49.thenUpd U57 (fun k hk => by have hk2 : k = bq42 := hk; omega)
    have Y61 := E45.thenUpd U57 (fun k hk => by have hk2 : k = bq42 := hk; omega)
    have HG_62 := HG_39.ext Y61
    have V8_63 := V8_40.ext Y61
    have Y64 := Y53.thenUpd U57 (fun k hk => by have hk2 : k = bq42 := hk; omega)
    have HC1_65 := HC1.ext Y61
    refine r_nil (q_t ?_)
    refine w_seq ?_
    refine w_reg ?_
    refine r_fo (fs := 1) fd_Blk0 (by kernel_rfl) (by decide) rfl (r_ld na_int rfl (V44_56.cell (i := 0) rfl) (r_mv (r_cvk it_u8 it_i64 rfl (wrap_small (by omega) (by omega)) (r_mulb rfl rfl (by omega) (by omega) (r_mv (r_cvk it_u8 it_i64 rfl (wrap_small (by omega) (by omega)) (r_mulb rfl rfl (by omega) (by omega) (r_addb rfl rfl (by omega) (by omega) (r_mv (r_cvk it_u8 it_i64 rfl (wrap_small (by omega) (by omega)) (r_mulb rfl rfl (by omega) (by omega) (r_build (v := .agg #[.int .i64 bl.exp, .int .i64 2, .int .i64 (2 * (a : Int)), .int .i64 (2 * (b : Int) + 1), .int .i64 (2 * (c : Int))]) (build_blk _ _ _ _ _) ?_))))))))))))
    refine r_allocB [.int .i64 0, .int .i64 0, .int .i64 0, .int .i64 0, .int .i64 0] ze_Blk rfl (fun _ => trivial) fun bq66 h67 V68 E69 hb70 hl71 => ?_
    have hzbq66 : Array.size h ≤ bq66 := Nat.le_trans X58.1 hb70
    have avHGbq66 : ∀ g, Value.ownBlock vm = some g → g < bq66 := fun g hg => by have := (HG_62.blk g hg).2; omega
    have nebq6bq66 : bq6 ≠ bq66 := by have := V8_63.lt; omega
    have avHC1bq66 : ∀ g, Value.ownBlock r1 = some g → g < bq66 := fun g hg => by have := (HC1_65.blk g hg).2; omega
    have nebq42bq66 : bq42 ≠ bq66 := by have := V44_56.lt; omega
    have sz72 := E69.1
    have Z73 := Z60.trans E69
    have X74 := X58.trans E69
    have HG_75 := HG_62.ext E69
    have V8_76 := V8_63.ext E69
    have Y77 := Y64.trans E69
    have HC1_78 := HC1_65.ext E69
    have V44_79 := V44_56.ext E69
    have Y80 := Y61.trans E69
    refine r_stA [.int .i64 bl.exp, .int .i64 2, .int .i64 (2 * (a : Int)), .int .i64 (2 * (b : Int) + 1), .int .i64 (2 * (c : Int))] ag_Blk rfl rfl rfl rfl (by simp [isOne]) V68 fun h81 V68_82 U83 => ?_
    have X84 := X74.thenUpd U83 (fun k hk => by have hk2 : k = bq66 := hk; omega)
    have sz85 := U83.1
    have Z86 := Z73.thenUpd U83 (fun k hk => by have hk2 : k = bq66 := hk; omega)
    have Y87 := E69.thenUpd U83 (fun k hk => by have hk2 : k = bq66 := hk; omega)
    have HG_88 := HG_62.ext Y87
    have V8_89 := V8_63.ext Y87
    have Y90 := Y77.thenUpd U83 (fun k hk => by have hk2 : k = bq66 := hk; omega)
    have HC1_91 := HC1_65.ext Y87
    have V44_92 := V44_56.ext Y87
    have Y93 := Y80.thenUpd U83 (fun k hk => by have hk2 : k = bq66 := hk; omega)
    refine r_nil (q_t ?_)
    refine w_seq ?_
    refine w_reg ?_
    refine r_fo (fs := 1) fd_Jor2 (by kernel_rfl) (by decide) rfl (r_ld na_BL rfl (V8_89.cell (i := 2) rfl) (r_ldA [.int .i64 bl.exp, .int .i64 2, .int .i64 (2 * (a : Int)), .int .i64 (2 * (b : Int) + 1), .int .i64 (2 * (c : Int))] ag_Blk rfl rfl V68_82.agg ?_))
    refine r_pushK (blkV (addB bl.exp a b c)) sl_BL ze_Blk rfl (fun _ => trivial) (fun _ => rfl) rfl rfl (by simp [blkV, isOne]) (by decide) (by decide) HG_88 (by omega) (by decide) (by rw [List.length_map]; have := hmade.len; omega) fun p94 lv95 h96 HG_97 U98 bk99 => ?_
    have sz101 := U98.1
    have X100 := X84.thenUpd U98 (fun k hk => by have := HG_88.blk k hk; omega)
    have V8_102 := V8_89.upd U98 (fun hs => by have hq := HG_88.blk _ hs; have hq2 : Value.ownBlock vm = some bq6 := hs; first | omega | (have := avHGbq6 _ hs; omega))
    have HC1_103 := HC1_91.upd U98 (fun g hg hs => by have q1 := (HC1.blk g hg).1; have q2 := hbm g hs; omega)
    have V44_104 := V44_92.upd U98 (fun hs => by have hq := HG_88.blk _ hs; have hq2 : Value.ownBlock vm = some bq42 := hs; first | omega | (have := avHGbq42 _ hs; omega))
    have V68_105 := V68_82.upd U98 (fun hs => by have hq := HG_88.blk _ hs; have hq2 : Value.ownBlock vm = some bq66 := hs; first | omega | (have := avHGbq66 _ hs; omega))
    refine r_fo (fs := 1) fd_Jor2 (by kernel_rfl) (by decide) rfl (r_stB [.int .i64 2, .slice none 0 0, lv95] na_BL rfl (show _ = lv95 from rfl) (by obtain ⟨a9, c9, hv9⟩ := HG_97.sl.len; rw [hv9]; rfl) V8_102 (Nat.le_of_ble_eq_true rfl) rfl fun h106 V8_107 U108 => ?_)
    have X109 := X100.thenUpd U108 (fun k hk => by have hk2 : k = bq6 := hk; omega)
    have sz110 := U108.1
    have HG_111 := HG_97.upd U108 (fun g hg hs => by have hs2 : g = bq6 := hs; rcases bk99 with e | ⟨g2, e, hge⟩; (rw [e] at hg; have := hbm g hg; have := avHGbq6 g hg; omega); (rw [e] at hg; injection hg with hg; omega))
    have HC1_112 := HC1_103.updLo U108 (by omega)
    have V44_113 := V44_104.upd U108 (fun he => (Ne.symm nebq6bq42) (he : bq42 = bq6))
    have V68_114 := V68_105.upd U108 (fun he => (Ne.symm nebq6bq66) (he : bq66 = bq6))
    refine r_nil (q_t ?_)
    refine w_seq ?_
    refine w_reg ?_
    refine r_ldA [.int .i64 2, .slice none 0 0, lv95] ag_Jor rfl rfl V8_107.agg ?_
    have hbx := fun g hg => (HC1_112.blk g hg).2
    have HGs : SlK h106 5 lv95 ((Bs ++ [(addB bl.exp a b c)]).map blkV) := by rw [List.map_append]; exact HG_111.sl
    refine r_call trivial rfl (ConstituentsO_ok (p := 2) (Bs := (Bs ++ [(addB bl.exp a b c)])) HGs (by rw [List.length_append, List.length_singleton]; have := hmade.len; omega)) fun x115 h116 hk => ?_
    obtain ⟨E117, r2, rfl, HC2⟩ := hk
    refine ⟨trivial, ?_⟩
    have sz118 := E117.1
    have X119 := X109.trans E117
    have HG_120 := HG_111.ext E117
    have V8_121 := V8_107.ext E117
    have HC1_122 := HC1_112.ext E117
    have V44_123 := V44_113.ext E117
    have V68_124 := V68_114.ext E117
    refine r_mv (r_ext rfl rfl (r_ext rfl rfl (r_as (r_as (r_nil (q_t ?_))))))
    refine w_seq ?_
    refine w_seq ?_
    refine w_reg ?_
    refine r_mv ?_
    cases hc2 : con2B 2 Bs
    · skip
      refine r_not rfl (r_mv (r_skip 67 true (by kernel_rfl) rfl rfl (r_skip 67 true (by kernel_rfl) rfl rfl (r_pickT rfl (r_nil (q_t ?_))))))
      refine w_true rfl ?_
      refine w_seq ?_
      refine w_reg ?_
      refine r_as (r_nil (q_t ?_))
      refine w_seq ?_
      refine w_seq ?_
      refine w_reg ?_
      refine r_fo (fs := 1) fd_Jor2 (by kernel_rfl) (by decide) rfl (r_ld na_BL rfl (V8_121.cell (i := 2) rfl) (r_fo (fs := 1) fd_Jor2 (by kernel_rfl) (by decide) rfl (r_ld na_BL rfl (V8_121.cell (i := 2) rfl) (r_lenKm (Bs := (Bs ++ [(addB bl.exp a b c)])) sl_BL rfl (show SlK _ 5 _ ((Bs ++ [(addB bl.exp a b c)]).map blkV) by rw [List.map_append]; exact HG_120.sl) ?_))))
      refine r_subb rfl rfl (by have := hmade.len; first | omega | (simp; done) | (simp; omega)) (by have := hmade.len; first | omega | (simp; done) | (simp; omega)) ?_
      rw [show (((Bs ++ [(addB bl.exp a b c)]).length : Nat) : Int) - 1 = ((Bs.length : Nat) : Int) by simp]
      obtain ⟨g6, hg6, HO6⟩ := HG_120.own (by simp)
      obtain ⟨cap6, cur6, hv6, -, hl6, -⟩ := HO6
      have HGs6 := HG_120.sl
      rw [hv6] at HGs6
      simp only [List.length_append, List.length_map, List.length_singleton] at hl6
      refine r_slTo (k := Bs.length) sl_BL (hv6) rfl (by omega) ?_
      have HP0 := SlK.pre (cap' := cap6) HGs6
      have hlm : (Bs.map blkV).length = Bs.length := List.length_map ..
      rw [hlm] at HP0
      refine r_lenKm sl_BL rfl HP0 ?_
      refine r_mv (r_nil (q_t ?_))
      refine w_block ?_
      refine w_loop 308880546911537754137755648 (fun y : Nat × Int => [(79, .int .i64 (y.1 : Int)), (16, .int .i64 y.2)]) (fun k y h' => Ext h116 h' ∧ k = Bs.length - y.1 ∧ y.1 ≤ Bs.length ∧ y.2 = 2 + ssum (Bs.take y.1)) (by kernel_rfl) Bs.length (0, 2) ?_ ⟨rfl, rfl, trivial⟩ ?_
      · exact ⟨Ext.refl _, rfl, Nat.zero_le _, rfl⟩
      rintro k ⟨i, n⟩ s1 hq ⟨EQ, rfl, hi, hn2⟩
      dsimp only at hi hn2 ⊢
      subst hn2
      have sz125 := EQ.1
      have X126 := X119.trans EQ
      have HG_127 := HG_120.ext EQ
      have V8_128 := V8_121.ext EQ
      have HC1_129 := HC1_122.ext EQ
      have V44_130 := V44_123.ext EQ
      have V68_131 := V68_124.ext EQ
      have HC2_132 := HC2.ext EQ
      have HP0_133 := HP0.ext EQ
      refine w_seq ?_
      refine w_reg ?_
      refine r_lss rfl rfl (fun hc3 => ?_) (fun hc3 => ?_)   -- t80 := binOp lss 3 t79 t78 3
      · skip
        refine r_nil (q_t ?_)
        refine w_seq ?_
        refine w_true rfl ?_
        refine w_skip (q_t ?_)
        refine w_seq ?_
        refine w_block ?_
        refine w_seq ?_
        obtain ⟨bi, hbi⟩ : ∃ b, Bs[i]? = some b := ⟨_, List.getElem?_eq_getElem (by omega)⟩
        have hsl := ssum_take_le hmade (by omega) i
        have hbp := wfR_pos (hmade.wf bi (List.mem_of_getElem? hbi))
        refine w_reg ?_
        refine r_ixK sl_BL rfl HP0_133 rfl (get_blk hbi) fun aq134 oq134 hkq134 => ?_
        refine r_ldA (blkV bi) ag_Blk rfl rfl (fun i u hu => by rw [addr_add]; exact hkq134 i u hu) ?_
        refine r_allocB [.int .i64 0, .int .i64 0, .int .i64 0, .int .i64 0, .int .i64 0] ze_Blk rfl (fun _ => trivial) fun bq135 h136 V137 E138 hb139 hl140 => ?_
        have hzbq135 : Array.size h ≤ bq135 := Nat.le_trans X126.1 hb139
        have avHGbq135 : ∀ g, Value.ownBlock lv95 = some g → g < bq135 := fun g hg => by have := (HG_127.blk g hg).2; omega
        have nebq6bq135 : bq6 ≠ bq135 := by have := V8_128.lt; omega
        have avHC1bq135 : ∀ g, Value.ownBlock r1 = some g → g < bq135 := fun g hg => by have := (HC1_129.blk g hg).2; omega
        have nebq42bq135 : bq42 ≠ bq135 := by have := V44_130.lt; omega
        have nebq66bq135 : bq66 ≠ bq135 := by have := V68_131.lt; omega
        have avHC2bq135 : ∀ g, Value.ownBlock r2 = some g → g < bq135 := fun g hg => by have := (HC2_132.blk g hg).2; omega
        have sz141 := E138.1
        have Z142 := EQ.trans E138
        have X143 := X126.trans E138
        have HG_144 := HG_127.ext E138
        have V8_145 := V8_128.ext E138
        have HC1_146 := HC1_129.ext E138
        have V44_147 := V44_130.ext E138
        have V68_148 := V68_131.ext E138
        have HC2_149 := HC2_132.ext E138
        have HP0_150 := HP0_133.ext E138
        refine r_stA [.int .i64 bi.exp, .int .i64 bi.size, .int .i64 bi.a, .int .i64 bi.b, .int .i64 bi.c] ag_Blk rfl rfl rfl rfl (by simp [isOne]) V137 fun h151 V137_152 U153 => ?_
        have X154 := X143.thenUpd U153 (fun k hk => by have hk2 : k = bq135 := hk; omega)
        have sz155 := U153.1
        have Z156 := Z142.thenUpd U153 (fun k hk => by have hk2 : k = bq135 := hk; omega)
        have Y157 := E138.thenUpd U153 (fun k hk => by have hk2 : k = bq135 := hk; omega)
        have HG_158 := HG_127.ext Y157
        have V8_159 := V8_128.ext Y157
        have HC1_160 := HC1_129.ext Y157
        have V44_161 := V44_130.ext Y157
        have V68_162 := V68_131.ext Y157
        have HC2_163 := HC2_132.ext Y157
        have HP0_164 := HP0_133.ext Y157
        refine r_nil (q_t ?_)
        refine w_reg ?_
        refine r_mv (r_fo (fs := 1) fd_Blk1 (by kernel_rfl) (by decide) rfl (r_ld na_int rfl (V137_152.cell (i := 1) rfl) (r_addb rfl rfl (by omega) (by omega) (r_as (r_nil (q_b (q_t ?_)))))))
        refine w_reg ?_
        refine r_inc rfl (by have := hmade.len; have := hlm; omega) (r_mv (r_nil (q_t ?_)))
        exact ⟨Bs.length - (i + 1), (i + 1, 2 + ssum (Bs.take i) + bi.size), by first | omega | (dsimp only; omega), ⟨Z156, rfl, by first | omega | (dsimp only; omega), by dsimp only; rw [ssum_take_succ hbi]; omega⟩, rfl, rfl, trivial⟩
      · skip
        refine r_nil (q_t ?_)
        refine w_seq ?_
        refine w_false rfl ?_
        refine w_exit (q_tx (q_tx (q_bx (q_t ?_))))
        refine w_seq ?_
        have hie : i = Bs.length := by omega
        have hts : ssum (Bs.take i) = ssum Bs := by rw [hie, List.take_length]
        have hbig : 8 < 2 + ssum Bs := by first | (have q : con2B 2 Bs = false := (by assumption); rw [hm1] at q; have := of_decide_eq_false q; omega) | (have q : con2B 2 (Bs ++ [(addB bl.exp a b c)]) = false := (by assumption); rw [hm2] at q; have := of_decide_eq_false q; omega)
        refine w_reg ?_
        refine r_mv (r_gtr rfl rfl (fun hc4 => ?_) (fun hc4 => ?_))   -- t89 := binOp gtr 3 t88 8:i64 3
        · skip
          refine r_mv (r_want 90 true (by kernel_rfl) rfl rfl (r_mv ?_))
          cases hc5 : con2B 2 (Bs ++ [(addB bl.exp a b c)])
          · skip
            refine r_want 90 true (by kernel_rfl) rfl rfl (r_not rfl (r_pickT rfl (r_mv (r_want 94 true (by kernel_rfl) rfl rfl (r_call trivial rfl (awake25_ok _) fun x165 h166 hk => ?_)))))
            obtain ⟨E167, rfl⟩ := hk
            refine ⟨trivial, ?_⟩
            have sz168 := E167.1
            have Z169 := EQ.trans E167
            have X170 := X126.trans E167
            have HG_171 := HG_127.ext E167
            have V8_172 := V8_128.ext E167
            have HC1_173 := HC1_129.ext E167
            have V44_174 := V44_130.ext E167
            have V68_175 := V68_131.ext E167
            have HC2_176 := HC2_132.ext E167
            have HP0_177 := HP0_133.ext E167
            refine r_pickT rfl (r_as (r_nil (q_t ?_)))
            refine w_ret (q_tr ?_)
            refine ⟨_, retV_1, ?_⟩
            first | exact ⟨X170, rfl⟩ | (exfalso; first | omega | (have q : con2B 2 (Bs ++ [(addB bl.exp a b c)]) = true := (by assumption); rw [hm2] at q; have := of_decide_eq_true q; omega))
          · skip
            refine r_want 90 true (by kernel_rfl) rfl rfl (r_not rfl (r_pickT rfl (r_mv (r_skip 94 false (by kernel_rfl) rfl rfl (r_pickF rfl (r_as (r_nil (q_t ?_))))))))
            refine w_ret (q_tr ?_)
            refine ⟨_, retV_1, ?_⟩
            first | exact ⟨X126, rfl⟩ | (exfalso; first | omega | (have q : con2B 2 (Bs ++ [(addB bl.exp a b c)]) = true := (by assumption); rw [hm2] at q; have := of_decide_eq_true q; omega))
        · skip
          refine r_mv (r_skip 90 false (by kernel_rfl) rfl rfl (r_skip 90 false (by kernel_rfl) rfl rfl (r_pickF rfl (r_mv (r_skip 94 false (by kernel_rfl) rfl rfl (r_pickF rfl (r_as (r_nil (q_t ?_)))))))))
          refine w_ret (q_tr ?_)
          refine ⟨_, retV_1, ?_⟩
          first | exact ⟨X126, rfl⟩ | (exfalso; first | omega | (have q : con2B 2 (Bs ++ [(addB bl.exp a b c)]) = true := (by assumption); rw [hm2] at q; have := of_decide_eq_true q; omega))
    · skip
      refine r_not rfl (r_mv (r_want 67 false (by kernel_rfl) rfl rfl (r_mv ?_)))
      cases hc6 : con2B 2 (Bs ++ [(addB bl.exp a b c)])
      · skip
        refine r_want 67 false (by kernel_rfl) rfl rfl (r_not rfl (r_pickF rfl (r_nil (q_t ?_))))
        refine w_true rfl ?_
        refine w_seq ?_
        refine w_reg ?_
        refine r_as (r_nil (q_t ?_))
        refine w_seq ?_
        refine w_seq ?_
        refine w_reg ?_
        refine r_fo (fs := 1) fd_Jor2 (by kernel_rfl) (by decide) rfl (r_ld na_BL rfl (V8_121.cell (i := 2) rfl) (r_fo (fs := 1) fd_Jor2 (by kernel_rfl) (by decide) rfl (r_ld na_BL rfl (V8_121.cell (i := 2) rfl) (r_lenKm (Bs := (Bs ++ [(addB bl.exp a b c)])) sl_BL rfl (show SlK _ 5 _ ((Bs ++ [(addB bl.exp a b c)]).map blkV) by rw [List.map_append]; exact HG_120.sl) ?_))))
        refine r_subb rfl rfl (by have := hmade.len; first | omega | (simp; done) | (simp; omega)) (by have := hmade.len; first | omega | (simp; done) | (simp; omega)) ?_
        rw [show (((Bs ++ [(addB bl.exp a b c)]).length : Nat) : Int) - 1 = ((Bs.length : Nat) : Int) by simp]
        obtain ⟨g6, hg6, HO6⟩ := HG_120.own (by simp)
        obtain ⟨cap6, cur6, hv6, -, hl6, -⟩ := HO6
        have HGs6 := HG_120.sl
        rw [hv6] at HGs6
        simp only [List.length_append, List.length_map, List.length_singleton] at hl6
        refine r_slTo (k := Bs.length) sl_BL (hv6) rfl (by omega) ?_
        have HP0 := SlK.pre (cap' := cap6) HGs6
        have hlm : (Bs.map blkV).length = Bs.length := List.length_map ..
        rw [hlm] at HP0
        refine r_lenKm sl_BL rfl HP0 ?_
        refine r_mv (r_nil (q_t ?_))
        refine w_block ?_
        refine w_loop 308880546911537754137755648 (fun y : Nat × Int => [(79, .int .i64 (y.1 : Int)), (16, .int .i64 y.2)]) (fun k y h' => Ext h116 h' ∧ k = Bs.length - y.1 ∧ y.1 ≤ Bs.length ∧ y.2 = 2 + ssum (Bs.take y.1)) (by kernel_rfl) Bs.length (0, 2) ?_ ⟨rfl, rfl, trivial⟩ ?_
        · exact ⟨Ext.refl _, rfl, Nat.zero_le _, rfl⟩
        rintro k ⟨i, n⟩ s1 hq ⟨EQ, rfl, hi, hn2⟩
        dsimp only at hi hn2 ⊢
        subst hn2
        have sz178 := EQ.1
        have X179 := X119.trans EQ
        have HG_180 := HG_120.ext EQ
        have V8_181 := V8_121.ext EQ
        have HC1_182 := HC1_122.ext EQ
        have V44_183 := V44_123.ext EQ
        have V68_184 := V68_124.ext EQ
        have HC2_185 := HC2.ext EQ
        have HP0_186 := HP0.ext EQ
        refine w_seq ?_
        refine w_reg ?_
        refine r_lss rfl rfl (fun hc7 => ?_) (fun hc7 => ?_)   -- t80 := binOp lss 3 t79 t78 3
        · skip
          refine r_nil (q_t ?_)
          refine w_seq ?_
          refine w_true rfl ?_
          refine w_skip (q_t ?_)
          refine w_seq ?_
          refine w_block ?_
          refine w_seq ?_
          obtain ⟨bi, hbi⟩ : ∃ b, Bs[i]? = some b := ⟨_, List.getElem?_eq_getElem (by omega)⟩
          have hsl := ssum_take_le hmade (by omega) i
          have hbp := wfR_pos (hmade.wf bi (List.mem_of_getElem? hbi))
          refine w_reg ?_
          refine r_ixK sl_BL rfl HP0_186 rfl (get_blk hbi) fun aq187 oq187 hkq187 => ?_
          refine r_ldA (blkV bi) ag_Blk rfl rfl (fun i u hu => by rw [addr_add]; exact hkq187 i u hu) ?_
          refine r_allocB [.int .i64 0, .int .i64 0, .int .i64 0, .int .i64 0, .int .i64 0] ze_Blk rfl (fun _ => trivial) fun bq188 h189 V190 E191 hb192 hl193 => ?_
          have hzbq188 : Array.size h ≤ bq188 := Nat.le_trans X179.1 hb192
          have avHGbq188 : ∀ g, Value.ownBlock lv95 = some g → g < bq188 := fun g hg => by have := (HG_180.blk g hg).2; omega
          have nebq6bq188 : bq6 ≠ bq188 := by have := V8_181.lt; omega
          have avHC1bq188 : ∀ g, Value.ownBlock r1 = some g → g < bq188 := fun g hg => by have := (HC1_182.blk g hg).2; omega
          have nebq42bq188 : bq42 ≠ bq188 := by have := V44_183.lt; omega
          have nebq66bq188 : bq66 ≠ bq188 := by have := V68_184.lt; omega
          have avHC2bq188 : ∀ g, Value.ownBlock r2 = some g → g < bq188 := fun g hg => by have := (HC2_185.blk g hg).2; omega
          have sz194 := E191.1
          have Z195 := EQ.trans E191
          have X196 := X179.trans E191
          have HG_197 := HG_180.ext E191
          have V8_198 := V8_181.ext E191
          have HC1_199 := HC1_182.ext E191
          have V44_200 := V44_183.ext E191
          have V68_201 := V68_184.ext E191
          have HC2_202 := HC2_185.ext E191
          have HP0_203 := HP0_186.ext E191
          refine r_stA [.int .i64 bi.exp, .int .i64 bi.size, .int .i64 bi.a, .int .i64 bi.b, .int .i64 bi.c] ag_Blk rfl rfl rfl rfl (by simp [isOne]) V190 fun h204 V190_205 U206 => ?_
          have X207 := X196.thenUpd U206 (fun k hk => by have hk2 : k = bq188 := hk; omega)
          have sz208 := U206.1
          have Z209 := Z195.thenUpd U206 (fun k hk => by have hk2 : k = bq188 := hk; omega)
          have Y210 := E191.thenUpd U206 (fun k hk => by have hk2 : k = bq188 := hk; omega)
          have HG_211 := HG_180.ext Y210
          have V8_212 := V8_181.ext Y210
          have HC1_213 := HC1_182.ext Y210
          have V44_214 := V44_183.ext Y210
          have V68_215 := V68_184.ext Y210
          have HC2_216 := HC2_185.ext Y210
          have HP0_217 := HP0_186.ext Y210
          refine r_nil (q_t ?_)
          refine w_reg ?_
          refine r_mv (r_fo (fs := 1) fd_Blk1 (by kernel_rfl) (by decide) rfl (r_ld na_int rfl (V190_205.cell (i := 1) rfl) (r_addb rfl rfl (by omega) (by omega) (r_as (r_nil (q_b (q_t ?_)))))))
          refine w_reg ?_
          refine r_inc rfl (by have := hmade.len; have := hlm; omega) (r_mv (r_nil (q_t ?_)))
          exact ⟨Bs.length - (i + 1), (i + 1, 2 + ssum (Bs.take i) + bi.size), by first | omega | (dsimp only; omega), ⟨Z209, rfl, by first | omega | (dsimp only; omega), by dsimp only; rw [ssum_take_succ hbi]; omega⟩, rfl, rfl, trivial⟩
        · skip
          refine r_nil (q_t ?_)
          refine w_seq ?_
          refine w_false rfl ?_
          refine w_exit (q_tx (q_tx (q_bx (q_t ?_))))
          refine w_seq ?_
          have hie : i = Bs.length := by omega
          have hts : ssum (Bs.take i) = ssum Bs := by rw [hie, List.take_length]
          have hbig : 8 < 2 + ssum Bs := by first | (have q : con2B 2 Bs = false := (by assumption); rw [hm1] at q; have := of_decide_eq_false q; omega) | (have q : con2B 2 (Bs ++ [(addB bl.exp a b c)]) = false := (by assumption); rw [hm2] at q; have := of_decide_eq_false q; omega)
          refine w_reg ?_
          refine r_mv (r_gtr rfl rfl (fun hc8 => ?_) (fun hc8 => ?_))   -- t89 := binOp gtr 3 t88 8:i64 3
          · skip
            refine r_mv (r_want 90 true (by kernel_rfl) rfl rfl (r_mv ?_))
            refine r_want 90 true (by kernel_rfl) rfl rfl (r_not rfl (r_pickT rfl (r_mv (r_want 94 true (by kernel_rfl) rfl rfl (r_call trivial rfl (awake25_ok _) fun x218 h219 hk => ?_)))))
            obtain ⟨E220, rfl⟩ := hk
            refine ⟨trivial, ?_⟩
            have sz221 := E220.1
            have Z222 := EQ.trans E220
            have X223 := X179.trans E220
            have HG_224 := HG_180.ext E220
            have V8_225 := V8_181.ext E220
            have HC1_226 := HC1_182.ext E220
            have V44_227 := V44_183.ext E220
            have V68_228 := V68_184.ext E220
            have HC2_229 := HC2_185.ext E220
            have HP0_230 := HP0_186.ext E220
            refine r_pickT rfl (r_as (r_nil (q_t ?_)))
            refine w_ret (q_tr ?_)
            refine ⟨_, retV_1, ?_⟩
            first | exact ⟨X223, rfl⟩ | (exfalso; first | omega | (have q : con2B 2 (Bs ++ [(addB bl.exp a b c)]) = true := (by assumption); rw [hm2] at q; have := of_decide_eq_true q; omega))
          · skip
            refine r_mv (r_skip 90 false (by kernel_rfl) rfl rfl (r_skip 90 false (by kernel_rfl) rfl rfl (r_pickF rfl (r_mv (r_skip 94 false (by kernel_rfl) rfl rfl (r_pickF rfl (r_as (r_nil (q_t ?_)))))))))
            refine w_ret (q_tr ?_)
            refine ⟨_, retV_1, ?_⟩
            first | exact ⟨X179, rfl⟩ | (exfalso; first | omega | (have q : con2B 2 (Bs ++ [(addB bl.exp a b c)]) = true := (by assumption); rw [hm2] at q; have := of_decide_eq_true q; omega))
      · skip
        refine r_want 67 false (by kernel_rfl) rfl rfl (r_not rfl (r_pickF rfl (r_nil (q_t ?_))))
        refine w_false rfl ?_
        refine w_skip (q_t ?_)
        refine w_seq ?_
        refine w_seq ?_
        have hs6 : ssum Bs + 2 ≤ 8 := by have hq : con2B 2 (Bs ++ [(addB bl.exp a b c)]) = true := (by assumption); rw [hm2] at hq; exact of_decide_eq_true hq
        obtain ⟨k, x, hk1, hk2, hk3⟩ := con_add hmade hbl a b c hs6
        have hk4 : (con2 2 (Bs ++ [(addB bl.exp a b c)])).length = (con2 2 Bs).length := by rw [hk3, List.length_set]
        have hsm := con2_sm hmade (by omega) (by omega) hk2
        have hcl5 := con2_len 2 Bs
        have hl5 := hmade.len
        refine w_reg ?_
        refine r_mv (r_lenKm sl_CL rfl HC1_122.sl ?_)
        refine r_mv (r_lenKm sl_CL rfl HC2.sl ?_)
        refine r_neq rfl rfl (fun hc9 => ?_) (fun hc9 => ?_)   -- t101 := binOp neq 3 t98 t100 3
        · skip
          refine r_mv (r_skip 102 true (by kernel_rfl) rfl rfl (r_skip 102 true (by kernel_rfl) rfl rfl (r_skip 102 true (by kernel_rfl) rfl rfl (r_pickT rfl (r_nil (q_t ?_))))))
          refine w_true rfl ?_
          refine w_seq ?_
          refine w_reg ?_
          refine r_as (r_nil (q_t ?_))
          refine w_ret (q_tr ?_)
          refine ⟨_, retV_1, ?_⟩
          first | exact ⟨X119, rfl⟩ | (exfalso; first | omega | (have q : con2B 2 (Bs ++ [(addB bl.exp a b c)]) = true := (by assumption); rw [hm2] at q; have := of_decide_eq_true q; omega))
        · skip
          refine r_mv (r_want 102 false (by kernel_rfl) rfl rfl (r_mv (r_want 102 false (by kernel_rfl) rfl rfl (r_lenKm sl_CL rfl HC1_122.sl ?_))))
          refine r_want 102 false (by kernel_rfl) rfl rfl (r_eql rfl rfl (fun hc10 => ?_) (fun hc10 => ?_))   -- t105 := binOp eql 3 t104 0:i64 3   [guard op5 false]
          · skip
            refine r_pickF rfl (r_nil (q_t ?_))
            refine w_true rfl ?_
            refine w_seq ?_
            refine w_reg ?_
            refine r_as (r_nil (q_t ?_))
            refine w_ret (q_tr ?_)
            refine ⟨_, retV_1, ?_⟩
            first | exact ⟨X119, rfl⟩ | (exfalso; first | omega | (have q : con2B 2 (Bs ++ [(addB bl.exp a b c)]) = true := (by assumption); rw [hm2] at q; have := of_decide_eq_true q; omega))
          · skip
            refine r_pickF rfl (r_nil (q_t ?_))
            refine w_false rfl ?_
            refine w_skip (q_t ?_)
            refine w_seq ?_
            refine w_reg ?_
            refine r_mv (r_mv (r_lenKm sl_CL rfl HC2.sl ?_))
            obtain ⟨g, hgl, HO⟩ := HC2.own (by intro he; have he2 := congrArg List.length he; rw [List.length_map] at he2; simp only [List.length_nil] at he2; omega)
            rw [hk3, List.map_set] at HO
            have hgx := hgl
            obtain ⟨D, hD⟩ : ∃ D, D = (4 * ((a : Int) * c) - (2 * (b : Int) + 1) * (2 * (b : Int) + 1)) % 8 := ⟨_, rfl⟩
            obtain ⟨sg, hsg⟩ : ∃ sg, sg = if D = 3 ∨ D = 5 then -x.sign else x.sign := ⟨_, rfl⟩
            rw [show conV (inc2 x (addB bl.exp a b c)) = [.int .i64 x.exp, .int .i64 (x.dim + 2), .int .i64 sg, .bool x.odd, .int .i64 x.oddity] by rw [inc_back, hsg, hD]; rfl] at HO
            have hkl : k < ((con2 2 Bs).map conV).length := by rw [List.length_map]; omega
            refine r_subb rfl rfl (by omega) (by omega) ?_
            rw [hk4, show (((con2 2 Bs).length : Nat) : Int) - 1 = ((k : Nat) : Int) by omega]
            refine r_ixKo sl_CL rfl HO rfl (by rw [List.length_set]; exact hkl) ?_
            refine r_as (r_nil (q_t ?_))
            refine w_seq ?_
            refine w_reg ?_
            refine r_mv (r_nc rfl (r_fo (fs := 1) fd_Con1 (by kernel_rfl) (by decide) rfl (r_ld na_int rfl (HO.cell (i := k) (j := 1) (List.getElem?_set_self hkl) rfl) (r_subb rfl rfl (by have := hsm.2.2; omega) (by have := hsm.2.2; omega) ?_))))
            rw [show x.dim + 2 - 2 = x.dim by omega]
            refine r_nc rfl (r_fo (fs := 1) fd_Con1 (by kernel_rfl) (by decide) rfl (r_stK [.int .i64 x.exp, .int .i64 x.dim, .int .i64 sg, .bool x.odd, .int .i64 x.oddity] na_int rfl (show _ = .int .i64 x.dim from rfl) rfl HO hkl (by decide) rfl fun h231 HO_232 U233 => ?_))
            have X234 := X119.thenUpd U233 (fun k hk => by have hk2 : k = g := hk; omega)
            have V8_235 := V8_121.upd U233 (fun he => by have he2 : bq6 = g := he; omega)
            have HC1_236 := HC1_122.upd U233 (fun g1 hg hs => by have hs2 : g1 = g := hs; have := hbx g1 hg; omega)
            have V44_237 := V44_123.upd U233 (fun he => by have he2 : bq42 = g := he; omega)
            have V68_238 := V68_124.upd U233 (fun he => by have he2 : bq66 = g := he; omega)
            refine r_nil (q_t ?_)
            refine w_seq ?_
            refine w_seq ?_
            refine w_reg ?_
            refine r_fo (fs := 1) fd_Blk2 (by kernel_rfl) (by decide) rfl (r_ld na_i64 rfl (V68_238.cell (i := 2) rfl) (r_fo (fs := 1) fd_Blk4 (by kernel_rfl) (by decide) rfl (r_ld na_i64 rfl (V68_238.cell (i := 4) rfl) (r_mul rfl rfl ?_))))
            refine r_fo (fs := 1) fd_Blk3 (by kernel_rfl) (by decide) rfl (r_ld na_i64 rfl (V68_238.cell (i := 3) rfl) (r_fo (fs := 1) fd_Blk3 (by kernel_rfl) (by decide) rfl (r_ld na_i64 rfl (V68_238.cell (i := 3) rfl) (r_mul rfl rfl ?_))))
            refine r_sub rfl rfl ?_
            refine r_call trivial rfl (Mod_ok _ (by omega) (by omega) _) fun x239 h231 hk => ?_
            obtain ⟨rfl, rfl⟩ := hk
            refine ⟨trivial, ?_⟩
            rw [det_add bl.exp a b c, ← hD]
            refine r_as (r_nil (q_t ?_))
            refine w_seq ?_
            refine w_reg ?_
            refine r_mv (r_eql rfl rfl (fun hc11 => ?_) (fun hc11 => ?_))   -- t132 := binOp eql 2 t131 3:i64 2
            · skip
              refine r_mv (r_skip 133 true (by kernel_rfl) rfl rfl (r_skip 133 true (by kernel_rfl) rfl rfl (r_pickT rfl (r_nil (q_t ?_)))))
              refine w_true rfl ?_
              refine w_reg ?_
              refine r_mv (r_mv (r_nc rfl (r_fo (fs := 1) fd_Con2 (by kernel_rfl) (by decide) rfl (r_ld na_int rfl (HO_232.cell (i := k) (j := 2) (List.getElem?_set_self hkl) rfl) ?_))))
              have hD35 : D = 3 ∨ D = 5 := by omega
              refine r_neg rfl ?_
              rw [sign_back hsm.2.1 hsg hD35]
              refine r_nc rfl (r_fo (fs := 1) fd_Con2 (by kernel_rfl) (by decide) rfl (r_stK [.int .i64 x.exp, .int .i64 x.dim, .int .i64 x.sign, .bool x.odd, .int .i64 x.oddity] na_int rfl (show _ = .int .i64 x.sign from rfl) rfl HO_232 hkl (by decide) rfl fun h240 HO_241 U242 => ?_))
              have X243 := X234.thenUpd U242 (fun k hk => by have hk2 : k = g := hk; omega)
              have V8_244 := V8_235.upd U242 (fun he => by have he2 : bq6 = g := he; omega)
              have HC1_245 := HC1_236.upd U242 (fun g1 hg hs => by have hs2 : g1 = g := hs; have := hbx g1 hg; omega)
              have V44_246 := V44_237.upd U242 (fun he => by have he2 : bq42 = g := he; omega)
              have V68_247 := V68_238.upd U242 (fun he => by have he2 : bq66 = g := he; omega)
              refine r_nil (q_t ?_)
              refine w_seq ?_
              refine w_reg ?_
              refine r_mv ?_
              refine r_mv ?_
              have HF : SlK h240 5 r2 ((con2 2 Bs).map conV) := by have hq := HO_241.sl; have he : ((con2 2 Bs).map conV).set k [.int .i64 x.exp, .int .i64 x.dim, .int .i64 x.sign, .bool x.odd, .int .i64 x.oddity] = (con2 2 Bs).map conV := set_same (get_con hk2); rw [he] at hq; exact hq
              refine r_call trivial rfl (SameList_ok HC1_245.sl HF (by have := con2_len 2 Bs; have := hmade.len; omega)) fun x248 h240 hk => ?_
              obtain ⟨rfl, rfl⟩ := hk
              refine ⟨trivial, ?_⟩
              rw [decide_eq_true rfl]
              refine r_mv (r_want 148 true (by kernel_rfl) rfl rfl (r_call trivial rfl (awake25_ok _) fun x249 h250 hk => ?_))
              obtain ⟨E251, rfl⟩ := hk
              refine ⟨trivial, ?_⟩
              have sz252 := E251.1
              have X253 := X243.trans E251
              have V8_254 := V8_244.ext E251
              have HC1_255 := HC1_245.ext E251
              have V44_256 := V44_246.ext E251
              have V68_257 := V68_247.ext E251
              have HO_258 := HO_241.ext E251
              refine r_pickT rfl (r_as (r_nil (q_t ?_)))
              refine w_ret ?_
              refine ⟨_, retV_1, ?_⟩
              first | exact ⟨X253, rfl⟩ | (exfalso; first | omega | (have q : con2B 2 (Bs ++ [(addB bl.exp a b c)]) = true := (by assumption); rw [hm2] at q; have := of_decide_eq_true q; omega))
            · skip
              refine r_mv (r_want 133 false (by kernel_rfl) rfl rfl (r_mv (r_want 133 false (by kernel_rfl) rfl rfl (r_eql rfl rfl (fun hc12 => ?_) (fun hc12 => ?_)))))   -- t135 := binOp eql 2 t134 5:i64 2   [guard op2 false]
              · skip
                refine r_pickF rfl (r_nil (q_t ?_))
                refine w_true rfl ?_
                refine w_reg ?_
                refine r_mv (r_mv (r_nc rfl (r_fo (fs := 1) fd_Con2 (by kernel_rfl) (by decide) rfl (r_ld na_int rfl (HO_232.cell (i := k) (j := 2) (List.getElem?_set_self hkl) rfl) ?_))))
                have hD35 : D = 3 ∨ D = 5 := by omega
                refine r_neg rfl ?_
                rw [sign_back hsm.2.1 hsg hD35]
                refine r_nc rfl (r_fo (fs := 1) fd_Con2 (by kernel_rfl) (by decide) rfl (r_stK [.int .i64 x.exp, .int .i64 x.dim, .int .i64 x.sign, .bool x.odd, .int .i64 x.oddity] na_int rfl (show _ = .int .i64 x.sign from rfl) rfl HO_232 hkl (by decide) rfl fun h259 HO_260 U261 => ?_))
                have X262 := X234.thenUpd U261 (fun k hk => by have hk2 : k = g := hk; omega)
                have V8_263 := V8_235.upd U261 (fun he => by have he2 : bq6 = g := he; omega)
                have HC1_264 := HC1_236.upd U261 (fun g1 hg hs => by have hs2 : g1 = g := hs; have := hbx g1 hg; omega)
                have V44_265 := V44_237.upd U261 (fun he => by have he2 : bq42 = g := he; omega)
                have V68_266 := V68_238.upd U261 (fun he => by have he2 : bq66 = g := he; omega)
                refine r_nil (q_t ?_)
                refine w_seq ?_
                refine w_reg ?_
                refine r_mv ?_
                refine r_mv ?_
                have HF : SlK h259 5 r2 ((con2 2 Bs).map conV) := by have hq := HO_260.sl; have he : ((con2 2 Bs).map conV).set k [.int .i64 x.exp, .int .i64 x.dim, .int .i64 x.sign, .bool x.odd, .int .i64 x.oddity] = (con2 2 Bs).map conV := set_same (get_con hk2); rw [he] at hq; exact hq
                refine r_call trivial rfl (SameList_ok HC1_264.sl HF (by have := con2_len 2 Bs; have := hmade.len; omega)) fun x267 h259 hk => ?_
                obtain ⟨rfl, rfl⟩ := hk
                refine ⟨trivial, ?_⟩
                rw [decide_eq_true rfl]
                refine r_mv (r_want 148 true (by kernel_rfl) rfl rfl (r_call trivial rfl (awake25_ok _) fun x268 h269 hk => ?_))
                obtain ⟨E270, rfl⟩ := hk
                refine ⟨trivial, ?_⟩
                have sz271 := E270.1
                have X272 := X262.trans E270
                have V8_273 := V8_263.ext E270
                have HC1_274 := HC1_264.ext E270
                have V44_275 := V44_265.ext E270
                have V68_276 := V68_266.ext E270
                have HO_277 := HO_260.ext E270
                refine r_pickT rfl (r_as (r_nil (q_t ?_)))
                refine w_ret ?_
                refine ⟨_, retV_1, ?_⟩
                first | exact ⟨X272, rfl⟩ | (exfalso; first | omega | (have q : con2B 2 (Bs ++ [(addB bl.exp a b c)]) = true := (by assumption); rw [hm2] at q; have := of_decide_eq_true q; omega))
              · skip
                refine r_pickF rfl (r_nil (q_t ?_))
                refine w_false rfl ?_
                refine w_skip (q_t ?_)
                refine w_seq ?_
                refine w_reg ?_
                have hst := sign_stay hsg (by omega) (by omega)
                subst hst
                refine r_mv ?_
                refine r_mv ?_
                have HF : SlK h231 5 r2 ((con2 2 Bs).map conV) := by have hq := HO_232.sl; have he : ((con2 2 Bs).map conV).set k [.int .i64 x.exp, .int .i64 x.dim, .int .i64 x.sign, .bool x.odd, .int .i64 x.oddity] = (con2 2 Bs).map conV := set_same (get_con hk2); rw [he] at hq; exact hq
                refine r_call trivial rfl (SameList_ok HC1_236.sl HF (by have := con2_len 2 Bs; have := hmade.len; omega)) fun x278 h231 hk => ?_
                obtain ⟨rfl, rfl⟩ := hk
                refine ⟨trivial, ?_⟩
                rw [decide_eq_true rfl]
                refine r_mv (r_want 148 true (by kernel_rfl) rfl rfl (r_call trivial rfl (awake25_ok _) fun x279 h280 hk => ?_))
                obtain ⟨E281, rfl⟩ := hk
                refine ⟨trivial, ?_⟩
                have sz282 := E281.1
                have X283 := X234.trans E281
                have V8_284 := V8_235.ext E281
                have HC1_285 := HC1_236.ext E281
                have V44_286 := V44_237.ext E281
                have V68_287 := V68_238.ext E281
                have HO_288 := HO_232.ext E281
                refine r_pickT rfl (r_as (r_nil (q_t ?_)))
                refine w_ret ?_
                refine ⟨_, retV_1, ?_⟩
                first | exact ⟨X283, rfl⟩ | (exfalso; first | omega | (have q : con2B 2 (Bs ++ [(addB bl.exp a b c)]) = true := (by assumption); rw [hm2] at q; have := of_decide_eq_true q; omega))

end Go.Proofs.YtccgaemmdikhcaaDoor
