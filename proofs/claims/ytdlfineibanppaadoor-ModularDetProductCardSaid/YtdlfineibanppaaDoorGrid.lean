/-
  Contracts of the tape and of the matrices that are made of a Grid.
-/
import Derived.Test.YtdlfineibanppaaDoorMat1
import Derived.Test.YtdlfineibanppaaDoorGridS
namespace Go.Proofs.YtdlfineibanppaaDoor
open Go Go.QF
set_option linter.unusedVariables false
set_option maxRecDepth 100000
abbrev tTape : Nat := 59
theorem fd_T0 : FdT Tryd.prog 59 0 0 23 := ⟨_, _, Tryd.underlying59, rfl, rfl, rfl⟩
theorem fd_T1 : FdT Tryd.prog 59 1 1 3 := ⟨_, _, Tryd.underlying59, rfl, rfl, rfl⟩
theorem fd_G0 : FdT Tryd.prog 25 0 0 5 := ⟨_, _, Tryd.underlying25, rfl, rfl, rfl⟩
theorem fd_G1 : FdT Tryd.prog 25 1 1 5 := ⟨_, _, Tryd.underlying25, rfl, rfl, rfl⟩
theorem fd_G2 : FdT Tryd.prog 25 2 2 23 := ⟨_, _, Tryd.underlying25, rfl, rfl, rfl⟩
theorem build_tape (a : Option Addr) (n c : Nat) (w : World) : (Instr.build 59 #[(0, .slice a n c)]).run Tryd.prog w = .ok (.agg #[.slice a n c, .int .i64 0]) w := by kernel_rfl
def i8V (z : Int) : Value := .int .i8 z

theorem Next_ok {h : Heap} {b k : Nat} {lv : Value} {Z : List Int} (HT : TapeH tTape h b lv k) (HZ : Sl h lv (Z.map i8V)) (hne : Z ≠ [] → lv.ownBlock ≠ some b) (hk : k ≤ Z.length) (hk2 : k < 1000000000) (hZ : ∀ z ∈ Z, -128 ≤ z ∧ z ≤ 127) :
    CallH Tryd.prog 40 #[.pointer (some ⟨b, 0, none⟩)] h fun x h' => x = .int .i64 (Z[k]?.getD 0) ∧ TapeH tTape h' b lv (min (k + 1) Z.length) ∧ Upd (· = b) h h' := by
  refine calls_of_W (l := [_]) mx Tryd.func40 rfl rfl rfl rfl rfl (by kernel_rfl) ?_
  refine w_seq ?_
  refine w_reg ?_
  refine r_as (r_nil (q_t ?_))
  refine w_seq ?_
  refine w_seq ?_
  have hZl : (Z.map i8V).length = Z.length := List.length_map ..
  refine w_draw (by kernel_rfl) ?_
  refine r_mv (r_nc rfl ?_)
  refine r_fa (fs := 1) fd_T1 (by kernel_rfl) (by decide) rfl ?_
  refine r_ld na_int rfl HT.c1 (r_mv (r_nc rfl ?_))
  refine r_fa (fs := 1) fd_T0 (by kernel_rfl) (by decide) rfl ?_
  refine r_ld na_I8 rfl HT.c0 (r_lens sl_I8 rfl HZ ?_)
  refine r_geq rfl rfl (fun hc1 => ?_) (fun hc1 => ?_)   -- t12 := binOp geq 3 t6 t11 3
  · skip
    refine r_nil (q_t ?_)
    refine w_true rfl ?_
    refine w_seq ?_
    rw [hZl] at hc1
    refine w_reg ?_
    refine r_as (r_nil (q_t ?_))
    refine w_ret (q_tr ?_)
    refine ⟨_, retV_1, ?_⟩
    rw [List.getElem?_eq_none (by omega)]
    refine ⟨rfl, ?_, Upd.refl _ _⟩
    rw [show min (k + 1) Z.length = k by omega]
    exact HT
  · skip
    refine r_nil (q_t ?_)
    refine w_false rfl ?_
    refine w_skip (q_t ?_)
    refine w_seq ?_
    rw [hZl] at hc1
    refine w_reg ?_
    refine r_mv (r_nc rfl ?_)
    refine r_fa (fs := 1) fd_T1 (by kernel_rfl) (by decide) rfl ?_
    refine r_ld na_int rfl HT.c1 (r_inc rfl (by omega) (r_nc rfl ?_))
    refine r_fa (fs := 1) fd_T1 (by kernel_rfl) (by decide) rfl ?_
    refine r_st na_int rfl rfl rfl HT.c1 (HT.free 1) ?_
    have HT2 := HT.set (k + 1)
    refine r_nil (q_t ?_)
    refine w_seq ?_
    have hkl : k < Z.length := by omega
    have hzb := hZ Z[k] (List.getElem_mem _)
    have HZ2 := HZ.upd (upd_set h ⟨b, 1, none⟩ (.int .i64 ((k + 1 : Nat) : Int))) (fun g hg he => hne (fun hz => by subst hz; simp at hkl) (by have he2 : g = b := he; rw [← he2]; exact hg))
    refine w_draw (by kernel_rfl) ?_
    refine r_mv (r_nc rfl ?_)
    refine r_fa (fs := 1) fd_T0 (by kernel_rfl) (by decide) rfl ?_
    refine r_ld na_I8 rfl HT2.c0 (r_mv (r_nc rfl ?_))
    refine r_fa (fs := 1) fd_T1 (by kernel_rfl) (by decide) rfl ?_
    refine r_ld na_int rfl HT2.c1 (r_subb rfl rfl (by omega) (by omega) ?_)
    rw [show ((k + 1 : Nat) : Int) - 1 = (k : Int) by omega]
    refine r_ixs sl_I8 rfl HZ2 rfl (show (Z.map i8V)[k]? = some (i8V Z[k]) by rw [List.getElem?_map, List.getElem?_eq_getElem hkl]; rfl) fun aZ haZ => ?_
    refine r_ld na_i8 rfl haZ (r_cvk it_i8 it_i64 rfl (wrap_small (by omega) (by omega)) ?_)
    refine r_as (r_nil (q_t ?_))
    refine w_ret ?_
    refine ⟨_, retV_1, ?_⟩
    rw [List.getElem?_eq_getElem hkl]
    refine ⟨rfl, ?_, upd_set _ _ _⟩
    rw [show min (k + 1) Z.length = k + 1 by omega]
    exact HT2

theorem Ints_ok {h : Heap} {gr gc most : Nat} {lv : Value} {Z : List Int} (HZ : Sl h lv (Z.map i8V)) (hr : gr < 256) (hc : gc < 256) (hm : 0 < most) (hm2 : most ≤ 1000) (hZ : ∀ z ∈ Z, -128 ≤ z ∧ z ≤ 127) :
    CallH Tryd.prog 17 #[.agg #[.int .u8 (gr : Int), .int .u8 (gc : Int), lv], .int .i64 (most : Int)] h fun x h' => Ext h h' ∧ Fresh h.size h' x (gridM (1 + gr % most) (1 + gc % most) Z) := by
  obtain ⟨la, ln, lcap, hlvE⟩ : ∃ a n c, lv = .slice a n c := by obtain ⟨a, c, h, _⟩ := HZ; exact ⟨_, _, _, h⟩
  refine calls_of_W (l := [_, _]) mx Tryd.func17 rfl rfl rfl rfl rfl (by kernel_rfl) ?_
  refine w_seq ?_
  refine w_reg ?_
  refine r_boxG (fun _ => trivial) rfl fun bG hA hEA hbG hbG2 hcG => ?_
  have HG : GridH 25 hA bG (gr : Int) (gc : Int) lv := hcG
  refine r_as (r_nil (q_t ?_))
  refine w_seq ?_
  refine w_reg ?_
  refine r_fa (fs := 1) fd_G2 (by kernel_rfl) (by decide) rfl ?_
  refine r_ld na_I8 rfl HG.c2 (r_build (v := .agg #[lv, .int .i64 0]) (fun w => by have hbt := build_tape la ln lcap w; rw [← hlvE] at hbt; exact hbt) ?_)
  refine r_boxG (fun _ => trivial) rfl fun bT hB hEB hbT hbT2 hcT => ?_
  have HT : TapeH tTape hB bT lv 0 := hcT
  have HGB := HG.ext hEB
  have hEB0 := hEA.trans hEB
  refine r_as (r_nil (q_t ?_))
  refine w_seq ?_
  refine w_reg ?_
  refine r_fa (fs := 1) fd_G0 (by kernel_rfl) (by decide) rfl ?_
  refine r_ld na_u8 rfl HGB.c0 (r_cvk it_u8 it_int rfl (wrap_small (by omega) (by omega)) ?_)
  refine r_mv (r_remn rfl rfl (by omega) ?_)
  refine r_addn (a := 1) rfl rfl (by have := Nat.mod_le gr most; omega) ?_
  obtain ⟨R, hR⟩ : ∃ R, 1 + gr % most = R := ⟨_, rfl⟩
  have hR2 : R ≤ 256 := by have := Nat.mod_le gr most; omega
  rw [hR]
  refine r_mk (n := R) sl_MM ze_I64 rfl trivial rfl rfl (by omega) (by omega) ⟨trivial, ?_⟩
  have hP0 := ext_push hB (.cells (List.replicate R (.slice none 0 0)).toArray tR (0, 0))
  have HP0 := partM_new hB tR tI R (by unfold maxLen; omega)
  obtain ⟨bM, hbM⟩ : ∃ bM, hB.size = bM := ⟨_, rfl⟩
  rw [hbM] at HP0 ⊢
  obtain ⟨hC, hhC⟩ : ∃ hC, hB.push (.cells (List.replicate R (.slice none 0 0)).toArray tR (0, 0)) = hC := ⟨_, rfl⟩
  rw [hhC] at HP0 hP0 ⊢
  have HTC := HT.upd hP0.upd (S := fun _ => False) (fun h => h)
  have HGC := HGB.ext hP0
  obtain ⟨C, hCe⟩ : ∃ C, 1 + gc % most = C := ⟨_, rfl⟩
  have hC2 : C ≤ 256 := by have := Nat.mod_le gc most; omega
  have hMT : bM ≠ bT := by omega
  refine r_as (r_nil (q_t ?_))
  refine w_seq ?_
  refine w_seq ?_
  refine w_reg ?_
  refine r_mv (r_lenp sl_MM rfl HP0 (r_mv (r_nil (q_t ?_))))
  refine w_block ?_
  refine w_loop 9007199250547072 (fun i : Nat => [(22, .int .i64 (i : Int))]) (fun k i h' => Ext h h' ∧ k = R - i ∧ i ≤ R ∧ TapeH tTape h' bT lv (min (i * C) Z.length) ∧ GridH 25 h' bG (gr : Int) (gc : Int) lv ∧ ∃ gs, PartM h' tR tI bM gs (.slice (some ⟨bM, 0, none⟩) R R) R ((List.range i).map (fun i => (List.range C).map fun j => Z[i * C + j]?.getD 0)) ∧ ∀ g ∈ bM :: gs, h.size ≤ g ∧ g ≠ bT ∧ g ≠ bG) (by kernel_rfl) R 0 ?_ ⟨rfl, trivial⟩ ?_
  · refine ⟨hEB0.trans hP0, rfl, by omega, by simpa using HTC, HGC, [], by simpa using HP0, fun g hg => ?_⟩
    simp at hg; subst hg; exact ⟨by have := hEB0.1; omega, hMT, by omega⟩
  rintro k i s h1 ⟨hE, rfl, hi, HT, HG, gs, HP, hgs⟩
  refine w_seq ?_
  refine w_reg ?_
  refine r_lss rfl rfl (fun hc1 => ?_) (fun hc1 => ?_)   -- t23 := binOp lss 3 t22 t21 3
  · skip
    refine r_nil (q_t ?_)
    refine w_seq ?_
    refine w_true rfl ?_
    refine w_skip (q_t ?_)
    refine w_seq ?_
    refine w_block ?_
    refine w_seq ?_
    refine w_reg ?_
    refine r_mv (r_as (r_nil (q_t ?_)))
    refine w_seq ?_
    have hiR : i < R := by omega
    refine w_reg ?_
    refine r_mv (r_mv (r_fa (fs := 1) fd_G1 (by kernel_rfl) (by decide) rfl ?_))
    refine r_ld na_u8 rfl HG.c1 (r_cvk it_u8 it_int rfl (wrap_small (by omega) (by omega)) ?_)
    refine r_mv (r_remn rfl rfl (by omega) ?_)
    refine r_addn (a := 1) rfl rfl (by have := Nat.mod_le gc most; omega) ?_
    rw [hCe]
    refine r_mk (n := C) sl_I64 ze_i64 rfl trivial rfl rfl (by omega) (by omega) ⟨trivial, ?_⟩
    have hPP := ext_push h1 (.cells (List.replicate C (.int .i64 0)).toArray tI (0, 0))
    have HPa := HP.ext hPP
    have hnew := ownI_new h1 tI C 0 (by unfold maxLen; omega)
    obtain ⟨rs, hTop, hrs⟩ := HPa.top
    have hbMl := HP.lt bM (List.mem_cons_self ..)
    have hTl := HT.lt
    have hGl := HG.lt
    refine r_ixo sl_MM rfl hTop rfl (by omega) ?_
    refine r_sto na_I64 rfl rfl rfl hTop (by omega) ?_
    have HPb := HPa.push (i := i) (by simp) (by omega) hnew (fun hc => by have := HP.lt _ hc; omega)
    have hE := (hE.trans hPP).thenUpd (upd_set _ ⟨bM, i, none⟩ (.slice (some ⟨h1.size, 0, none⟩) C C)) (fun k hk => by have hk2 : k = bM := hk; omega)
    have HT := (HT.upd hPP.upd (S := fun _ => False) (fun h => h)).upd (upd_set _ ⟨bM, i, none⟩ (.slice (some ⟨h1.size, 0, none⟩) C C)) (fun he => hMT (Eq.symm he))
    have HG := (HG.ext hPP).upd (upd_set _ ⟨bM, i, none⟩ (.slice (some ⟨h1.size, 0, none⟩) C C)) (fun he => by have he2 : bG = bM := he; omega)
    have hgs : ∀ g ∈ bM :: (gs ++ [h1.size]), h.size ≤ g ∧ g ≠ bT ∧ g ≠ bG := fun g hg => by
      rw [← List.cons_append] at hg
      rcases List.mem_append.1 hg with hg | hg
      · exact hgs g hg
      · simp at hg; subst hg; exact ⟨by omega, by omega, by omega⟩
    obtain ⟨h2, hh2⟩ : ∃ h2, setH (h1.push (.cells (List.replicate C (.int .i64 0)).toArray tI (0, 0))) ⟨bM, i, none⟩ (.slice (some ⟨h1.size, 0, none⟩) C C) = h2 := ⟨_, rfl⟩
    rw [hh2] at HPb hE HT HG
    change RL _ _ _ _ _ _ (setH (h1.push (.cells (List.replicate C (.int .i64 0)).toArray tI (0, 0))) ⟨bM, i, none⟩ (.slice (some ⟨h1.size, 0, none⟩) C C)) _
    rw [hh2]
    refine r_nil (q_t ?_)
    refine w_seq ?_
    refine w_reg ?_
    refine r_mv (r_mv (r_ixp sl_MM rfl HPb rfl (get_snoc (by simp)) fun aL rL gL haL hgL hrL => ?_))
    refine r_ld na_I64 rfl haL (r_leni sl_I64 rfl hrL.sl ?_)
    rw [List.length_replicate]
    refine r_mv (r_nil (q_t ?_))
    refine w_block ?_
    refine w_loop 4502500115742976 (fun j : Nat => [(40, .int .i64 (j : Int))]) (fun k j h' => Ext h h' ∧ k = C - j ∧ j ≤ C ∧ TapeH tTape h' bT lv (min (i * C + j) Z.length) ∧ GridH 25 h' bG (gr : Int) (gc : Int) lv ∧ PartM h' tR tI bM (gs ++ [h1.size]) (.slice (some ⟨bM, 0, none⟩) R R) R ((List.range i).map (fun i => (List.range C).map fun j => Z[i * C + j]?.getD 0) ++ [mixR C ((fun i j => Z[i * C + j]?.getD 0) i) (fun _ => 0) j])) (by kernel_rfl) C 0 ?_ ⟨rfl, trivial⟩ ?_
    · exact ⟨hE, rfl, by omega, HT, HG, by rw [mixR_zero, range_rep]; exact HPb⟩
    rintro k j s2 h3 ⟨hE, rfl, hj, HT, HG, HQ⟩
    have hiC : i * C ≤ 256 * 256 := Nat.mul_le_mul (by omega) hC2
    refine w_seq ?_
    refine w_reg ?_
    refine r_lss rfl rfl (fun hc2 => ?_) (fun hc2 => ?_)   -- t41 := binOp lss 3 t40 t39 3
    · skip
      refine r_nil (q_t ?_)
      refine w_seq ?_
      refine w_true rfl ?_
      refine w_skip (q_t ?_)
      refine w_seq ?_
      refine w_block ?_
      refine w_seq ?_
      refine w_reg ?_
      refine r_mv (r_as (r_nil (q_t ?_)))
      obtain ⟨gK, rK, rsK, hgK, HTK, hrsK, hrlK, hrK, hneK⟩ := PartM.row (i := i) HQ (get_snoc (by simp))
      have hcK := HTK.cell hrsK
      have hjC : j < (mixR C ((fun i j => Z[i * C + j]?.getD 0) i) (fun _ => 0) j).length := by rw [mixR_len]; omega
      refine w_drawB (fun h' => cellH h' ⟨bM, i, none⟩ = some rK) (by kernel_rfl) ?_
      refine r_mv (r_mv (r_ixo sl_MM rfl HTK rfl (by omega) ?_))
      refine r_ldB na_I64 rfl hcK (fun _ hb => hb) ?_
      refine r_mv (r_mv (r_call hcK rfl (Next_ok HT (HZ.ext hE) (fun hz he => by have := HZ.blk_lt (by simpa using hz) bT he; omega) (by omega) (by omega) hZ) fun x5 h5 hk => ?_))
      obtain ⟨rfl, HT5, hU5⟩ := hk
      have hcK5 : cellH h5 ⟨bM, i, none⟩ = some rK := cellH_upd hcK hU5 (fun he => hMT he)
      refine ⟨hcK5, ?_⟩
      have hrK5 := hrK.upd hU5 (fun he => (hgs gK (List.mem_cons_of_mem _ (List.mem_of_getElem? hgK))).2.1 he)
      refine r_ixo sl_I64 rfl hrK5 rfl (by rw [List.length_map]; exact hjC) ?_
      refine r_sto na_i64 rfl rfl rfl hrK5 (by rw [List.length_map]; exact hjC) ?_
      rw [tape_min]
      have HQ5 := PartM.upd HQ hU5 (fun g hg he => (hgs g hg).2.1 he)
      have HQ2 := PartM.setElem HQ5 hgK (get_snoc (by simp)) (j := j) hjC (Z[i * C + j]?.getD 0)
      rw [set_snoc (by simp), mixR_set (by omega) rfl] at HQ2
      have hgK3 := hgs gK (List.mem_cons_of_mem _ (List.mem_of_getElem? hgK))
      have hE5 := (hE.thenUpd hU5 (fun k hk => by have hk2 : k = bT := hk; omega)).thenUpd (upd_set h5 ⟨gK, j, none⟩ (.int .i64 (Z[i * C + j]?.getD 0))) (fun k hk => by have hk2 : k = gK := hk; omega)
      have HT6 := HT5.upd (upd_set h5 ⟨gK, j, none⟩ (.int .i64 (Z[i * C + j]?.getD 0))) (fun he => hgK3.2.1 (Eq.symm he))
      have HG6 := (HG.upd hU5 (fun he => by have he2 : bG = bT := he; omega)).upd (upd_set h5 ⟨gK, j, none⟩ (.int .i64 (Z[i * C + j]?.getD 0))) (fun he => hgK3.2.2 (Eq.symm he))
      refine r_nil (q_b (q_t ?_))
      refine w_reg ?_
      refine r_inc rfl (by omega) (r_mv (r_nil (q_t ?_)))
      exact ⟨C - (j + 1), j + 1, by omega, ⟨hE5, rfl, by omega, by rw [← Nat.add_assoc, ← min_step]; exact HT6, HG6, HQ2⟩, rfl, trivial⟩
    · skip
      refine r_nil (q_t ?_)
      refine w_seq ?_
      refine w_false rfl ?_
      refine w_exit (q_tx (q_tx (q_bx (q_b (q_t ?_)))))
      refine w_reg ?_
      refine r_inc rfl (by omega) (r_mv (r_nil (q_t ?_)))
      obtain rfl : j = C := by omega
      rw [mixR_all _ _ (by omega)] at HQ
      refine ⟨R - (i + 1), i + 1, by omega, ⟨hE, rfl, by omega, ?_, HG, gs ++ [h1.size], ?_, hgs⟩, rfl, trivial⟩
      · rw [show (i + 1) * j = i * j + j by rw [Nat.add_mul, Nat.one_mul]]; exact HT
      · rw [← range_snoc]; exact HQ
  · skip
    refine r_nil (q_t ?_)
    refine w_seq ?_
    refine w_false rfl ?_
    refine w_exit (q_tx (q_tx (q_bx (q_t ?_))))
    refine w_seq ?_
    refine w_reg ?_
    refine r_mv (r_as (r_nil (q_t ?_)))
    refine w_ret ?_
    refine ⟨_, retV_1, ?_⟩
    obtain rfl : i = R := by omega
    refine ⟨hE, bM, gs, ?_, fun g hg => (hgs g hg).1⟩
    unfold OwnM gridM
    rw [tab_len]
    try rw [hR]
    try rw [hCe]
    exact HP

end Go.Proofs.YtdlfineibanppaaDoor
