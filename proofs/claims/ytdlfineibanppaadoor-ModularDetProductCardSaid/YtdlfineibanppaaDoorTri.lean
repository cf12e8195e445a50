/-
  Contracts of triangular of package modular: what every row step keeps, the result has. Conditions stand in each statement.
-/
import Derived.Test.YtdlfineibanppaaDoorKer
import Derived.Test.YtdlfineibanppaaDoorTriS
import Derived.Test.YtdlfineibanppaaDoorAppZ
namespace Go.Proofs.YtdlfineibanppaaDoor
open Go Go.QF
set_option linter.unusedVariables false
set_option maxRecDepth 100000

/-- What every step keeps. -/
def Keeps (n C : Nat) (m : Int) (Q : (Nat → Nat → Int) → Int → Prop) : Prop := ∀ F s c i q, c < n → i < n → c ≠ i → 0 ≤ q → q < m → Bd n C m F → Q F s → Q (stepF F c i q m) (-s)

theorem triangular_ok {h : Heap} {b : Nat} {gs : List Nat} {v : Value} {n C : Nat} {F : Nat → Nat → Int} {m : Int} (HP0 : PartM h tR tI b gs v n (tab n C F)) (hnC : n ≤ C) (hC : C ≤ 1000000) (hm : 2 ≤ m) (hm2 : m ≤ 2147483647) (hbd : Bd n C m F) (Q : (Nat → Nat → Int) → Int → Prop) (hQ0 : Q F 1) (hQ : Keeps n C m Q) :
    CallH Tryd.prog 47 #[v, .int .i64 m] h fun x h' => Upd (· ∈ b :: gs) h h' ∧ ∃ F1 s gs1, x = .int .i64 s ∧ (s = 1 ∨ s = -1) ∧ PartM h' tR tI b gs1 v n (tab n C F1) ∧ (∀ g ∈ gs1, g ∈ gs) ∧ Q F1 s ∧ Bd n C m F1 ∧ Zc n F1 n := by
  have HP := HP0
  refine calls_of_W (l := [_, _]) mx Tryd.func47 rfl rfl rfl rfl rfl (by kernel_rfl) ?_
  refine w_seq ?_
  refine w_reg ?_
  refine r_as (r_nil (q_t ?_))
  refine w_seq ?_
  refine w_reg ?_
  refine r_mv (r_call trivial rfl (eliminator_ok m h) fun fv h1 hk => ?_)
  obtain ⟨rfl, rfl⟩ := hk
  refine ⟨trivial, ?_⟩
  have hpush := ext_push h (.cells #[.int .i64 m] tI (0, 0))
  have HP := PartM.ext HP0 hpush
  have hlt := PartM.lt HP0
  refine r_as (r_nil (q_t ?_))
  refine w_seq ?_
  refine w_reg ?_
  refine r_as (r_nil (q_t ?_))
  refine w_seq ?_
  refine w_seq ?_
  refine w_reg ?_
  refine r_mv (r_lenp sl_MM rfl HP (r_mv (r_nil (q_t ?_))))
  refine w_block ?_
  refine w_loop 18889465931478580847040 (fun y : Nat × Int => [(13, .int .i64 (y.1 : Int)), (6, .int .i64 y.2)]) (fun k y h' => k = n - y.1 ∧ y.1 ≤ n ∧ (y.2 = 1 ∨ y.2 = -1) ∧ ∃ F1 gs1, EchI h h' b gs v n C m F1 (.slice none 0 0) [] gs1 ∧ Q F1 y.2 ∧ Bd n C m F1 ∧ Zc n F1 y.1) (by kernel_rfl) n (0, 1) ?_ ⟨rfl, rfl, trivial⟩ ?_
  · refine ⟨rfl, by omega, .inl rfl, F, gs, ⟨hpush.upd, HP, fun g hg => hg, gro_nil _ _ _, ?_, by simp⟩, hQ0, hbd, fun c' i h1 => by omega⟩
    simp [cellH]
  rintro k ⟨c, s1⟩ sx h1 ⟨rfl, hc, hs1, F1, gs1, HI1, hQ1, hbd1, hz1⟩
  dsimp only at hc hs1 hQ1 hz1 ⊢
  have HP1 := HI1.2.1
  refine w_seq ?_
  refine w_reg ?_
  refine r_lss rfl rfl (fun hc1 => ?_) (fun hc1 => ?_)   -- t14 := binOp lss 3 t13 t12 3
  · skip
    refine r_nil (q_t ?_)
    refine w_seq ?_
    refine w_true rfl ?_
    refine w_skip (q_t ?_)
    refine w_seq ?_
    refine w_block ?_
    refine w_seq ?_
    refine w_reg ?_
    refine r_mv (r_as (r_nil (q_t ?_)))
    refine w_seq ?_
    refine w_reg ?_
    refine r_mv (r_inc rfl (by omega) (r_as (r_nil (q_t ?_))))
    refine w_block ?_
    refine w_loop 9444732965739290165568 (fun y : Nat × Int => [(8, .int .i64 (y.1 : Int)), (6, .int .i64 y.2)]) (fun k y h' => k = n - y.1 ∧ c < y.1 ∧ y.1 ≤ n ∧ (y.2 = 1 ∨ y.2 = -1) ∧ ∃ F2 gs2, EchI h h' b gs v n C m F2 (.slice none 0 0) [] gs2 ∧ Q F2 y.2 ∧ Bd n C m F2 ∧ Zc n F2 c ∧ Zi F2 c y.1) (by kernel_rfl) (n - (c + 1)) (c + 1, s1) ?_ ⟨rfl, rfl, trivial⟩ ?_
    · exact ⟨rfl, by first | omega | (dsimp only; omega), by first | omega | (dsimp only; omega), hs1, F1, gs1, HI1, hQ1, hbd1, hz1, fun k h1 h2 => by omega⟩
    rintro k ⟨i, s2⟩ sy h2 ⟨rfl, hci, hi, hs2, F2, gs2, HI2, hQ2, hbd2, hz2, hzi2⟩
    dsimp only at hci hi hs2 hQ2 hzi2 ⊢
    have HP2 := HI2.2.1
    refine w_seq ?_
    refine w_seq ?_
    refine w_reg ?_
    refine r_mv (r_mv (r_lenp sl_MM rfl HP2 (r_lss rfl rfl (fun hc2 => ?_) (fun hc2 => ?_))))   -- t21 := binOp lss 3 t18 t20 3
    · skip
      refine r_nil (q_t ?_)
      refine w_true rfl ?_
      refine w_skip (q_t ?_)
      refine w_seq ?_
      refine w_block ?_
      refine w_block ?_
      refine w_loop 9444732965739273650240 (fun s3 : Int => [(6, .int .i64 s3)]) (fun k s3 h' => (s3 = 1 ∨ s3 = -1) ∧ ∃ F3 gs3, k = (F3 i c).toNat ∧ EchI h h' b gs v n C m F3 (.slice none 0 0) [] gs3 ∧ Q F3 s3 ∧ Bd n C m F3 ∧ Zc n F3 c ∧ Zi F3 c i) (by kernel_rfl) (F2 i c).toNat s2 ?_ ⟨rfl, trivial⟩ ?_
      · exact ⟨hs2, F2, gs2, rfl, HI2, hQ2, hbd2, hz2, hzi2⟩
      rintro k s3 sz h3 ⟨hs3, F3, gs3, rfl, HI3, hQ3, hbd3, hz3, hzi3⟩
      have HP3 := HI3.2.1
      refine w_seq ?_
      refine w_seq ?_
      refine w_reg ?_
      refine r_mv (r_mv (r_ixp sl_MM rfl HP3 rfl (tab_row (by omega)) fun aA rA gA haA hgA hrA => ?_))
      refine r_ld na_I64 rfl haA (r_mv (r_ixi sl_I64 rfl hrA.sl rfl (range_at (by omega)) fun aB haB => ?_))
      refine r_ld na_i64 rfl haB (r_neq rfl rfl (fun hc3 => ?_) (fun hc3 => ?_))   -- t31 := binOp neq 2 t30 0:i64 2
      · skip
        refine r_nil (q_t ?_)
        refine w_true rfl ?_
        refine w_skip (q_t ?_)
        refine w_block ?_
        refine w_seq ?_
        have hcc := hbd3 c c (by omega) (by omega)
        have hic := hbd3 i c (by omega) (by omega)
        have hq := quo_bd hcc.1 hcc.2 (b := F3 i c) (by omega)
        refine w_draw (by kernel_rfl) ?_
        refine r_mv (r_mv (r_mv (r_ixp sl_MM rfl HP3 rfl (tab_row (by omega)) fun aK rK gK haK hgK hrK => ?_)))
        refine r_ld na_I64 rfl haK (r_mv (r_mv (r_ixp sl_MM rfl HP3 rfl (tab_row (by omega)) fun aL rL gL haL hgL hrL => ?_)))
        refine r_ld na_I64 rfl haL ?_
        have hgKm : gK ∈ b :: gs := List.mem_cons_of_mem _ (HI3.2.2.1 _ (List.mem_of_getElem? hgK))
        have hneKL : gK ≠ gL := fun he => absurd (nodup_getElem?_inj (List.nodup_cons.1 (PartM.nodup HI3.2.1)).2 hgK (he ▸ hgL)) (by omega)
        refine r_mv ?_
        refine r_mv (r_ixp sl_MM rfl HP3 rfl (tab_row (by omega)) fun aN rN gN haN hgN hrN => ?_)
        refine r_ld na_I64 rfl haN (r_mv (r_ixi sl_I64 rfl hrN.sl rfl (range_at (by omega)) fun aU haU => ?_))
        refine r_ld na_i64 rfl haU (r_mv (r_mv (r_ixp sl_MM rfl HP3 rfl (tab_row (by omega)) fun aO rO gO haO hgO hrO => ?_)))
        refine r_ld na_I64 rfl haO (r_mv (r_ixi sl_I64 rfl hrO.sl rfl (range_at (by omega)) fun aV haV => ?_))
        refine r_ld na_i64 rfl haV (r_quop rfl rfl (by omega) (by omega) (by omega) (r_callc trivial rfl rfl (eliminate_ok (a := ⟨h.size, 0, none⟩) hrK hrL hneKL (by simp) HI3.2.2.2.2.1 (by have := hlt _ hgKm; dsimp only; omega) (row_bd hbd3 (by omega)) (row_bd hbd3 (by omega)) hq.1 hq.2 hm hm2 (by simp; omega)) fun ev h7 hk => ?_))
        obtain ⟨hU7, HO7⟩ := hk
        refine ⟨trivial, ?_⟩
        rw [elim_row] at HO7
        have HP7 := PartM.setRow' HI3.2.1 hgK hU7 (tab_row (by omega)) hrK HO7
        rw [tab_setF] at HP7
        have HI7 := HI3.turn hlt hU7 hgKm HP7 HI3.2.2.1
        have HP3 := HP7
        refine r_nil (q_t ?_)
        refine w_seq ?_
        refine w_draw (by kernel_rfl) ?_
        refine r_mv (r_mv (r_mv (r_mv (r_mv (r_mv (r_ixp sl_MM rfl HP3 rfl (tab_row (by omega)) fun aI rI gI haI hgI hrI => ?_))))))
        refine r_ld na_I64 rfl haI (r_mv (r_mv (r_ixp sl_MM rfl HP3 rfl (tab_row (by omega)) fun aT rT gT haT hgT hrT => ?_)))
        refine r_ld na_I64 rfl haT ?_
        obtain ⟨rs, HT, hrl⟩ := PartM.top HP3
        refine r_ixo sl_MM rfl HT rfl (by omega) ?_
        refine r_sto na_I64 rfl rfl hrI.one HT (by omega) ?_
        have HT2 := HT.set c rI (by omega)
        refine r_ixo sl_MM rfl HT2 rfl (by simp; omega) ?_
        refine r_sto na_I64 rfl rfl hrT.one HT2 (by simp; omega) ?_
        have HP8 := PartM.swap HP3 hgT hgI (tab_row (by omega)) (tab_row (by omega)) hrT hrI
        rw [tab_setF, tab_setF] at HP8
        have HI8 := HI7.turn hlt ((upd_set _ ⟨b, c, none⟩ rI).trans (upd_set _ ⟨b, i, none⟩ rT)) (List.mem_cons_self ..) (F2 := stepF F3 c i (F3 c c / F3 i c) m) HP8 (fun g hg => HI7.2.2.1 g (mem_swap hgT hgI hg))
        refine r_nil (q_t ?_)
        refine w_reg ?_
        refine r_mv (r_neg rfl ?_)
        have hws : IntKind.i64.wrap (0 - s3) = -s3 := by rw [IntKind.wrap_i64]; omega
        rw [hws]
        refine r_as (r_nil (q_b (q_t ?_)))
        have hv3 : stepF F3 c i (F3 c c / F3 i c) m i c = F3 c c % F3 i c := by rw [stepF_i]; exact step_lt hcc.1 hcc.2 (by omega) hic.2
        have hl3 := Int.emod_lt_of_pos (F3 c c) (b := F3 i c) (by omega)
        exact ⟨_, -s3, by rw [hv3]; omega, ⟨by omega, _, _, rfl, HI8, hQ _ _ _ _ _ (by omega) (by omega) (by omega) hq.1 hq.2 hbd3 hQ3, bd_step (by omega) hbd3 (by omega) (by omega), zc_step hz3 (by omega) (by omega), zi_step hzi3⟩, rfl, trivial⟩
      · skip
        refine r_nil (q_t ?_)
        refine w_false rfl ?_
        refine w_exit (q_tx (q_tx (q_bx (q_b (q_t ?_)))))
        refine w_reg ?_
        refine r_mv (r_inc rfl (by omega) (r_as (r_nil (q_t ?_))))
        exact ⟨n - (i + 1), (i + 1, s3), by first | omega | (dsimp only; omega), ⟨rfl, by first | omega | (dsimp only; omega), by first | omega | (dsimp only; omega), hs3, F3, gs3, HI3, hQ3, hbd3, hz3, zi_succ hzi3 hc3⟩, rfl, rfl, trivial⟩
    · skip
      refine r_nil (q_t ?_)
      refine w_false rfl ?_
      refine w_exit (q_tx (q_tx (q_bx (q_b (q_t ?_)))))
      refine w_reg ?_
      refine r_inc rfl (by omega) (r_mv (r_nil (q_t ?_)))
      obtain rfl : i = n := by omega
      exact ⟨i - (c + 1), (c + 1, s2), by first | omega | (dsimp only; omega), ⟨rfl, by first | omega | (dsimp only; omega), hs2, F2, gs2, HI2, hQ2, hbd2, zc_succ hz2 hzi2⟩, rfl, rfl, trivial⟩
  · skip
    refine r_nil (q_t ?_)
    refine w_seq ?_
    refine w_false rfl ?_
    refine w_exit (q_tx (q_tx (q_bx (q_t ?_))))
    refine w_seq ?_
    refine w_reg ?_
    refine r_mv (r_as (r_nil (q_t ?_)))
    refine w_ret ?_
    refine ⟨_, retV_1, ?_⟩
    obtain rfl : c = n := by omega
    exact ⟨HI1.1, F1, s1, gs1, rfl, hs1, HI1.2.1, HI1.2.2.1, hQ1, hbd1, hz1⟩

end Go.Proofs.YtdlfineibanppaaDoor
