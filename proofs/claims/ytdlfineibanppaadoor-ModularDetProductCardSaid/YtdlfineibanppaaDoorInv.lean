/-
  Contracts of Det and Inverse of package modular: by what every row step keeps.
-/
import Derived.Test.YtdlfineibanppaaDoorTri
import Derived.Test.YtdlfineibanppaaDoorInvH
namespace Go.Proofs.YtdlfineibanppaaDoor
open Go Go.QF
set_option linter.unusedVariables false
set_option maxRecDepth 100000

theorem residues_tab {h h2 : Heap} {r1 : Value} {M : List (List Int)} {m : Int} {b : Nat} {gs : List Nat} {c : Nat} (HO1 : OwnM h2 tR tI b gs r1 (M.map (·.map (· % m)))) (hr : ∀ z ∈ M, z.length = c) : PartM h2 tR tI b gs r1 M.length (tab M.length c (ent (redM M m))) := by
  have ht := tab_eq (A := redM M m) (c := c) (red_rows hr)
  rw [red_len] at ht
  rw [← ht]
  have : OwnM h2 tR tI b gs r1 (redM M m) := HO1
  unfold OwnM at this
  rw [red_len] at this
  exact this
theorem bd_red {M : List (List Int)} {c : Nat} {m : Int} (hm : 0 < m) : Bd M.length c m (ent (redM M m)) := by
  have := bd_ent (c := c) hm (rem_red hm M)
  rw [red_len] at this
  exact this
def PostD (M : List (List Int)) (m : Int) (Q : (Nat → Nat → Int) → Int → Prop) (h : Heap) (x : Value) (h' : Heap) : Prop := Ext h h' ∧ ∃ d e, x = .tuple #[.int .i64 d, .int .i64 e] ∧
  ((squareB M = false ∧ e = 3 ∧ d = 0) ∨ (squareB M = true ∧ modB m = false ∧ e = 1 ∧ d = 0) ∨
   (squareB M = true ∧ modB m = true ∧ e = 0 ∧ ∃ F1 s, (s = 1 ∨ s = -1) ∧ Q F1 s ∧ Bd M.length M.length m F1 ∧ Zc M.length F1 M.length ∧ d = detP F1 m s M.length))
def PostI (M : List (List Int)) (m : Int) (Q : (Nat → Nat → Int) → Int → Prop) (h : Heap) (x : Value) (h' : Heap) : Prop := Ext h h' ∧ ∃ r e, x = .tuple #[r, .int .i64 e] ∧
  ((squareB M = false ∧ e = 3 ∧ Mat h' r []) ∨ (squareB M = true ∧ modB m = false ∧ e = 1 ∧ Mat h' r []) ∨
   (squareB M = true ∧ modB m = true ∧ ∃ F1 s, (s = 1 ∨ s = -1) ∧ Q F1 s ∧ Bd M.length (M.length + M.length) m F1 ∧ Zc M.length F1 M.length ∧
     ((e = 8 ∧ Mat h' r [] ∧ ∃ c, c < M.length ∧ ¬ ∃ y, IsInv m (F1 c c) y) ∨
      (e = 0 ∧ (∀ c, c < M.length → ∃ y, IsInv m (F1 c c) y) ∧ Mat h' r (tab M.length M.length fun i j => backTo m M.length F1 M.length i (M.length + j))))))

theorem Det_ok {h : Heap} {v : Value} {M : List (List Int)} (HM : Mat h v M) (m : Int) (Q : (Nat → Nat → Int) → Int → Prop) (hQ0 : squareB M = true → modB m = true → Q (ent (redM M m)) 1) (hQ : Keeps M.length M.length m Q) : CallH Tryd.prog 30 #[v, .int .i64 m] h (PostD M m Q h) := by
  refine calls_of_W (l := [_, _]) mx Tryd.func30 rfl rfl rfl rfl rfl (by kernel_rfl) ?_
  refine w_seq ?_
  refine w_reg ?_
  refine r_as (r_as (r_nil (q_t ?_)))
  refine w_seq ?_
  refine w_seq ?_
  refine w_reg ?_
  refine r_mv (r_call trivial rfl (small_ok HM) fun v' h hk => ?_)
  obtain ⟨rfl, rfl⟩ := hk
  refine ⟨trivial, ?_⟩
  cases hc1 : squareB M
  · skip
    refine r_not rfl (r_nil (q_t ?_))
    refine w_true rfl ?_
    refine w_seq ?_
    refine w_reg ?_
    refine r_as (r_as (r_nil (q_t ?_)))
    refine w_ret (q_tr ?_)
    refine ⟨_, retV_2, ?_⟩
    exact ⟨Ext.refl _, _, _, rfl, .inl ⟨hc1, rfl, rfl⟩⟩
  · skip
    refine r_not rfl (r_nil (q_t ?_))
    refine w_false rfl ?_
    refine w_skip (q_t ?_)
    refine w_seq ?_
    refine w_seq ?_
    refine w_reg ?_
    refine r_mv (r_call trivial rfl (checkModulus_ok m h) fun v' h hk => ?_)
    obtain ⟨rfl, rfl⟩ := hk
    refine ⟨trivial, ?_⟩
    refine r_as (r_nil (q_t ?_))
    refine w_seq ?_
    refine w_reg ?_
    refine r_mv (r_neq rfl rfl (fun hc2 => ?_) (fun hc2 => ?_))   -- t17 := binOp neq 30 t16 0:i64 30
    · skip
      refine r_nil (q_t ?_)
      refine w_true rfl ?_
      refine w_seq ?_
      refine w_reg ?_
      refine r_mv (r_as (r_as (r_nil (q_t ?_))))
      refine w_ret (q_tr ?_)
      refine ⟨_, retV_2, ?_⟩
      have hmB : modB m = false := by cases hb : modB m <;> simp [hb] at hc2 ⊢
      exact ⟨Ext.refl _, 0, _, rfl, .inr (.inl ⟨hc1, hmB, by simp [hmB], rfl⟩)⟩
    · skip
      refine r_nil (q_t ?_)
      refine w_false rfl ?_
      refine w_skip (q_t ?_)
      refine w_seq ?_
      refine w_reg ?_
      refine r_mv (r_mv ?_)
      have hmB : modB m = true := by cases hb : modB m <;> simp [hb] at hc2 ⊢
      have hm := mod_of_modB hmB
      obtain ⟨hv, hsq, h8⟩ := square_of hc1
      have hv1 := hv.1
      have hv2 := hv.2.1
      refine r_call trivial rfl (residues_ok HM hm.1 hm.2 (by omega) (valid_le hv)) fun r1 h2 hk => ?_
      obtain ⟨hE1, b, gs, HO1, hb⟩ := hk
      refine ⟨trivial, ?_⟩
      have HO2 := residues_tab (c := M.length) (h := h) HO1 (fun z hz => by rw [hv.2.2.2.2 z hz]; omega)
      have hbd0 := bd_red (M := M) (c := M.length) (m := m) (by omega)
      refine r_as (r_nil (q_t ?_))
      refine w_seq ?_
      refine w_reg ?_
      refine r_mv (r_mv (r_call trivial rfl (triangular_ok HO2 (Nat.le_refl _) (by omega) hm.1 hm.2 hbd0 Q (hQ0 hc1 hmB) hQ) fun x3 h3 hk => ?_))
      obtain ⟨hU3, F1, s, gs1, rfl, hs, HP3, hgs1, hQ1, hbd1, hz1⟩ := hk
      refine ⟨trivial, ?_⟩
      have hE3 := hE1.thenUpd hU3 (fun k hk => hb k hk)
      refine r_mv (r_addb rfl rfl (by omega) (by omega) (r_as (r_nil (q_t ?_))))
      refine w_seq ?_
      refine w_seq ?_
      refine w_reg ?_
      refine r_mv (r_lenp sl_MM rfl HP3 (r_mv (r_nil (q_t ?_))))
      refine w_block ?_
      refine w_loop 35183835219712 (fun y : Nat × Int => [(29, .int .i64 (y.1 : Int)), (8, .int .i64 y.2)]) (fun k y h' => h' = h3 ∧ k = M.length - y.1 ∧ y.1 ≤ M.length ∧ y.2 = detP F1 m s y.1) (by kernel_rfl) M.length (0, s + m) ?_ ⟨rfl, rfl, trivial⟩ ?_
      · exact ⟨rfl, rfl, by omega, rfl⟩
      rintro k ⟨i, dd⟩ sx h3 ⟨rfl, rfl, hi, hdd⟩
      dsimp only at hi hdd ⊢
      subst hdd
      refine w_seq ?_
      refine w_reg ?_
      refine r_lss rfl rfl (fun hc3 => ?_) (fun hc3 => ?_)   -- t30 := binOp lss 3 t29 t28 3
      · skip
        refine r_nil (q_t ?_)
        refine w_seq ?_
        refine w_true rfl ?_
        refine w_skip (q_t ?_)
        refine w_seq ?_
        refine w_block ?_
        refine w_seq ?_
        refine w_reg ?_
        refine r_mv (r_ixp sl_MM rfl HP3 rfl (tab_row (by omega)) fun aR rR gR haR hgR hrR => ?_)
        refine r_ld na_I64 rfl haR (r_as (r_as (r_nil (q_t ?_))))
        have hdb := detP_bd (F := F1) (m := m) hm.1 hs i
        have hdm := mod_bd (by omega : 0 < m) (detP F1 m s i)
        have hfb := hbd1 i i (by omega) (by omega)
        have hpb := mul_bd (a := detP F1 m s i % m) (b := F1 i i) (A := 2147483647) (B := 2147483647) (by omega) (by omega) (by omega) (by omega)
        refine w_draw (by kernel_rfl) ?_
        refine r_mv (r_mv (r_remp rfl rfl (by omega) (by omega) (r_mv (r_mv (r_ixi sl_I64 rfl hrR.sl rfl (range_at (by omega)) fun aX haX => ?_)))))
        refine r_ld na_i64 rfl haX (r_mulb rfl rfl (by omega) (by omega) (r_mv (r_remp rfl rfl (by omega) (by omega) (r_as (r_nil (q_b (q_t ?_)))))))
        refine w_reg ?_
        refine r_inc rfl (by omega) (r_mv (r_nil (q_t ?_)))
        exact ⟨M.length - (i + 1), (i + 1, detP F1 m s (i + 1)), by first | omega | (dsimp only; omega), ⟨rfl, rfl, by first | omega | (dsimp only; omega), rfl⟩, rfl, rfl, trivial⟩
      · skip
        refine r_nil (q_t ?_)
        refine w_seq ?_
        refine w_false rfl ?_
        refine w_exit (q_tx (q_tx (q_bx (q_t ?_))))
        refine w_seq ?_
        refine w_reg ?_
        refine r_mv (r_as (r_as (r_nil (q_t ?_))))
        refine w_ret ?_
        refine ⟨_, retV_2, ?_⟩
        obtain rfl : i = M.length := by omega
        exact ⟨hE3, _, _, rfl, .inr (.inr ⟨hc1, hmB, rfl, F1, s, hs, hQ1, hbd1, hz1, rfl⟩)⟩

theorem Inverse_ok {h : Heap} {v : Value} {M : List (List Int)} (HM : Mat h v M) (m : Int) (Q : (Nat → Nat → Int) → Int → Prop) (hQ0 : squareB M = true → modB m = true → Q (augF M.length (ent (redM M m))) 1) (hQ : Keeps M.length (M.length + M.length) m Q) : CallH Tryd.prog 23 #[v, .int .i64 m] h (PostI M m Q h) := by
  refine calls_of_W (l := [_, _]) mx Tryd.func23 rfl rfl rfl rfl rfl (by kernel_rfl) ?_
  refine w_seq ?_
  refine w_reg ?_
  refine r_as (r_as (r_nil (q_t ?_)))
  refine w_seq ?_
  refine w_seq ?_
  have hE0 := Ext.refl h
  refine w_reg ?_
  refine r_mv (r_call trivial rfl (small_ok HM) fun v' h hk => ?_)
  obtain ⟨rfl, rfl⟩ := hk
  refine ⟨trivial, ?_⟩
  cases hc1 : squareB M
  · skip
    refine r_not rfl (r_nil (q_t ?_))
    refine w_true rfl ?_
    refine w_seq ?_
    refine w_reg ?_
    refine r_as (r_as (r_nil (q_t ?_)))
    refine w_ret (q_tr ?_)
    refine ⟨_, retV_2, ?_⟩
    exact ⟨Ext.refl _, _, _, rfl, .inl ⟨hc1, rfl, mat_nil _⟩⟩
  · skip
    refine r_not rfl (r_nil (q_t ?_))
    refine w_false rfl ?_
    refine w_skip (q_t ?_)
    refine w_seq ?_
    refine w_seq ?_
    refine w_reg ?_
    refine r_mv (r_call trivial rfl (checkModulus_ok m h) fun v' h hk => ?_)
    obtain ⟨rfl, rfl⟩ := hk
    refine ⟨trivial, ?_⟩
    refine r_as (r_nil (q_t ?_))
    refine w_seq ?_
    refine w_reg ?_
    refine r_mv (r_neq rfl rfl (fun hc2 => ?_) (fun hc2 => ?_))   -- t22 := binOp neq 30 t21 0:i64 30
    · skip
      refine r_nil (q_t ?_)
      refine w_true rfl ?_
      refine w_seq ?_
      refine w_reg ?_
      refine r_mv (r_as (r_as (r_nil (q_t ?_))))
      refine w_ret (q_tr ?_)
      refine ⟨_, retV_2, ?_⟩
      have hmB : modB m = false := by cases hb : modB m <;> simp [hb] at hc2 ⊢
      exact ⟨Ext.refl _, _, _, rfl, .inr (.inl ⟨hc1, hmB, by simp [hmB], mat_nil _⟩)⟩
    · skip
      refine r_nil (q_t ?_)
      refine w_false rfl ?_
      refine w_skip (q_t ?_)
      refine w_seq ?_
      have hmB : modB m = true := by cases hb : modB m <;> simp [hb] at hc2 ⊢
      have hm := mod_of_modB hmB
      obtain ⟨hv, hsq, h8⟩ := square_of hc1
      have hv1 := hv.1
      have hv2 := hv.2.1
      refine w_reg ?_
      refine r_mv (r_lenm sl_MM rfl (HM.ext hE0) (r_as (r_nil (q_t ?_))))
      refine w_seq ?_
      refine w_reg ?_
      refine r_mv (r_mv ?_)
      have hmB : modB m = true := by cases hb : modB m <;> simp [hb] at hc2 ⊢
      have hm := mod_of_modB hmB
      obtain ⟨hv, hsq, h8⟩ := square_of hc1
      have hv1 := hv.1
      have hv2 := hv.2.1
      refine r_call trivial rfl (residues_ok HM hm.1 hm.2 (by omega) (valid_le hv)) fun r1 h2 hk => ?_
      obtain ⟨hE1, b, gs, HO1, hb⟩ := hk
      refine ⟨trivial, ?_⟩
      have HO2 := residues_tab (c := M.length) (h := h) HO1 (fun z hz => by rw [hv.2.2.2.2 z hz]; omega)
      have hbd0 := bd_red (M := M) (c := M.length) (m := m) (by omega)
      refine r_as (r_nil (q_t ?_))
      refine w_seq ?_
      refine w_seq ?_
      refine w_reg ?_
      refine r_mv (r_lenp sl_MM rfl HO2 (r_mv (r_nil (q_t ?_))))
      refine w_block ?_
      refine w_loop 4503597479887360 (fun i : Nat => [(31, .int .i64 (i : Int))]) (fun k i h' => Ext h h' ∧ k = M.length - i ∧ i ≤ M.length ∧ ∃ gs', PartM h' tR tI b gs' r1 M.length (mixM M.length i (fun k => (List.range (M.length + M.length)).map (augF M.length (ent (redM M m)) k)) (fun k => (List.range M.length).map (ent (redM M m) k))) ∧ ∀ g ∈ b :: gs', h.size ≤ g) (by kernel_rfl) M.length 0 ?_ ⟨rfl, trivial⟩ ?_
      · exact ⟨hE1, by omega, by omega, gs, by rw [mixM_zero]; exact HO2, hb⟩
      rintro k i sx h3 ⟨hEA, rfl, hi, gsA, HPA, hgA⟩
      refine w_seq ?_
      refine w_reg ?_
      refine r_lss rfl rfl (fun hc3 => ?_) (fun hc3 => ?_)   -- t32 := binOp lss 3 t31 t30 3
      · skip
        refine r_nil (q_t ?_)
        refine w_seq ?_
        refine w_true rfl ?_
        refine w_skip (q_t ?_)
        refine w_seq ?_
        refine w_block ?_
        refine w_seq ?_
        refine w_reg ?_
        refine r_mv (r_as (r_nil (q_t ?_)))
        refine w_seq ?_
        refine w_reg ?_
        refine r_mv (r_mv (r_mv (r_mv (r_ixp sl_MM rfl HPA rfl (mixM_at (by omega)) fun aK rK gK haK hgK hrK => ?_))))
        refine r_ld na_I64 rfl haK (r_mv (r_appZ (n := M.length) sl_I64 it_int ze_i64 rfl trivial rfl hrK rfl (by omega) (by simp; omega) (by simp; omega) fun r4 g4 h4 HO4 hg4 hU4 => ⟨trivial, ?_⟩))
        obtain ⟨rs, HT, hrl⟩ := PartM.top HPA
        have hKb := PartM.ne HPA hgK
        have HT4 := HT.upd hU4 (fun he => hKb (Eq.symm he))
        have HO4b : OwnA h4 tI g4 r4 (((List.range M.length).map (ent (redM M m) i) ++ List.replicate M.length 0).map (.int .i64)) := by
          rw [List.map_append, List.map_replicate]; exact HO4
        refine r_ixo sl_MM rfl HT4 rfl (by omega) ?_
        refine r_sto na_I64 rfl rfl HO4.one HT4 (by omega) ?_
        have hg4s : g4 = gK ∨ h3.size ≤ g4 := by
          rcases hg4 with h | h
          · exact .inl h
          · exact .inr (by omega)
        have HPB := PartM.replace HPA hgK hU4 HO4b hg4s
        have hgKm := hgA gK (List.mem_cons_of_mem _ (List.mem_of_getElem? hgK))
        have hb0 := hgA b (List.mem_cons_self ..)
        have hg4m : h.size ≤ g4 := by
          rcases hg4s with h | h
          · omega
          · have := hEA.1; omega
        have hgB : ∀ g ∈ b :: gsA.set i g4, h.size ≤ g := fun g hg => by
          rcases List.mem_cons.1 hg with rfl | hg
          · exact hb0
          · exact mem_set_ge (fun g hg => hgA g (List.mem_cons_of_mem _ hg)) hg4m g hg
        have hEB := (hEA.thenUpd hU4 (fun k hk => by have hk2 : k = gK := hk; omega)).thenUpd (upd_set h4 ⟨b, i, none⟩ r4) (fun k hk => by have hk2 : k = b := hk; omega)
        have hgl : gsA.length = M.length := by have := PartM.glen HPA; rw [mixM_len] at this; exact this
        refine r_nil (q_t ?_)
        refine w_reg ?_
        refine r_mv (r_mv (r_ixp sl_MM rfl HPB rfl (List.getElem?_set_self (by rw [mixM_len]; omega)) fun aQ rQ gQ haQ hgQ hrQ => ?_))
        refine r_ld na_I64 rfl haQ (r_mv (r_mv (r_addn rfl rfl (by omega) ?_)))
        refine r_ixo (n := M.length + i) sl_I64 rfl hrQ rfl (by simp; omega) ?_
        refine r_sto na_i64 rfl rfl rfl hrQ (by simp; omega) ?_
        have HPC := PartM.setElem HPB hgQ (List.getElem?_set_self (by rw [mixM_len]; omega)) (j := M.length + i) (by simp; omega) 1
        rw [List.set_set, aug_row _ (by omega), mixM_set rfl] at HPC
        have hEC := hEB.thenUpd (upd_set _ ⟨gQ, M.length + i, none⟩ (.int .i64 1)) (fun k hk => by have hk2 : k = gQ := hk; have := hgB gQ (List.mem_cons_of_mem _ (List.mem_of_getElem? hgQ)); omega)
        refine r_nil (q_b (q_t ?_))
        refine w_reg ?_
        refine r_inc rfl (by omega) (r_mv (r_nil (q_t ?_)))
        exact ⟨M.length - (i + 1), i + 1, by omega, ⟨hEC, rfl, by omega, _, HPC, hgB⟩, rfl, trivial⟩
      · skip
        refine r_nil (q_t ?_)
        refine w_seq ?_
        refine w_false rfl ?_
        refine w_exit (q_tx (q_tx (q_bx (q_t ?_))))
        refine w_seq ?_
        refine w_reg ?_
        refine r_mv (r_mv ?_)
        rw [mixM_all _ _ (by omega)] at HPA
        refine r_call trivial rfl (triangular_ok HPA (by omega) (by omega) hm.1 hm.2 (bd_aug hm.1 hbd0) Q (hQ0 hc1 hmB) hQ) fun x3 h5 hk => ?_
        obtain ⟨hU5, F1, s, gs1, rfl, hs, HP5, hgs1, hQ1, hbd1, hz1⟩ := hk
        refine ⟨trivial, ?_⟩
        have hE5 := hEA.thenUpd hU5 (fun k hk => hgA k hk)
        have hlt := PartM.lt HP5
        have hge : ∀ g ∈ b :: gs1, h.size ≤ g := fun g hg => hgA g (by
          rcases List.mem_cons.1 hg with rfl | hg
          · exact List.mem_cons_self ..
          · exact List.mem_cons_of_mem _ (hgs1 g hg))
        refine r_nil (q_t ?_)
        refine w_seq ?_
        refine w_reg ?_
        refine r_mv (r_call trivial rfl (eliminator_ok m h5) fun fv h6 hk => ?_)
        obtain ⟨rfl, rfl⟩ := hk
        refine ⟨trivial, ?_⟩
        have hpush := ext_push h5 (.cells #[.int .i64 m] tI (0, 0))
        refine r_as (r_nil (q_t ?_))
        refine w_seq ?_
        refine w_seq ?_
        refine w_reg ?_
        refine r_mv (r_subb rfl rfl (by omega) (by omega) (r_as (r_nil (q_t ?_))))
        refine w_block ?_
        refine w_loop 81129638414606105235036701751344 (fun y : Nat × Int => [(11, .int .i64 y.2)]) (fun k y h' => k = M.length - y.1 ∧ y.1 ≤ M.length ∧ y.2 = (M.length : Int) - 1 - (y.1 : Int) ∧ EchI h5 h' b gs1 r1 M.length (M.length + M.length) m (backTo m M.length F1 y.1) (.slice none 0 0) [] gs1 ∧ ∀ c, M.length - y.1 ≤ c → c < M.length → ∃ z, IsInv m (F1 c c) z) (by kernel_rfl) M.length (0, (M.length : Int) - 1) ?_ ⟨rfl, trivial⟩ ?_
        · refine ⟨rfl, by omega, by simp, ⟨hpush.upd, PartM.ext HP5 hpush, fun g hg => hg, gro_nil _ _ _, ?_, by simp⟩, fun c h1 h2 => absurd h1 (by simp; omega)⟩
          simp [cellH]
        rintro k ⟨j, xv⟩ sy h6 ⟨rfl, hj, hxv, HIB, hall⟩
        dsimp only at hj hxv HIB hall ⊢
        refine w_seq ?_
        refine w_seq ?_
        refine w_reg ?_
        refine r_mv (r_geq rfl rfl (fun hc4 => ?_) (fun hc4 => ?_))   -- t60 := binOp geq 3 t59 0:i64 3
        · skip
          refine r_nil (q_t ?_)
          refine w_true rfl ?_
          refine w_skip (q_t ?_)
          refine w_seq ?_
          refine w_block ?_
          refine w_seq ?_
          obtain ⟨c, rfl⟩ : ∃ c : Nat, xv = (c : Int) := ⟨xv.toNat, by omega⟩
          obtain ⟨G, hG⟩ : ∃ G, backTo m M.length F1 j = G := ⟨_, rfl⟩
          rw [hG] at HIB
          have HPG := HIB.2.1
          have hbdG : Bd M.length (M.length + M.length) m G := hG ▸ bd_back (by omega) hbd1 j
          have hx := hbdG c c (by omega) (by omega)
          have hdiag : G c c = F1 c c := by rw [← hG]; exact back_col (by omega) hbd1 (by omega) hz1 j (by omega) c c (by omega) (by omega)
          refine w_reg ?_
          refine r_mv (r_mv (r_ixp sl_MM rfl HPG rfl (tab_row (by omega)) fun aR rR gR haR hgR hrR => ?_))
          refine r_ld na_I64 rfl haR (r_mv (r_ixi sl_I64 rfl hrR.sl rfl (range_at (by omega)) fun aX haX => ?_))
          refine r_ld na_i64 rfl haX (r_mv (r_call trivial rfl (reciprocal_ok (x := G c c) (m := m) hx.1 hx.2 hm.1 hm.2 _) fun rv h7 hk => ?_))
          obtain ⟨rfl, inv, ok, rfl, hi0, him, hok, hno⟩ := hk
          refine ⟨trivial, ?_⟩
          refine r_mv (r_ext rfl rfl (r_ext rfl rfl (r_as (r_as (r_nil (q_t ?_))))))
          refine w_seq ?_
          refine w_seq ?_
          refine w_reg ?_
          refine r_mv (r_not rfl (r_nil (q_t ?_)))
          refine ⟨_, rfl, fun hc5 => ?_, fun hc5 => ?_⟩
          · skip
            refine w_seq ?_
            refine w_reg ?_
            refine r_as (r_as (r_nil (q_t ?_)))
            refine w_ret (q_tr (q_br (q_tr (q_tr (q_br (q_tr ?_))))))
            refine ⟨_, retV_2, ?_⟩
            have hok2 : ok = false := by cases ok <;> simp at hc5 ⊢
            exact ⟨hE5.thenUpd HIB.1 (fun k hk => hge k hk), _, _, rfl, .inr (.inr ⟨hc1, hmB, F1, s, hs, hQ1, hbd1, hz1, .inl ⟨rfl, mat_nil _, c, by omega, hdiag ▸ hno hok2⟩⟩)⟩
          · skip
            refine w_skip (q_t ?_)
            refine w_seq ?_
            have hok2 : ok = true := by cases ok <;> simp at hc5 ⊢
            have hinv := invM_eq (hok hok2)
            have HPG := HIB.2.1
            refine w_reg ?_
            refine r_mv (r_mv (r_ixp sl_MM rfl HPG rfl (tab_row (by omega)) fun aS rS gS haS hgS hrS => ?_))
            refine r_ld na_I64 rfl haS (r_mv (r_mv (r_call trivial rfl (scale_ok hrS (row_bd hbdG (by omega)) hi0 him hm.1 hm.2 (by simp; omega)) fun sv h8 hk => ?_)))
            obtain ⟨hU8, HO8⟩ := hk
            refine ⟨trivial, ?_⟩
            rw [scale_row] at HO8
            have HP8 := PartM.setRow' HIB.2.1 hgS hU8 (tab_row (by omega)) hrS HO8
            rw [tab_setF] at HP8
            have HI8 := HIB.turn hlt hU8 (List.mem_cons_of_mem _ (List.mem_of_getElem? hgS)) (F2 := scaleF G c inv m) HP8 HIB.2.2.1
            have hbd8 := bd_scale (a := c) (f := inv) (by omega : 0 < m) hbdG
            refine r_nil (q_t ?_)
            refine w_seq ?_
            refine w_reg ?_
            refine r_mv (r_mv (r_nil (q_t ?_)))
            refine w_block ?_
            refine w_loop 81129599728980454027655414562816 (fun q : Nat => [(85, .int .i64 (q : Int))]) (fun k q h' => k = c - q ∧ q ≤ c ∧ EchI h5 h' b gs1 r1 M.length (M.length + M.length) m (elimF (scaleF G c inv m) c c m q) (.slice none 0 0) [] gs1) (by kernel_rfl) c 0 ?_ ⟨rfl, trivial⟩ ?_
            · exact ⟨rfl, by omega, by rw [elimF_zero]; exact HI8⟩
            rintro k q sz h9 ⟨rfl, hq, HIk⟩
            have HPk := HIk.2.1
            refine w_seq ?_
            refine w_reg ?_
            refine r_lss rfl rfl (fun hc6 => ?_) (fun hc6 => ?_)   -- t86 := binOp lss 3 t85 t84 3
            · skip
              refine r_nil (q_t ?_)
              refine w_seq ?_
              refine w_true rfl ?_
              refine w_skip (q_t ?_)
              refine w_seq ?_
              refine w_block ?_
              refine w_seq ?_
              have hbk := bd_elim (k := q) (top := c) (j := c) (by omega : 0 < m) hbd8
              have hY := hbk q c (by omega) (by omega)
              refine w_reg ?_
              refine r_mv (r_as (r_nil (q_t ?_)))
              refine w_draw (by kernel_rfl) ?_
              refine r_mv (r_mv (r_mv (r_ixp sl_MM rfl HPk rfl (tab_row (by omega)) fun aK rK gK haK hgK hrK => ?_)))
              refine r_ld na_I64 rfl haK (r_mv (r_mv (r_ixp sl_MM rfl HPk rfl (tab_row (by omega)) fun aL rL gL haL hgL hrL => ?_)))
              refine r_ld na_I64 rfl haL ?_
              have hgKm : gK ∈ b :: gs1 := List.mem_cons_of_mem _ (List.mem_of_getElem? hgK)
              have hneKL : gK ≠ gL := fun he => absurd (nodup_getElem?_inj (List.nodup_cons.1 (PartM.nodup HIk.2.1)).2 hgK (he ▸ hgL)) (by omega)
              refine r_mv ?_
              refine r_mv (r_ixp sl_MM rfl HPk rfl (tab_row (by omega)) fun aN rN gN haN hgN hrN => ?_)
              refine r_ld na_I64 rfl haN (r_mv (r_ixi sl_I64 rfl hrN.sl rfl (range_at (by omega)) fun aY haY => ?_))
              refine r_ld na_i64 rfl haY (r_callc trivial rfl rfl (eliminate_ok (a := ⟨h5.size, 0, none⟩) hrK hrL hneKL (by simp) HIk.2.2.2.2.1 (by have := hlt _ hgKm; dsimp only; omega) (row_bd hbk (by omega)) (row_bd hbk (by omega)) hY.1 hY.2 hm.1 hm.2 (by simp; omega)) fun ev h10 hk => ?_)
              obtain ⟨hU10, HO10⟩ := hk
              refine ⟨trivial, ?_⟩
              rw [elim_row] at HO10
              have HP10 := PartM.setRow' HIk.2.1 hgK hU10 (tab_row (by omega)) hrK HO10
              rw [tab_setF] at HP10
              simp only [elimF_at, elimF_top] at HP10
              rw [elimF_step (by omega)] at HP10
              have HI10 := HIk.turn hlt hU10 hgKm HP10 HIk.2.2.1
              refine r_nil (q_b (q_t ?_))
              refine w_reg ?_
              refine r_inc rfl (by omega) (r_mv (r_nil (q_t ?_)))
              exact ⟨c - (q + 1), q + 1, by omega, ⟨rfl, by omega, HI10⟩, rfl, trivial⟩
            · skip
              refine r_nil (q_t ?_)
              refine w_seq ?_
              refine w_false rfl ?_
              refine w_exit (q_tx (q_tx (q_bx (q_b (q_t ?_)))))
              refine w_reg ?_
              refine r_mv (r_subb rfl rfl (by omega) (by omega) (r_as (r_nil (q_t ?_))))
              obtain rfl : q = c := by omega
              have hS : backTo m M.length F1 (j + 1) = elimF (scaleF G q inv m) q q m q := by
                simp only [backTo, backS]
                rw [hG, show M.length - 1 - j = q by omega, hinv]
              refine ⟨M.length - (j + 1), (j + 1, (q : Int) - 1), by first | omega | (dsimp only; omega), ⟨rfl, by first | omega | (dsimp only; omega), by simp; omega, ?_, fun c h1 h2 => ?_⟩, rfl, trivial⟩
              · dsimp only
                rw [hS]; exact HIk
              · dsimp only at h1
                by_cases hcq : c = q
                · subst hcq; exact ⟨inv, hdiag ▸ hok hok2⟩
                · exact hall c (by omega) h2
        · skip
          refine r_nil (q_t ?_)
          refine w_false rfl ?_
          refine w_exit (q_tx (q_tx (q_bx (q_t ?_))))
          refine w_seq ?_
          refine w_seq ?_
          obtain rfl : j = M.length := by omega
          have HPG := HIB.2.1
          refine w_reg ?_
          refine r_mv (r_lenp sl_MM rfl HPG (r_mv (r_nil (q_t ?_))))
          refine w_block ?_
          refine w_loop 5316587464586005064888445085100834816 (fun i : Nat => [(108, .int .i64 (i : Int))]) (fun k i h' => Ext h h' ∧ k = M.length - i ∧ i ≤ M.length ∧ ∃ gs', PartM h' tR tI b gs' r1 M.length (mixM M.length i (fun k => (List.range M.length).map fun j => backTo m M.length F1 M.length k (M.length + j)) (fun k => (List.range (M.length + M.length)).map (backTo m M.length F1 M.length k))) ∧ ∀ g ∈ b :: gs', h.size ≤ g) (by kernel_rfl) M.length 0 ?_ ⟨rfl, trivial⟩ ?_
          · exact ⟨hE5.thenUpd HIB.1 (fun k hk => hge k hk), by omega, by omega, gs1, by rw [mixM_zero]; exact HPG, hge⟩
          rintro k i sw h11 ⟨hEW, rfl, hi, gsW, HPW, hgW0⟩
          refine w_seq ?_
          refine w_reg ?_
          refine r_lss rfl rfl (fun hc7 => ?_) (fun hc7 => ?_)   -- t109 := binOp lss 3 t108 t107 3
          · skip
            refine r_nil (q_t ?_)
            refine w_seq ?_
            refine w_true rfl ?_
            refine w_skip (q_t ?_)
            refine w_seq ?_
            refine w_block ?_
            refine w_seq ?_
            refine w_reg ?_
            refine r_mv (r_as (r_nil (q_t ?_)))
            refine w_reg ?_
            refine r_mv (r_mv (r_mv (r_mv (r_ixp sl_MM rfl HPW rfl (mixM_at (by omega)) fun aW rW gW haW hgW hrW => ?_))))
            refine r_ld na_I64 rfl haW (r_mv ?_)
            obtain ⟨capW, hvW, hcW⟩ := hrW.slice
            have hlW : (((List.range (M.length + M.length)).map (backTo m M.length F1 M.length i)).map (Value.int .i64)).length = M.length + M.length := by simp
            rw [hlW] at hvW hcW
            have HX := hrW.from (k := M.length) (cap := capW) hlW (by omega) (by omega)
            rw [drop_row] at HX
            refine r_slFrom sl_I64 hvW rfl (by omega) hcW ?_
            refine r_app0 sl_I64 ze_i64 rfl trivial rfl rfl HX (by simp [isOne]) (by rw [List.map_map]; exact range_map_ne (by omega)) (by simp; omega) (by simp; omega) fun r12 h12 HO12 hE12 => ⟨trivial, ?_⟩
            obtain ⟨rs, HT, hrl⟩ := PartM.top HPW
            have HT4 := HT.ext hE12
            refine r_ixo sl_MM rfl HT4 rfl (by omega) ?_
            refine r_sto na_I64 rfl rfl HO12.one HT4 (by omega) ?_
            have HPY := PartM.replace HPW hgW hE12.upd HO12 (.inr (Nat.le_refl _))
            rw [mixM_set rfl] at HPY
            refine r_nil (q_b (q_t ?_))
            refine w_reg ?_
            refine r_inc rfl (by omega) (r_mv (r_nil (q_t ?_)))
            have hEY := (hEW.trans hE12).thenUpd (upd_set h12 ⟨b, i, none⟩ r12) (fun k hk => by have hk2 : k = b := hk; have := hgW0 b (List.mem_cons_self ..); omega)
            exact ⟨M.length - (i + 1), i + 1, by omega, ⟨hEY, rfl, by omega, _, HPY, fun g hg => by
              rcases List.mem_cons.1 hg with rfl | hg
              · exact hgW0 _ (List.mem_cons_self ..)
              · exact mem_set_ge (fun g hg => hgW0 g (List.mem_cons_of_mem _ hg)) hEW.1 g hg⟩, rfl, trivial⟩
          · skip
            refine r_nil (q_t ?_)
            refine w_seq ?_
            refine w_false rfl ?_
            refine w_exit (q_tx (q_tx (q_bx (q_t ?_))))
            refine w_seq ?_
            refine w_reg ?_
            refine r_mv (r_as (r_as (r_nil (q_t ?_))))
            refine w_ret ?_
            refine ⟨_, retV_2, ?_⟩
            obtain rfl : i = M.length := by omega
            rw [mixM_all _ _ (by omega)] at HPW
            refine ⟨hEW, _, _, rfl, .inr (.inr ⟨hc1, hmB, F1, s, hs, hQ1, hbd1, hz1, .inr ⟨rfl, fun c hc => hall c (by omega) hc, ?_⟩⟩)⟩
            exact (show OwnM h11 tR tI b gsW r1 (tab M.length M.length fun i j => backTo m M.length F1 M.length i (M.length + j)) by unfold OwnM; rw [tab_len]; exact HPW).mat

end Go.Proofs.YtdlfineibanppaaDoor
