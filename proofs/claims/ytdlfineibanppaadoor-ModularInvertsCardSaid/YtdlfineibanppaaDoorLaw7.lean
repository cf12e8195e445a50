/-
  The law ModularInverts: true for every input.
-/
import Derived.Test.YtdlfineibanppaaDoorLaw6
import Derived.Test.YtdlfineibanppaaDoorInvM
namespace Go.Proofs.YtdlfineibanppaaDoor
open Go Go.QF
set_option linter.unusedVariables false
set_option maxRecDepth 100000
/-- The kept relation of the inverse. -/
def QI (A : List (List Int)) (m : Int) (F : Nat → Nat → Int) (s : Int) : Prop := InvQ A.length m (ent (redM A m)) F
theorem keeps_QI (A : List (List Int)) (m : Int) : Keeps A.length (A.length + A.length) m (QI A m) := fun F s c i q hc hi hne _ _ _ H => invQ_rowEq (rowEq_step hc hi hne) H
theorem square_mk {A : List (List Int)} (hv : Valid A) (h1 : A.length = cols A) (h2 : A.length ≤ 8) : squareB A = true := by
  unfold squareB
  exact decide_eq_true ⟨hv, h1, h2⟩
/-- The product with the inverse, on either side. -/
theorem prod_id {A B : List (List Int)} {m : Int} {n : Nat} (hm : 2 ≤ m) (hA : A.length = n) (hB : B.length = n) (hcB : cols B = n) (h : ∀ i j, i < n → j < n → Eqm m (psum (fun k => ent (redM A m) i k * ent (redM B m) k j) n) (dl i j)) : mulM (redM A m) (redM B m) m = tab n n dl := by
  unfold mulM
  rw [red_len, hA, cols_red, hcB, red_len, hB]
  refine tab_congr fun i j hi hj => ?_
  have := h i j hi hj
  unfold Eqm at this
  rw [this]
  unfold dl
  split
  · exact Int.emod_eq_of_lt (by omega) (by omega)
  · simp

theorem ModularInverts_t {h : Heap} (gr1 gc1 : Nat) (l1 : Value) (Z1 : List Int) (HZ1 : Sl h l1 (Z1.map i8V)) (hr1 : gr1 < 256) (hg1 : gc1 < 256) (hz1 : ∀ z ∈ Z1, -128 ≤ z ∧ z ≤ 127) (l2 : Value) (Z2 : List Int) (HZ2 : Sl h l2 (Z2.map i8V)) (hz2 : ∀ z ∈ Z2, -128 ≤ z ∧ z ≤ 127) (k : Nat) (hk : k < 65536) (HO : OffH h) : CallH Tryd.prog 10 #[.agg #[.int .u8 (gr1 : Int), .int .u8 (gc1 : Int), l1], l2, .int .u16 (k : Int), .bool true] h fun x h' => Ext h h' ∧ x = .bool true := by
  refine calls_of_W (l := [_, _, _, _]) mx Tryd.func10 rfl rfl rfl rfl rfl (by kernel_rfl) ?_
  refine w_seq ?_
  refine w_reg ?_
  refine r_boxG (fun _ => trivial) rfl fun b1 hA hEb hb1 hb1l hcg => ?_
  have HG : GridH tG hA b1 (gr1 : Int) (gc1 : Int) l1 := hcg
  refine r_as (r_nil (q_t ?_))
  refine w_seq ?_
  refine w_reg ?_
  refine r_fa (fs := 1) fd_G0 (by kernel_rfl) (by decide) rfl ?_
  refine r_ld na_u8 rfl HG.c0 (r_fa (fs := 1) fd_G1 (by kernel_rfl) (by decide) rfl ?_)
  refine r_st na_u8 rfl rfl rfl HG.c1 (HG.free 1) ?_
  have HG := HG.set1 (gr1 : Int)
  have hEb := hEb.thenUpd (upd_set hA ⟨b1, 1, none⟩ (.int .u8 (gr1 : Int))) (fun k hk => by have hk2 : k = b1 := hk; omega)
  refine r_nil (q_t ?_)
  refine w_seq ?_
  refine w_reg ?_
  refine r_ldA [.int .u8 (gr1 : Int), .int .u8 (gr1 : Int), l1] ag_Grid rfl rfl HG.agg ?_
  refine r_call trivial rfl (Ints_ok (most := 5) (HZ1.ext hEb) hr1 hr1 (by omega) (by omega) hz1) fun xa hC hk => ?_
  obtain ⟨hEC, HFA⟩ := hk
  refine ⟨trivial, ?_⟩
  have hEd := hEb.trans hEC
  obtain ⟨n, hn⟩ : ∃ n, 1 + gr1 % 5 = n := ⟨_, rfl⟩
  have hn5 : 1 ≤ n ∧ n ≤ 5 := by have := Nat.mod_lt gr1 (show 0 < 5 by decide); omega
  rw [hn] at HFA
  obtain ⟨A, hA⟩ : ∃ A, gridM n n Z1 = A := ⟨_, rfl⟩
  have hval : Valid A := hA ▸ grid_valid (by omega) (by omega) (by omega) (by omega)
  have hAl : A.length = n := hA ▸ grid_len n n Z1
  have hAc : cols A = n := hA ▸ grid_cols (by omega)
  rw [hA] at HFA
  have HA := HFA.mat
  have HOd := HO.ext hEd
  refine r_as (r_nil (q_t ?_))
  refine w_seq ?_
  refine w_seq ?_
  refine w_reg ?_
  refine r_mv (r_nil (q_t ?_))
  refine w_true rfl ?_
  refine w_reg ?_
  refine r_mv (r_mv (r_lenm sl_MM rfl HA ?_))
  refine r_call trivial rfl (Unimodular_ok (n := A.length) (HZ2.ext hEd) (by omega) (by omega) hz2) fun xu h2 hk => ?_
  obtain ⟨hE2, bu, gu, U, HU, _, hUni⟩ := hk
  refine ⟨trivial, ?_⟩
  rw [hAl] at HU hUni
  obtain ⟨A, hA⟩ : ∃ A, tab n n U = A := ⟨_, rfl⟩
  have hval : Valid A := hA ▸ uni_valid (by omega) (by omega)
  have hAl : A.length = n := hA ▸ tab_len _ _ _
  have hAc : cols A = n := hA ▸ cols_tab (by omega)
  have hUI : UniI n (ent A) := hA ▸ uni_tab hUni
  have HA : Mat h2 xu A := (show OwnM h2 tR tI bu gu xu A by unfold OwnM; rw [hAl, ← hA]; exact HU).mat
  have hEd := hEd.trans hE2
  have HOd := HO.ext hEd
  refine r_as (r_nil (q_t ?_))
  refine w_seq ?_
  refine w_reg ?_
  refine r_mv (r_cvk it_u16 it_i64 rfl (wrap_small (by omega) (by omega)) ?_)
  refine r_addb rfl rfl (by omega) (by omega) ?_
  obtain ⟨c, hce⟩ : ∃ c : Int, 2 + (k : Int) = c := ⟨_, rfl⟩
  rw [hce]
  have hcm : 2 ≤ c ∧ c ≤ 65537 := by omega
  refine r_as (r_nil (q_t ?_))
  refine w_seq ?_
  refine w_reg ?_
  refine r_mv (r_mv (r_call trivial rfl (Inverse_ok HA c (QI A c) (fun _ _ => invQ_aug) (keeps_QI A c)) fun xi h3 hk => ?_))
  obtain ⟨hE3, r3, e, rfl, hk⟩ := hk
  refine ⟨trivial, ?_⟩
  have hsq := square_mk hval (by omega) (by omega)
  have hmB := modB_mk (p := c) hcm.1 (by omega)
  obtain ⟨F1, s1, _, hQ1, hbd1, hzc1, hk8⟩ : ∃ F1 s, (s = 1 ∨ s = -1) ∧ QI A c F1 s ∧ Bd A.length (A.length + A.length) c F1 ∧ Zc A.length F1 A.length ∧ ((e = 8 ∧ Mat h3 r3 [] ∧ ∃ k, k < A.length ∧ ¬ ∃ y, IsInv c (F1 k k) y) ∨ (e = 0 ∧ (∀ k, k < A.length → ∃ y, IsInv c (F1 k k) y) ∧ Mat h3 r3 (tab A.length A.length fun i j => backTo c A.length F1 A.length i (A.length + j)))) := by
    rcases hk with ⟨h1, _⟩ | ⟨_, h1, _⟩ | ⟨_, _, h1⟩
    · rw [hsq] at h1; cases h1
    · rw [hmB] at h1; cases h1
    · exact h1
  rw [hAl] at hbd1 hzc1 hk8
  have hQ1 : InvQ n c (ent (redM A c)) F1 := hAl ▸ hQ1
  have hne8 : ∀ k, k < n → ∃ y, IsInv c (F1 k k) y := by
    obtain ⟨V, hV⟩ := hUI
    refine uni_unit hcm.1 hzc1 hQ1 (V := V) fun i j hi hj => ?_
    refine Eqm.trans (Eqm.psum fun k hk => ?_) (Eqm.of_eq (hV i j hi hj))
    rw [ent_red]
    exact (Eqm.refl _ _).mul (Eqm.mod _ _)
  refine r_mv (r_ext rfl rfl (r_ext rfl rfl (r_as (r_as (r_nil (q_t ?_))))))
  refine w_seq ?_
  refine w_seq ?_
  refine w_reg ?_
  refine r_mv (r_neq rfl rfl (fun hc1 => ?_) (fun hc1 => ?_))   -- t40 := binOp neq 30 t39 0:i64 30
  · skip
    refine r_nil (q_t ?_)
    refine w_true rfl ?_
    refine w_seq ?_
    exfalso
    rcases hk8 with ⟨_, _, q, hq, hno⟩ | ⟨h1, _⟩
    · exact hno (hne8 q hq)
    · exact hc1 h1
  · skip
    refine r_nil (q_t ?_)
    refine w_false rfl ?_
    refine w_skip (q_t ?_)
    refine w_seq ?_
    obtain ⟨rfl, hu, HB0⟩ : e = 0 ∧ (∀ k, k < n → ∃ y, IsInv c (F1 k k) y) ∧ Mat h3 r3 (tab n n fun i j => backTo c n F1 n i (n + j)) := by
      rcases hk8 with ⟨h1, _⟩ | h1
      · exact absurd hc1 (by omega)
      · exact h1
    obtain ⟨hBA, hAB⟩ := inv_both hcm.1 hbd1 hzc1 hu hQ1
    have hbG := bd_back (n := n) (by omega : 0 < c) hbd1 n
    obtain ⟨Bm, hBm⟩ : ∃ Bm, (tab n n fun i j => backTo c n F1 n i (n + j)) = Bm := ⟨_, rfl⟩
    have hvB : Valid Bm := hBm ▸ uni_valid (by omega) (by omega)
    have hBl : Bm.length = n := hBm ▸ tab_len _ _ _
    have hBc : cols Bm = n := hBm ▸ cols_tab (by omega)
    have hBr : redM Bm c = Bm := red_of_rem (hBm ▸ rem_tab fun i j hi hj => hbG i (n + j) hi (by omega))
    have hBe : ∀ i j, i < n → j < n → ent Bm i j = backTo c n F1 n i (n + j) := fun i j hi hj => by rw [← hBm, ent_tab hi hj]
    have HB : Mat h3 r3 Bm := hBm ▸ HB0
    have hPQ : mulM (redM A c) (redM Bm c) c = tab n n dl ∧ mulM (redM Bm c) (redM A c) c = tab n n dl := by
      refine ⟨prod_id hcm.1 hAl hBl hBc fun i j hi hj => ?_, prod_id hcm.1 hBl hAl hAc fun i j hi hj => ?_⟩
      · refine Eqm.trans (Eqm.of_eq ?_) (hAB i j hi hj)
        exact psum_congr fun q hq => by rw [hBr, hBe q j hq hj]
      · refine Eqm.trans (Eqm.of_eq ?_) (hBA i j hi hj)
        exact psum_congr fun q hq => by rw [hBr, hBe i q hi hq]
    refine w_reg ?_
    refine r_mv (r_mv (r_mv (r_call trivial rfl (Mul_ok (HA.ext hE3) HB c) fun xp h4 hk => ?_)))
    obtain ⟨hE4, r4, rfl, HP, _⟩ := hk
    refine ⟨trivial, ?_⟩
    have hmk := mulE_mk (A := A) (B := Bm) (p := c) hval hvB (by omega) hcm.1 (by omega)
    rw [hmk.2, hPQ.1] at HP
    rw [hmk.1]
    refine r_mv (r_ext rfl rfl (r_ext rfl rfl (r_as (r_as (r_nil (q_t ?_))))))
    refine w_seq ?_
    refine w_reg ?_
    refine r_mv (r_mv (r_mv (r_call trivial rfl (Mul_ok (HB.ext hE4) (HA.ext (hE3.trans hE4)) c) fun xq h5 hk => ?_)))
    obtain ⟨hE5, r5, rfl, HQ, _⟩ := hk
    refine ⟨trivial, ?_⟩
    have hmk2 := mulE_mk (A := Bm) (B := A) (p := c) hvB hval (by omega) hcm.1 (by omega)
    rw [hmk2.2, hPQ.2] at HQ
    rw [hmk2.1]
    have HP5 := HP.ext hE5
    have hE35 := hE3.trans (hE4.trans hE5)
    have HA5 := HA.ext hE35
    have hdl : (tab n n dl).length = n := tab_len _ _ _
    refine r_mv (r_ext rfl rfl (r_ext rfl rfl (r_as (r_as (r_nil (q_t ?_))))))
    refine w_seq ?_
    refine w_seq ?_
    refine w_reg ?_
    refine r_mv (r_neq rfl rfl (fun hc => absurd rfl hc) (fun _ => ?_))
    refine r_mv (r_want 71 false (by kernel_rfl) rfl rfl (r_mv (r_want 71 false (by kernel_rfl) rfl rfl (r_neq rfl rfl (fun hc => absurd rfl hc) (fun _ => ?_)))))
    refine r_pickF rfl (r_mv (r_want 75 false (by kernel_rfl) rfl rfl (r_mv (r_want 75 false (by kernel_rfl) rfl rfl (r_lenm sl_MM rfl HP5 ?_)))))
    rw [hdl]
    refine r_want 75 false (by kernel_rfl) rfl rfl (r_mv (r_want 75 false (by kernel_rfl) rfl rfl (r_lenm sl_MM rfl HA5 ?_)))
    rw [hAl]
    refine r_want 75 false (by kernel_rfl) rfl rfl (r_neq rfl rfl (fun hc => absurd rfl hc) (fun _ => ?_))
    refine r_pickF rfl (r_mv (r_want 82 false (by kernel_rfl) rfl rfl (r_mv (r_want 82 false (by kernel_rfl) rfl rfl (r_lenm sl_MM rfl HQ ?_)))))
    rw [hdl]
    refine r_want 82 false (by kernel_rfl) rfl rfl (r_mv (r_want 82 false (by kernel_rfl) rfl rfl (r_lenm sl_MM rfl HA5 ?_)))
    rw [hAl]
    refine r_want 82 false (by kernel_rfl) rfl rfl (r_neq rfl rfl (fun hc => absurd rfl hc) (fun _ => ?_))
    refine r_pickF rfl (r_nil (q_t ?_))
    refine w_false rfl ?_
    refine w_skip (q_t ?_)
    refine w_seq ?_
    refine w_seq ?_
    refine w_reg ?_
    refine r_mv (r_lenm sl_MM rfl HP5 ?_)
    rw [hdl]
    refine r_mv (r_nil (q_t ?_))
    refine w_block ?_
    refine w_loop 22300745198530620665655639701887811708649728 (fun i : Nat => [(91, .int .i64 (i : Int))]) (fun k i h' => h' = h5 ∧ k = n - i ∧ i ≤ n) (by kernel_rfl) n 0 ?_ ⟨rfl, trivial⟩ ?_
    · exact ⟨rfl, rfl, by omega⟩
    rintro k i s1 h5 ⟨rfl, rfl, hi⟩
    refine w_seq ?_
    refine w_reg ?_
    refine r_lss rfl rfl (fun hc2 => ?_) (fun hc2 => ?_)   -- t92 := binOp lss 3 t91 t90 3
    · skip
      refine r_nil (q_t ?_)
      refine w_seq ?_
      refine w_true rfl ?_
      refine w_skip (q_t ?_)
      refine w_seq ?_
      refine w_block ?_
      refine w_seq ?_
      refine w_reg ?_
      refine r_mv (r_as (r_nil (q_t ?_)))
      refine w_seq ?_
      refine w_seq ?_
      refine w_reg ?_
      refine r_mv (r_mv (r_ixm sl_MM rfl HP5 rfl (tab_row (by omega)) fun aP rP haP hrP => ?_))
      refine r_ld na_I64 rfl haP (r_lenc sl_I64 rfl hrP ?_)
      refine r_mv (r_lenm sl_MM rfl HP5 ?_)
      rw [hdl]
      refine r_neq rfl rfl (fun hc => absurd rfl hc) (fun _ => ?_)
      refine r_mv (r_want 102 false (by kernel_rfl) rfl rfl (r_mv (r_want 102 false (by kernel_rfl) rfl rfl (r_mv (r_want 102 false (by kernel_rfl) rfl rfl (r_ixm sl_MM rfl HQ rfl (tab_row (by omega)) fun aQ rQ haQ hrQ => ?_))))))
      refine r_want 102 false (by kernel_rfl) rfl rfl (r_ld na_I64 rfl haQ (r_want 102 false (by kernel_rfl) rfl rfl (r_lenc sl_I64 rfl hrQ ?_)))
      refine r_want 102 false (by kernel_rfl) rfl rfl (r_mv (r_want 102 false (by kernel_rfl) rfl rfl (r_lenm sl_MM rfl HP5 ?_)))
      rw [hdl]
      refine r_want 102 false (by kernel_rfl) rfl rfl (r_neq rfl rfl (fun hc => absurd rfl hc) (fun _ => ?_))
      refine r_pickF rfl (r_nil (q_t ?_))
      refine w_false rfl ?_
      refine w_skip (q_t ?_)
      refine w_seq ?_
      refine w_reg ?_
      refine r_mv (r_lenm sl_MM rfl HP5 ?_)
      rw [hdl]
      refine r_mv (r_nil (q_t ?_))
      refine w_block ?_
      refine w_loop 11150372578496124136628548622202195436896512 (fun j : Nat => [(114, .int .i64 (j : Int))]) (fun k j h' => h' = h5 ∧ k = n - j ∧ j ≤ n) (by kernel_rfl) n 0 ?_ ⟨rfl, trivial⟩ ?_
      · exact ⟨rfl, rfl, by omega⟩
      rintro k j s2 h5 ⟨rfl, rfl, hj⟩
      refine w_seq ?_
      refine w_reg ?_
      refine r_lss rfl rfl (fun hc3 => ?_) (fun hc3 => ?_)   -- t115 := binOp lss 3 t114 t113 3
      · skip
        refine r_nil (q_t ?_)
        refine w_seq ?_
        refine w_true rfl ?_
        refine w_skip (q_t ?_)
        refine w_seq ?_
        refine w_block ?_
        refine w_seq ?_
        refine w_reg ?_
        refine r_mv (r_as (r_nil (q_t ?_)))
        refine w_seq ?_
        refine w_reg ?_
        refine r_as (r_nil (q_t ?_))
        refine w_join 5150758483666549007502252358586859520 (fun x : Int => [(19, .int .i64 x)]) (fun x h' => h' = h5 ∧ x = dl i j) (by kernel_rfl) ?_ ?_
        · skip
          refine w_seq ?_
          refine w_reg ?_
          refine r_mv (r_mv (r_eql rfl rfl (fun hc4 => ?_) (fun hc4 => ?_)))   -- t119 := binOp eql 3 t117 t118 3
          · skip
            refine r_nil (q_t ?_)
            refine w_true rfl ?_
            refine w_reg ?_
            refine r_mv (r_call trivial rfl (Mod_ok _ (by omega) (by omega) _) fun rv h5' hk => ?_)
            obtain ⟨rfl, rfl⟩ := hk
            refine ⟨trivial, ?_⟩
            refine r_as (r_nil (q_t ?_))
            refine ⟨1 % c, ⟨rfl, ?_⟩, rfl, trivial⟩
            unfold dl
            rw [if_pos (by omega), Int.emod_eq_of_lt (by omega) (by omega)]
          · skip
            refine r_nil (q_t ?_)
            refine w_false rfl ?_
            refine w_skip (q_t ?_)
            refine ⟨0, ⟨rfl, ?_⟩, rfl, trivial⟩
            unfold dl
            rw [if_neg (by omega)]
        rintro wv s9 h5 ⟨rfl, rfl⟩
        refine w_seq ?_
        refine w_reg ?_
        refine r_mv (r_mv (r_ixm sl_MM rfl HP5 rfl (tab_row (by omega)) fun aX rX haX hrX => ?_))
        refine r_ld na_I64 rfl haX (r_mv (r_ixi sl_I64 rfl hrX rfl (range_at (by omega)) fun aY haY => ?_))
        refine r_ld na_i64 rfl haY (r_mv (r_neq rfl rfl (fun hc => absurd rfl hc) (fun _ => ?_)))
        refine r_mv (r_want 131 false (by kernel_rfl) rfl rfl (r_mv (r_want 131 false (by kernel_rfl) rfl rfl (r_mv (r_want 131 false (by kernel_rfl) rfl rfl (r_ixm sl_MM rfl HQ rfl (tab_row (by omega)) fun aU rU haU hrU => ?_))))))
        refine r_want 131 false (by kernel_rfl) rfl rfl (r_ld na_I64 rfl haU (r_want 131 false (by kernel_rfl) rfl rfl (r_mv (r_want 131 false (by kernel_rfl) rfl rfl (r_ixi sl_I64 rfl hrU rfl (range_at (by omega)) fun aV haV => ?_)))))
        refine r_want 131 false (by kernel_rfl) rfl rfl (r_ld na_i64 rfl haV (r_want 131 false (by kernel_rfl) rfl rfl (r_mv (r_want 131 false (by kernel_rfl) rfl rfl (r_neq rfl rfl (fun hc => absurd rfl hc) (fun _ => ?_))))))
        refine r_pickF rfl (r_nil (q_t ?_))
        refine w_false rfl ?_
        refine w_skip (q_b (q_t ?_))
        refine w_reg ?_
        refine r_inc rfl (by omega) (r_mv (r_nil (q_t ?_)))
        exact ⟨n - (j + 1), j + 1, by omega, ⟨rfl, rfl, by omega⟩, rfl, trivial⟩
      · skip
        refine r_nil (q_t ?_)
        refine w_seq ?_
        refine w_false rfl ?_
        refine w_exit (q_tx (q_tx (q_bx (q_b (q_t ?_)))))
        refine w_reg ?_
        refine r_inc rfl (by omega) (r_mv (r_nil (q_t ?_)))
        exact ⟨n - (i + 1), i + 1, by omega, ⟨rfl, rfl, by omega⟩, rfl, trivial⟩
    · skip
      refine r_nil (q_t ?_)
      refine w_seq ?_
      refine w_false rfl ?_
      refine w_exit (q_tx (q_tx (q_bx (q_t ?_))))
      refine w_seq ?_
      refine w_reg ?_
      refine r_call trivial rfl (awake_ok (HOd.ext hE35)) fun x0 h9 hk => ?_
      obtain ⟨hE9, rfl⟩ := hk
      refine ⟨trivial, ?_⟩
      refine r_as (r_nil (q_t ?_))
      refine w_ret ?_
      refine ⟨_, retV_1, ?_⟩
      first | exact ⟨(hEd.trans hE35).trans hE9, rfl⟩ | exact ⟨(hEd.trans hE3).trans hE9, rfl⟩

theorem ModularInverts_f {h : Heap} (gr1 gc1 : Nat) (l1 : Value) (Z1 : List Int) (HZ1 : Sl h l1 (Z1.map i8V)) (hr1 : gr1 < 256) (hg1 : gc1 < 256) (hz1 : ∀ z ∈ Z1, -128 ≤ z ∧ z ≤ 127) (l2 : Value) (Z2 : List Int) (HZ2 : Sl h l2 (Z2.map i8V)) (hz2 : ∀ z ∈ Z2, -128 ≤ z ∧ z ≤ 127) (k : Nat) (hk : k < 65536) (HO : OffH h) : CallH Tryd.prog 10 #[.agg #[.int .u8 (gr1 : Int), .int .u8 (gc1 : Int), l1], l2, .int .u16 (k : Int), .bool false] h fun x h' => Ext h h' ∧ x = .bool true := by
  refine calls_of_W (l := [_, _, _, _]) mx Tryd.func10 rfl rfl rfl rfl rfl (by kernel_rfl) ?_
  refine w_seq ?_
  refine w_reg ?_
  refine r_boxG (fun _ => trivial) rfl fun b1 hA hEb hb1 hb1l hcg => ?_
  have HG : GridH tG hA b1 (gr1 : Int) (gc1 : Int) l1 := hcg
  refine r_as (r_nil (q_t ?_))
  refine w_seq ?_
  refine w_reg ?_
  refine r_fa (fs := 1) fd_G0 (by kernel_rfl) (by decide) rfl ?_
  refine r_ld na_u8 rfl HG.c0 (r_fa (fs := 1) fd_G1 (by kernel_rfl) (by decide) rfl ?_)
  refine r_st na_u8 rfl rfl rfl HG.c1 (HG.free 1) ?_
  have HG := HG.set1 (gr1 : Int)
  have hEb := hEb.thenUpd (upd_set hA ⟨b1, 1, none⟩ (.int .u8 (gr1 : Int))) (fun k hk => by have hk2 : k = b1 := hk; omega)
  refine r_nil (q_t ?_)
  refine w_seq ?_
  refine w_reg ?_
  refine r_ldA [.int .u8 (gr1 : Int), .int .u8 (gr1 : Int), l1] ag_Grid rfl rfl HG.agg ?_
  refine r_call trivial rfl (Ints_ok (most := 5) (HZ1.ext hEb) hr1 hr1 (by omega) (by omega) hz1) fun xa hC hk => ?_
  obtain ⟨hEC, HFA⟩ := hk
  refine ⟨trivial, ?_⟩
  have hEd := hEb.trans hEC
  obtain ⟨n, hn⟩ : ∃ n, 1 + gr1 % 5 = n := ⟨_, rfl⟩
  have hn5 : 1 ≤ n ∧ n ≤ 5 := by have := Nat.mod_lt gr1 (show 0 < 5 by decide); omega
  rw [hn] at HFA
  obtain ⟨A, hA⟩ : ∃ A, gridM n n Z1 = A := ⟨_, rfl⟩
  have hval : Valid A := hA ▸ grid_valid (by omega) (by omega) (by omega) (by omega)
  have hAl : A.length = n := hA ▸ grid_len n n Z1
  have hAc : cols A = n := hA ▸ grid_cols (by omega)
  rw [hA] at HFA
  have HA := HFA.mat
  have HOd := HO.ext hEd
  refine r_as (r_nil (q_t ?_))
  refine w_seq ?_
  refine w_seq ?_
  refine w_reg ?_
  refine r_mv (r_nil (q_t ?_))
  refine w_false rfl ?_
  refine w_skip (q_t ?_)
  refine w_seq ?_
  refine w_reg ?_
  refine r_mv (r_cvk it_u16 it_i64 rfl (wrap_small (by omega) (by omega)) ?_)
  refine r_addb rfl rfl (by omega) (by omega) ?_
  obtain ⟨c, hce⟩ : ∃ c : Int, 2 + (k : Int) = c := ⟨_, rfl⟩
  rw [hce]
  have hcm : 2 ≤ c ∧ c ≤ 65537 := by omega
  refine r_as (r_nil (q_t ?_))
  refine w_seq ?_
  refine w_reg ?_
  refine r_mv (r_mv (r_call trivial rfl (Inverse_ok HA c (QI A c) (fun _ _ => invQ_aug) (keeps_QI A c)) fun xi h3 hk => ?_))
  obtain ⟨hE3, r3, e, rfl, hk⟩ := hk
  refine ⟨trivial, ?_⟩
  have hsq := square_mk hval (by omega) (by omega)
  have hmB := modB_mk (p := c) hcm.1 (by omega)
  obtain ⟨F1, s1, _, hQ1, hbd1, hzc1, hk8⟩ : ∃ F1 s, (s = 1 ∨ s = -1) ∧ QI A c F1 s ∧ Bd A.length (A.length + A.length) c F1 ∧ Zc A.length F1 A.length ∧ ((e = 8 ∧ Mat h3 r3 [] ∧ ∃ k, k < A.length ∧ ¬ ∃ y, IsInv c (F1 k k) y) ∨ (e = 0 ∧ (∀ k, k < A.length → ∃ y, IsInv c (F1 k k) y) ∧ Mat h3 r3 (tab A.length A.length fun i j => backTo c A.length F1 A.length i (A.length + j)))) := by
    rcases hk with ⟨h1, _⟩ | ⟨_, h1, _⟩ | ⟨_, _, h1⟩
    · rw [hsq] at h1; cases h1
    · rw [hmB] at h1; cases h1
    · exact h1
  rw [hAl] at hbd1 hzc1 hk8
  have hQ1 : InvQ n c (ent (redM A c)) F1 := hAl ▸ hQ1
  refine r_mv (r_ext rfl rfl (r_ext rfl rfl (r_as (r_as (r_nil (q_t ?_))))))
  refine w_seq ?_
  refine w_seq ?_
  refine w_reg ?_
  refine r_mv (r_neq rfl rfl (fun hc1 => ?_) (fun hc1 => ?_))   -- t40 := binOp neq 30 t39 0:i64 30
  · skip
    refine r_nil (q_t ?_)
    refine w_true rfl ?_
    refine w_seq ?_
    obtain ⟨rfl, Hnil⟩ : e = 8 ∧ Mat h3 r3 [] := by
      rcases hk8 with ⟨h1, h2, _⟩ | ⟨h1, _⟩
      · exact ⟨h1, h2⟩
      · exact absurd h1 hc1
    refine w_reg ?_
    refine r_mv (r_eql rfl rfl (fun _ => ?_) (fun hc => absurd rfl hc))
    refine r_mv (r_want 43 true (by kernel_rfl) rfl rfl (r_mv (r_want 43 true (by kernel_rfl) rfl rfl (r_not rfl ?_))))
    refine r_pickT rfl (r_mv (r_want 47 true (by kernel_rfl) rfl rfl (r_mv (r_want 47 true (by kernel_rfl) rfl rfl (r_lenm sl_MM rfl Hnil ?_)))))
    refine r_want 47 true (by kernel_rfl) rfl rfl (r_eql rfl rfl (fun _ => ?_) (fun hc => absurd rfl hc))
    refine r_pickT rfl (r_mv (r_want 52 true (by kernel_rfl) rfl rfl (r_call trivial rfl (awake_ok (HOd.ext hE3)) fun x0 h9 hk => ?_)))
    obtain ⟨hE9, rfl⟩ := hk
    refine ⟨trivial, ?_⟩
    refine r_pickT rfl (r_as (r_nil (q_t ?_)))
    refine w_ret (q_tr ?_)
    refine ⟨_, retV_1, ?_⟩
    first | exact ⟨(hEd.trans hE35).trans hE9, rfl⟩ | exact ⟨(hEd.trans hE3).trans hE9, rfl⟩
  · skip
    refine r_nil (q_t ?_)
    refine w_false rfl ?_
    refine w_skip (q_t ?_)
    refine w_seq ?_
    obtain ⟨rfl, hu, HB0⟩ : e = 0 ∧ (∀ k, k < n → ∃ y, IsInv c (F1 k k) y) ∧ Mat h3 r3 (tab n n fun i j => backTo c n F1 n i (n + j)) := by
      rcases hk8 with ⟨h1, _⟩ | h1
      · exact absurd hc1 (by omega)
      · exact h1
    obtain ⟨hBA, hAB⟩ := inv_both hcm.1 hbd1 hzc1 hu hQ1
    have hbG := bd_back (n := n) (by omega : 0 < c) hbd1 n
    obtain ⟨Bm, hBm⟩ : ∃ Bm, (tab n n fun i j => backTo c n F1 n i (n + j)) = Bm := ⟨_, rfl⟩
    have hvB : Valid Bm := hBm ▸ uni_valid (by omega) (by omega)
    have hBl : Bm.length = n := hBm ▸ tab_len _ _ _
    have hBc : cols Bm = n := hBm ▸ cols_tab (by omega)
    have hBr : redM Bm c = Bm := red_of_rem (hBm ▸ rem_tab fun i j hi hj => hbG i (n + j) hi (by omega))
    have hBe : ∀ i j, i < n → j < n → ent Bm i j = backTo c n F1 n i (n + j) := fun i j hi hj => by rw [← hBm, ent_tab hi hj]
    have HB : Mat h3 r3 Bm := hBm ▸ HB0
    have hPQ : mulM (redM A c) (redM Bm c) c = tab n n dl ∧ mulM (redM Bm c) (redM A c) c = tab n n dl := by
      refine ⟨prod_id hcm.1 hAl hBl hBc fun i j hi hj => ?_, prod_id hcm.1 hBl hAl hAc fun i j hi hj => ?_⟩
      · refine Eqm.trans (Eqm.of_eq ?_) (hAB i j hi hj)
        exact psum_congr fun q hq => by rw [hBr, hBe q j hq hj]
      · refine Eqm.trans (Eqm.of_eq ?_) (hBA i j hi hj)
        exact psum_congr fun q hq => by rw [hBr, hBe i q hi hq]
    refine w_reg ?_
    refine r_mv (r_mv (r_mv (r_call trivial rfl (Mul_ok (HA.ext hE3) HB c) fun xp h4 hk => ?_)))
    obtain ⟨hE4, r4, rfl, HP, _⟩ := hk
    refine ⟨trivial, ?_⟩
    have hmk := mulE_mk (A := A) (B := Bm) (p := c) hval hvB (by omega) hcm.1 (by omega)
    rw [hmk.2, hPQ.1] at HP
    rw [hmk.1]
    refine r_mv (r_ext rfl rfl (r_ext rfl rfl (r_as (r_as (r_nil (q_t ?_))))))
    refine w_seq ?_
    refine w_reg ?_
    refine r_mv (r_mv (r_mv (r_call trivial rfl (Mul_ok (HB.ext hE4) (HA.ext (hE3.trans hE4)) c) fun xq h5 hk => ?_)))
    obtain ⟨hE5, r5, rfl, HQ, _⟩ := hk
    refine ⟨trivial, ?_⟩
    have hmk2 := mulE_mk (A := Bm) (B := A) (p := c) hvB hval (by omega) hcm.1 (by omega)
    rw [hmk2.2, hPQ.2] at HQ
    rw [hmk2.1]
    have HP5 := HP.ext hE5
    have hE35 := hE3.trans (hE4.trans hE5)
    have HA5 := HA.ext hE35
    have hdl : (tab n n dl).length = n := tab_len _ _ _
    refine r_mv (r_ext rfl rfl (r_ext rfl rfl (r_as (r_as (r_nil (q_t ?_))))))
    refine w_seq ?_
    refine w_seq ?_
    refine w_reg ?_
    refine r_mv (r_neq rfl rfl (fun hc => absurd rfl hc) (fun _ => ?_))
    refine r_mv (r_want 71 false (by kernel_rfl) rfl rfl (r_mv (r_want 71 false (by kernel_rfl) rfl rfl (r_neq rfl rfl (fun hc => absurd rfl hc) (fun _ => ?_)))))
    refine r_pickF rfl (r_mv (r_want 75 false (by kernel_rfl) rfl rfl (r_mv (r_want 75 false (by kernel_rfl) rfl rfl (r_lenm sl_MM rfl HP5 ?_)))))
    rw [hdl]
    refine r_want 75 false (by kernel_rfl) rfl rfl (r_mv (r_want 75 false (by kernel_rfl) rfl rfl (r_lenm sl_MM rfl HA5 ?_)))
    rw [hAl]
    refine r_want 75 false (by kernel_rfl) rfl rfl (r_neq rfl rfl (fun hc => absurd rfl hc) (fun _ => ?_))
    refine r_pickF rfl (r_mv (r_want 82 false (by kernel_rfl) rfl rfl (r_mv (r_want 82 false (by kernel_rfl) rfl rfl (r_lenm sl_MM rfl HQ ?_)))))
    rw [hdl]
    refine r_want 82 false (by kernel_rfl) rfl rfl (r_mv (r_want 82 false (by kernel_rfl) rfl rfl (r_lenm sl_MM rfl HA5 ?_)))
    rw [hAl]
    refine r_want 82 false (by kernel_rfl) rfl rfl (r_neq rfl rfl (fun hc => absurd rfl hc) (fun _ => ?_))
    refine r_pickF rfl (r_nil (q_t ?_))
    refine w_false rfl ?_
    refine w_skip (q_t ?_)
    refine w_seq ?_
    refine w_seq ?_
    refine w_reg ?_
    refine r_mv (r_lenm sl_MM rfl HP5 ?_)
    rw [hdl]
    refine r_mv (r_nil (q_t ?_))
    refine w_block ?_
    refine w_loop 22300745198530620665655639701887811708649728 (fun i : Nat => [(91, .int .i64 (i : Int))]) (fun k i h' => h' = h5 ∧ k = n - i ∧ i ≤ n) (by kernel_rfl) n 0 ?_ ⟨rfl, trivial⟩ ?_
    · exact ⟨rfl, rfl, by omega⟩
    rintro k i s1 h5 ⟨rfl, rfl, hi⟩
    refine w_seq ?_
    refine w_reg ?_
    refine r_lss rfl rfl (fun hc2 => ?_) (fun hc2 => ?_)   -- t92 := binOp lss 3 t91 t90 3
    · skip
      refine r_nil (q_t ?_)
      refine w_seq ?_
      refine w_true rfl ?_
      refine w_skip (q_t ?_)
      refine w_seq ?_
      refine w_block ?_
      refine w_seq ?_
      refine w_reg ?_
      refine r_mv (r_as (r_nil (q_t ?_)))
      refine w_seq ?_
      refine w_seq ?_
      refine w_reg ?_
      refine r_mv (r_mv (r_ixm sl_MM rfl HP5 rfl (tab_row (by omega)) fun aP rP haP hrP => ?_))
      refine r_ld na_I64 rfl haP (r_lenc sl_I64 rfl hrP ?_)
      refine r_mv (r_lenm sl_MM rfl HP5 ?_)
      rw [hdl]
      refine r_neq rfl rfl (fun hc => absurd rfl hc) (fun _ => ?_)
      refine r_mv (r_want 102 false (by kernel_rfl) rfl rfl (r_mv (r_want 102 false (by kernel_rfl) rfl rfl (r_mv (r_want 102 false (by kernel_rfl) rfl rfl (r_ixm sl_MM rfl HQ rfl (tab_row (by omega)) fun aQ rQ haQ hrQ => ?_))))))
      refine r_want 102 false (by kernel_rfl) rfl rfl (r_ld na_I64 rfl haQ (r_want 102 false (by kernel_rfl) rfl rfl (r_lenc sl_I64 rfl hrQ ?_)))
      refine r_want 102 false (by kernel_rfl) rfl rfl (r_mv (r_want 102 false (by kernel_rfl) rfl rfl (r_lenm sl_MM rfl HP5 ?_)))
      rw [hdl]
      refine r_want 102 false (by kernel_rfl) rfl rfl (r_neq rfl rfl (fun hc => absurd rfl hc) (fun _ => ?_))
      refine r_pickF rfl (r_nil (q_t ?_))
      refine w_false rfl ?_
      refine w_skip (q_t ?_)
      refine w_seq ?_
      refine w_reg ?_
      refine r_mv (r_lenm sl_MM rfl HP5 ?_)
      rw [hdl]
      refine r_mv (r_nil (q_t ?_))
      refine w_block ?_
      refine w_loop 11150372578496124136628548622202195436896512 (fun j : Nat => [(114, .int .i64 (j : Int))]) (fun k j h' => h' = h5 ∧ k = n - j ∧ j ≤ n) (by kernel_rfl) n 0 ?_ ⟨rfl, trivial⟩ ?_
      · exact ⟨rfl, rfl, by omega⟩
      rintro k j s2 h5 ⟨rfl, rfl, hj⟩
      refine w_seq ?_
      refine w_reg ?_
      refine r_lss rfl rfl (fun hc3 => ?_) (fun hc3 => ?_)   -- t115 := binOp lss 3 t114 t113 3
      · skip
        refine r_nil (q_t ?_)
        refine w_seq ?_
        refine w_true rfl ?_
        refine w_skip (q_t ?_)
        refine w_seq ?_
        refine w_block ?_
        refine w_seq ?_
        refine w_reg ?_
        refine r_mv (r_as (r_nil (q_t ?_)))
        refine w_seq ?_
        refine w_reg ?_
        refine r_as (r_nil (q_t ?_))
        refine w_join 5150758483666549007502252358586859520 (fun x : Int => [(19, .int .i64 x)]) (fun x h' => h' = h5 ∧ x = dl i j) (by kernel_rfl) ?_ ?_
        · skip
          refine w_seq ?_
          refine w_reg ?_
          refine r_mv (r_mv (r_eql rfl rfl (fun hc4 => ?_) (fun hc4 => ?_)))   -- t119 := binOp eql 3 t117 t118 3
          · skip
            refine r_nil (q_t ?_)
            refine w_true rfl ?_
            refine w_reg ?_
            refine r_mv (r_call trivial rfl (Mod_ok _ (by omega) (by omega) _) fun rv h5' hk => ?_)
            obtain ⟨rfl, rfl⟩ := hk
            refine ⟨trivial, ?_⟩
            refine r_as (r_nil (q_t ?_))
            refine ⟨1 % c, ⟨rfl, ?_⟩, rfl, trivial⟩
            unfold dl
            rw [if_pos (by omega), Int.emod_eq_of_lt (by omega) (by omega)]
          · skip
            refine r_nil (q_t ?_)
            refine w_false rfl ?_
            refine w_skip (q_t ?_)
            refine ⟨0, ⟨rfl, ?_⟩, rfl, trivial⟩
            unfold dl
            rw [if_neg (by omega)]
        rintro wv s9 h5 ⟨rfl, rfl⟩
        refine w_seq ?_
        refine w_reg ?_
        refine r_mv (r_mv (r_ixm sl_MM rfl HP5 rfl (tab_row (by omega)) fun aX rX haX hrX => ?_))
        refine r_ld na_I64 rfl haX (r_mv (r_ixi sl_I64 rfl hrX rfl (range_at (by omega)) fun aY haY => ?_))
        refine r_ld na_i64 rfl haY (r_mv (r_neq rfl rfl (fun hc => absurd rfl hc) (fun _ => ?_)))
        refine r_mv (r_want 131 false (by kernel_rfl) rfl rfl (r_mv (r_want 131 false (by kernel_rfl) rfl rfl (r_mv (r_want 131 false (by kernel_rfl) rfl rfl (r_ixm sl_MM rfl HQ rfl (tab_row (by omega)) fun aU rU haU hrU => ?_))))))
        refine r_want 131 false (by kernel_rfl) rfl rfl (r_ld na_I64 rfl haU (r_want 131 false (by kernel_rfl) rfl rfl (r_mv (r_want 131 false (by kernel_rfl) rfl rfl (r_ixi sl_I64 rfl hrU rfl (range_at (by omega)) fun aV haV => ?_)))))
        refine r_want 131 false (by kernel_rfl) rfl rfl (r_ld na_i64 rfl haV (r_want 131 false (by kernel_rfl) rfl rfl (r_mv (r_want 131 false (by kernel_rfl) rfl rfl (r_neq rfl rfl (fun hc => absurd rfl hc) (fun _ => ?_))))))
        refine r_pickF rfl (r_nil (q_t ?_))
        refine w_false rfl ?_
        refine w_skip (q_b (q_t ?_))
        refine w_reg ?_
        refine r_inc rfl (by omega) (r_mv (r_nil (q_t ?_)))
        exact ⟨n - (j + 1), j + 1, by omega, ⟨rfl, rfl, by omega⟩, rfl, trivial⟩
      · skip
        refine r_nil (q_t ?_)
        refine w_seq ?_
        refine w_false rfl ?_
        refine w_exit (q_tx (q_tx (q_bx (q_b (q_t ?_)))))
        refine w_reg ?_
        refine r_inc rfl (by omega) (r_mv (r_nil (q_t ?_)))
        exact ⟨n - (i + 1), i + 1, by omega, ⟨rfl, rfl, by omega⟩, rfl, trivial⟩
    · skip
      refine r_nil (q_t ?_)
      refine w_seq ?_
      refine w_false rfl ?_
      refine w_exit (q_tx (q_tx (q_bx (q_t ?_))))
      refine w_seq ?_
      refine w_reg ?_
      refine r_call trivial rfl (awake_ok (HOd.ext hE35)) fun x0 h9 hk => ?_
      obtain ⟨hE9, rfl⟩ := hk
      refine ⟨trivial, ?_⟩
      refine r_as (r_nil (q_t ?_))
      refine w_ret ?_
      refine ⟨_, retV_1, ?_⟩
      first | exact ⟨(hEd.trans hE35).trans hE9, rfl⟩ | exact ⟨(hEd.trans hE3).trans hE9, rfl⟩

theorem ModularInverts_ok {h : Heap} (gr1 gc1 : Nat) (l1 : Value) (Z1 : List Int) (HZ1 : Sl h l1 (Z1.map i8V)) (hr1 : gr1 < 256) (hg1 : gc1 < 256) (hz1 : ∀ z ∈ Z1, -128 ≤ z ∧ z ≤ 127) (l2 : Value) (Z2 : List Int) (HZ2 : Sl h l2 (Z2.map i8V)) (hz2 : ∀ z ∈ Z2, -128 ≤ z ∧ z ≤ 127) (k : Nat) (hk : k < 65536) (unit : Bool) (HO : OffH h) : CallH Tryd.prog 10 #[.agg #[.int .u8 (gr1 : Int), .int .u8 (gc1 : Int), l1], l2, .int .u16 (k : Int), .bool unit] h fun x h' => Ext h h' ∧ x = .bool true := by
  cases unit
  · exact ModularInverts_f gr1 gc1 l1 Z1 HZ1 hr1 hg1 hz1 l2 Z2 HZ2 hz2 k hk HO
  · exact ModularInverts_t gr1 gc1 l1 Z1 HZ1 hr1 hg1 hz1 l2 Z2 HZ2 hz2 k hk HO

end Go.Proofs.YtdlfineibanppaaDoor
