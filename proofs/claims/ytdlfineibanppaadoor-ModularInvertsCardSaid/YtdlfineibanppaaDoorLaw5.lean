/-
  The law ModularSolves: true for every input.
-/
import Derived.Test.YtdlfineibanppaaDoorLaw4
import Derived.Test.YtdlfineibanppaaDoorSolve
namespace Go.Proofs.YtdlfineibanppaaDoor
open Go Go.QF
set_option linter.unusedVariables false
set_option maxRecDepth 100000
theorem valid_trans {M : List (List Int)} (hv : Valid M) : Valid (transM M) := by
  obtain ⟨h1, h2, h3, h4, h5⟩ := hv
  have hl := trans_len M
  have hc := trans_cols (M := M) (by omega)
  exact ⟨by omega, by omega, by omega, by omega, fun z hz => by rw [hc]; exact trans_rows M z hz⟩
theorem mulE_mk {A B : List (List Int)} {p : Int} (hA : Valid A) (hB : Valid B) (h : cols A = B.length) (h2 : 2 ≤ p) (hp2 : p ≤ 2147483647) : mulE A B p = 0 ∧ mulS A B p = mulM (redM A p) (redM B p) p := by
  have hf : fitB A B = true := by unfold fitB; rw [← validB_t hA, ← validB_t hB]; simp [h]
  unfold mulE mulS
  rw [hf, modB_mk h2 hp2]; exact ⟨rfl, rfl⟩

theorem ModularSolves_ok {h : Heap} (gr1 gc1 : Nat) (l1 : Value) (Z1 : List Int) (HZ1 : Sl h l1 (Z1.map i8V)) (hr1 : gr1 < 256) (hg1 : gc1 < 256) (hz1 : ∀ z ∈ Z1, -128 ≤ z ∧ z ≤ 127) (k : Nat) (hk : k < 256) (HO : OffH h) : CallH Tryd.prog 11 #[.agg #[.int .u8 (gr1 : Int), .int .u8 (gc1 : Int), l1], .int .u8 (k : Int)] h fun x h' => Ext h h' ∧ x = .bool true := by
  refine calls_of_W (l := [_, _]) mx Tryd.func11 rfl rfl rfl rfl rfl (by kernel_rfl) ?_
  refine w_seq ?_
  refine w_reg ?_
  refine r_boxG (fun _ => trivial) rfl fun b1 hA hEb hb1 hb1l hcg => ?_
  have HG : GridH tG hA b1 (gr1 : Int) (gc1 : Int) l1 := hcg
  refine r_as (r_nil (q_t ?_))
  refine w_seq ?_
  refine w_reg ?_
  refine r_ldA [.int .u8 (gr1 : Int), .int .u8 (gc1 : Int), l1] ag_Grid rfl rfl HG.agg ?_
  refine r_call trivial rfl (Ints_ok (most := 7) (HZ1.ext hEb) hr1 hg1 (by omega) (by omega) hz1) fun xa hC hk => ?_
  obtain ⟨hEC, HFA⟩ := hk
  refine ⟨trivial, ?_⟩
  have hEd := hEb.trans hEC
  have hnR := Nat.mod_lt gr1 (show 0 < 7 by decide)
  have hnC := Nat.mod_lt gc1 (show 0 < 7 by decide)
  obtain ⟨A, hA⟩ : ∃ A, gridM (1 + gr1 % 7) (1 + gc1 % 7) Z1 = A := ⟨_, rfl⟩
  have hval : Valid A := hA ▸ grid_valid (by omega) (by omega) (by omega) (by omega)
  rw [hA] at HFA
  have HA := HFA.mat
  have HOd := HO.ext hEd
  have hv1 := hval.1
  have hv2 := hval.2.1
  have hv4 := hval.2.2.2.1
  have hc0 := cols_eq (M := A) (by omega)
  refine r_as (r_nil (q_t ?_))
  refine w_seq ?_
  refine w_reg ?_
  refine r_mv (r_call trivial rfl (OddPrime_ok k hk _) fun xp h1 hk => ?_)
  obtain ⟨hE1, c, rfl, hp, hp3, hp23⟩ := hk
  refine ⟨trivial, ?_⟩
  have hp2 : c ≤ 2147483647 := by omega
  have hsol := solves hval hp hp2 (priB_mk hval hp hp2)
  refine r_as (r_nil (q_t ?_))
  refine w_seq ?_
  refine w_reg ?_
  refine r_mv (r_mv (r_call trivial rfl (Kernel_ok (HA.ext hE1) c (HOd.ext hE1)) fun x4 h2 hk => ?_))
  obtain ⟨hE2, r2, rfl, HK⟩ := hk
  refine ⟨trivial, ?_⟩
  rw [echE_mk hval hp hp2]
  have hE12 := hE1.trans hE2
  refine r_mv (r_ext rfl rfl (r_ext rfl rfl (r_as (r_as (r_nil (q_t ?_))))))
  refine w_seq ?_
  refine w_reg ?_
  refine r_mv (r_mv (r_call trivial rfl (Rank_ok (HA.ext hE12) c (HOd.ext hE12)) fun x5 h3 hk => ?_))
  obtain ⟨hE3, rfl⟩ := hk
  refine ⟨trivial, ?_⟩
  rw [echE_mk hval hp hp2]
  have hE13 := hE12.trans hE3
  have HK3 := HK.ext hE3
  have hLl : (kerS A c).length ≤ 16 := by have := hsol.1; omega
  refine r_mv (r_ext rfl rfl (r_ext rfl rfl (r_as (r_as (r_nil (q_t ?_))))))
  refine w_seq ?_
  refine w_seq ?_
  refine w_reg ?_
  refine r_mv (r_neq rfl rfl (fun hc => absurd rfl hc) (fun _ => ?_))
  refine r_mv (r_want 39 false (by kernel_rfl) rfl rfl (r_mv (r_want 39 false (by kernel_rfl) rfl rfl (r_neq rfl rfl (fun hc => absurd rfl hc) (fun _ => ?_)))))
  refine r_pickF rfl (r_mv (r_want 43 false (by kernel_rfl) rfl rfl (r_mv (r_want 43 false (by kernel_rfl) rfl rfl (r_lenm sl_MM rfl HK3 ?_)))))
  refine r_want 43 false (by kernel_rfl) rfl rfl (r_mv (r_want 43 false (by kernel_rfl) rfl rfl (r_addn rfl rfl (by omega) ?_)))
  rw [hsol.1]
  refine r_want 43 false (by kernel_rfl) rfl rfl (r_mv (r_want 43 false (by kernel_rfl) rfl rfl (r_ixmE (n := 0) sl_MM rfl HA hE13 rfl (List.getElem?_eq_getElem (by omega)) fun aZ rZ haZ hrZ => ?_)))
  refine r_want 43 false (by kernel_rfl) rfl rfl (r_ld na_I64 rfl haZ (r_want 43 false (by kernel_rfl) rfl rfl (r_leni sl_I64 rfl (Ints.ext hrZ hE13) ?_)))
  rw [← hc0]
  refine r_want 43 false (by kernel_rfl) rfl rfl (r_neq rfl rfl (fun hc => absurd rfl hc) (fun _ => ?_))
  refine r_pickF rfl (r_nil (q_t ?_))
  refine w_false rfl ?_
  refine w_skip (q_t ?_)
  refine w_seq ?_
  refine w_seq ?_
  refine w_reg ?_
  refine r_mv (r_lenm sl_MM rfl HK3 ?_)
  refine r_eql rfl rfl (fun hc1 => ?_) (fun hc1 => ?_)   -- t56 := binOp eql 3 t55 0:i64 3
  · skip
    refine r_nil (q_t ?_)
    refine w_true rfl ?_
    refine w_seq ?_
    refine w_reg ?_
    refine r_call trivial rfl (awake_ok (HOd.ext hE13)) fun x0 h9 hk => ?_
    obtain ⟨hE9, rfl⟩ := hk
    refine ⟨trivial, ?_⟩
    refine r_as (r_nil (q_t ?_))
    refine w_ret (q_tr ?_)
    refine ⟨_, retV_1, ?_⟩
    exact ⟨(hEd.trans hE13).trans hE9, rfl⟩
  · skip
    refine r_nil (q_t ?_)
    refine w_false rfl ?_
    refine w_skip (q_t ?_)
    refine w_seq ?_
    refine w_seq ?_
    refine w_reg ?_
    refine r_mv (r_lenm sl_MM rfl HK3 ?_)
    refine r_mv (r_nil (q_t ?_))
    refine w_block ?_
    refine w_loop 4721213561365038370832 (fun i : Nat => [(60, .int .i64 (i : Int))]) (fun k i h' => h' = h3 ∧ k = (kerS A c).length - i ∧ i ≤ (kerS A c).length) (by kernel_rfl) (kerS A c).length 0 ?_ ⟨rfl, trivial⟩ ?_
    · exact ⟨rfl, rfl, by omega⟩
    rintro k i s1 h3' ⟨rfl, rfl, hi⟩
    refine w_seq ?_
    refine w_reg ?_
    refine r_lss rfl rfl (fun hc2 => ?_) (fun hc2 => ?_)   -- t61 := binOp lss 3 t60 t59 3
    · skip
      refine r_nil (q_t ?_)
      refine w_seq ?_
      refine w_true rfl ?_
      refine w_skip (q_t ?_)
      refine w_seq ?_
      refine w_block ?_
      refine w_seq ?_
      refine w_reg ?_
      have hiL : i < (kerS A c).length := by omega
      have hrowL := hsol.2.1 (kerS A c)[i] (List.getElem_mem _)
      refine r_ixm sl_MM rfl HK3 rfl (List.getElem?_eq_getElem hiL) fun aL rL haL hrL => ?_
      refine r_ld na_I64 rfl haL (r_as (r_nil (q_t ?_)))
      refine w_seq ?_
      refine w_reg ?_
      refine r_mv (r_leni sl_I64 rfl hrL ?_)
      rw [hrowL]
      refine r_mv (r_ixmE (n := 0) sl_MM rfl HA hE13 rfl (List.getElem?_eq_getElem (by omega)) fun aZ rZ haZ hrZ => ?_)
      refine r_ld na_I64 rfl haZ (r_leni sl_I64 rfl (Ints.ext hrZ hE13) ?_)
      rw [← hc0]
      refine r_neq rfl rfl (fun hc => absurd rfl hc) (fun _ => ?_)
      refine r_nil (q_t ?_)
      refine w_false rfl ?_
      refine w_skip (q_b (q_t ?_))
      refine w_reg ?_
      refine r_inc rfl (by omega) (r_mv (r_nil (q_t ?_)))
      exact ⟨(kerS A c).length - (i + 1), i + 1, by omega, ⟨rfl, rfl, by omega⟩, rfl, trivial⟩
    · skip
      refine r_nil (q_t ?_)
      refine w_seq ?_
      refine w_false rfl ?_
      refine w_exit (q_tx (q_tx (q_bx (q_t ?_))))
      refine w_seq ?_
      refine w_reg ?_
      refine r_mv (r_mv ?_)
      have hne : kerS A c ≠ [] := fun he => by rw [he] at hc1; simp at hc1
      obtain ⟨hvL, hcL, hrk, hzero⟩ := hsol.2.2 hne
      have hL1 := hvL.1
      refine r_call trivial rfl (Transpose_ok HK3 (by omega) (by omega) (by omega) hvL.2.2.2.2) fun xt h4 hk => ?_
      obtain ⟨hE4, HT, _⟩ := hk
      refine ⟨trivial, ?_⟩
      have hE14 := hE13.trans hE4
      refine r_mv (r_call trivial rfl (Mul_ok (HA.ext hE14) HT c) fun xm h5 hk => ?_)
      obtain ⟨hE5, r5, rfl, HB, _⟩ := hk
      refine ⟨trivial, ?_⟩
      have hmk := mulE_mk (A := A) (B := transM (kerS A c)) (p := c) hval (valid_trans hvL) (by rw [trans_len]; omega) (by omega) hp2
      rw [hmk.2] at HB
      rw [hmk.1]
      have hE15 := hE14.trans hE5
      have hBl : (mulM (redM A c) (redM (transM (kerS A c)) c) c).length = A.length := by rw [mul_len, red_len]
      have hBr : ∀ z ∈ mulM (redM A c) (redM (transM (kerS A c)) c) c, z.length ≤ 16 := fun z hz => by
        rw [mul_rows z hz, cols_red, trans_cols (by omega)]; omega
      obtain ⟨Bm, hBm⟩ : ∃ Bm, mulM (redM A c) (redM (transM (kerS A c)) c) c = Bm := ⟨_, rfl⟩
      rw [hBm] at HB hBl hBr hzero
      refine r_mv (r_ext rfl rfl (r_ext rfl rfl (r_as (r_as (r_nil (q_t ?_))))))
      refine w_seq ?_
      refine w_reg ?_
      refine r_mv (r_mv (r_call trivial rfl (Rank_ok (HK3.ext (hE4.trans hE5)) c (HOd.ext hE15)) fun x6 h6 hk => ?_))
      obtain ⟨hE6, rfl⟩ := hk
      refine ⟨trivial, ?_⟩
      rw [echE_mk hvL hp hp2, hrk]
      have hE16 := hE15.trans hE6
      have HB6 := HB.ext hE6
      have HK6 := HK3.ext (hE4.trans (hE5.trans hE6))
      refine r_mv (r_ext rfl rfl (r_ext rfl rfl (r_as (r_as (r_nil (q_t ?_))))))
      refine w_seq ?_
      refine w_seq ?_
      refine w_reg ?_
      refine r_mv (r_lenm sl_MM rfl HB6 ?_)
      refine r_mv (r_nil (q_t ?_))
      refine w_block ?_
      refine w_loop 5070292915903096260918089351184 (fun i : Nat => [(88, .int .i64 (i : Int))]) (fun k i h' => h' = h6 ∧ k = Bm.length - i ∧ i ≤ Bm.length) (by kernel_rfl) Bm.length 0 ?_ ⟨rfl, trivial⟩ ?_
      · exact ⟨rfl, rfl, by omega⟩
      rintro k i s2 h6' ⟨rfl, rfl, hi⟩
      refine w_seq ?_
      refine w_reg ?_
      refine r_lss rfl rfl (fun hc3 => ?_) (fun hc3 => ?_)   -- t89 := binOp lss 3 t88 t87 3
      · skip
        refine r_nil (q_t ?_)
        refine w_seq ?_
        refine w_true rfl ?_
        refine w_skip (q_t ?_)
        refine w_seq ?_
        refine w_block ?_
        refine w_seq ?_
        refine w_reg ?_
        have hiB : i < Bm.length := by omega
        have hbr := hBr Bm[i] (List.getElem_mem _)
        refine r_ixm sl_MM rfl HB6 rfl (List.getElem?_eq_getElem hiB) fun aB rB haB hrB => ?_
        refine r_ld na_I64 rfl haB (r_as (r_nil (q_t ?_)))
        refine w_seq ?_
        refine w_reg ?_
        refine r_mv (r_leni sl_I64 rfl hrB ?_)
        refine r_mv (r_nil (q_t ?_))
        refine w_block ?_
        refine w_loop 2515494159827892718595021471760 (fun j : Nat => [(94, .int .i64 (j : Int))]) (fun k j h' => h' = h6' ∧ k = Bm[i].length - j ∧ j ≤ Bm[i].length) (by kernel_rfl) Bm[i].length 0 ?_ ⟨rfl, trivial⟩ ?_
        · exact ⟨rfl, rfl, by omega⟩
        rintro k j s3 h6' ⟨rfl, rfl, hj⟩
        refine w_seq ?_
        refine w_reg ?_
        refine r_lss rfl rfl (fun hc4 => ?_) (fun hc4 => ?_)   -- t95 := binOp lss 3 t94 t93 3
        · skip
          refine r_nil (q_t ?_)
          refine w_seq ?_
          refine w_true rfl ?_
          refine w_skip (q_t ?_)
          refine w_seq ?_
          refine w_block ?_
          refine w_seq ?_
          refine w_reg ?_
          have hjB : j < Bm[i].length := by omega
          have hz0 := hzero Bm[i] (List.getElem_mem _) Bm[i][j] (List.getElem_mem _)
          refine r_ixi sl_I64 rfl hrB rfl (List.getElem?_eq_getElem hjB) fun aX haX => ?_
          refine r_ld na_i64 rfl haX (r_as (r_nil (q_t ?_)))
          refine w_seq ?_
          refine w_reg ?_
          refine r_mv (r_neq rfl rfl (fun hc => absurd hz0 hc) (fun _ => ?_))
          refine r_nil (q_t ?_)
          refine w_false rfl ?_
          refine w_skip (q_b (q_t ?_))
          refine w_reg ?_
          refine r_inc rfl (by omega) (r_mv (r_nil (q_t ?_)))
          exact ⟨Bm[i].length - (j + 1), j + 1, by omega, ⟨rfl, rfl, by omega⟩, rfl, trivial⟩
        · skip
          refine r_nil (q_t ?_)
          refine w_seq ?_
          refine w_false rfl ?_
          refine w_exit (q_tx (q_tx (q_bx (q_b (q_t ?_)))))
          refine w_reg ?_
          refine r_inc rfl (by omega) (r_mv (r_nil (q_t ?_)))
          exact ⟨Bm.length - (i + 1), i + 1, by omega, ⟨rfl, rfl, by omega⟩, rfl, trivial⟩
      · skip
        refine r_nil (q_t ?_)
        refine w_seq ?_
        refine w_false rfl ?_
        refine w_exit (q_tx (q_tx (q_bx (q_t ?_))))
        refine w_seq ?_
        refine w_reg ?_
        refine r_mv (r_eql rfl rfl (fun _ => ?_) (fun hc => absurd rfl hc))
        refine r_mv (r_want 104 true (by kernel_rfl) rfl rfl (r_mv (r_want 104 true (by kernel_rfl) rfl rfl (r_eql rfl rfl (fun _ => ?_) (fun hc => absurd rfl hc)))))
        refine r_pickT rfl (r_mv (r_want 108 true (by kernel_rfl) rfl rfl (r_mv (r_want 108 true (by kernel_rfl) rfl rfl (r_lenm sl_MM rfl HB6 ?_)))))
        rw [hBl]
        refine r_want 108 true (by kernel_rfl) rfl rfl (r_mv (r_want 108 true (by kernel_rfl) rfl rfl (r_lenm sl_MM rfl (HA.ext hE16) ?_)))
        refine r_want 108 true (by kernel_rfl) rfl rfl (r_eql rfl rfl (fun _ => ?_) (fun hc => absurd rfl hc))
        refine r_pickT rfl (r_mv (r_want 115 true (by kernel_rfl) rfl rfl (r_mv (r_want 115 true (by kernel_rfl) rfl rfl (r_mv (r_want 115 true (by kernel_rfl) rfl rfl (r_lenm sl_MM rfl HK6 ?_)))))))
        refine r_want 115 true (by kernel_rfl) rfl rfl (r_eql rfl rfl (fun _ => ?_) (fun hc => absurd rfl hc))
        refine r_pickT rfl (r_mv (r_want 121 true (by kernel_rfl) rfl rfl (r_call trivial rfl (awake_ok (HOd.ext hE16)) fun x0 h9 hk => ?_)))
        obtain ⟨hE9, rfl⟩ := hk
        refine ⟨trivial, ?_⟩
        refine r_pickT rfl (r_as (r_nil (q_t ?_)))
        refine w_ret ?_
        refine ⟨_, retV_1, ?_⟩
        exact ⟨(hEd.trans hE16).trans hE9, rfl⟩

end Go.Proofs.YtdlfineibanppaaDoor
