/-
  The law ModularKeeps: true for every input.
-/
import Derived.Test.YtdlfineibanppaaDoorLaw3
namespace Go.Proofs.YtdlfineibanppaaDoor
open Go Go.QF
set_option linter.unusedVariables false
set_option maxRecDepth 100000
theorem grid_valid {R C : Nat} {Z : List Int} (h1 : 1 ≤ R) (h2 : R ≤ 16) (h3 : 1 ≤ C) (h4 : C ≤ 16) : Valid (gridM R C Z) := by
  have hc := grid_cols (C := C) (Z := Z) (show 0 < R by omega)
  exact ⟨by rw [grid_len]; omega, by rw [grid_len]; omega, by omega, by omega, fun z hz => by rw [hc]; exact tab_rows z hz⟩
theorem sm_grid {R C : Nat} {Z : List Int} (h2 : R ≤ 1000000) (h4 : C ≤ 1000000) : Sm (gridM R C Z) := sm_tab h2 h4
theorem priB_mk {M : List (List Int)} {p : Int} (hv : Valid M) (hp : Pr p) (hp2 : p ≤ 2147483647) : priB M p = true := by
  unfold priB
  rw [← validB_t hv, ← primeB_t hp2 hp]; rfl
theorem echE_mk {M : List (List Int)} {p : Int} (hv : Valid M) (hp : Pr p) (hp2 : p ≤ 2147483647) : echE M p = 0 := by
  unfold echE
  rw [← validB_t hv, ← primeB_t hp2 hp]; rfl
theorem modB_mk {p : Int} (h : 2 ≤ p) (hp2 : p ≤ 2147483647) : modB p = true := by simp [modB, h, hp2]
theorem resE_mk {M : List (List Int)} {p : Int} (hv : Valid M) (h : 2 ≤ p) (hp2 : p ≤ 2147483647) : resE M p = 0 ∧ resS M p = redM M p := by
  unfold resE resS
  rw [← validB_t hv, modB_mk h hp2]; exact ⟨rfl, rfl⟩
theorem conE_mk {G T : List (List Int)} {p : Int} (hv : Valid G) (hw : Valid T) (hs : G.length = cols G) (ht : T.length = G.length) (h : 2 ≤ p) (hp2 : p ≤ 2147483647) : conE G T p = 0 := by
  unfold conE cfitB
  rw [← validB_t hv, ← validB_t hw, modB_mk h hp2]; simp [hs, ht]
theorem mem_set_len {M : List (List Int)} {i c : Nat} {z : List Int} (h : ∀ y ∈ M, y.length = c) (hz : z.length = c) : ∀ y ∈ M.set i z, y.length = c := by
  intro y hy
  rcases List.mem_or_eq_of_mem_set hy with hy | rfl
  · exact h y hy
  · exact hz

theorem ModularKeeps_ok {h : Heap} (gr1 gc1 : Nat) (l1 : Value) (Z1 : List Int) (HZ1 : Sl h l1 (Z1.map i8V)) (hr1 : gr1 < 256) (hg1 : gc1 < 256) (hz1 : ∀ z ∈ Z1, -128 ≤ z ∧ z ≤ 127) (k : Nat) (hk : k < 256) (HO : OffH h) : CallH Tryd.prog 13 #[.agg #[.int .u8 (gr1 : Int), .int .u8 (gc1 : Int), l1], .int .u8 (k : Int)] h fun x h' => Ext h h' ∧ x = .bool true := by
  refine calls_of_W (l := [_, _]) mx Tryd.func13 rfl rfl rfl rfl rfl (by kernel_rfl) ?_
  refine w_seq ?_
  refine w_reg ?_
  refine r_boxG (fun _ => trivial) rfl fun b1 hA hEb hb1 hb1l hcg => ?_
  have HG : GridH tG hA b1 (gr1 : Int) (gc1 : Int) l1 := hcg
  refine r_as (r_nil (q_t ?_))
  refine w_seq ?_
  refine w_reg ?_
  refine r_fa (fs := 1) fd_G0 (by kernel_rfl) (by decide) rfl ?_
  refine r_ld na_u8 rfl HG.c0 (r_fa (fs := 1) fd_G1 (by kernel_rfl) (by decide) rfl ?_)
  refine r_st na_u8 rfl rfl rfl HG.c1 (HG.free 1) ?_
  have HG := HG.set1 (gr1 : Int)
  have hEb := hEb.thenUpd (upd_set hA ⟨b1, 1, none⟩ (.int .u8 (gr1 : Int))) (fun k hk => by have hk2 : k = b1 := hk; omega)
  refine r_nil (q_t ?_)
  refine w_seq ?_
  refine w_drawB (fun h' => GridH tG h' b1 (gr1 : Int) (gr1 : Int) l1) (by kernel_rfl) ?_
  refine r_ldAB [.int .u8 (gr1 : Int), .int .u8 (gr1 : Int), l1] ag_Grid rfl rfl HG (fun h' hb => hb.agg) ?_
  refine r_call HG rfl (Ints_ok (most := 5) (HZ1.ext hEb) hr1 hr1 (by omega) (by omega) hz1) fun xa hC hk => ?_
  obtain ⟨hEC, HFA⟩ := hk
  have HG := HG.ext hEC
  refine ⟨HG, ?_⟩
  have hEc := hEb.trans hEC
  refine r_ldAB [.int .u8 (gr1 : Int), .int .u8 (gr1 : Int), l1] ag_Grid rfl rfl HG (fun h' hb => hb.agg) ?_
  refine r_call HG rfl (Ints_ok (most := 5) (HZ1.ext hEc) hr1 hr1 (by omega) (by omega) hz1) fun xb hD hk => ?_
  obtain ⟨hED, HFB⟩ := hk
  refine ⟨HG.ext hED, ?_⟩
  have hEd := hEc.trans hED
  obtain ⟨n, hn⟩ : ∃ n, 1 + gr1 % 5 = n := ⟨_, rfl⟩
  rw [hn] at HFA HFB
  have hn5 : 1 ≤ n ∧ n ≤ 5 := by have := Nat.mod_lt gr1 (show 0 < 5 by decide); omega
  obtain ⟨A, hA⟩ : ∃ A, gridM n n Z1 = A := ⟨_, rfl⟩
  have hval : Valid A := hA ▸ grid_valid (by omega) (by omega) (by omega) (by omega)
  have hAl : A.length = n := hA ▸ grid_len n n Z1
  have hAc : cols A = n := hA ▸ grid_cols (by omega)
  have hsm : Sm A := hA ▸ sm_grid (by omega) (by omega)
  rw [hA] at HFA HFB
  have HA := HFA.mat.ext hED
  have HB := HFB.mat
  have HOd := HO.ext hEd
  refine r_as (r_as (r_nil (q_t ?_)))
  refine w_seq ?_
  refine w_reg ?_
  refine r_mv (r_call trivial rfl (OddPrime_ok k hk _) fun xp h1 hk => ?_)
  obtain ⟨hE1, c, rfl, hp, hp3, hp23⟩ := hk
  refine ⟨trivial, ?_⟩
  have hp2 : c ≤ 2147483647 := by omega
  refine r_as (r_nil (q_t ?_))
  refine w_seq ?_
  refine w_reg ?_
  refine r_mv (r_mv (r_call trivial rfl (Echelon_ok (HA.ext hE1) c (HOd.ext hE1)) fun x2 h2 hk => ?_))
  obtain ⟨hE2, r2, p2, rfl, _, _⟩ := hk
  refine ⟨trivial, ?_⟩
  rw [echE_mk hval hp hp2]
  have hE12 := hE1.trans hE2
  refine r_mv (r_ext rfl rfl (r_ext rfl rfl (r_ext rfl rfl (r_as (r_as (r_as (r_nil (q_t ?_))))))))
  refine w_seq ?_
  refine w_reg ?_
  refine r_mv (r_mv (r_call trivial rfl (Residues_ok (HA.ext hE12) c) fun x3 h3 hk => ?_))
  obtain ⟨hE3, r3, rfl, _, HF3⟩ := hk
  refine ⟨trivial, ?_⟩
  have hre := resE_mk (p := c) hval (by omega) hp2
  rw [hre.2] at HF3
  rw [hre.1]
  have hE13 := hE12.trans hE3
  refine r_mv (r_ext rfl rfl (r_ext rfl rfl (r_as (r_as (r_nil (q_t ?_))))))
  refine w_seq ?_
  refine w_reg ?_
  refine r_mv (r_mv (r_call trivial rfl (Kernel_ok (HA.ext hE13) c (HOd.ext hE13)) fun x4 h4 hk => ?_))
  obtain ⟨hE4, r4, rfl, _⟩ := hk
  refine ⟨trivial, ?_⟩
  rw [echE_mk hval hp hp2]
  have hE14 := hE13.trans hE4
  refine r_mv (r_ext rfl rfl (r_ext rfl rfl (r_as (r_as (r_nil (q_t ?_))))))
  refine w_seq ?_
  refine w_reg ?_
  refine r_mv (r_mv (r_mv (r_call trivial rfl (Congruence_ok (HA.ext hE14) (HA.ext hE14) c) fun x5 h5 hk => ?_)))
  obtain ⟨hE5, r5, rfl, _, _⟩ := hk
  refine ⟨trivial, ?_⟩
  rw [conE_mk hval hval (by omega) rfl (by omega) hp2]
  have hE35 := hE4.trans hE5
  obtain ⟨bl, gl, HL0, hgl⟩ := HF3 (fun he => by have := congrArg List.length he; rw [red_len, List.length_nil] at this; omega)
  have HL1 : PartM h5 tR tI bl gl r3 n (redM A c) := by
    have := PartM.ext HL0 hE35
    rw [red_len, hAl] at this; exact this
  have hrr : ∀ z ∈ redM A c, z.length = n := fun z hz => by rw [red_rows hval.2.2.2.2 z hz]; exact hAc
  have hrl : (redM A c).length = n := by rw [red_len]; exact hAl
  have hE25 := hE3.trans hE35
  refine r_mv (r_ext rfl rfl (r_ext rfl rfl (r_as (r_as (r_nil (q_t ?_))))))
  refine w_seq ?_
  refine w_seq ?_
  refine w_reg ?_
  refine r_mv (r_lenp sl_MM rfl HL1 ?_)
  refine r_mv (r_nil (q_t ?_))
  refine w_block ?_
  refine w_loop 37778859805363124174848 (fun i : Nat => [(56, .int .i64 (i : Int))]) (fun k i h' => k = n - i ∧ i ≤ n ∧ Ext h2 h' ∧ ∃ Mw, PartM h' tR tI bl gl r3 n Mw ∧ Mw.length = n ∧ ∀ z ∈ Mw, z.length = n) (by kernel_rfl) n 0 ?_ ⟨rfl, trivial⟩ ?_
  · exact ⟨rfl, by omega, hE25, _, HL1, hrl, hrr⟩
  rintro k i s1 hw1 ⟨rfl, hi, hEW, Mw, HLW, hlW, hrW⟩
  refine w_seq ?_
  refine w_reg ?_
  refine r_lss rfl rfl (fun hc1 => ?_) (fun hc1 => ?_)   -- t57 := binOp lss 3 t56 t55 3
  · skip
    refine r_nil (q_t ?_)
    refine w_seq ?_
    refine w_true rfl ?_
    refine w_skip (q_t ?_)
    refine w_seq ?_
    refine w_block ?_
    refine w_seq ?_
    refine w_reg ?_
    refine r_mv (r_as (r_nil (q_t ?_)))
    refine w_seq ?_
    have hiw : i < Mw.length := by omega
    refine w_reg ?_
    refine r_mv (r_mv (r_ixp sl_MM rfl HLW rfl (List.getElem?_eq_getElem (by omega)) fun aR rR gR haR hgR hrR => ?_))
    refine r_ld na_I64 rfl haR (r_leni sl_I64 rfl hrR.sl ?_)
    rw [hrW Mw[i] (List.getElem_mem _)]
    refine r_mv (r_nil (q_t ?_))
    refine w_block ?_
    refine w_loop 18871019187404871565312 (fun j : Nat => [(64, .int .i64 (j : Int))]) (fun k j h' => k = n - j ∧ j ≤ n ∧ Ext h2 h' ∧ ∃ Mx, PartM h' tR tI bl gl r3 n Mx ∧ Mx.length = n ∧ ∀ z ∈ Mx, z.length = n) (by kernel_rfl) n 0 ?_ ⟨rfl, trivial⟩ ?_
    · exact ⟨rfl, by omega, hEW, Mw, HLW, hlW, hrW⟩
    rintro k j s2 hx1 ⟨rfl, hj, hEX, Mx, HLX, hlX, hrX⟩
    refine w_seq ?_
    refine w_reg ?_
    refine r_lss rfl rfl (fun hc2 => ?_) (fun hc2 => ?_)   -- t65 := binOp lss 3 t64 t63 3
    · skip
      refine r_nil (q_t ?_)
      refine w_seq ?_
      refine w_true rfl ?_
      refine w_skip (q_t ?_)
      refine w_seq ?_
      refine w_block ?_
      refine w_seq ?_
      refine w_reg ?_
      refine r_mv (r_as (r_nil (q_t ?_)))
      have hix : i < Mx.length := by omega
      have hzl := hrX Mx[i] (List.getElem_mem _)
      refine w_reg ?_
      refine r_mv (r_mv (r_ixp sl_MM rfl HLX rfl (List.getElem?_eq_getElem (by omega)) fun aS rS gS haS hgS hrS => ?_))
      refine r_ld na_I64 rfl haS (r_mv (r_ixo sl_I64 rfl hrS rfl (by rw [List.length_map]; omega) ?_))
      refine r_sto na_i64 rfl rfl rfl hrS (by rw [List.length_map]; omega) ?_
      have HLY := PartM.setElem HLX hgS (List.getElem?_eq_getElem hix) (j := j) (by omega) (-1)
      have hEY := hEX.thenUpd (upd_set hx1 ⟨gS, j, none⟩ (.int .i64 (-1))) (fun k hk => by have hk2 : k = gS := hk; have := hgl gS (List.mem_cons_of_mem _ (List.mem_of_getElem? hgS)); omega)
      refine r_nil (q_b (q_t ?_))
      refine w_reg ?_
      refine r_inc rfl (by omega) (r_mv (r_nil (q_t ?_)))
      exact ⟨n - (j + 1), j + 1, by omega, ⟨rfl, by omega, hEY, _, HLY, by simpa using hlX, mem_set_len hrX (by rw [List.length_set]; exact hzl)⟩, rfl, trivial⟩
    · skip
      refine r_nil (q_t ?_)
      refine w_seq ?_
      refine w_false rfl ?_
      refine w_exit (q_tx (q_tx (q_bx (q_b (q_t ?_)))))
      refine w_reg ?_
      refine r_inc rfl (by omega) (r_mv (r_nil (q_t ?_)))
      exact ⟨n - (i + 1), i + 1, by omega, ⟨rfl, by omega, hEX, Mx, HLX, hlX, hrX⟩, rfl, trivial⟩
  · skip
    refine r_nil (q_t ?_)
    refine w_seq ?_
    refine w_false rfl ?_
    refine w_exit (q_tx (q_tx (q_bx (q_t ?_))))
    refine w_seq ?_
    refine w_reg ?_
    refine r_mv (r_eql rfl rfl (fun _ => ?_) (fun hc => absurd rfl hc))
    refine r_mv (r_want 77 true (by kernel_rfl) rfl rfl (r_mv (r_want 77 true (by kernel_rfl) rfl rfl (r_eql rfl rfl (fun _ => ?_) (fun hc => absurd rfl hc)))))
    refine r_pickT rfl (r_mv (r_want 81 true (by kernel_rfl) rfl rfl (r_mv (r_want 81 true (by kernel_rfl) rfl rfl (r_eql rfl rfl (fun _ => ?_) (fun hc => absurd rfl hc))))))
    refine r_pickT rfl (r_mv (r_want 85 true (by kernel_rfl) rfl rfl (r_mv (r_want 85 true (by kernel_rfl) rfl rfl (r_eql rfl rfl (fun _ => ?_) (fun hc => absurd rfl hc))))))
    refine r_pickT rfl (r_mv (r_want 89 true (by kernel_rfl) rfl rfl (r_mv (r_want 89 true (by kernel_rfl) rfl rfl (r_mv (r_want 89 true (by kernel_rfl) rfl rfl (r_call trivial rfl (Same_ok (HA.ext (hE12.trans hEW)) (HB.ext (hE12.trans hEW)) hsm.1 hsm.2) fun w0 hz hk => ?_)))))))
    obtain ⟨rfl, rfl⟩ := hk
    refine ⟨trivial, ?_⟩
    rw [same_refl]
    refine r_pickT rfl (r_mv (r_want 94 true (by kernel_rfl) rfl rfl (r_call trivial rfl (awake_ok (HOd.ext (hE12.trans hEW))) fun x0 h9 hk => ?_)))
    obtain ⟨hE9, rfl⟩ := hk
    refine ⟨trivial, ?_⟩
    refine r_pickT rfl (r_as (r_nil (q_t ?_)))
    refine w_ret ?_
    refine ⟨_, retV_1, ?_⟩
    exact ⟨(hEd.trans (hE12.trans hEW)).trans hE9, rfl⟩

end Go.Proofs.YtdlfineibanppaaDoor
