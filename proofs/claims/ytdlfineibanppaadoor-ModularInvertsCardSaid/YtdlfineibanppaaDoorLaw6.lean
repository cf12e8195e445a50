/-
  The law ModularSpaces: true for every input.
-/
import Derived.Test.YtdlfineibanppaaDoorUnim
namespace Go.Proofs.YtdlfineibanppaaDoor
open Go Go.QF
set_option linter.unusedVariables false
set_option maxRecDepth 100000
theorem uni_tab {n : Nat} {U : Nat → Nat → Int} (H : UniI n U) : UniI n (ent (tab n n U)) := by
  obtain ⟨V, hV⟩ := H
  exact ⟨V, fun a b ha hb => by rw [← hV a b ha hb]; exact psum_congr fun k hk => by rw [ent_tab hk hb]⟩
theorem uni_valid {n : Nat} {U : Nat → Nat → Int} (h1 : 1 ≤ n) (h2 : n ≤ 16) : Valid (tab n n U) := by
  have hc : cols (tab n n U) = n := cols_tab (by omega)
  exact ⟨by rw [tab_len]; omega, by rw [tab_len]; omega, by omega, by omega, fun z hz => by rw [hc]; exact tab_rows z hz⟩

theorem ModularSpaces_ok {h : Heap} (gr1 gc1 : Nat) (l1 : Value) (Z1 : List Int) (HZ1 : Sl h l1 (Z1.map i8V)) (hr1 : gr1 < 256) (hg1 : gc1 < 256) (hz1 : ∀ z ∈ Z1, -128 ≤ z ∧ z ≤ 127) (l2 : Value) (Z2 : List Int) (HZ2 : Sl h l2 (Z2.map i8V)) (hz2 : ∀ z ∈ Z2, -128 ≤ z ∧ z ≤ 127) (k : Nat) (hk : k < 256) (HO : OffH h) : CallH Tryd.prog 9 #[.agg #[.int .u8 (gr1 : Int), .int .u8 (gc1 : Int), l1], l2, .int .u8 (k : Int)] h fun x h' => Ext h h' ∧ x = .bool true := by
  refine calls_of_W (l := [_, _, _]) mx Tryd.func9 rfl rfl rfl rfl rfl (by kernel_rfl) ?_
  refine w_seq ?_
  refine w_reg ?_
  refine r_boxG (fun _ => trivial) rfl fun b1 hA hEb hb1 hb1l hcg => ?_
  have HG : GridH tG hA b1 (gr1 : Int) (gc1 : Int) l1 := hcg
  refine r_as (r_nil (q_t ?_))
  refine w_seq ?_
  refine w_reg ?_
  refine r_ldA [.int .u8 (gr1 : Int), .int .u8 (gc1 : Int), l1] ag_Grid rfl rfl HG.agg ?_
  refine r_call trivial rfl (Ints_ok (most := 6) (HZ1.ext hEb) hr1 hg1 (by omega) (by omega) hz1) fun xa hC hk => ?_
  obtain ⟨hEC, HFA⟩ := hk
  refine ⟨trivial, ?_⟩
  have hEd := hEb.trans hEC
  have hnR := Nat.mod_lt gr1 (show 0 < 6 by decide)
  have hnC := Nat.mod_lt gc1 (show 0 < 6 by decide)
  obtain ⟨A, hA⟩ : ∃ A, gridM (1 + gr1 % 6) (1 + gc1 % 6) Z1 = A := ⟨_, rfl⟩
  have hval : Valid A := hA ▸ grid_valid (by omega) (by omega) (by omega) (by omega)
  rw [hA] at HFA
  have HA := HFA.mat
  have HOd := HO.ext hEd
  have hv1 := hval.1
  have hv2 := hval.2.1
  refine r_as (r_nil (q_t ?_))
  refine w_seq ?_
  refine w_reg ?_
  refine r_mv (r_call trivial rfl (OddPrime_ok k hk _) fun xp h1 hk => ?_)
  obtain ⟨hE1, c, rfl, hp, hp3, hp23⟩ := hk
  refine ⟨trivial, ?_⟩
  have hp2 : c ≤ 2147483647 := by omega
  refine r_as (r_nil (q_t ?_))
  refine w_seq ?_
  refine w_reg ?_
  refine r_mv (r_mv (r_lenm sl_MM rfl (HA.ext hE1) ?_))
  refine r_call trivial rfl (Unimodular_ok (n := A.length) (HZ2.ext (hEd.trans hE1)) hv1 (by omega) hz2) fun xu h2 hk => ?_
  obtain ⟨hE2, bu, gu, U, HU, _, hUni⟩ := hk
  refine ⟨trivial, ?_⟩
  have hE12 := hE1.trans hE2
  obtain ⟨Um, hUm⟩ : ∃ Um, tab A.length A.length U = Um := ⟨_, rfl⟩
  have hvU : Valid Um := hUm ▸ uni_valid hv1 hv2
  have hUl : Um.length = A.length := hUm ▸ tab_len _ _ _
  have hUc : cols Um = A.length := hUm ▸ cols_tab (by omega)
  have hUI : UniI A.length (ent Um) := hUm ▸ uni_tab hUni
  have HUm : Mat h2 xu Um := (show OwnM h2 tR tI bu gu xu Um by unfold OwnM; rw [hUl, ← hUm]; exact HU).mat
  obtain ⟨hvB, hsp⟩ := spaces (U := Um) (A := A) hp hp2 hval hvU hUl hUc hUI
  refine r_mv (r_mv (r_call trivial rfl (Mul_ok HUm (HA.ext hE12) c) fun xm h3 hk => ?_))
  obtain ⟨hE3, r3, rfl, HB, _⟩ := hk
  refine ⟨trivial, ?_⟩
  have hmk := mulE_mk (A := Um) (B := A) (p := c) hvU hval hUc (by omega) hp2
  rw [hmk.2] at HB
  rw [hmk.1]
  have hE13 := hE12.trans hE3
  refine r_mv (r_ext rfl rfl (r_ext rfl rfl (r_as (r_as (r_nil (q_t ?_))))))
  refine w_seq ?_
  refine w_reg ?_
  refine r_mv (r_mv (r_call trivial rfl (Echelon_ok (HA.ext hE13) c (HOd.ext hE13)) fun x4 h4 hk => ?_))
  obtain ⟨hE4, r4, p4, rfl, HM4, _⟩ := hk
  refine ⟨trivial, ?_⟩
  rw [echE_mk hval hp hp2]
  have hE14 := hE13.trans hE4
  refine r_mv (r_ext rfl rfl (r_ext rfl rfl (r_ext rfl rfl (r_as (r_as (r_as (r_nil (q_t ?_))))))))
  refine w_seq ?_
  refine w_reg ?_
  refine r_mv (r_mv (r_call trivial rfl (Echelon_ok (HB.ext hE4) c (HOd.ext hE14)) fun x5 h5 hk => ?_))
  obtain ⟨hE5, r5, p5, rfl, HM5, _⟩ := hk
  refine ⟨trivial, ?_⟩
  rw [echE_mk hvB hp hp2]
  rw [hsp] at HM5
  have hE15 := hE14.trans hE5
  refine r_mv (r_ext rfl rfl (r_ext rfl rfl (r_ext rfl rfl (r_as (r_as (r_as (r_nil (q_t ?_))))))))
  refine w_seq ?_
  refine w_reg ?_
  refine r_mv (r_eql rfl rfl (fun _ => ?_) (fun hc => absurd rfl hc))
  refine r_mv (r_want 47 true (by kernel_rfl) rfl rfl (r_mv (r_want 47 true (by kernel_rfl) rfl rfl (r_eql rfl rfl (fun _ => ?_) (fun hc => absurd rfl hc)))))
  refine r_pickT rfl (r_mv (r_want 51 true (by kernel_rfl) rfl rfl (r_mv (r_want 51 true (by kernel_rfl) rfl rfl (r_eql rfl rfl (fun _ => ?_) (fun hc => absurd rfl hc))))))
  refine r_pickT rfl (r_mv (r_want 55 true (by kernel_rfl) rfl rfl (r_mv (r_want 55 true (by kernel_rfl) rfl rfl (r_mv (r_want 55 true (by kernel_rfl) rfl rfl (r_call trivial rfl (Same_ok (HM4.ext hE5) HM5 (sm_ech A c).1 (sm_ech A c).2) fun w0 h5 hk => ?_)))))))
  obtain ⟨rfl, rfl⟩ := hk
  refine ⟨trivial, ?_⟩
  rw [same_refl]
  refine r_pickT rfl (r_mv (r_want 60 true (by kernel_rfl) rfl rfl (r_call trivial rfl (awake_ok (HOd.ext hE15)) fun x0 h9 hk => ?_)))
  obtain ⟨hE9, rfl⟩ := hk
  refine ⟨trivial, ?_⟩
  refine r_pickT rfl (r_as (r_nil (q_t ?_)))
  refine w_ret ?_
  refine ⟨_, retV_1, ?_⟩
  exact ⟨(hEd.trans hE15).trans hE9, rfl⟩

end Go.Proofs.YtdlfineibanppaaDoor
