/-
  The law ModularDetProduct: true for every input.
-/
import Derived.Test.YtdlfineibanppaaDoorLaw4
import Derived.Test.YtdlfineibanppaaDoorDetM
namespace Go.Proofs.YtdlfineibanppaaDoor
open Go Go.QF
set_option linter.unusedVariables false
set_option maxRecDepth 100000
theorem square_mk {A : List (List Int)} (hv : Valid A) (h1 : A.length = cols A) (h2 : A.length ≤ 8) : squareB A = true := by
  unfold squareB
  exact decide_eq_true ⟨hv, h1, h2⟩
theorem mul_mk {A B : List (List Int)} {p : Int} (hA : Valid A) (hB : Valid B) (h : cols A = B.length) (h2 : 2 ≤ p) (hp2 : p ≤ 2147483647) : mulE A B p = 0 ∧ mulS A B p = mulM (redM A p) (redM B p) p := by
  have hf : fitB A B = true := by unfold fitB; rw [← validB_t hA, ← validB_t hB, h]; simp
  unfold mulE mulS
  rw [hf, modB_mk h2 hp2]; exact ⟨rfl, rfl⟩
theorem con_mk {G T : List (List Int)} {p : Int} (hv : Valid G) (hw : Valid T) (hs : G.length = cols G) (ht : T.length = G.length) (h : 2 ≤ p) (hp2 : p ≤ 2147483647) : conS G T p = mulM (transM (redM T p)) (mulM (redM G p) (redM T p) p) p := by
  unfold conS cfitB
  rw [← validB_t hv, ← validB_t hw, modB_mk h hp2]; simp [hs, ht]
theorem det_mk {A : List (List Int)} {m : Int} {n : Nat} (hv : Valid A) (hl : A.length = n) (hc : cols A = n) (h8 : n ≤ 8) (h2 : 2 ≤ m) (hm : m ≤ 2147483647) : detS A m = det n (ent A) % m ∧ detE A m = 0 := by
  have hs := square_mk hv (by omega) (by omega)
  unfold detS detE
  rw [hs, modB_mk h2 hm, hl]; exact ⟨rfl, rfl⟩
theorem valid_tab {n : Nat} {U : Nat → Nat → Int} (h1 : 1 ≤ n) (h2 : n ≤ 16) : Valid (tab n n U) := by
  have hc : cols (tab n n U) = n := cols_tab (by omega)
  exact ⟨by rw [tab_len]; omega, by rw [tab_len]; omega, by omega, by omega, fun z hz => by rw [hc]; exact tab_rows z hz⟩
theorem det_mulM {A B : List (List Int)} {m : Int} {n : Nat} (hA : A.length = n) (hB : B.length = n) (hcB : cols B = n) : Eqm m (det n (ent (mulM A B m))) (det n (ent A) * det n (ent B)) := by
  rw [← det_mul]
  refine det_eqm fun i j hi hj => ?_
  unfold mulM
  rw [ent_tab (by omega) (by omega)]
  rw [hB]
  exact Eqm.mod _ _
theorem det_redM {A : List (List Int)} {m : Int} {n : Nat} : Eqm m (det n (ent (redM A m))) (det n (ent A)) := det_eqm fun i j _ _ => by rw [ent_red]; exact Eqm.mod _ _
theorem det_transM {A : List (List Int)} {n : Nat} (hA : A.length = n) (hc : cols A = n) : det n (ent (transM A)) = det n (ent A) := by
  rw [← det_tr (ent A)]
  refine det_congr fun i j hi hj => ?_
  unfold transM
  rw [ent_tab (by omega) (by omega)]; rfl
theorem valid_mulM {A B : List (List Int)} {m : Int} {n : Nat} (hA : A.length = n) (hcB : cols B = n) (h1 : 1 ≤ n) (h2 : n ≤ 16) : Valid (mulM A B m) ∧ (mulM A B m).length = n ∧ cols (mulM A B m) = n := by
  unfold mulM
  rw [hA, hcB]
  exact ⟨valid_tab h1 h2, tab_len _ _ _, cols_tab (by omega)⟩
theorem rem_prod {a b x y m : Int} (h : Eqm m x (a * b)) : x % m = a % m * (b % m) % m := by
  rw [← Int.mul_emod]; exact h
theorem detprod {A B : List (List Int)} {n : Nat} {c : Int} (hvA : Valid A) (hvB : Valid B) (hAl : A.length = n) (hAc : cols A = n) (hBl : B.length = n) (hBc : cols B = n) (hn : 1 ≤ n ∧ n ≤ 6) (hc : 2 ≤ c ∧ c ≤ 65537) :
    mulE A B c = 0 ∧ conE A B c = 0 ∧ (detE A c = 0 ∧ detE B c = 0 ∧ detE (mulS A B c) c = 0 ∧ detE (conS A B c) c = 0) ∧ detS (mulS A B c) c = detS A c * detS B c % c ∧ detS (conS A B c) c = detS (mulS A B c) c * detS B c % c ∧ ((0 ≤ detS A c ∧ detS A c < c) ∧ (0 ≤ detS B c ∧ detS B c < c) ∧ 0 ≤ detS (mulS A B c) c ∧ detS (mulS A B c) c < c) := by
  have hmk := mul_mk (p := c) hvA hvB (by omega) hc.1 (by omega)
  have hck := con_mk (p := c) hvA hvB (by omega) (by omega) hc.1 (by omega)
  have hAr : (redM A c).length = n := by rw [red_len]; exact hAl
  have hBr : (redM B c).length = n := by rw [red_len]; exact hBl
  have hBrc : cols (redM B c) = n := by rw [cols_red]; exact hBc
  obtain ⟨hvP, hPl, hPc⟩ := valid_mulM (A := redM A c) (B := redM B c) (m := c) (n := n) hAr hBrc (by omega) (by omega)
  have hPd : Eqm c (det n (ent (mulM (redM A c) (redM B c) c))) (det n (ent A) * det n (ent B)) := (det_mulM hAr hBr hBrc).trans (det_redM.mul det_redM)
  rw [← hmk.2] at hvP hPl hPc hPd hck
  have hTl : (transM (redM B c)).length = n := by rw [trans_len]; exact hBrc
  obtain ⟨hvQ, hQl, hQc⟩ := valid_mulM (A := transM (redM B c)) (B := mulS A B c) (m := c) (n := n) hTl hPc (by omega) (by omega)
  have hQd : Eqm c (det n (ent (mulM (transM (redM B c)) (mulS A B c) c))) (det n (ent (mulS A B c)) * det n (ent B)) := by
    refine (det_mulM hTl hPl hPc).trans ?_
    rw [det_transM hBr hBrc, Int.mul_comm]
    exact (Eqm.refl _ _).mul det_redM
  rw [← hck] at hvQ hQl hQc hQd
  have dA := det_mk (m := c) hvA hAl hAc (by omega) hc.1 (by omega)
  have dB := det_mk (m := c) hvB hBl hBc (by omega) hc.1 (by omega)
  have dP := det_mk (m := c) hvP hPl hPc (by omega) hc.1 (by omega)
  have dQ := det_mk (m := c) hvQ hQl hQc (by omega) hc.1 (by omega)
  refine ⟨hmk.1, conE_mk hvA hvB (by omega) (by omega) hc.1 (by omega), ⟨dA.2, dB.2, dP.2, dQ.2⟩, ?_, ?_, ?_⟩
  · rw [dA.1, dB.1, dP.1]; exact rem_prod (y := 0) hPd
  · rw [dQ.1, dB.1, dP.1]; exact rem_prod (y := 0) hQd
  · rw [dA.1, dB.1, dP.1]
    exact ⟨mod_bd (by omega) _, mod_bd (by omega) _, mod_bd (by omega) _⟩

theorem ModularDetProduct_ok {h : Heap} (gr1 gc1 gr2 gc2 : Nat) (l1 l2 : Value) (Z1 Z2 : List Int) (HZ1 : Sl h l1 (Z1.map i8V)) (HZ2 : Sl h l2 (Z2.map i8V)) (hr1 : gr1 < 256) (hg1 : gc1 < 256) (hr2 : gr2 < 256) (hg2 : gc2 < 256) (hz1 : ∀ z ∈ Z1, -128 ≤ z ∧ z ≤ 127) (hz2 : ∀ z ∈ Z2, -128 ≤ z ∧ z ≤ 127) (k : Nat) (hk : k < 65536) (HO : OffH h) : CallH Tryd.prog 14 #[.agg #[.int .u8 (gr1 : Int), .int .u8 (gc1 : Int), l1], .agg #[.int .u8 (gr2 : Int), .int .u8 (gc2 : Int), l2], .int .u16 (k : Int)] h fun x h' => Ext h h' ∧ x = .bool true := by
  refine calls_of_W (l := [_, _, _]) mx Tryd.func14 rfl rfl rfl rfl rfl (by kernel_rfl) ?_
  refine w_seq ?_
  refine w_reg ?_
  refine r_boxG (fun _ => trivial) rfl fun b1 hA hEA hb1 hb1l hc1 => ?_
  have HG1 : GridH tG hA b1 (gr1 : Int) (gc1 : Int) l1 := hc1
  refine r_boxG (fun _ => trivial) rfl fun b2 hB hEB hb2 hb2l hc2 => ?_
  have HG2 : GridH tG hB b2 (gr2 : Int) (gc2 : Int) l2 := hc2
  have HG1 := HG1.ext hEB
  have hEb := hEA.trans hEB
  have hbb : b2 ≠ b1 := by omega
  refine r_as (r_nil (q_t ?_))
  refine w_seq ?_
  refine w_reg ?_
  refine r_fa (fs := 1) fd_G0 (by kernel_rfl) (by decide) rfl ?_
  refine r_ld na_u8 rfl HG1.c0 (r_fa (fs := 1) fd_G0 (by kernel_rfl) (by decide) rfl ?_)
  refine r_ld na_u8 rfl HG1.c0 (r_fa (fs := 1) fd_G0 (by kernel_rfl) (by decide) rfl ?_)
  refine r_ld na_u8 rfl HG1.c0 (r_fa (fs := 1) fd_G1 (by kernel_rfl) (by decide) rfl ?_)
  refine r_st na_u8 rfl rfl rfl HG1.c1 (HG1.free 1) ?_
  have HG1 := HG1.set1 (gr1 : Int)
  have hUa := upd_set hB ⟨b1, 1, none⟩ (.int .u8 (gr1 : Int))
  have hEb := hEb.thenUpd hUa (fun k hk => by have hk2 : k = b1 := hk; have := hEA.1; omega)
  have HG2 := HG2.upd hUa (fun he => by have he2 : b2 = b1 := he; omega)
  refine r_fa (fs := 1) fd_G0 (by kernel_rfl) (by decide) rfl ?_
  refine r_st na_u8 rfl rfl rfl HG2.c0 (HG2.free 0) ?_
  have HG2 := HG2.set0 (gr1 : Int)
  have hUb := upd_set (setH hB ⟨b1, 1, none⟩ (.int .u8 (gr1 : Int))) ⟨b2, 0, none⟩ (.int .u8 (gr1 : Int))
  have hEb := hEb.thenUpd hUb (fun k hk => by have hk2 : k = b2 := hk; have := hEA.1; omega)
  have HG1 := HG1.upd hUb (fun he => by have he2 : b1 = b2 := he; omega)
  refine r_fa (fs := 1) fd_G1 (by kernel_rfl) (by decide) rfl ?_
  refine r_st na_u8 rfl rfl rfl HG2.c1 (HG2.free 1) ?_
  have HG2 := HG2.set1 (gr1 : Int)
  have hUc := upd_set (setH (setH hB ⟨b1, 1, none⟩ (.int .u8 (gr1 : Int))) ⟨b2, 0, none⟩ (.int .u8 (gr1 : Int))) ⟨b2, 1, none⟩ (.int .u8 (gr1 : Int))
  have hEb := hEb.thenUpd hUc (fun k hk => by have hk2 : k = b2 := hk; have := hEA.1; omega)
  have HG1 := HG1.upd hUc (fun he => by have he2 : b1 = b2 := he; omega)
  refine r_nil (q_t ?_)
  refine w_seq ?_
  have HGG := And.intro HG1 HG2
  refine w_drawB (fun h' => GridH tG h' b1 (gr1 : Int) (gr1 : Int) l1 ∧ GridH tG h' b2 (gr1 : Int) (gr1 : Int) l2) (by kernel_rfl) ?_
  refine r_ldAB [.int .u8 (gr1 : Int), .int .u8 (gr1 : Int), l1] ag_Grid rfl rfl HGG (fun h' hb => hb.1.agg) ?_
  refine r_call HGG rfl (Ints_ok (most := 6) (HZ1.ext hEb) hr1 hr1 (by omega) (by omega) hz1) fun xa hC hk => ?_
  obtain ⟨hEC, HFA⟩ := hk
  have HGG := And.intro (HGG.1.ext hEC) (HGG.2.ext hEC)
  refine ⟨HGG, ?_⟩
  have hEc := hEb.trans hEC
  refine r_ldAB [.int .u8 (gr1 : Int), .int .u8 (gr1 : Int), l2] ag_Grid rfl rfl HGG (fun h' hb => hb.2.agg) ?_
  refine r_call HGG rfl (Ints_ok (most := 6) (HZ2.ext hEc) hr1 hr1 (by omega) (by omega) hz2) fun xb hD hk => ?_
  obtain ⟨hED, HFB⟩ := hk
  refine ⟨And.intro (HGG.1.ext hED) (HGG.2.ext hED), ?_⟩
  have hEd := hEc.trans hED
  obtain ⟨n, hn⟩ : ∃ n, 1 + gr1 % 6 = n := ⟨_, rfl⟩
  rw [hn] at HFA HFB
  have hn5 : 1 ≤ n ∧ n ≤ 6 := by have := Nat.mod_lt gr1 (show 0 < 6 by decide); omega
  obtain ⟨A, hA⟩ : ∃ A, gridM n n Z1 = A := ⟨_, rfl⟩
  have hvA : Valid A := hA ▸ grid_valid (by omega) (by omega) (by omega) (by omega)
  have hAl : A.length = n := hA ▸ grid_len n n Z1
  have hAc : cols A = n := hA ▸ grid_cols (by omega)
  obtain ⟨B, hB⟩ : ∃ B, gridM n n Z2 = B := ⟨_, rfl⟩
  have hvB : Valid B := hB ▸ grid_valid (by omega) (by omega) (by omega) (by omega)
  have hBl : B.length = n := hB ▸ grid_len n n Z2
  have hBc : cols B = n := hB ▸ grid_cols (by omega)
  rw [hA] at HFA
  rw [hB] at HFB
  have HA := HFA.mat.ext hED
  have HB := HFB.mat
  have HOd := HO.ext hEd
  refine r_as (r_as (r_nil (q_t ?_)))
  refine w_seq ?_
  refine w_reg ?_
  refine r_mv (r_cvk it_u16 it_i64 rfl (wrap_small (by omega) (by omega)) ?_)
  refine r_addb rfl rfl (by omega) (by omega) ?_
  obtain ⟨c, hce⟩ : ∃ c : Int, 2 + (k : Int) = c := ⟨_, rfl⟩
  rw [hce]
  have hcm : 2 ≤ c ∧ c ≤ 65537 := by omega
  refine r_as (r_nil (q_t ?_))
  refine w_seq ?_
  refine w_reg ?_
  refine r_mv (r_mv (r_mv (r_call trivial rfl (Mul_ok HA HB c) fun x3 h3 hk => ?_)))
  obtain ⟨hE3, r3, rfl, HP, _⟩ := hk
  refine ⟨trivial, ?_⟩
  obtain ⟨hM0, hC0, ⟨eA, eB, eP, eQ⟩, hPv, hQv, bA, bB, bP⟩ := detprod hvA hvB hAl hAc hBl hBc hn5 hcm
  rw [hM0]
  refine r_mv (r_ext rfl rfl (r_ext rfl rfl (r_as (r_as (r_nil (q_t ?_))))))
  refine w_seq ?_
  refine w_reg ?_
  refine r_mv (r_mv (r_mv (r_call trivial rfl (Congruence_ok (HA.ext hE3) (HB.ext hE3) c) fun x4 h4 hk => ?_)))
  obtain ⟨hE4, r4, rfl, HQ, _⟩ := hk
  refine ⟨trivial, ?_⟩
  rw [hC0]
  have hE34 := hE3.trans hE4
  refine r_mv (r_ext rfl rfl (r_ext rfl rfl (r_as (r_as (r_nil (q_t ?_))))))
  refine w_seq ?_
  refine w_seq ?_
  refine w_reg ?_
  refine r_mv (r_neq rfl rfl (fun hc => absurd rfl hc) (fun _ => ?_))
  refine r_mv (r_want 54 false (by kernel_rfl) rfl rfl (r_mv (r_want 54 false (by kernel_rfl) rfl rfl (r_neq rfl rfl (fun hc => absurd rfl hc) (fun _ => ?_)))))
  refine r_pickF rfl (r_nil (q_t ?_))
  refine w_false rfl ?_
  refine w_skip (q_t ?_)
  refine w_seq ?_
  refine w_reg ?_
  refine r_mv (r_mv (r_call trivial rfl (Det_val (HA.ext hE34) c) fun x5 h5 hk => ?_))
  obtain ⟨hE5, rfl⟩ := hk
  refine ⟨trivial, ?_⟩
  rw [eA]
  refine r_mv (r_ext rfl rfl (r_ext rfl rfl (r_as (r_as (r_nil (q_t ?_))))))
  refine w_seq ?_
  refine w_reg ?_
  refine r_mv (r_mv (r_call trivial rfl (Det_val (HB.ext (hE34.trans hE5)) c) fun x6 h6 hk => ?_))
  obtain ⟨hE6, rfl⟩ := hk
  refine ⟨trivial, ?_⟩
  rw [eB]
  refine r_mv (r_ext rfl rfl (r_ext rfl rfl (r_as (r_as (r_nil (q_t ?_))))))
  refine w_seq ?_
  refine w_reg ?_
  refine r_mv (r_mv (r_call trivial rfl (Det_val (HP.ext (hE4.trans (hE5.trans hE6))) c) fun x7 h7 hk => ?_))
  obtain ⟨hE7, rfl⟩ := hk
  refine ⟨trivial, ?_⟩
  rw [eP]
  refine r_mv (r_ext rfl rfl (r_ext rfl rfl (r_as (r_as (r_nil (q_t ?_))))))
  refine w_seq ?_
  refine w_reg ?_
  refine r_mv (r_mv (r_call trivial rfl (Det_val (HQ.ext (hE5.trans (hE6.trans hE7))) c) fun x8 h8 hk => ?_))
  obtain ⟨hE8, rfl⟩ := hk
  refine ⟨trivial, ?_⟩
  rw [eQ]
  refine r_mv (r_ext rfl rfl (r_ext rfl rfl (r_as (r_as (r_nil (q_t ?_))))))
  refine w_seq ?_
  have hE38 := hE34.trans (hE5.trans (hE6.trans (hE7.trans hE8)))
  have mAB := mul_bd (a := detS A c) (b := detS B c) (A := 65537) (B := 65537) (by omega) (by omega) (by omega) (by omega)
  have mPB := mul_bd (a := detS (mulS A B c) c) (b := detS B c) (A := 65537) (B := 65537) (by omega) (by omega) (by omega) (by omega)
  refine w_reg ?_
  refine r_mv (r_eql rfl rfl (fun _ => ?_) (fun hc => absurd rfl hc))
  refine r_mv (r_want 84 true (by kernel_rfl) rfl rfl (r_mv (r_want 84 true (by kernel_rfl) rfl rfl (r_eql rfl rfl (fun _ => ?_) (fun hc => absurd rfl hc)))))
  refine r_pickT rfl (r_mv (r_want 88 true (by kernel_rfl) rfl rfl (r_mv (r_want 88 true (by kernel_rfl) rfl rfl (r_eql rfl rfl (fun _ => ?_) (fun hc => absurd rfl hc))))))
  refine r_pickT rfl (r_mv (r_want 92 true (by kernel_rfl) rfl rfl (r_mv (r_want 92 true (by kernel_rfl) rfl rfl (r_eql rfl rfl (fun _ => ?_) (fun hc => absurd rfl hc))))))
  refine r_pickT rfl (r_mv (r_want 96 true (by kernel_rfl) rfl rfl (r_mv (r_want 96 true (by kernel_rfl) rfl rfl (r_mv (r_want 96 true (by kernel_rfl) rfl rfl (r_mv (r_want 96 true (by kernel_rfl) rfl rfl (r_mulb rfl rfl (by omega) (by omega) ?_)))))))))
  refine r_want 96 true (by kernel_rfl) rfl rfl (r_mv (r_want 96 true (by kernel_rfl) rfl rfl (r_remp rfl rfl (by omega) (by omega) ?_)))
  rw [← hPv]
  refine r_want 96 true (by kernel_rfl) rfl rfl (r_eql rfl rfl (fun _ => ?_) (fun hc => absurd rfl hc))
  refine r_pickT rfl (r_mv (r_want 105 true (by kernel_rfl) rfl rfl (r_mv (r_want 105 true (by kernel_rfl) rfl rfl (r_mv (r_want 105 true (by kernel_rfl) rfl rfl (r_mv (r_want 105 true (by kernel_rfl) rfl rfl (r_mulb rfl rfl (by omega) (by omega) ?_)))))))))
  refine r_want 105 true (by kernel_rfl) rfl rfl (r_mv (r_want 105 true (by kernel_rfl) rfl rfl (r_remp rfl rfl (by omega) (by omega) ?_)))
  rw [← hQv]
  refine r_want 105 true (by kernel_rfl) rfl rfl (r_eql rfl rfl (fun _ => ?_) (fun hc => absurd rfl hc))
  refine r_pickT rfl (r_mv (r_want 114 true (by kernel_rfl) rfl rfl (r_call trivial rfl (awake_ok (HOd.ext hE38)) fun x0 h9 hk => ?_)))
  obtain ⟨hE9, rfl⟩ := hk
  refine ⟨trivial, ?_⟩
  refine r_pickT rfl (r_as (r_nil (q_t ?_)))
  refine w_ret ?_
  refine ⟨_, retV_1, ?_⟩
  exact ⟨(hEd.trans hE38).trans hE9, rfl⟩

end Go.Proofs.YtdlfineibanppaaDoor
