/-
  Contracts of the reference's rows, Echelon and Kernel.
-/
import Derived.Test.YtdlfineibanppaaDoorKer
import Derived.Test.YtdlfineibanppaaDoorRefS
import Derived.Test.YtdlfineibanppaaDoorInvH
namespace Go.Proofs.YtdlfineibanppaaDoor
open Go Go.QF
set_option linter.unusedVariables false
set_option maxRecDepth 100000
/-- What holds in the reference's elimination. -/
def RefI (h h1 h' : Heap) (b : Nat) (gs : List Nat) (v : Value) (r c : Nat) (F : Nat → Nat → Int) (pv : Value) (piv : List Nat) (gs' : List Nat) : Prop :=
  Ext h h' ∧ PartM h' tR tI b gs' v r (tab r c F) ∧ (∀ g ∈ gs', g ∈ gs) ∧ Gro h' 3 h1.size pv (piv.map natV) ∧ h1.size ≤ h'.size
theorem RefI.turn {h h1 h2 h3 : Heap} {b : Nat} {gs gs1 gs2 : List Nat} {v pv : Value} {r c : Nat} {F F2 : Nat → Nat → Int} {piv : List Nat} (H : RefI h h1 h2 b gs v r c F pv piv gs1) (hlt : ∀ g ∈ b :: gs, h.size ≤ g ∧ g < h1.size) {g : Nat} (hU : Upd (· = g) h2 h3) (hg : g ∈ b :: gs)
    (HP : PartM h3 tR tI b gs2 v r (tab r c F2)) (hs : ∀ g ∈ gs2, g ∈ gs) : RefI h h1 h3 b gs v r c F2 pv piv gs2 := by
  obtain ⟨h4, h5, h6, h7, h8⟩ := H
  have hgl := hlt g hg
  exact ⟨h4.thenUpd hU (fun k hk => by have hk2 : k = g := hk; omega), HP, hs, h7.upd hU (fun k hk he => by have he2 : k = g := he; have := (h7.blk k hk).1; omega), Nat.le_trans h8 hU.1⟩
theorem RefI.push {h h1 h2 h3 : Heap} {b : Nat} {gs gs1 : List Nat} {v pv pv2 : Value} {r c : Nat} {F : Nat → Nat → Int} {piv : List Nat} {j : Nat} (H : RefI h h1 h2 b gs v r c F pv piv gs1) (hlt : ∀ g ∈ b :: gs, h.size ≤ g ∧ g < h1.size) (hh : h.size ≤ h1.size) (HG : Gro h3 3 h1.size pv2 (piv.map natV ++ [natV j])) (hU : Upd (fun k => pv.ownBlock = some k) h2 h3) :
    RefI h h1 h3 b gs v r c F pv2 (piv ++ [j]) gs1 := by
  obtain ⟨h4, h5, h6, h7, h8⟩ := H
  refine ⟨h4.thenUpd hU (fun k hk => by have := (h7.blk k hk).1; omega), h5.upd hU (fun g hg he => ?_), h6, by rw [List.map_append]; exact HG, Nat.le_trans h8 hU.1⟩
  have h9 := (h7.blk g he).1
  have : g ∈ b :: gs := by
    rcases List.mem_cons.1 hg with rfl | hg
    · exact List.mem_cons_self ..
    · exact List.mem_cons_of_mem _ (h6 g hg)
  have := (hlt g this).2
  omega

theorem refrows_ok {h : Heap} {v : Value} {M : List (List Int)} {c : Nat} {p : Int} (HM : Mat h v M) (h0 : 0 < M.length) (hl : M.length ≤ 1000000) (hc0 : 0 < c) (hcl : c ≤ 1000000) (hrow : ∀ z ∈ M, z.length = c) (hp : Pr p) (hp2 : p ≤ 2147483647) :
    CallH Tryd.prog 43 #[v, .int .i64 p] h fun x h' => Ext h h' ∧ ∃ vr vp, x = .tuple #[vr, vp] ∧ Mat h' vr (echZ (redM M p) c p) ∧ Sl h' vp ((echTo (invM p) M.length p (ent (redM M p)) c).2.map natV) := by
  have hp1 := hp.1
  refine calls_of_W (l := [_, _]) mx Tryd.func43 rfl rfl rfl rfl rfl (by kernel_rfl) ?_
  refine w_seq ?_
  refine w_reg ?_
  refine r_as (r_as (r_nil (q_t ?_)))
  refine w_seq ?_
  refine w_reg ?_
  refine r_mv (r_mv (r_call trivial rfl (Reduce_ok HM hp1 hp2 (by omega) (by omega) (fun z hz => by rw [hrow z hz]; omega)) fun r1 h1 hk => ?_))
  obtain ⟨hE1, b, gs, HO1, hb⟩ := hk
  refine ⟨trivial, ?_⟩
  have hlr := red_len M p
  have HP : PartM h1 tR tI b gs r1 M.length (tab M.length c (ent (redM M p))) := by
    have ht := tab_eq (A := redM M p) (c := c) (red_rows hrow)
    rw [hlr] at ht
    rw [← ht]
    have : OwnM h1 tR tI b gs r1 (redM M p) := HO1
    unfold OwnM at this
    rw [hlr] at this
    exact this
  have hlt : ∀ g ∈ b :: gs, h.size ≤ g ∧ g < h1.size := fun g hg => ⟨hb g hg, PartM.lt HP g hg⟩
  have hbd : Bd M.length c p (ent (redM M p)) := by have := bd_ent (c := c) (by omega : 0 < p) (rem_red (by omega : 0 < p) M); rw [hlr] at this; exact this
  refine r_as (r_nil (q_t ?_))
  refine w_seq ?_
  refine w_reg ?_
  refine r_as (r_nil (q_t ?_))
  refine w_seq ?_
  refine w_reg ?_
  refine r_as (r_nil (q_t ?_))
  refine w_seq ?_
  refine w_seq ?_
  refine w_reg ?_
  refine r_as (r_nil (q_t ?_))
  refine w_block ?_
  refine w_loop 1461501637330902918203684832716283019655932313536 (fun y : Nat × Nat × Value => [(8, .int .i64 (y.1 : Int)), (7, .int .i64 (y.2.1 : Int)), (6, y.2.2)]) (fun k y h' => k = c - y.1 ∧ y.1 ≤ c ∧ y.2.1 = (echTo (invM p) M.length p (ent (redM M p)) y.1).2.length ∧ ∃ gs', RefI h h1 h' b gs r1 M.length c (echTo (invM p) M.length p (ent (redM M p)) y.1).1 y.2.2 (echTo (invM p) M.length p (ent (redM M p)) y.1).2 gs') (by kernel_rfl) c (0, 0, .slice none 0 0) ?_ ⟨rfl, rfl, rfl, trivial⟩ ?_
  · exact ⟨rfl, by omega, rfl, gs, hE1, HP, fun g hg => hg, gro_nil _ _ _, Nat.le_refl _⟩
  rintro k ⟨j, top, pv⟩ s1 h3 ⟨rfl, hj, htop0, gs3, HIj0⟩
  dsimp only at hj htop0 HIj0 ⊢
  refine w_seq ?_
  refine w_seq ?_
  have HPj0 := HIj0.2.1
  have hpl0 := piv_le (rc := invM p) (r := M.length) (m := p) (F := ent (redM M p)) j
  refine w_reg ?_
  refine r_mv (r_mv (r_ixp (j := 0) sl_MM rfl HPj0 rfl (tab_row (by omega)) fun aZ rZ gZ haZ hgZ hrZ => ?_))
  refine r_ld na_I64 rfl haZ (r_lenc sl_I64 rfl hrZ.sl ?_)
  refine r_lss rfl rfl (fun hc1 => ?_) (fun hc1 => ?_)   -- t23 := binOp lss 3 t18 t22 3
  · skip
    refine r_mv (r_want 24 true (by kernel_rfl) rfl rfl (r_mv (r_want 24 true (by kernel_rfl) rfl rfl (r_mv (r_want 24 true (by kernel_rfl) rfl rfl (r_lenp sl_MM rfl HPj0 (r_want 24 true (by kernel_rfl) rfl rfl (r_lss rfl rfl (fun hc2 => ?_) (fun hc2 => ?_)))))))))   -- t28 := binOp lss 3 t25 t27 3   [guard op6 true]
    · skip
      refine r_pickT rfl (r_nil (q_t ?_))
      refine w_true rfl ?_
      refine w_skip (q_t ?_)
      refine w_seq ?_
      refine w_block ?_
      refine w_seq ?_
      have HIj := HIj0
      obtain ⟨Fj, hFj⟩ : ∃ Fj, (echTo (invM p) M.length p (ent (redM M p)) j).1 = Fj := ⟨_, rfl⟩
      obtain ⟨piv, hpiv⟩ : ∃ piv, (echTo (invM p) M.length p (ent (redM M p)) j).2 = piv := ⟨_, rfl⟩
      have hbdj : Bd M.length c p Fj := hFj ▸ bd_ech (by omega) hbd j
      have hpl := hpl0
      rw [hpiv] at hpl
      rw [hFj, hpiv] at HIj
      have htop : piv.length = top := by rw [htop0, hpiv]
      rw [htop] at hpl
      have HPj := HIj.2.1
      refine w_reg ?_
      refine r_mv (r_as (r_nil (q_t ?_)))
      refine w_join 562941363487232 (fun i : Nat => [(9, .int .i64 (i : Int))]) (fun i h' => h' = h3 ∧ i = firstNZ Fj j (M.length - top) top ∧ i ≤ M.length) (by kernel_rfl) ?_ ?_
      · skip
        refine w_block ?_
        refine w_loop 562941363487232 (fun i : Nat => [(9, .int .i64 (i : Int))]) (fun k i h' => h' = h3 ∧ k = M.length - i ∧ top ≤ i ∧ i ≤ M.length ∧ ∀ q, top ≤ q → q < i → Fj q j = 0) (by kernel_rfl) (M.length - top) top ?_ ⟨rfl, trivial⟩ ?_
        · exact ⟨rfl, rfl, by omega, by omega, fun q h1 h2 => by omega⟩
        rintro k i s2 h3' ⟨rfl, rfl, hti, hi, hz⟩
        refine w_seq ?_
        refine w_seq ?_
        refine w_reg ?_
        refine r_mv (r_mv (r_lenp sl_MM rfl HPj (r_lss rfl rfl (fun hc3 => ?_) (fun hc3 => ?_))))   -- t36 := binOp lss 3 t33 t35 3
        · skip
          refine r_mv (r_want 37 true (by kernel_rfl) rfl rfl (r_mv (r_want 37 true (by kernel_rfl) rfl rfl (r_mv (r_want 37 true (by kernel_rfl) rfl rfl (r_ixp sl_MM rfl HPj rfl (tab_row (by omega)) fun aA rA gA haA hgA hrA => ?_))))))
          refine r_want 37 true (by kernel_rfl) rfl rfl (r_ld na_I64 rfl haA (r_want 37 true (by kernel_rfl) rfl rfl (r_mv (r_want 37 true (by kernel_rfl) rfl rfl (r_ixi sl_I64 rfl hrA.sl rfl (range_at (by omega)) fun aB haB => ?_)))))
          refine r_want 37 true (by kernel_rfl) rfl rfl (r_ld na_i64 rfl haB (r_want 37 true (by kernel_rfl) rfl rfl (r_eql rfl rfl (fun hc4 => ?_) (fun hc4 => ?_))))   -- t45 := binOp eql 2 t44 0:i64 2   [guard op4 true]
          · skip
            refine r_pickT rfl (r_nil (q_t ?_))
            refine w_true rfl ?_
            refine w_skip (q_t ?_)
            refine w_block ?_
            refine w_reg ?_
            refine r_mv (r_inc rfl (by omega) (r_as (r_nil (q_b (q_t ?_)))))
            refine ⟨M.length - (i + 1), i + 1, by omega, ⟨rfl, rfl, by omega, by omega, fun q h1 h2 => ?_⟩, rfl, trivial⟩
            rcases Nat.lt_or_ge q i with hq | hq
            · exact hz q h1 hq
            · obtain rfl : q = i := by omega
              exact hc4
          · skip
            refine r_pickT rfl (r_nil (q_t ?_))
            refine w_false rfl ?_
            refine w_exit (q_tx (q_tx (q_bx (q_t ?_))))
            exact ⟨i, ⟨rfl, (firstNZ_uniq hti (by omega) hz (fun _ => hc4)).symm, by omega⟩, rfl, trivial⟩
        · skip
          refine r_mv (r_skip 37 false (by kernel_rfl) rfl rfl (r_skip 37 false (by kernel_rfl) rfl rfl (r_skip 37 false (by kernel_rfl) rfl rfl (r_skip 37 false (by kernel_rfl) rfl rfl (r_skip 37 false (by kernel_rfl) rfl rfl (r_skip 37 false (by kernel_rfl) rfl rfl (r_skip 37 false (by kernel_rfl) rfl rfl (r_skip 37 false (by kernel_rfl) rfl rfl (r_pickF rfl (r_nil (q_t ?_)))))))))))
          refine w_false rfl ?_
          refine w_exit (q_tx (q_tx (q_bx (q_t ?_))))
          exact ⟨i, ⟨rfl, (firstNZ_uniq hti (by omega) hz (fun hlt => absurd hlt (by omega))).symm, by omega⟩, rfl, trivial⟩
      rintro i s2 h3' ⟨rfl, hi, hir⟩
      refine w_seq ?_
      refine w_seq ?_
      refine w_reg ?_
      refine r_mv (r_mv (r_lenp sl_MM rfl HPj (r_eql rfl rfl (fun hc5 => ?_) (fun hc5 => ?_))))   -- t52 := binOp eql 3 t49 t51 3
      · skip
        refine r_nil (q_t ?_)
        refine w_true rfl ?_
        refine w_exit (q_tx (q_bx (q_t ?_)))
        refine w_reg ?_
        refine r_mv (r_inc rfl (by omega) (r_as (r_nil (q_t ?_))))
        have hS : echTo (invM p) M.length p (ent (redM M p)) (j + 1) = echTo (invM p) M.length p (ent (redM M p)) j := by
          simp only [echTo, colS]
          rw [hFj, hpiv, htop, ← hi, if_neg (by omega)]
        refine ⟨c - (j + 1), (j + 1, top, pv), by first | omega | (dsimp only; omega), ⟨rfl, by first | omega | (dsimp only; omega), by dsimp only; rw [hS, hpiv]; exact htop.symm, gs3, ?_⟩, rfl, rfl, rfl, trivial⟩
        dsimp only
        rw [hS]
        exact HIj0
      · skip
        refine r_nil (q_t ?_)
        refine w_false rfl ?_
        refine w_skip (q_t ?_)
        refine w_seq ?_
        have hir : i < M.length := by omega
        have hti : top ≤ i := by rw [hi]; exact (firstNZ_le Fj j (M.length - top) top).1
        have htr : top < M.length := by omega
        refine w_draw (by kernel_rfl) ?_
        refine r_mv (r_mv (r_mv (r_mv (r_mv (r_mv (r_ixp sl_MM rfl HPj rfl (tab_row (by omega)) fun aI rI gI haI hgI hrI => ?_))))))
        refine r_ld na_I64 rfl haI (r_mv (r_mv (r_ixp sl_MM rfl HPj rfl (tab_row (by omega)) fun aT rT gT haT hgT hrT => ?_)))
        refine r_ld na_I64 rfl haT ?_
        obtain ⟨rs, HT, hrl⟩ := PartM.top HPj
        refine r_ixo sl_MM rfl HT rfl (by omega) ?_
        refine r_sto na_I64 rfl rfl hrI.one HT (by omega) ?_
        have HT2 := HT.set top rI (by omega)
        refine r_ixo sl_MM rfl HT2 rfl (by simp; omega) ?_
        refine r_sto na_I64 rfl rfl hrT.one HT2 (by simp; omega) ?_
        have HP2 := PartM.swap HPj hgT hgI (tab_row htr) (tab_row hir) hrT hrI
        rw [tab_setF, tab_setF] at HP2
        have HI2 := HIj.turn hlt ((upd_set _ ⟨b, top, none⟩ rI).trans (upd_set _ ⟨b, i, none⟩ rT)) (List.mem_cons_self ..) (F2 := swapF Fj top i) HP2 (fun g hg => HIj.2.2.1 g (mem_swap hgT hgI hg))
        have HP2 := HI2.2.1
        have hbd2 := bd_swap hbdj htr hir
        have hx0 : swapF Fj top i top j ≠ 0 := by
          rw [swapF_at2, hi]; exact firstNZ_ne Fj j (M.length - top) top (by omega)
        have hxb := hbd2 top j htr (by omega)
        refine r_nil (q_t ?_)
        refine w_seq ?_
        refine w_reg ?_
        refine r_mv (r_mv (r_ixp sl_MM rfl HP2 rfl (tab_row (by omega)) fun aR rR gR haR hgR hrR => ?_))
        refine r_ld na_I64 rfl haR (r_mv (r_ixi sl_I64 rfl hrR.sl rfl (range_at (by omega)) fun aX haX => ?_))
        refine r_ld na_i64 rfl haX (r_mv (r_call trivial rfl (inverse_ok _ hp1 hp2 _) fun rv h4 hk => ?_))
        obtain ⟨rfl, rfl⟩ := hk
        refine ⟨trivial, ?_⟩
        rw [pow_invM hp (by omega) hxb.2]
        obtain ⟨u, hu⟩ : ∃ u, invM p (swapF Fj top i top j) = u := ⟨_, rfl⟩
        rw [hu]
        have hub := invM_ok hp (x := swapF Fj top i top j) (by omega) hxb.2
        rw [hu] at hub
        refine r_as (r_nil (q_t ?_))
        refine w_seq ?_
        refine w_seq ?_
        have HP2 := HI2.2.1
        refine w_reg ?_
        refine r_mv (r_mv (r_ixp sl_MM rfl HP2 rfl (tab_row (by omega)) fun aS rS gS haS hgS hrS => ?_))
        refine r_ld na_I64 rfl haS (r_lenc sl_I64 rfl hrS.sl ?_)
        refine r_mv (r_nil (q_t ?_))
        refine w_block ?_
        refine w_loop 5070599983061278376728463411200 (fun jj : Nat => [(81, .int .i64 (jj : Int))]) (fun k jj h' => k = c - jj ∧ jj ≤ c ∧ RefI h h1 h' b gs r1 M.length c (setF (swapF Fj top i) top (mixF jj (fun q => swapF Fj top i top q * u % p) (swapF Fj top i top))) pv piv ((gs3.set top gI).set i gT)) (by kernel_rfl) c 0 ?_ ⟨rfl, trivial⟩ ?_
        · exact ⟨rfl, by omega, by rw [mixF_zero, setF_self]; exact HI2⟩
        rintro k jj s3 h5 ⟨rfl, hjj, HIs⟩
        have HPs := HIs.2.1
        refine w_seq ?_
        refine w_reg ?_
        refine r_lss rfl rfl (fun hc6 => ?_) (fun hc6 => ?_)   -- t82 := binOp lss 3 t81 t80 3
        · skip
          refine r_nil (q_t ?_)
          refine w_seq ?_
          refine w_true rfl ?_
          refine w_skip (q_t ?_)
          refine w_seq ?_
          refine w_block ?_
          refine w_seq ?_
          refine w_reg ?_
          refine r_mv (r_as (r_nil (q_t ?_)))
          have hgx := hbd2 top jj htr (by omega)
          have hprod := mul_bd (a := swapF Fj top i top jj) (b := u) (A := 2147483647) (B := 2147483647) (by omega) (by omega) hub.1 (by have := hub.2.1; omega)
          refine w_draw (by kernel_rfl) ?_
          refine r_mv (r_mv (r_ixp sl_MM rfl HPs rfl (tab_row (by omega)) fun aU rU gU haU hgU hrU => ?_))
          refine r_ld na_I64 rfl haU (r_mv (r_mv (r_mv (r_ixp sl_MM rfl HPs rfl (tab_row (by omega)) fun aV rV gV haV hgV hrV => ?_))))
          refine r_ld na_I64 rfl haV (r_mv (r_ixi sl_I64 rfl hrV.sl rfl (by rw [range_at (by omega), setF_same, mixF_at]) fun aW haW => ?_))
          refine r_ld na_i64 rfl haW (r_mv (r_mulb rfl rfl (by omega) (by omega) (r_mv (r_remp rfl rfl (by omega) (by omega) (r_ixo sl_I64 rfl hrU rfl (by simp; omega) ?_)))))
          refine r_sto na_i64 rfl rfl rfl hrU (by simp; omega) ?_
          have HPt := PartM.setElem HIs.2.1 hgU (tab_row htr) (j := jj) (by simp; omega) (swapF Fj top i top jj * u % p)
          rw [setF_same, mixF_set (f := fun q => swapF Fj top i top q * u % p) rfl, tab_setF, setF_setF] at HPt
          have HIt := HIs.turn hlt (upd_set _ ⟨gU, jj, none⟩ (.int .i64 (swapF Fj top i top jj * u % p))) (List.mem_cons_of_mem _ (HIs.2.2.1 _ (List.mem_of_getElem? hgU))) HPt HIs.2.2.1
          refine r_nil (q_b (q_t ?_))
          refine w_reg ?_
          refine r_inc rfl (by omega) (r_mv (r_nil (q_t ?_)))
          exact ⟨c - (jj + 1), jj + 1, by omega, ⟨rfl, by omega, HIt⟩, rfl, trivial⟩
        · skip
          refine r_nil (q_t ?_)
          refine w_seq ?_
          refine w_false rfl ?_
          refine w_exit (q_tx (q_tx (q_bx (q_t ?_))))
          refine w_seq ?_
          refine w_seq ?_
          obtain rfl : jj = c := by omega
          have HI3 : RefI h h1 h5 b gs r1 M.length jj (scaleF (swapF Fj top i) top u p) pv piv ((gs3.set top gI).set i gT) := ⟨HIs.1, by have := HIs.2.1; rw [tab_mx] at this; exact this, HIs.2.2.1, HIs.2.2.2.1, HIs.2.2.2.2⟩
          have hbd3 := bd_scale (a := top) (f := u) (by omega : 0 < p) hbd2
          obtain ⟨F3, hF3⟩ : ∃ F3, (scaleF (swapF Fj top i) top u p) = F3 := ⟨_, rfl⟩
          rw [hF3] at HI3 hbd3
          have HPs := HI3.2.1
          refine w_reg ?_
          refine r_mv (r_lenp sl_MM rfl HPs (r_mv (r_nil (q_t ?_))))
          refine w_block ?_
          refine w_loop 22835963083295337814522971859521498234872688640 (fun ii : Nat => [(104, .int .i64 (ii : Int))]) (fun k ii h' => k = M.length - ii ∧ ii ≤ M.length ∧ RefI h h1 h' b gs r1 M.length jj (elimF F3 top j p ii) pv piv ((gs3.set top gI).set i gT)) (by kernel_rfl) M.length 0 ?_ ⟨rfl, trivial⟩ ?_
          · exact ⟨rfl, by omega, by rw [elimF_zero]; exact HI3⟩
          rintro k ii s4 h6 ⟨rfl, hii, HIi⟩
          have HPs := HIi.2.1
          refine w_seq ?_
          refine w_reg ?_
          refine r_lss rfl rfl (fun hc7 => ?_) (fun hc7 => ?_)   -- t105 := binOp lss 3 t104 t103 3
          · skip
            refine r_nil (q_t ?_)
            refine w_seq ?_
            refine w_true rfl ?_
            refine w_skip (q_t ?_)
            refine w_seq ?_
            refine w_block ?_
            refine w_seq ?_
            refine w_reg ?_
            refine r_mv (r_as (r_nil (q_t ?_)))
            refine w_seq ?_
            have HPi := HIi.2.1
            have hxi := hbd3 ii j (by omega) (by omega)
            refine w_reg ?_
            refine r_mv (r_mv (r_ixp sl_MM rfl HPi rfl (tab_row (by omega)) fun aC rC gC haC hgC hrC => ?_))
            refine r_ld na_I64 rfl haC (r_mv (r_ixi sl_I64 rfl hrC.sl rfl (by rw [range_at (by omega), elimF_at]) fun aD haD => ?_))
            refine r_ld na_i64 rfl haD (r_as (r_nil (q_t ?_)))
            refine w_seq ?_
            have HPi := HIi.2.1
            refine w_reg ?_
            refine r_mv (r_mv (r_ixp sl_MM rfl HPi rfl (tab_row (by omega)) fun aE rE gE haE hgE hrE => ?_))
            refine r_ld na_I64 rfl haE (r_lenc sl_I64 rfl hrE.sl ?_)
            refine r_mv (r_nil (q_t ?_))
            refine w_block ?_
            refine w_loop 11417981540983065050573829819144057560921817088 (fun jk : Nat => [(119, .int .i64 (jk : Int))]) (fun k jk h' => k = jj - jk ∧ jk ≤ jj ∧ RefI h h1 h' b gs r1 M.length jj (setF (elimF F3 top j p ii) ii (mixF jk (elG F3 top j p ii) (F3 ii))) pv piv ((gs3.set top gI).set i gT)) (by kernel_rfl) jj 0 ?_ ⟨rfl, trivial⟩ ?_
            · exact ⟨rfl, by omega, by rw [mixF_zero, ← elimF_at F3 top j p ii, setF_self]; exact HIi⟩
            rintro k jk s5 h7 ⟨rfl, hjk, HIq⟩
            have HPq0 := HIq.2.1
            refine w_seq ?_
            refine w_reg ?_
            refine r_lss rfl rfl (fun hc8 => ?_) (fun hc8 => ?_)   -- t120 := binOp lss 3 t119 t118 3
            · skip
              refine r_nil (q_t ?_)
              refine w_seq ?_
              refine w_true rfl ?_
              refine w_skip (q_t ?_)
              refine w_seq ?_
              refine w_block ?_
              refine w_seq ?_
              refine w_reg ?_
              refine r_mv (r_as (r_nil (q_t ?_)))
              refine w_seq ?_
              refine w_reg ?_
              refine r_mv (r_mv (r_neq rfl rfl (fun hc9 => ?_) (fun hc9 => ?_)))   -- t124 := binOp neq 3 t122 t123 3
              · skip
                refine r_nil (q_t ?_)
                refine w_true rfl ?_
                have hne : ii ≠ top := by omega
                have hgj := hbd3 ii jk (by omega) (by omega)
                have htj := hbd3 top jk htr (by omega)
                have hprod := mul_bd (a := F3 ii j) (b := F3 top jk) (A := 2147483647) (B := 2147483647) hxi.1 (by omega) htj.1 (by omega)
                have hpm := mod_bd (by omega : 0 < p) (F3 ii j * F3 top jk)
                refine w_drawB (fun h' => h' = h7) (by kernel_rfl) ?_
                refine r_mv (r_mv (r_ixp sl_MM rfl HPq0 rfl (tab_row (by omega)) fun aG rG gG haG hgG hrG => ?_))
                refine r_ldB na_I64 rfl rfl (fun _ hb => by rw [hb]; exact haG) (r_mv (r_mv (r_mv (r_ixp sl_MM rfl HPq0 rfl (tab_row (by omega)) fun aH rH gH haH hgH hrH => ?_))))
                refine r_ldB na_I64 rfl rfl (fun _ hb => by rw [hb]; exact haH) (r_mv (r_ixi sl_I64 rfl hrH.sl rfl (by rw [range_at (by omega), setF_same, mixF_at]) fun aJ haJ => ?_))
                refine r_ldB na_i64 rfl rfl (fun _ hb => by rw [hb]; exact haJ) (r_mv (r_mv (r_mv (r_ixp sl_MM rfl HPq0 rfl (tab_row (by omega)) fun aK rK gK haK hgK hrK => ?_))))
                refine r_ldB na_I64 rfl rfl (fun _ hb => by rw [hb]; exact haK) (r_mv (r_ixi sl_I64 rfl hrK.sl rfl (by rw [range_at (by omega), setF_ne _ _ (Ne.symm hne), elimF_top]) fun aL haL => ?_))
                refine r_ldB na_i64 rfl rfl (fun _ hb => by rw [hb]; exact haL) (r_mulb rfl rfl (by omega) (by omega) (r_mv (r_remp rfl rfl (by omega) (by omega) (r_subb rfl rfl (by omega) (by omega) (r_mv (r_call rfl rfl (Mod_ok _ (by omega) (by omega) _) fun rv h7' hk => ?_))))))
                obtain ⟨rfl, rfl⟩ := hk
                refine ⟨rfl, ?_⟩
                rw [sub_mod]
                refine r_ixo sl_I64 rfl hrG rfl (by simp; omega) ?_
                refine r_sto na_i64 rfl rfl rfl hrG (by simp; omega) ?_
                have HPq := PartM.setElem HIq.2.1 hgG (tab_row (by omega)) (j := jk) (by simp; omega) ((F3 ii jk + (p - F3 ii j) * F3 top jk) % p)
                rw [setF_same, mixF_set (f := elG F3 top j p ii) (by simp [elG, hne]), tab_setF, setF_setF] at HPq
                have HIq2 := HIq.turn hlt (upd_set _ ⟨gG, jk, none⟩ (.int .i64 ((F3 ii jk + (p - F3 ii j) * F3 top jk) % p))) (List.mem_cons_of_mem _ (HIq.2.2.1 _ (List.mem_of_getElem? hgG))) HPq HIq.2.2.1
                refine r_nil (q_b (q_t ?_))
                refine w_reg ?_
                refine r_inc rfl (by omega) (r_mv (r_nil (q_t ?_)))
                exact ⟨jj - (jk + 1), jk + 1, by omega, ⟨rfl, by omega, HIq2⟩, rfl, trivial⟩
              · skip
                refine r_nil (q_t ?_)
                refine w_false rfl ?_
                refine w_skip (q_b (q_t ?_))
                refine w_reg ?_
                refine r_inc rfl (by omega) (r_mv (r_nil (q_t ?_)))
                obtain rfl : ii = top := by omega
                exact ⟨jj - (jk + 1), jk + 1, by omega, ⟨rfl, by omega, by rw [mixF_skip (by simp [elG])]; exact HIq⟩, rfl, trivial⟩
            · skip
              refine r_nil (q_t ?_)
              refine w_seq ?_
              refine w_false rfl ?_
              refine w_exit (q_tx (q_tx (q_bx (q_b (q_t ?_)))))
              refine w_reg ?_
              refine r_inc rfl (by omega) (r_mv (r_nil (q_t ?_)))
              obtain rfl : jk = jj := by omega
              exact ⟨M.length - (ii + 1), ii + 1, by omega, ⟨rfl, by omega, ⟨HIq.1, by have := HIq.2.1; rw [elG_end] at this; exact this, HIq.2.2.1, HIq.2.2.2.1, HIq.2.2.2.2⟩⟩, rfl, trivial⟩
          · skip
            refine r_nil (q_t ?_)
            refine w_seq ?_
            refine w_false rfl ?_
            refine w_exit (q_tx (q_tx (q_bx (q_t ?_))))
            refine w_seq ?_
            refine w_reg ?_
            refine r_mv (r_mv ?_)
            obtain rfl : ii = M.length := by omega
            have HG := HIi.2.2.2.1
            refine r_push sl_II ze_int rfl (fun _ => trivial) (fun _ => rfl) rfl rfl HG HIi.2.2.2.2 (by omega) (by simp; omega) fun p' pv2 h8 HG8 hU8 hb8 => ?_
            refine r_as (r_nil (q_t ?_))
            refine w_reg ?_
            refine r_mv (r_inc rfl (by omega) (r_as (r_nil (q_b (q_t ?_)))))
            refine w_reg ?_
            refine r_mv (r_inc rfl (by omega) (r_as (r_nil (q_t ?_))))
            have hS : echTo (invM p) M.length p (ent (redM M p)) (j + 1) = (elimF F3 top j p M.length, piv ++ [j]) := by
              simp only [echTo, colS]
              rw [hFj, hpiv, htop, ← hi, if_pos (by omega), hu, hF3]
            refine ⟨jj - (j + 1), (j + 1, top + 1, pv2), by first | omega | (dsimp only; omega), ⟨rfl, by first | omega | (dsimp only; omega), by dsimp only; rw [hS]; simp [htop], (gs3.set top gI).set i gT, ?_⟩, rfl, rfl, rfl, trivial⟩
            dsimp only
            rw [hS]
            exact HIi.push hlt hE1.1 HG8 hU8
    · skip
      refine r_pickT rfl (r_nil (q_t ?_))
      refine w_false rfl ?_
      refine w_exit (q_tx (q_tx (q_bx (q_t ?_))))
      refine w_seq ?_
      refine w_reg ?_
      refine r_mv (r_mv ?_)
      obtain ⟨cap, hv, hcap⟩ := PartM.slice HIj0.2.1
      refine r_slTo sl_MM hv rfl (by omega) ?_
      refine r_mv (r_as (r_as (r_nil (q_t ?_))))
      refine w_ret ?_
      refine ⟨_, retV_2, ?_⟩
      have hfin : echTo (invM p) M.length p (ent (redM M p)) c = echTo (invM p) M.length p (ent (redM M p)) j := by
        have hst := echTo_stable (rc := invM p) (r := M.length) (m := p) (F := ent (redM M p)) (j := j) (by omega) (c - j)
        rw [show j + (c - j) = c by omega] at hst
        exact hst
      have HM := (show OwnM h3 tR tI b gs3 r1 (tab M.length c _) by unfold OwnM; rw [tab_len]; exact HIj0.2.1).mat
      rw [hv] at HM
      have HM2 := Mat.take HM (k := top) (by rw [tab_len]; omega)
      rw [tab_take (by omega)] at HM2
      refine ⟨HIj0.1, _, _, rfl, ?_, ?_⟩
      · unfold echZ
        rw [red_len, hfin, ← htop0]
        exact HM2
      · rw [hfin]; exact HIj0.2.2.2.1.sl
  · skip
    refine r_mv (r_skip 24 false (by kernel_rfl) rfl rfl (r_skip 24 false (by kernel_rfl) rfl rfl (r_skip 24 false (by kernel_rfl) rfl rfl (r_skip 24 false (by kernel_rfl) rfl rfl (r_pickF rfl (r_nil (q_t ?_)))))))
    refine w_false rfl ?_
    refine w_exit (q_tx (q_tx (q_bx (q_t ?_))))
    refine w_seq ?_
    refine w_reg ?_
    refine r_mv (r_mv ?_)
    obtain ⟨cap, hv, hcap⟩ := PartM.slice HIj0.2.1
    refine r_slTo sl_MM hv rfl (by omega) ?_
    refine r_mv (r_as (r_as (r_nil (q_t ?_))))
    refine w_ret ?_
    refine ⟨_, retV_2, ?_⟩
    have hfin : echTo (invM p) M.length p (ent (redM M p)) c = echTo (invM p) M.length p (ent (redM M p)) j := by
      rw [show j = c by omega]
    have HM := (show OwnM h3 tR tI b gs3 r1 (tab M.length c _) by unfold OwnM; rw [tab_len]; exact HIj0.2.1).mat
    rw [hv] at HM
    have HM2 := Mat.take HM (k := top) (by rw [tab_len]; omega)
    rw [tab_take (by omega)] at HM2
    refine ⟨HIj0.1, _, _, rfl, ?_, ?_⟩
    · unfold echZ
      rw [red_len, hfin, ← htop0]
      exact HM2
    · rw [hfin]; exact HIj0.2.2.2.1.sl

theorem refEchelon_ok {h : Heap} {v : Value} {M : List (List Int)} (HM : Mat h v M) (p : Int) : CallH Tryd.prog 26 #[v, .int .i64 p] h (PostE h (echE M p) (echS M p) (pivS M p)) := by
  refine calls_of_W (l := [_, _]) mx Tryd.func26 rfl rfl rfl rfl rfl (by kernel_rfl) ?_
  refine w_seq ?_
  refine w_reg ?_
  refine r_as (r_as (r_as (r_nil (q_t ?_))))
  refine w_seq ?_
  refine w_seq ?_
  refine w_reg ?_
  refine r_mv (r_call trivial rfl (Valid_ok HM) fun v' h hk => ?_)
  obtain ⟨rfl, rfl⟩ := hk
  refine ⟨trivial, ?_⟩
  cases hc1 : validB M
  · skip
    refine r_not rfl (r_nil (q_t ?_))
    refine w_true rfl ?_
    refine w_seq ?_
    refine w_reg ?_
    refine r_as (r_as (r_as (r_nil (q_t ?_))))
    refine w_ret (q_tr ?_)
    refine ⟨_, retV_3, ?_⟩
    have he : echE M p = 3 := by simp [echE, hc1]
    rw [he]
    exact ⟨Ext.refl _, _, _, rfl, by simp only [echS, priB, hc1, Bool.false_and]; exact mat_nil _, by simp only [pivS, priB, hc1, Bool.false_and]; exact sl_nil _⟩
  · skip
    refine r_not rfl (r_nil (q_t ?_))
    refine w_false rfl ?_
    refine w_skip (q_t ?_)
    refine w_seq ?_
    refine w_seq ?_
    refine w_reg ?_
    refine r_mv (r_call trivial rfl (refIs_ok p h) fun v' h hk => ?_)
    obtain ⟨rfl, rfl⟩ := hk
    refine ⟨trivial, ?_⟩
    cases hc2 : primeB p
    · skip
      refine r_not rfl (r_nil (q_t ?_))
      refine w_true rfl ?_
      refine w_seq ?_
      refine w_reg ?_
      refine r_as (r_as (r_as (r_nil (q_t ?_))))
      refine w_ret (q_tr ?_)
      refine ⟨_, retV_3, ?_⟩
      have he : echE M p = 20 := by simp [echE, hc1, hc2]
      rw [he]
      exact ⟨Ext.refl _, _, _, rfl, by simp only [echS, priB, hc1, hc2, Bool.and_false]; exact mat_nil _, by simp only [pivS, priB, hc1, hc2, Bool.and_false]; exact sl_nil _⟩
    · skip
      refine r_not rfl (r_nil (q_t ?_))
      refine w_false rfl ?_
      refine w_skip (q_t ?_)
      refine w_seq ?_
      refine w_reg ?_
      refine r_mv (r_mv ?_)
      have hv := valid_of hc1
      have hpp := of_primeB hc2
      have hv1 := hv.1
      have hv2 := hv.2.1
      have hv3 := hv.2.2.1
      have hv4 := hv.2.2.2.1
      have hpb : priB M p = true := by simp [priB, hc1, hc2]
      refine r_call trivial rfl (refrows_ok HM (by omega) (by omega) (by omega) (by omega) hv.2.2.2.2 hpp.2 hpp.1) fun x1 h1 hk => ?_
      obtain ⟨hE1, vr, vp, rfl, HM1, HS1⟩ := hk
      refine ⟨trivial, ?_⟩
      refine r_mv (r_ext rfl rfl (r_ext rfl rfl (r_as (r_as (r_nil (q_t ?_))))))
      refine w_seq ?_
      refine w_reg ?_
      refine r_mv (r_mv (r_as (r_as (r_as (r_nil (q_t ?_))))))
      refine w_ret ?_
      refine ⟨_, retV_3, ?_⟩
      have he : echE M p = 0 := by simp [echE, hc1, hc2]
      rw [he]
      refine ⟨hE1, vr, vp, rfl, ?_, ?_⟩
      · simp only [echS, hpb, if_true]; unfold echZ at HM1; rw [red_len] at HM1; exact HM1
      · simp only [pivS, hpb, if_true]; exact HS1

theorem refKernel_ok {h : Heap} {v : Value} {M : List (List Int)} (HM : Mat h v M) (p : Int) : CallH Tryd.prog 20 #[v, .int .i64 p] h (PostK h (echE M p) (kerS M p)) := by
  refine calls_of_W (l := [_, _]) mx Tryd.func20 rfl rfl rfl rfl rfl (by kernel_rfl) ?_
  refine w_seq ?_
  refine w_reg ?_
  refine r_as (r_as (r_nil (q_t ?_)))
  refine w_seq ?_
  refine w_reg ?_
  refine r_mv (r_mv (r_call trivial rfl (refEchelon_ok HM p) fun x1 h1 hk => ?_))
  obtain ⟨hE1, vr, vp, rfl, HM2, HS2⟩ := hk
  refine ⟨trivial, ?_⟩
  refine r_mv (r_ext rfl rfl (r_ext rfl rfl (r_ext rfl rfl (r_as (r_as (r_as (r_nil (q_t ?_))))))))
  refine w_seq ?_
  refine w_seq ?_
  refine w_reg ?_
  refine r_mv (r_neq rfl rfl (fun hc1 => ?_) (fun hc1 => ?_))   -- t25 := binOp neq 30 t24 0:i64 30
  · skip
    refine r_nil (q_t ?_)
    refine w_true rfl ?_
    refine w_seq ?_
    refine w_reg ?_
    refine r_mv (r_as (r_as (r_nil (q_t ?_))))
    refine w_ret (q_tr ?_)
    refine ⟨_, retV_2, ?_⟩
    have hpb := echE_not (M := M) (p := p) (by omega)
    exact ⟨hE1, _, rfl, by simp only [kerS, hpb]; exact mat_nil _⟩
  · skip
    refine r_nil (q_t ?_)
    refine w_false rfl ?_
    refine w_skip (q_t ?_)
    refine w_seq ?_
    refine w_reg ?_
    refine r_as (r_nil (q_t ?_))
    refine w_seq ?_
    refine w_seq ?_
    have hpb := echE_of (M := M) (p := p) (by omega)
    obtain ⟨hv, hp2, hp⟩ := priB_of hpb
    have hp1 := hp.1
    have hv1 := hv.1
    have hv2 := hv.2.1
    have hv3 := hv.2.2.1
    have hv4 := hv.2.2.2.1
    have hc0 := cols_eq (M := M) (by omega)
    have hbd := bd_eF (M := M) (p := p) (by omega)
    have hpl := piv_eF M p
    simp only [echS, hpb, if_true] at HM2
    simp only [pivS, hpb, if_true] at HS2
    obtain ⟨Fe, hFe⟩ : ∃ Fe, (eF M p).1 = Fe := ⟨_, rfl⟩
    obtain ⟨piv, hpiv⟩ : ∃ piv, (eF M p).2 = piv := ⟨_, rfl⟩
    rw [hFe, hpiv] at HM2
    rw [hpiv] at HS2 hpl
    rw [hFe] at hbd
    refine w_reg ?_
    refine r_mv (r_ixmE (n := 0) sl_MM rfl HM hE1 rfl (List.getElem?_eq_getElem (by omega)) fun aZ rZ haZ hrZ => ?_)
    refine r_ld na_I64 rfl haZ (r_leni sl_I64 rfl (Ints.ext hrZ hE1) ?_)
    rw [← hc0]
    refine r_mv (r_nil (q_t ?_))
    refine w_block ?_
    refine w_loop 4722366482867497762304 (fun y : Nat × Value => [(31, .int .i64 (y.1 : Int)), (9, y.2)]) (fun k y h' => Ext h1 h' ∧ k = cols M - y.1 ∧ y.1 ≤ cols M ∧ ∃ gs, GroM h' tR tI h1.size y.2 gs (kerB Fe piv p (cols M) y.1)) (by kernel_rfl) (cols M) (0, .slice none 0 0) ?_ ⟨rfl, rfl, trivial⟩ ?_
    · exact ⟨Ext.refl _, by omega, by omega, [], groM_nil _ _ _ _⟩
    rintro k ⟨f, ba⟩ s2 h2 ⟨hF, rfl, hf, gs, HZ⟩
    dsimp only at hf HZ ⊢
    refine w_seq ?_
    refine w_reg ?_
    refine r_lss rfl rfl (fun hc2 => ?_) (fun hc2 => ?_)   -- t32 := binOp lss 3 t31 t30 3
    · skip
      refine r_nil (q_t ?_)
      refine w_seq ?_
      refine w_true rfl ?_
      refine w_skip (q_t ?_)
      refine w_seq ?_
      refine w_block ?_
      refine w_seq ?_
      refine w_reg ?_
      refine r_mv (r_as (r_nil (q_t ?_)))
      refine w_seq ?_
      refine w_reg ?_
      refine r_mv ?_
      have hEf := hE1.trans hF
      refine r_ixmE (n := 0) sl_MM rfl HM hEf rfl (List.getElem?_eq_getElem (by omega)) fun aY rY haY hrY => ?_
      refine r_ld na_I64 rfl haY (r_leni sl_I64 rfl (Ints.ext hrY hEf) ?_)
      rw [← hc0]
      refine r_mk (n := cols M) sl_I64 ze_i64 rfl trivial rfl rfl (by omega) (by omega) ⟨trivial, ?_⟩
      have hF2 := ext_push h2 (.cells (List.replicate (cols M) (.int .i64 0)).toArray tI (0, 0))
      have HX0 := ownI_new h2 tI (cols M) 0 (by unfold maxLen; omega)
      refine r_as (r_nil (q_t ?_))
      refine w_seq ?_
      refine w_reg ?_
      refine r_mv (r_mv (r_ixo (n := f) sl_I64 rfl HX0 rfl (by simp; omega) ?_))
      refine r_sto na_i64 rfl rfl rfl HX0 (by simp; omega) ?_
      have HX1 := HX0.setI (j := f) (by simp; omega) 1
      rw [← range_rep, range_set (g := kerF Fe piv p f 0) (fun q _ hne => by simp [kerF, hne]) (by simp [kerF])] at HX1
      have hF2 := hF2.thenUpd (upd_set _ ⟨h2.size, f, none⟩ (.int .i64 1)) (fun k hk => by have hk2 : k = h2.size := hk; omega)
      refine r_nil (q_t ?_)
      refine w_seq ?_
      refine w_reg ?_
      refine r_as (r_nil (q_t ?_))
      refine w_seq ?_
      refine w_seq ?_
      refine w_reg ?_
      refine r_mv (r_lens sl_II rfl (HS2.ext (hF.trans hF2)) ?_)
      refine r_mv (r_nil (q_t ?_))
      refine w_block ?_
      refine w_loop 73786958702652190720 (fun y : Nat × Bool => [(44, .int .i64 (y.1 : Int)), (12, .bool y.2)]) (fun k y h' => Ext h2 h' ∧ k = piv.length - y.1 ∧ y.1 ≤ piv.length ∧ y.2 = (!decide (f ∈ piv.take y.1)) ∧ OwnA h' tI h2.size (.slice (some ⟨h2.size, 0, none⟩) (cols M) (cols M)) (((List.range (cols M)).map (kerF Fe piv p f y.1)).map (.int .i64))) (by kernel_rfl) piv.length (0, true) ?_ ⟨rfl, rfl, trivial⟩ ?_
      · exact ⟨hF2, by omega, by omega, by simp, HX1⟩
      rintro k ⟨i, fr0⟩ s3 h3 ⟨hG, rfl, hi, hfree, HX⟩
      dsimp only at hi hfree HX ⊢
      refine w_seq ?_
      rw [List.length_map]
      refine w_reg ?_
      refine r_lss rfl rfl (fun hc3 => ?_) (fun hc3 => ?_)   -- t45 := binOp lss 3 t44 t43 3
      · skip
        refine r_nil (q_t ?_)
        refine w_seq ?_
        refine w_true rfl ?_
        refine w_skip (q_t ?_)
        refine w_seq ?_
        refine w_block ?_
        refine w_seq ?_
        refine w_reg ?_
        refine r_mv ?_
        have hip : i < piv.length := by omega
        have hpi := hpl.2.2 piv[i] (List.getElem_mem _)
        have hms := mem_take_succ (q := f) hip
        refine r_ixs sl_II rfl (HS2.ext (hF.trans hG)) rfl (show (piv.map natV)[i]? = some (natV piv[i]) by rw [List.getElem?_map, List.getElem?_eq_getElem hip]; rfl) fun aJ haJ => ?_
        refine r_ld na_int rfl haJ (r_as (r_as (r_nil (q_t ?_))))
        refine w_join 3940649673953280 (fun x : Bool => [(12, .bool x)]) (fun x h' => h' = h3 ∧ x = !decide (f ∈ piv.take (i + 1))) (by kernel_rfl) ?_ ?_
        · skip
          refine w_seq ?_
          refine w_reg ?_
          refine r_mv (r_mv (r_eql rfl rfl (fun hc4 => ?_) (fun hc4 => ?_)))   -- t51 := binOp eql 3 t49 t50 3
          · skip
            refine r_nil (q_t ?_)
            refine w_true rfl ?_
            refine w_reg ?_
            refine r_as (r_nil (q_t ?_))
            refine ⟨false, ⟨rfl, ?_⟩, rfl, trivial⟩
            have : f ∈ piv.take (i + 1) := hms.2 (.inr (by omega))
            simp [this]
          · skip
            refine r_nil (q_t ?_)
            refine w_false rfl ?_
            refine w_skip (q_t ?_)
            refine ⟨_, ⟨rfl, ?_⟩, rfl, trivial⟩
            rw [hfree]
            congr 1
            rw [decide_eq_decide, hms]
            exact ⟨.inl, fun hh => hh.elim id (fun he => absurd he (by omega))⟩
        rintro fr s9 h3 ⟨rfl, hfr⟩
        have hfb := hbd i f (by omega) (by omega)
        have hCE := hF.trans hG
        refine w_reg ?_
        refine r_mv (r_mv (r_mv (r_mv (r_ixmE sl_MM rfl HM2 hCE rfl (tab_row (by omega)) fun aR rR haR hrR => ?_))))
        refine r_ld na_I64 rfl haR (r_mv (r_ixi sl_I64 rfl (Ints.ext hrR hCE) rfl (range_at (by omega)) fun aX haX => ?_))
        refine r_ld na_i64 rfl haX (r_neg rfl ?_)
        rw [show IntKind.i64.wrap (0 - Fe i f) = -(Fe i f) by rw [IntKind.wrap_i64]; omega]
        refine r_mv (r_call trivial rfl (Mod_ok _ (by omega) (by omega) _) fun rv h3' hk => ?_)
        obtain ⟨rfl, rfl⟩ := hk
        refine ⟨trivial, ?_⟩
        rw [neg_mod]
        refine r_ixo (n := piv[i]) sl_I64 rfl HX rfl (by simp; omega) ?_
        refine r_sto na_i64 rfl rfl rfl HX (by simp; omega) ?_
        have HX2 := HX.setI (j := piv[i]) (by simp; omega) ((p - Fe i f) % p)
        rw [kerF_set (List.getElem?_eq_getElem hip) rfl] at HX2
        refine r_nil (q_b (q_t ?_))
        refine w_reg ?_
        refine r_inc rfl (by omega) (r_mv (r_nil (q_t ?_)))
        exact ⟨piv.length - (i + 1), (i + 1, fr), by first | omega | (dsimp only; omega), ⟨hG.thenUpd (upd_set _ _ _) (fun k hk => by have hk2 : k = h2.size := hk; omega), rfl, by first | omega | (dsimp only; omega), hfr, HX2⟩, rfl, rfl, trivial⟩
      · skip
        refine r_nil (q_t ?_)
        refine w_seq ?_
        refine w_false rfl ?_
        refine w_exit (q_tx (q_tx (q_bx (q_t ?_))))
        refine w_seq ?_
        refine w_reg ?_
        refine r_mv (r_nil (q_t ?_))
        refine ⟨_, rfl, fun hc5 => ?_, fun hc5 => ?_⟩
        · skip
          refine w_reg ?_
          refine r_mv (r_mv ?_)
          have HZ2 := HZ.ext hG
          obtain ⟨rs, hrs, hrsl⟩ := HZ2.gro
          have hkl := kerB_len (F := Fe) (piv := piv) (p := p) (c := cols M) (k := f)
          refine r_push sl_MM ze_I64 rfl (fun _ => trivial) (fun _ => rfl) rfl HX.one hrs (by have := hG.1; have := hF.1; omega) (by omega) (by omega) fun p' ba' h4 HG4 hU4 hb4 => ?_
          refine r_as (r_nil (q_b (q_t ?_)))
          refine w_reg ?_
          refine r_inc rfl (by omega) (r_mv (r_nil (q_t ?_)))
          obtain rfl : i = piv.length := by omega
          rw [List.take_length] at hfree
          have hmem : f ∉ piv := by
            rw [hfree] at hc5; simpa using hc5
          refine ⟨cols M - (f + 1), (f + 1, ba'), by first | omega | (dsimp only; omega), ⟨(hF.trans hG).thenUpd hU4 (fun k hk => by have := (hrs.blk k hk).1; omega), rfl, by first | omega | (dsimp only; omega), gs ++ [h2.size], ?_⟩, rfl, rfl, trivial⟩
          dsimp only
          rw [← kerB_yes hmem]
          exact HZ2.push hrs HX (fun hm => by have := HZ.lt _ hm; omega) hF.1 (fun he => by have := HZ.topLt _ he; omega) HG4 hU4 hb4
        · skip
          refine w_skip (q_b (q_t ?_))
          refine w_reg ?_
          refine r_inc rfl (by omega) (r_mv (r_nil (q_t ?_)))
          obtain rfl : i = piv.length := by omega
          rw [List.take_length] at hfree
          have hmem : f ∈ piv := by
            rw [hfree] at hc5; simpa using hc5
          refine ⟨cols M - (f + 1), (f + 1, ba), by first | omega | (dsimp only; omega), ⟨hF.trans hG, rfl, by first | omega | (dsimp only; omega), gs, ?_⟩, rfl, rfl, trivial⟩
          dsimp only
          rw [kerB_no hmem]
          exact HZ.ext hG
    · skip
      refine r_nil (q_t ?_)
      refine w_seq ?_
      refine w_false rfl ?_
      refine w_exit (q_tx (q_tx (q_bx (q_t ?_))))
      refine w_seq ?_
      refine w_seq ?_
      refine w_reg ?_
      refine r_mv (r_lenm sl_MM rfl HZ.mat ?_)
      refine r_eql rfl rfl (fun hc6 => ?_) (fun hc6 => ?_)   -- t74 := binOp eql 3 t73 0:i64 3
      · skip
        refine r_nil (q_t ?_)
        refine w_true rfl ?_
        refine w_seq ?_
        refine w_reg ?_
        refine r_as (r_as (r_nil (q_t ?_)))
        refine w_ret (q_tr ?_)
        refine ⟨_, retV_2, ?_⟩
        obtain rfl : f = cols M := by omega
        have hnil : kerB Fe piv p (cols M) (cols M) = [] := List.eq_nil_of_length_eq_zero (by omega)
        refine ⟨hE1.trans hF, .slice none 0 0, ?_, ?_⟩
        · have : echE M p = 0 := by omega
          rw [this]; rfl
        · simp only [kerS, hpb, if_true, hFe, hpiv, hnil, echZ_nil]; exact mat_nil _
      · skip
        refine r_nil (q_t ?_)
        refine w_false rfl ?_
        refine w_skip (q_t ?_)
        refine w_seq ?_
        refine w_reg ?_
        refine r_mv (r_mv ?_)
        obtain rfl : f = cols M := by omega
        have hkl := kerB_len (F := Fe) (piv := piv) (p := p) (c := cols M) (k := cols M)
        refine r_call trivial rfl (refrows_ok HZ.mat (by omega) (by omega) (by omega) (by omega) kerB_rows hp hp2) fun x2 h5 hk => ?_
        obtain ⟨hE5, vk, vq, rfl, HM5, _⟩ := hk
        refine ⟨trivial, ?_⟩
        rw [red_of_rem (kerB_rem hp1)] at HM5
        refine r_mv (r_ext rfl rfl (r_ext rfl rfl (r_as (r_as (r_nil (q_t ?_))))))
        refine w_seq ?_
        refine w_reg ?_
        refine r_mv (r_as (r_as (r_nil (q_t ?_))))
        refine w_ret ?_
        refine ⟨_, retV_2, ?_⟩
        refine ⟨hE1.trans (hF.trans hE5), vk, ?_, ?_⟩
        · have : echE M p = 0 := by omega
          rw [this]; rfl
        · simp only [kerS, hpb, if_true, hFe, hpiv]; exact HM5

end Go.Proofs.YtdlfineibanppaaDoor
