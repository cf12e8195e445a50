/-
  Contracts of Echelon, Rank and Kernel of package modular, for every argument.
-/
import Derived.Test.YtdlfineibanppaaDoorEch2
import Derived.Test.YtdlfineibanppaaDoorKerS
namespace Go.Proofs.YtdlfineibanppaaDoor
open Go Go.QF
set_option linter.unusedVariables false
set_option maxRecDepth 100000

theorem mem_take_succ {l : List Nat} {i q : Nat} (hi : i < l.length) : q ∈ l.take (i + 1) ↔ q ∈ l.take i ∨ q = l[i] := by
  rw [← take_snoc (List.getElem?_eq_getElem hi), List.mem_append, List.mem_singleton]
theorem map_const {α : Type} (n : Nat) (x : α) : (List.range n).map (fun _ => x) = List.replicate n x := List.ext_getElem (by simp) fun i h1 h2 => by simp
def PostE (h : Heap) (err : Int) (S : List (List Int)) (piv : List Nat) (x : Value) (h' : Heap) : Prop := Ext h h' ∧ ∃ vr vp, x = .tuple #[vr, vp, .int .i64 err] ∧ Mat h' vr S ∧ Sl h' vp (piv.map natV)
/-- What Kernel leaves: the matrix is only read afterwards. -/
def PostK (h : Heap) (err : Int) (S : List (List Int)) (v : Value) (h' : Heap) : Prop := Ext h h' ∧ ∃ r, v = .tuple #[r, .int .i64 err] ∧ Mat h' r S

theorem echelon_nil (p : Int) {h : Heap} {v : Value} (HS : Sl h v []) : CallH Tryd.prog 42 #[v, .int .i64 p] h fun x h' => Ext h h' ∧ x = .tuple #[.slice none 0 0, .slice none 0 0] := by
  refine calls_of_W (l := [_, _]) mx Tryd.func42 rfl rfl rfl rfl rfl (by kernel_rfl) ?_
  refine w_seq ?_
  refine w_reg ?_
  refine r_as (r_as (r_nil (q_t ?_)))
  refine w_seq ?_
  refine w_reg ?_
  refine r_mv (r_call trivial rfl (eliminator_ok p h) fun fv h1 hk => ?_)
  obtain ⟨rfl, rfl⟩ := hk
  refine ⟨trivial, ?_⟩
  refine r_as (r_nil (q_t ?_))
  refine w_seq ?_
  refine w_reg ?_
  refine r_as (r_nil (q_t ?_))
  refine w_seq ?_
  refine w_seq ?_
  refine w_reg ?_
  refine r_mv (r_lens sl_MM rfl (Sl.ext HS (ext_push _ _)) ?_)
  refine r_eql (b := 0) rfl rfl (fun hc1 => ?_) (fun hc1 => absurd rfl hc1)
  refine r_nil (q_t ?_)
  refine w_true rfl ?_
  refine w_seq ?_
  refine w_reg ?_
  refine r_as (r_as (r_nil (q_t ?_)))
  refine w_ret (q_tr ?_)
  refine ⟨_, retV_2, ?_⟩
  exact ⟨ext_push _ _, rfl⟩

/-- A basis that has grown is brought to echelon form. -/
theorem echelonG_ok {h : Heap} {lo : Nat} {v : Value} {gs : List Nat} {Z : List (List Int)} {c : Nat} {p : Int} (HG : GroM h tR tI lo v gs Z) (hZ : ∀ z ∈ Z, z.length = c) (hr2 : Z.length ≤ 1000000) (hc2 : c ≤ 1000000) (hp : Pr p) (hp2 : p ≤ 2147483647) (hrem : Rem p Z) :
    CallH Tryd.prog 42 #[v, .int .i64 p] h fun x h' => Upd (lo ≤ ·) h h' ∧ ∃ vr vp, x = .tuple #[vr, vp] ∧ Mat h' vr (echZ Z c p) := by
  have hp1 := hp.1
  cases Z with
  | nil =>
    obtain ⟨rs, hrs, hl⟩ := HG.gro
    obtain rfl : rs = [] := List.eq_nil_of_length_eq_zero hl
    refine (echelon_nil p hrs.sl).mono fun x h' hk => ?_
    obtain ⟨hE, rfl⟩ := hk
    exact ⟨hE.upd, _, _, rfl, by rw [echZ_nil]; exact mat_nil _⟩
  | cons z0 Z0 =>
    obtain ⟨b, HO, hb⟩ := HG.own (by simp)
    have ht := tab_eq hZ
    have HO2 : PartM h tR tI b gs v (z0 :: Z0).length (tab (z0 :: Z0).length c (ent (z0 :: Z0))) := by rw [← ht]; exact HO
    refine (echelon_ok HO2 (by simp) hr2 hc2 hp hp2 (bd_ent (by omega) hrem)).mono fun x h' hk => ?_
    obtain ⟨hU, vr, vp, rfl, HM, HS⟩ := hk
    exact ⟨hU.mono fun k _ hk => hb k hk, vr, vp, rfl, HM⟩

theorem Echelon_ok {h : Heap} {v : Value} {M : List (List Int)} (HM : Mat h v M) (p : Int) (HO : OffH h) : CallH Tryd.prog 25 #[v, .int .i64 p] h (PostE h (echE M p) (echS M p) (pivS M p)) := by
  refine calls_of_W (l := [_, _]) mx Tryd.func25 rfl rfl rfl rfl rfl (by kernel_rfl) ?_
  refine w_seq ?_
  refine w_reg ?_
  refine r_as (r_as (r_as (r_nil (q_t ?_))))
  refine w_seq ?_
  refine w_seq ?_
  refine w_reg ?_
  refine r_mv (r_mv (r_call trivial rfl (checkPrime_ok HM p HO) fun v' h hk => ?_))
  obtain ⟨rfl, rfl⟩ := hk
  refine ⟨trivial, ?_⟩
  refine r_as (r_nil (q_t ?_))
  refine w_seq ?_
  refine w_reg ?_
  refine r_mv (r_neq rfl rfl (fun hc1 => ?_) (fun hc1 => ?_))   -- t14 := binOp neq 30 t13 0:i64 30
  · skip
    refine r_nil (q_t ?_)
    refine w_true rfl ?_
    refine w_seq ?_
    refine w_reg ?_
    refine r_mv (r_as (r_as (r_as (r_nil (q_t ?_)))))
    refine w_ret (q_tr ?_)
    refine ⟨_, retV_3, ?_⟩
    have hpb := echE_not (M := M) (p := p) (by unfold echE; omega)
    exact ⟨Ext.refl _, _, _, rfl, by simp only [echS, hpb]; exact mat_nil _, by simp only [pivS, hpb]; exact sl_nil _⟩
  · skip
    refine r_nil (q_t ?_)
    refine w_false rfl ?_
    refine w_skip (q_t ?_)
    refine w_seq ?_
    refine w_reg ?_
    refine r_mv (r_mv ?_)
    have hpb := echE_of (M := M) (p := p) (by unfold echE; omega)
    obtain ⟨hv, hp2, hp⟩ := priB_of hpb
    have hp1 := hp.1
    have hv1 := hv.1
    have hv2 := hv.2.1
    have hv4 := hv.2.2.2.1
    refine r_call trivial rfl (residues_ok HM hp1 hp2 (by omega) (valid_le hv)) fun r1 h2 hk => ?_
    obtain ⟨hE1, b, gs, HO1, hb⟩ := hk
    refine ⟨trivial, ?_⟩
    have hlr := red_len M p
    have HO2 : PartM h2 tR tI b gs r1 M.length (tab M.length (cols M) (ent (redM M p))) := by
      have ht := tab_eq (A := redM M p) (c := cols M) (red_rows hv.2.2.2.2)
      rw [hlr] at ht
      rw [← ht]
      have : OwnM h2 tR tI b gs r1 (redM M p) := HO1
      unfold OwnM at this
      rw [hlr] at this
      exact this
    refine r_mv (r_call trivial rfl (echelon_ok HO2 (by omega) (by omega) (by omega) hp hp2 (by have := bd_ent (c := cols M) (by omega : 0 < p) (rem_red (by omega : 0 < p) M); rw [hlr] at this; exact this)) fun x2 h3 hk => ?_)
    obtain ⟨hU, vr, vp, rfl, HM2, HS2⟩ := hk
    refine ⟨trivial, ?_⟩
    refine r_mv (r_ext rfl rfl (r_ext rfl rfl (r_as (r_as (r_nil (q_t ?_))))))
    refine w_seq ?_
    refine w_reg ?_
    refine r_mv (r_mv (r_as (r_as (r_as (r_nil (q_t ?_))))))
    refine w_ret ?_
    refine ⟨_, retV_3, ?_⟩
    refine ⟨hE1.thenUpd hU (fun k hk => hb k hk), vr, vp, ?_, by simp only [echS, hpb]; exact HM2, by simp only [pivS, hpb]; exact HS2⟩
    have : echE M p = 0 := by unfold echE; omega
    rw [this]; rfl

theorem Rank_ok {h : Heap} {v : Value} {M : List (List Int)} (HM : Mat h v M) (p : Int) (HO : OffH h) : CallH Tryd.prog 27 #[v, .int .i64 p] h fun x h' => Ext h h' ∧ x = .tuple #[.int .i64 ((echS M p).length : Int), .int .i64 (echE M p)] := by
  refine calls_of_W (l := [_, _]) mx Tryd.func27 rfl rfl rfl rfl rfl (by kernel_rfl) ?_
  refine w_seq ?_
  refine w_reg ?_
  refine r_as (r_as (r_nil (q_t ?_)))
  refine w_seq ?_
  refine w_reg ?_
  refine r_mv (r_mv (r_call trivial rfl (Echelon_ok HM p HO) fun x1 h1 hk => ?_))
  obtain ⟨hE1, vr, vp, rfl, HM2, HS2⟩ := hk
  refine ⟨trivial, ?_⟩
  refine r_mv (r_ext rfl rfl (r_ext rfl rfl (r_ext rfl rfl (r_as (r_as (r_as (r_nil (q_t ?_))))))))
  refine w_seq ?_
  refine w_reg ?_
  refine r_mv (r_lenm sl_MM rfl HM2 ?_)
  refine r_mv (r_as (r_as (r_nil (q_t ?_))))
  refine w_ret ?_
  refine ⟨_, retV_2, ?_⟩
  exact ⟨hE1, rfl⟩

theorem Kernel_ok {h : Heap} {v : Value} {M : List (List Int)} (HM : Mat h v M) (p : Int) (HO : OffH h) : CallH Tryd.prog 19 #[v, .int .i64 p] h (PostK h (echE M p) (kerS M p)) := by
  refine calls_of_W (l := [_, _]) mx Tryd.func19 rfl rfl rfl rfl rfl (by kernel_rfl) ?_
  refine w_seq ?_
  refine w_reg ?_
  refine r_as (r_as (r_nil (q_t ?_)))
  refine w_seq ?_
  refine w_reg ?_
  refine r_mv (r_mv (r_call trivial rfl (Echelon_ok HM p HO) fun x1 h1 hk => ?_))
  obtain ⟨hE1, vr, vp, rfl, HM2, HS2⟩ := hk
  refine ⟨trivial, ?_⟩
  refine r_mv (r_ext rfl rfl (r_ext rfl rfl (r_ext rfl rfl (r_as (r_as (r_as (r_nil (q_t ?_))))))))
  refine w_seq ?_
  refine w_seq ?_
  refine w_reg ?_
  refine r_mv (r_neq rfl rfl (fun hc1 => ?_) (fun hc1 => ?_))   -- t28 := binOp neq 30 t27 0:i64 30
  · skip
    refine r_nil (q_t ?_)
    refine w_true rfl ?_
    refine w_seq ?_
    refine w_reg ?_
    refine r_mv (r_as (r_as (r_nil (q_t ?_))))
    refine w_ret (q_tr ?_)
    refine ⟨_, retV_2, ?_⟩
    have hpb := echE_not (M := M) (p := p) (by omega)
    exact ⟨hE1, _, rfl, by simp only [kerS, hpb]; exact mat_nil _⟩
  · skip
    refine r_nil (q_t ?_)
    refine w_false rfl ?_
    refine w_skip (q_t ?_)
    refine w_seq ?_
    have hpb := echE_of (M := M) (p := p) (by omega)
    obtain ⟨hv, hp2, hp⟩ := priB_of hpb
    have hp1 := hp.1
    have hv1 := hv.1
    have hv2 := hv.2.1
    have hv4 := hv.2.2.2.1
    have hc0 := cols_eq (M := M) (by omega)
    have hbd := bd_eF (M := M) (p := p) (by omega)
    have hpl := piv_eF M p
    simp only [echS, hpb, if_true] at HM2
    simp only [pivS, hpb, if_true] at HS2
    obtain ⟨Fe, hFe⟩ : ∃ Fe, (eF M p).1 = Fe := ⟨_, rfl⟩
    obtain ⟨piv, hpiv⟩ : ∃ piv, (eF M p).2 = piv := ⟨_, rfl⟩
    rw [hFe, hpiv] at HM2
    rw [hpiv] at HS2 hpl
    rw [hFe] at hbd
    refine w_reg ?_
    refine r_mv (r_ixmE (n := 0) sl_MM rfl HM hE1 rfl (List.getElem?_eq_getElem (by omega)) fun aZ rZ haZ hrZ => ?_)
    refine r_ld na_I64 rfl haZ (r_leni sl_I64 rfl (Ints.ext hrZ hE1) ?_)
    rw [← hc0]
    refine r_as (r_nil (q_t ?_))
    refine w_seq ?_
    refine w_reg ?_
    refine r_mv (r_mk (n := cols M) sl_BB ze_bool rfl trivial rfl rfl (by omega) (by omega) ⟨trivial, ?_⟩)
    have hF0 := ext_push h1 (.cells (List.replicate (cols M) (.bool false)).toArray 4 (0, 0))
    have HB0 := ownA_new h1 4 (cols M) (.bool false) (by unfold maxLen; omega)
    refine r_as (r_nil (q_t ?_))
    refine w_seq ?_
    refine w_seq ?_
    refine w_reg ?_
    refine r_mv (r_lens sl_II rfl (HS2.ext hF0) ?_)
    refine r_mv (r_nil (q_t ?_))
    refine w_block ?_
    refine w_loop 70093866274816 (fun i : Nat => [(38, .int .i64 (i : Int))]) (fun k i h' => Ext h1 h' ∧ k = piv.length - i ∧ i ≤ piv.length ∧ OwnA h' 4 h1.size (.slice (some ⟨h1.size, 0, none⟩) (cols M) (cols M)) ((List.range (cols M)).map fun q => Value.bool (decide (q ∈ piv.take i))) ∧ h1.size + 1 ≤ h'.size) (by kernel_rfl) piv.length 0 ?_ ⟨rfl, trivial⟩ ?_
    · exact ⟨hF0, by omega, by omega, by simpa [map_const] using HB0, by simp⟩
    rintro k i s h2 ⟨hF, rfl, hi, HBi, hsz⟩
    refine w_seq ?_
    rw [List.length_map]
    refine w_reg ?_
    refine r_lss rfl rfl (fun hc2 => ?_) (fun hc2 => ?_)   -- t39 := binOp lss 3 t38 t37 3
    · skip
      refine r_nil (q_t ?_)
      refine w_seq ?_
      refine w_true rfl ?_
      refine w_skip (q_t ?_)
      refine w_seq ?_
      refine w_block ?_
      refine w_seq ?_
      refine w_reg ?_
      have hip : i < piv.length := by omega
      have hpi := hpl.2.2 piv[i] (List.getElem_mem _)
      refine r_ixs sl_II rfl (HS2.ext hF) rfl (show (piv.map natV)[i]? = some (natV piv[i]) by rw [List.getElem?_map, List.getElem?_eq_getElem hip]; rfl) fun aP haP => ?_
      refine r_ld na_int rfl haP (r_as (r_nil (q_t ?_)))
      refine w_reg ?_
      refine r_mv (r_mv (r_ixo (n := piv[i]) sl_BB rfl HBi rfl (by simp; omega) ?_))
      refine r_sto na_bool rfl rfl rfl HBi (by simp; omega) ?_
      have HB2 := HBi.set piv[i] (.bool true) (by simp; omega)
      rw [range_set (g := fun q => Value.bool (decide (q ∈ piv.take (i + 1)))) (fun q _ hne => by simp [mem_take_succ hip, hne]) (by simp [mem_take_succ hip])] at HB2
      refine r_nil (q_b (q_t ?_))
      refine w_reg ?_
      refine r_inc rfl (by omega) (r_mv (r_nil (q_t ?_)))
      refine ⟨piv.length - (i + 1), i + 1, by omega, ⟨hF.thenUpd (upd_set _ _ _) (fun k hk => by have hk2 : k = h1.size := hk; omega), rfl, by omega, HB2, by rw [size_setH]; exact hsz⟩, rfl, trivial⟩
    · skip
      refine r_nil (q_t ?_)
      refine w_seq ?_
      refine w_false rfl ?_
      refine w_exit (q_tx (q_tx (q_bx (q_t ?_))))
      refine w_seq ?_
      refine w_reg ?_
      refine r_as (r_nil (q_t ?_))
      refine w_seq ?_
      refine w_seq ?_
      obtain rfl : i = piv.length := by omega
      rw [List.take_length] at HBi
      refine w_reg ?_
      refine r_mv (r_mv (r_nil (q_t ?_)))
      refine w_block ?_
      refine w_loop 77371252455195529693093888 (fun y : Nat × Value => [(47, .int .i64 (y.1 : Int)), (13, y.2)]) (fun k y h' => Ext h1 h' ∧ k = cols M - y.1 ∧ y.1 ≤ cols M ∧ OwnA h' 4 h1.size (.slice (some ⟨h1.size, 0, none⟩) (cols M) (cols M)) ((List.range (cols M)).map fun q => Value.bool (decide (q ∈ piv))) ∧ h1.size + 1 ≤ h'.size ∧ ∃ gs, GroM h' tR tI (h1.size + 1) y.2 gs (kerB Fe piv p (cols M) y.1)) (by kernel_rfl) (cols M) (0, .slice none 0 0) ?_ ⟨rfl, rfl, trivial⟩ ?_
      · exact ⟨hF, by omega, by omega, HBi, hsz, [], groM_nil _ _ _ _⟩
      rintro k ⟨f, ba⟩ s2 h2 ⟨hF, rfl, hf, HBf, hsz, gs, HZ⟩
      dsimp only at hf HZ ⊢
      refine w_seq ?_
      refine w_reg ?_
      refine r_lss rfl rfl (fun hc3 => ?_) (fun hc3 => ?_)   -- t48 := binOp lss 3 t47 t46 3
      · skip
        refine r_nil (q_t ?_)
        refine w_seq ?_
        refine w_true rfl ?_
        refine w_skip (q_t ?_)
        refine w_seq ?_
        refine w_block ?_
        refine w_seq ?_
        refine w_reg ?_
        refine r_mv (r_as (r_nil (q_t ?_)))
        refine w_seq ?_
        refine w_seq ?_
        refine w_reg ?_
        refine r_mv (r_mv (r_ixs sl_BB rfl HBf.sl rfl (range_at (by omega)) fun aQ haQ => ?_))
        refine r_ld na_bool rfl haQ (r_nil (q_t ?_))
        refine ⟨_, rfl, fun hc4 => ?_, fun hc4 => ?_⟩
        · skip
          refine w_exit (q_tx (q_bx (q_t ?_)))
          refine w_reg ?_
          refine r_inc rfl (by omega) (r_mv (r_nil (q_t ?_)))
          have hmem : f ∈ piv := by simpa using hc4
          refine ⟨cols M - (f + 1), (f + 1, ba), by first | omega | (dsimp only; omega), ⟨hF, rfl, by first | omega | (dsimp only; omega), HBf, hsz, gs, ?_⟩, rfl, rfl, trivial⟩
          dsimp only
          rw [kerB_no hmem]
          exact HZ
        · skip
          refine w_skip (q_t ?_)
          refine w_seq ?_
          refine w_reg ?_
          refine r_mv (r_mk (n := cols M) sl_I64 ze_i64 rfl trivial rfl rfl (by omega) (by omega) ⟨trivial, ?_⟩)
          have hF2 := ext_push h2 (.cells (List.replicate (cols M) (.int .i64 0)).toArray tI (0, 0))
          have HX0 := ownI_new h2 tI (cols M) 0 (by unfold maxLen; omega)
          refine r_as (r_nil (q_t ?_))
          refine w_seq ?_
          refine w_reg ?_
          refine r_mv (r_mv (r_ixo (n := f) sl_I64 rfl HX0 rfl (by simp; omega) ?_))
          refine r_sto na_i64 rfl rfl rfl HX0 (by simp; omega) ?_
          have HX1 := HX0.setI (j := f) (by simp; omega) 1
          rw [← range_rep, range_set (g := kerF Fe piv p f 0) (fun q _ hne => by simp [kerF, hne]) (by simp [kerF])] at HX1
          have hF2 := hF2.thenUpd (upd_set _ ⟨h2.size, f, none⟩ (.int .i64 1)) (fun k hk => by have hk2 : k = h2.size := hk; omega)
          refine r_nil (q_t ?_)
          refine w_seq ?_
          refine w_seq ?_
          refine w_reg ?_
          refine r_mv (r_lens sl_II rfl (HS2.ext (hF.trans hF2)) ?_)
          refine r_mv (r_nil (q_t ?_))
          refine w_block ?_
          refine w_loop 2417849333386249135915008 (fun i : Nat => [(61, .int .i64 (i : Int))]) (fun k i h' => Ext h2 h' ∧ k = piv.length - i ∧ i ≤ piv.length ∧ OwnA h' tI h2.size (.slice (some ⟨h2.size, 0, none⟩) (cols M) (cols M)) (((List.range (cols M)).map (kerF Fe piv p f i)).map (.int .i64))) (by kernel_rfl) piv.length 0 ?_ ⟨rfl, trivial⟩ ?_
          · exact ⟨hF2, by omega, by omega, HX1⟩
          rintro k i s3 h3 ⟨hG, rfl, hi, HX⟩
          refine w_seq ?_
          rw [List.length_map]
          refine w_reg ?_
          refine r_lss rfl rfl (fun hc5 => ?_) (fun hc5 => ?_)   -- t62 := binOp lss 3 t61 t60 3
          · skip
            refine r_nil (q_t ?_)
            refine w_seq ?_
            refine w_true rfl ?_
            refine w_skip (q_t ?_)
            refine w_seq ?_
            refine w_block ?_
            refine w_seq ?_
            refine w_reg ?_
            refine r_mv ?_
            have hip : i < piv.length := by omega
            have hpi := hpl.2.2 piv[i] (List.getElem_mem _)
            refine r_ixs sl_II rfl (HS2.ext (hF.trans hG)) rfl (show (piv.map natV)[i]? = some (natV piv[i]) by rw [List.getElem?_map, List.getElem?_eq_getElem hip]; rfl) fun aJ haJ => ?_
            refine r_ld na_int rfl haJ (r_as (r_as (r_nil (q_t ?_))))
            have hfb := hbd i f (by omega) (by omega)
            have hCE := hF.trans hG
            refine w_reg ?_
            refine r_mv (r_mv (r_mv (r_mv (r_mv (r_ixmE sl_MM rfl HM2 hCE rfl (tab_row (by omega)) fun aR rR haR hrR => ?_)))))
            refine r_ld na_I64 rfl haR (r_mv (r_ixi sl_I64 rfl (Ints.ext hrR hCE) rfl (range_at (by omega)) fun aX haX => ?_))
            refine r_ld na_i64 rfl haX (r_subb rfl rfl (by omega) (by omega) (r_mv (r_remp rfl rfl (by omega) (by omega) (r_ixo (n := piv[i]) sl_I64 rfl HX rfl (by simp; omega) ?_))))
            refine r_sto na_i64 rfl rfl rfl HX (by simp; omega) ?_
            have HX2 := HX.setI (j := piv[i]) (by simp; omega) ((p - Fe i f) % p)
            rw [kerF_set (List.getElem?_eq_getElem hip) rfl] at HX2
            refine r_nil (q_b (q_t ?_))
            refine w_reg ?_
            refine r_inc rfl (by omega) (r_mv (r_nil (q_t ?_)))
            exact ⟨piv.length - (i + 1), i + 1, by omega, ⟨hG.thenUpd (upd_set _ _ _) (fun k hk => by have hk2 : k = h2.size := hk; omega), rfl, by omega, HX2⟩, rfl, trivial⟩
          · skip
            refine r_nil (q_t ?_)
            refine w_seq ?_
            refine w_false rfl ?_
            refine w_exit (q_tx (q_tx (q_bx (q_t ?_))))
            refine w_reg ?_
            refine r_mv (r_mv ?_)
            have HZ2 := HZ.ext hG
            obtain ⟨rs, hrs, hrsl⟩ := HZ2.gro
            have hkl := kerB_len (F := Fe) (piv := piv) (p := p) (c := cols M) (k := f)
            refine r_push sl_MM ze_I64 rfl (fun _ => trivial) (fun _ => rfl) rfl HX.one hrs (by have := hG.1; omega) (by omega) (by omega) fun p' ba' h4 HG4 hU4 hb4 => ?_
            refine r_as (r_nil (q_b (q_t ?_)))
            refine w_reg ?_
            refine r_inc rfl (by omega) (r_mv (r_nil (q_t ?_)))
            have hmem : f ∉ piv := by simpa using hc4
            obtain rfl : i = piv.length := by omega
            refine ⟨cols M - (f + 1), (f + 1, ba'), by first | omega | (dsimp only; omega), ⟨(hF.trans hG).thenUpd hU4 (fun k hk => by have := (hrs.blk k hk).1; omega), rfl, by first | omega | (dsimp only; omega), (HBf.ext hG).upd hU4 (fun hk => by have := (hrs.blk _ hk).1; omega), by have := hU4.1; have := hG.1; omega, gs ++ [h2.size], ?_⟩, rfl, rfl, trivial⟩
            dsimp only
            rw [← kerB_yes hmem]
            exact HZ2.push hrs HX (fun hm => by have := HZ.lt _ hm; omega) hsz (fun he => by have := HZ.topLt _ he; omega) HG4 hU4 hb4
      · skip
        refine r_nil (q_t ?_)
        refine w_seq ?_
        refine w_false rfl ?_
        refine w_exit (q_tx (q_tx (q_bx (q_t ?_))))
        refine w_seq ?_
        refine w_reg ?_
        refine r_mv (r_mv ?_)
        obtain rfl : f = cols M := by omega
        refine r_call trivial rfl (echelonG_ok HZ kerB_rows (by have := kerB_len (F := Fe) (piv := piv) (p := p) (c := cols M) (k := cols M); omega) (by omega) hp hp2 (kerB_rem hp1)) fun x2 h5 hk => ?_
        obtain ⟨hU5, vk, vq, rfl, HM5⟩ := hk
        refine ⟨trivial, ?_⟩
        refine r_mv (r_ext rfl rfl (r_ext rfl rfl (r_as (r_as (r_nil (q_t ?_))))))
        refine w_seq ?_
        refine w_reg ?_
        refine r_mv (r_as (r_as (r_nil (q_t ?_))))
        refine w_ret ?_
        refine ⟨_, retV_2, ?_⟩
        refine ⟨hE1.trans (hF.thenUpd hU5 (fun k hk => by omega)), vk, ?_, ?_⟩
        · have : echE M p = 0 := by omega
          rw [this]; rfl
        · simp only [kerS, hpb, if_true, hFe, hpiv]; exact HM5

end Go.Proofs.YtdlfineibanppaaDoor
