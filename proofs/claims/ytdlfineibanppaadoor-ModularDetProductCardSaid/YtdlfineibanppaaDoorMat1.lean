/-
  Contracts of the functions that make matrices: remainders, transposes, products. Conditions stand in each statement.
-/
import Derived.Test.YtdlfineibanppaaDoorRead2
import Derived.Test.YtdlfineibanppaaDoorGro
namespace Go.Proofs.YtdlfineibanppaaDoor
open Go Go.QF
set_option linter.unusedVariables false
set_option maxRecDepth 100000

abbrev tR : Nat := 46
abbrev tI : Nat := 2
/-- A matrix in new memory, its rows in blocks of their own, from block lo on. -/
def Fresh (lo : Nat) (h : Heap) (v : Value) (M : List (List Int)) : Prop := ∃ b gs, OwnM h tR tI b gs v M ∧ ∀ g ∈ b :: gs, lo ≤ g
theorem Fresh.mat {lo : Nat} {h : Heap} {v : Value} {M : List (List Int)} (H : Fresh lo h v M) : Mat h v M := let ⟨_, _, h1, _⟩ := H; h1.mat
theorem Fresh.ext {lo : Nat} {h h' : Heap} {v : Value} {M : List (List Int)} (H : Fresh lo h v M) (he : Ext h h') : Fresh lo h' v M := let ⟨b, gs, h1, h2⟩ := H; ⟨b, gs, PartM.ext h1 he, h2⟩
theorem Fresh.mono {lo lo' : Nat} {h : Heap} {v : Value} {M : List (List Int)} (H : Fresh lo h v M) (he : lo' ≤ lo) : Fresh lo' h v M := let ⟨b, gs, h1, h2⟩ := H; ⟨b, gs, h1, fun g hg => Nat.le_trans he (h2 g hg)⟩

theorem residues_ok {h : Heap} {v : Value} {M : List (List Int)} (HM : Mat h v M) {m : Int} (hm : 2 ≤ m) (hm2 : m ≤ 2147483647) (hl : M.length ≤ 1000000) (hrow : ∀ z ∈ M, z.length ≤ 1000000) :
    CallH Tryd.prog 46 #[v, .int .i64 m] h fun r h' => Ext h h' ∧ Fresh h.size h' r (M.map (·.map (· % m))) := by
  have hE := Ext.refl h
  refine calls_of_W (l := [_, _]) mx Tryd.func46 rfl rfl rfl rfl rfl (by kernel_rfl) ?_
  refine w_seq ?_
  refine w_reg ?_
  refine r_as (r_nil (q_t ?_))
  refine w_seq ?_
  refine w_reg ?_
  refine r_mv (r_lenm sl_MM rfl (HM.ext hE) (r_mk (n := M.length) sl_MM ze_I64 rfl trivial rfl rfl (by omega) (by omega) ⟨trivial, ?_⟩))
  have HP0 := partM_new h tR tI M.length (by unfold maxLen; omega)
  have hE := ext_push h (.cells (List.replicate M.length (.slice none 0 0)).toArray tR (0, 0))
  refine r_as (r_nil (q_t ?_))
  refine w_seq ?_
  refine w_seq ?_
  refine w_reg ?_
  refine r_mv (r_lenm sl_MM rfl (HM.ext hE) (r_mv (r_nil (q_t ?_))))
  refine w_block ?_
  refine w_loop 281474976678848 (fun i : Nat => [(15, .int .i64 (i : Int))]) (fun k i h' => Ext h h' ∧ k = M.length - i ∧ i ≤ M.length ∧ ∃ gs, PartM h' tR tI h.size gs (.slice (some ⟨h.size, 0, none⟩) M.length M.length) M.length ((M.take i).map (·.map (· % m))) ∧ ∀ g ∈ h.size :: gs, h.size ≤ g) (by kernel_rfl) M.length 0 ?_ ⟨rfl, trivial⟩ ?_
  · exact ⟨hE, by omega, by omega, [], by simpa using HP0, by simp⟩
  rintro k i s h1 ⟨hE, rfl, hi, gs, HP, hgs⟩
  refine w_seq ?_
  refine w_reg ?_
  refine r_lss rfl rfl (fun hc1 => ?_) (fun hc1 => ?_)   -- t16 := binOp lss 3 t15 t14 3
  · skip
    refine r_nil (q_t ?_)
    refine w_seq ?_
    refine w_true rfl ?_
    refine w_skip (q_t ?_)
    refine w_seq ?_
    refine w_block ?_
    refine w_seq ?_
    have hiM : i < M.length := by omega
    have hrl := hrow M[i] (List.getElem_mem _)
    refine w_reg ?_
    refine r_mv (r_ixmE sl_MM rfl HM hE rfl (List.getElem?_eq_getElem (by omega)) fun aR rR haR hrR => ?_)
    refine r_ld na_I64 rfl haR (r_as (r_as (r_nil (q_t ?_))))
    refine w_seq ?_
    refine w_reg ?_
    refine r_mv (r_mv (r_mv (r_leni sl_I64 rfl (Ints.ext hrR hE) (r_mk (n := M[i].length) sl_I64 ze_i64 rfl trivial rfl rfl (by omega) (by omega) ⟨trivial, ?_⟩))))
    have hP := ext_push h1 (.cells (List.replicate M[i].length (.int .i64 0)).toArray tI (0, 0))
    have HPa := HP.ext hP
    have hnew := ownI_new h1 tI M[i].length 0 (by unfold maxLen; omega)
    obtain ⟨rs, hTop, hrs⟩ := HPa.top
    refine r_ixo sl_MM rfl hTop rfl (by omega) ?_
    refine r_sto na_I64 rfl rfl rfl hTop (by omega) ?_
    have HPb := HPa.push (i := i) (by simp; omega) (by omega) hnew (fun hc => by have := HP.lt _ hc; omega)
    have hE := (hE.trans hP).thenUpd (upd_set _ ⟨h.size, i, none⟩ (.slice (some ⟨h1.size, 0, none⟩) M[i].length M[i].length)) (fun k hk => by have hk2 : k = h.size := hk; omega)
    refine r_nil (q_t ?_)
    refine w_seq ?_
    refine w_reg ?_
    refine r_mv (r_leni sl_I64 rfl (Ints.ext hrR hE) (r_mv (r_nil (q_t ?_))))
    refine w_block ?_
    have hE1 := HP.lt h.size (List.mem_cons_self ..)
    have hE1 : Ext h h1 := ‹Ext h h1›
    refine w_loop 140737219920640 (fun j : Nat => [(28, .int .i64 (j : Int))]) (fun k j h' => Ext h h' ∧ k = M[i].length - j ∧ j ≤ M[i].length ∧ PartM h' tR tI h.size (gs ++ [h1.size]) (.slice (some ⟨h.size, 0, none⟩) M.length M.length) M.length ((M.take i).map (·.map (· % m)) ++ [fillTo (M[i].map (· % m)) j])) (by kernel_rfl) M[i].length 0 ?_ ⟨rfl, trivial⟩ ?_
    · exact ⟨hE, by omega, by omega, by rw [fillTo_zero, List.length_map]; exact HPb⟩
    rintro k j s2 h2 ⟨hE, rfl, hj, HQ⟩
    refine w_seq ?_
    refine w_reg ?_
    refine r_lss rfl rfl (fun hc2 => ?_) (fun hc2 => ?_)   -- t29 := binOp lss 3 t28 t27 3
    · skip
      refine r_nil (q_t ?_)
      refine w_seq ?_
      refine w_true rfl ?_
      refine w_skip (q_t ?_)
      refine w_seq ?_
      refine w_block ?_
      refine w_seq ?_
      refine w_reg ?_
      refine r_mv (r_ixi sl_I64 rfl (Ints.ext hrR hE) rfl (List.getElem?_eq_getElem (by omega)) fun aX haX => ?_)
      refine r_ld na_i64 rfl haX (r_as (r_as (r_nil (q_t ?_))))
      refine w_draw (by kernel_rfl) ?_
      refine r_mv (r_mv (r_ixp sl_MM rfl HQ rfl (get_snoc (by simp; omega)) fun aQ rQ gQ haQ hgQ hrQ => ?_))
      refine r_ld na_I64 rfl haQ (r_mv (r_mv (r_mv (r_rem rfl rfl (by omega) (r_mv (r_addb rfl rfl (by have := tmod_bd (x := M[i][j]) (m := m) (by omega); omega) (by have := tmod_bd (x := M[i][j]) (m := m) (by omega); omega) (r_mv (r_remp rfl rfl (by have := tmod_bd (x := M[i][j]) (m := m) (by omega); omega) (by omega) (r_ixo sl_I64 rfl hrQ rfl (by rw [List.length_map, fillTo_len _ (by simp; omega), List.length_map]; omega) ?_)))))))))
      refine r_sto na_i64 rfl rfl rfl hrQ (by rw [List.length_map, fillTo_len _ (by simp; omega), List.length_map]; omega) ?_
      have HQ2 := HQ.setElem hgQ (get_snoc (by simp; omega)) (j := j) (by rw [fillTo_len _ (by simp; omega), List.length_map]; omega) ((M[i][j].tmod m + m) % m)
      rw [set_snoc (by simp; omega), fillTo_set _ (by rw [List.getElem?_map, List.getElem?_eq_getElem (by omega), tmod_add_mod (by omega)]; rfl)] at HQ2
      have hE := hE.thenUpd (upd_set h2 ⟨gQ, j, none⟩ (.int .i64 ((M[i][j].tmod m + m) % m))) (fun k hk => by have hk2 : k = gQ := hk; subst hk2; have := List.mem_of_getElem? hgQ; rcases List.mem_append.1 this with hg | hg; exact hgs _ (List.mem_cons_of_mem _ hg); simp at hg; subst hg; exact hE1.1)
      refine r_nil (q_b (q_t ?_))
      refine w_reg ?_
      refine r_inc rfl (by omega) (r_mv (r_nil (q_t ?_)))
      exact ⟨M[i].length - (j + 1), j + 1, by omega, ⟨hE, rfl, by omega, HQ2⟩, rfl, trivial⟩
    · skip
      refine r_nil (q_t ?_)
      refine w_seq ?_
      refine w_false rfl ?_
      refine w_exit (q_tx (q_tx (q_bx (q_b (q_t ?_)))))
      refine w_reg ?_
      refine r_inc rfl (by omega) (r_mv (r_nil (q_t ?_)))
      refine ⟨M.length - (i + 1), i + 1, by omega, ⟨hE, rfl, by omega, gs ++ [h1.size], ?_, fun g hg => ?_⟩, rfl, trivial⟩
      · rw [fillTo_all _ (by simp; omega)] at HQ
        rw [← take_snoc (List.getElem?_eq_getElem hiM), List.map_append]
        exact HQ
      · rw [← List.cons_append] at hg
        rcases List.mem_append.1 hg with hg | hg
        · exact hgs g hg
        · simp at hg; subst hg; exact hE1.1
  · skip
    refine r_nil (q_t ?_)
    refine w_seq ?_
    refine w_false rfl ?_
    refine w_exit (q_tx (q_tx (q_bx (q_t ?_))))
    refine w_seq ?_
    refine w_reg ?_
    refine r_mv (r_as (r_nil (q_t ?_)))
    refine w_ret ?_
    refine ⟨_, retV_1, ?_⟩
    refine ⟨hE, h.size, gs, ?_, hgs⟩
    have e : (M.take i).map (·.map (· % m)) = M.map (·.map (· % m)) := by rw [List.take_of_length_le (by omega)]
    rw [e] at HP
    unfold OwnM
    rw [List.length_map]
    exact HP

theorem Reduce_ok {h : Heap} {v : Value} {M : List (List Int)} (HM : Mat h v M) {m : Int} (hm : 2 ≤ m) (hm2 : m ≤ 2147483647) (h0 : 0 < M.length) (hl : M.length ≤ 1000000) (hrow : ∀ z ∈ M, 0 < z.length ∧ z.length ≤ 1000000) :
    CallH Tryd.prog 54 #[v, .int .i64 m] h fun r h' => Ext h h' ∧ Fresh h.size h' r (M.map (·.map (· % m))) := by
  have hE := Ext.refl h
  refine calls_of_W (l := [_, _]) mx Tryd.func54 rfl rfl rfl rfl rfl (by kernel_rfl) ?_
  refine w_seq ?_
  refine w_reg ?_
  refine r_as (r_nil (q_t ?_))
  refine w_seq ?_
  refine w_reg ?_
  refine r_as (r_nil (q_t ?_))
  refine w_seq ?_
  refine w_seq ?_
  refine w_reg ?_
  refine r_mv (r_lenm sl_MM rfl (HM.ext hE) (r_mv (r_nil (q_t ?_))))
  refine w_block ?_
  refine w_loop 34359731616 (fun y : Nat × Value => [(13, .int .i64 (y.1 : Int)), (5, y.2)]) (fun k y h' => Ext h h' ∧ k = M.length - y.1 ∧ y.1 ≤ M.length ∧ ∃ gs, GroM h' tR tI h.size y.2 gs ((M.take y.1).map (·.map (· % m)))) (by kernel_rfl) M.length (0, .slice none 0 0) ?_ ⟨rfl, rfl, trivial⟩ ?_
  · exact ⟨hE, rfl, by omega, [], groM_nil _ _ _ _⟩
  rintro k ⟨i, out⟩ s h1 ⟨hE, rfl, hi, gs, HZ⟩
  dsimp only at hi HZ ⊢
  refine w_seq ?_
  refine w_reg ?_
  refine r_lss rfl rfl (fun hc1 => ?_) (fun hc1 => ?_)   -- t14 := binOp lss 3 t13 t12 3
  · skip
    refine r_nil (q_t ?_)
    refine w_seq ?_
    refine w_true rfl ?_
    refine w_skip (q_t ?_)
    refine w_seq ?_
    refine w_block ?_
    refine w_seq ?_
    have hiM : i < M.length := by omega
    have hrl := hrow M[i] (List.getElem_mem _)
    refine w_reg ?_
    refine r_ixmE sl_MM rfl HM hE rfl (List.getElem?_eq_getElem (by omega)) fun aR rR haR hrR => ?_
    refine r_ld na_I64 rfl haR (r_as (r_nil (q_t ?_)))
    refine w_seq ?_
    refine w_reg ?_
    refine r_as (r_nil (q_t ?_))
    refine w_seq ?_
    refine w_seq ?_
    refine w_reg ?_
    refine r_mv (r_leni sl_I64 rfl (Ints.ext hrR hE) (r_mv (r_nil (q_t ?_))))
    refine w_block ?_
    refine w_loop 1073218816 (fun y : Nat × Value => [(19, .int .i64 (y.1 : Int)), (8, y.2)]) (fun k y h' => Ext h1 h' ∧ k = M[i].length - y.1 ∧ y.1 ≤ M[i].length ∧ Gro h' tI h1.size y.2 ((M[i].take y.1).map (Value.int .i64 ∘ (· % m)))) (by kernel_rfl) M[i].length (0, .slice none 0 0) ?_ ⟨rfl, rfl, trivial⟩ ?_
    · exact ⟨Ext.refl _, rfl, by omega, by simpa using gro_nil _ _ _⟩
    rintro k ⟨j, row⟩ s2 h2 ⟨hF, rfl, hj, HG⟩
    dsimp only at hj HG ⊢
    have hE2 := hE.trans hF
    refine w_seq ?_
    refine w_reg ?_
    refine r_lss rfl rfl (fun hc2 => ?_) (fun hc2 => ?_)   -- t20 := binOp lss 3 t19 t18 3
    · skip
      refine r_nil (q_t ?_)
      refine w_seq ?_
      refine w_true rfl ?_
      refine w_skip (q_t ?_)
      refine w_seq ?_
      refine w_block ?_
      refine w_seq ?_
      refine w_reg ?_
      refine r_ixi sl_I64 rfl (Ints.ext hrR hE2) rfl (List.getElem?_eq_getElem (by omega)) fun aX haX => ?_
      refine r_ld na_i64 rfl haX (r_as (r_nil (q_t ?_)))
      refine w_reg ?_
      refine r_mv (r_mv (r_mv (r_call trivial rfl (Mod_ok M[i][j] (by omega) (by omega) h2) fun v' h2 hk => ?_)))
      obtain ⟨rfl, rfl⟩ := hk
      refine ⟨trivial, ?_⟩
      refine r_push sl_I64 ze_i64 rfl (fun _ => trivial) (fun _ => rfl) rfl rfl HG hF.1 (by omega) (by simp; omega) fun p row' h3 HG3 hU hb3 => ?_
      refine r_as (r_nil (q_b (q_t ?_)))
      refine w_reg ?_
      refine r_inc rfl (by omega) (r_mv (r_nil (q_t ?_)))
      refine ⟨M[i].length - (j + 1), (j + 1, row'), by first | omega | (dsimp only; omega), ⟨hF.thenUpd hU (fun k hk => (HG.blk k hk).1), rfl, by first | omega | (dsimp only; omega), ?_⟩, rfl, rfl, trivial⟩
      dsimp only
      rw [← take_snoc (List.getElem?_eq_getElem (by omega : j < M[i].length)), List.map_append]
      exact HG3
    · skip
      refine r_nil (q_t ?_)
      refine w_seq ?_
      refine w_false rfl ?_
      refine w_exit (q_tx (q_tx (q_bx (q_t ?_))))
      refine w_reg ?_
      refine r_mv (r_mv ?_)
      obtain ⟨g, hg, HO⟩ := HG.own (map_take_ne (by omega) (by omega))
      have HZ2 := HZ.ext hF
      obtain ⟨rs, hrs, hrsl⟩ := HZ2.gro
      refine r_push sl_MM ze_I64 rfl (fun _ => trivial) (fun _ => rfl) rfl HO.one hrs (Nat.le_trans hE.1 hF.1) (by omega) (by simp at hrsl; omega) fun p out' h3 HG3 hU hb3 => ?_
      refine r_as (r_nil (q_b (q_t ?_)))
      refine w_reg ?_
      refine r_inc rfl (by omega) (r_mv (r_nil (q_t ?_)))
      have hgs := fun g' hg' => HZ.lt g' hg'
      refine ⟨M.length - (i + 1), (i + 1, out'), by first | omega | (dsimp only; omega), ⟨(hE.trans hF).thenUpd hU (fun k hk => (hrs.blk k hk).1), rfl, by first | omega | (dsimp only; omega), gs ++ [g], ?_⟩, rfl, rfl, trivial⟩
      dsimp only
      rw [← take_snoc (List.getElem?_eq_getElem hiM), List.map_append]
      rw [List.take_of_length_le (by omega), ← List.map_map] at HO
      exact HZ2.push hrs HO (fun hm => by have := HZ.lt g hm; omega) (Nat.le_trans hE.1 hg) (fun he => by have := HZ.topLt g he; omega) HG3 hU hb3
  · skip
    refine r_nil (q_t ?_)
    refine w_seq ?_
    refine w_false rfl ?_
    refine w_exit (q_tx (q_tx (q_bx (q_t ?_))))
    refine w_seq ?_
    refine w_reg ?_
    refine r_mv (r_as (r_nil (q_t ?_)))
    refine w_ret ?_
    refine ⟨_, retV_1, ?_⟩
    obtain ⟨b, hb1, hb2⟩ := HZ.own (map_take_ne (by omega) (by omega))
    rw [List.take_of_length_le (by omega)] at hb1
    exact ⟨hE, b, gs, hb1, hb2⟩

theorem transpose_ok {h : Heap} {v : Value} {M : List (List Int)} (HM : Mat h v M) (h0 : 0 < M.length) (hl : M.length ≤ 1000000) (hl2 : cols M ≤ 1000000) (hrow : ∀ z ∈ M, z.length = cols M) :
    CallH Tryd.prog 68 #[v] h fun r h' => Ext h h' ∧ Fresh h.size h' r (transM M) := by
  have hE := Ext.refl h
  refine calls_of_W (l := [_]) mx Tryd.func68 rfl rfl rfl rfl rfl (by kernel_rfl) ?_
  refine w_seq ?_
  refine w_reg ?_
  refine r_as (r_nil (q_t ?_))
  refine w_seq ?_
  have h0M : 0 < M.length := by omega
  have hc0 := cols_eq (M := M) h0M
  refine w_reg ?_
  refine r_mv (r_ixmE (n := 0) sl_MM rfl HM hE rfl (List.getElem?_eq_getElem (by omega)) fun a1 r1 ha1 hr1 => ?_)
  refine r_ld na_I64 rfl ha1 (r_leni sl_I64 rfl (Ints.ext hr1 hE) (r_mk (n := M[0].length) sl_MM ze_I64 rfl trivial rfl rfl (by omega) (by omega) ⟨trivial, ?_⟩))
  have HP0 := partM_new h tR tI M[0].length (by unfold maxLen; omega)
  have hE := ext_push h (.cells (List.replicate M[0].length (.slice none 0 0)).toArray tR (0, 0))
  have hb0 : h.size < (h.push (.cells (List.replicate M[0].length (.slice none 0 0)).toArray tR (0, 0))).size := by simp
  refine r_as (r_nil (q_t ?_))
  refine w_seq ?_
  refine w_seq ?_
  refine w_reg ?_
  refine r_mv (r_len sl_MM rfl (r_mv (r_nil (q_t ?_))))
  refine w_block ?_
  refine w_loop 4398046494832 (fun j : Nat => [(14, .int .i64 (j : Int))]) (fun k j h' => Ext h h' ∧ k = M[0].length - j ∧ j ≤ M[0].length ∧ ∃ gs, PartM h' tR tI h.size gs (.slice (some ⟨h.size, 0, none⟩) M[0].length M[0].length) M[0].length ((List.range j).map (fun j => (List.range M.length).map fun i => ent M i j)) ∧ ∀ g ∈ h.size :: gs, h.size ≤ g) (by kernel_rfl) M[0].length 0 ?_ ⟨rfl, trivial⟩ ?_
  · exact ⟨hE, by omega, by omega, [], by simpa using HP0, by simp⟩
  rintro k j s h1 ⟨hE, rfl, hj, gs, HP, hgs⟩
  refine w_seq ?_
  refine w_reg ?_
  refine r_lss rfl rfl (fun hc1 => ?_) (fun hc1 => ?_)   -- t15 := binOp lss 3 t14 t13 3
  · skip
    refine r_nil (q_t ?_)
    refine w_seq ?_
    refine w_true rfl ?_
    refine w_skip (q_t ?_)
    refine w_seq ?_
    refine w_block ?_
    refine w_seq ?_
    refine w_reg ?_
    refine r_mv (r_as (r_nil (q_t ?_)))
    refine w_seq ?_
    refine w_reg ?_
    refine r_mv (r_mv (r_mv (r_lenm sl_MM rfl (HM.ext hE) (r_mk (n := M.length) sl_I64 ze_i64 rfl trivial rfl rfl (by omega) (by omega) ⟨trivial, ?_⟩))))
    have hP := ext_push h1 (.cells (List.replicate M.length (.int .i64 0)).toArray tI (0, 0))
    have HPa := HP.ext hP
    have hnew := ownI_new h1 tI M.length 0 (by unfold maxLen; omega)
    obtain ⟨rs, hTop, hrs⟩ := HPa.top
    refine r_ixo sl_MM rfl hTop rfl (by omega) ?_
    refine r_sto na_I64 rfl rfl rfl hTop (by omega) ?_
    have HPb := HPa.push (i := j) (by simp; try omega) (by omega) hnew (fun hc => by have := HP.lt _ hc; omega)
    have hE0 := hE
    have hE := (hE.trans hP).thenUpd (upd_set _ ⟨h.size, j, none⟩ (.slice (some ⟨h1.size, 0, none⟩) M.length M.length)) (fun k hk => by have hk2 : k = h.size := hk; omega)
    refine r_nil (q_t ?_)
    refine w_seq ?_
    refine w_reg ?_
    refine r_mv (r_lenm sl_MM rfl (HM.ext hE) (r_mv (r_nil (q_t ?_))))
    refine w_block ?_
    refine w_loop 2198989701216 (fun i : Nat => [(25, .int .i64 (i : Int))]) (fun k i h' => Ext h h' ∧ k = M.length - i ∧ i ≤ M.length ∧ PartM h' tR tI h.size (gs ++ [h1.size]) (.slice (some ⟨h.size, 0, none⟩) M[0].length M[0].length) M[0].length ((List.range j).map (fun j => (List.range M.length).map fun i => ent M i j) ++ [mixR M.length (fun i => ent M i j) (fun _ => 0) i])) (by kernel_rfl) M.length 0 ?_ ⟨rfl, trivial⟩ ?_
    · exact ⟨hE, by omega, by omega, by rw [mixR_zero, range_rep]; exact HPb⟩
    rintro k i s2 h2 ⟨hE, rfl, hi, HQ⟩
    refine w_seq ?_
    refine w_reg ?_
    refine r_lss rfl rfl (fun hc2 => ?_) (fun hc2 => ?_)   -- t26 := binOp lss 3 t25 t24 3
    · skip
      refine r_nil (q_t ?_)
      refine w_seq ?_
      refine w_true rfl ?_
      refine w_skip (q_t ?_)
      refine w_seq ?_
      refine w_block ?_
      refine w_seq ?_
      refine w_reg ?_
      refine r_mv (r_ixmE sl_MM rfl HM hE rfl (List.getElem?_eq_getElem (by omega)) fun aR rR haR hrR => ?_)
      refine r_ld na_I64 rfl haR (r_as (r_as (r_nil (q_t ?_))))
      refine w_draw (by kernel_rfl) ?_
      refine r_mv (r_mv (r_ixp sl_MM rfl HQ rfl (get_snoc (by simp)) fun aQ rQ gQ haQ hgQ hrQ => ?_))
      refine r_ld na_I64 rfl haQ (r_mv (r_mv (r_mv (r_ixi sl_I64 rfl (Ints.ext hrR hE) rfl (List.getElem?_eq_getElem (by have := hrow M[i] (List.getElem_mem (by omega)); omega)) fun aX haX => ?_))))
      refine r_ld na_i64 rfl haX (r_ixo sl_I64 rfl hrQ rfl (by rw [List.length_map, mixR_len]; omega) ?_)
      refine r_sto na_i64 rfl rfl rfl hrQ (by rw [List.length_map, mixR_len]; omega) ?_
      have hiM : i < M.length := by omega
      have hjl : j < M[i].length := by have := hrow M[i] (List.getElem_mem _); omega
      have HQ2 := HQ.setElem hgQ (get_snoc (by simp)) (j := i) (by rw [mixR_len]; omega) M[i][j]
      rw [set_snoc (by simp), mixR_set hiM (ent_eq hiM hjl).symm] at HQ2
      have hE := hE.thenUpd (upd_set h2 ⟨gQ, i, none⟩ (.int .i64 M[i][j])) (fun k hk => by have hk2 : k = gQ := hk; subst hk2; have := List.mem_of_getElem? hgQ; rcases List.mem_append.1 this with hg | hg; exact hgs _ (List.mem_cons_of_mem _ hg); simp at hg; subst hg; exact hE0.1)
      refine r_nil (q_b (q_t ?_))
      refine w_reg ?_
      refine r_inc rfl (by omega) (r_mv (r_nil (q_t ?_)))
      exact ⟨M.length - (i + 1), i + 1, by omega, ⟨hE, rfl, by omega, HQ2⟩, rfl, trivial⟩
    · skip
      refine r_nil (q_t ?_)
      refine w_seq ?_
      refine w_false rfl ?_
      refine w_exit (q_tx (q_tx (q_bx (q_b (q_t ?_)))))
      refine w_reg ?_
      refine r_inc rfl (by omega) (r_mv (r_nil (q_t ?_)))
      refine ⟨M[0].length - (j + 1), j + 1, by omega, ⟨hE, rfl, by omega, gs ++ [h1.size], ?_, (fun g hg => by rw [← List.cons_append] at hg; rcases List.mem_append.1 hg with hg | hg; exact hgs g hg; simp at hg; subst hg; exact hE0.1)⟩, rfl, trivial⟩
      rw [mixR_all _ _ (by omega)] at HQ
      rw [← range_snoc]
      exact HQ
  · skip
    refine r_nil (q_t ?_)
    refine w_seq ?_
    refine w_false rfl ?_
    refine w_exit (q_tx (q_tx (q_bx (q_t ?_))))
    refine w_seq ?_
    refine w_reg ?_
    refine r_mv (r_as (r_nil (q_t ?_)))
    refine w_ret ?_
    refine ⟨_, retV_1, ?_⟩
    refine ⟨hE, h.size, gs, ?_, hgs⟩
    obtain rfl : j = M[0].length := by omega
    unfold OwnM transM
    rw [tab_len, hc0]
    exact HP

theorem product_ok {h : Heap} {va vb : Value} {A B : List (List Int)} (HA : Mat h va A) (HB : Mat h vb B) {m : Int} (hm : 2 ≤ m) (hm2 : m ≤ 2147483647) (h0 : 0 < B.length) (hlA : A.length ≤ 1000000) (hlB : cols B ≤ 1000000) (hlB2 : B.length ≤ 1000000) (hAr : ∀ z ∈ A, z.length = B.length) (hBr : ∀ z ∈ B, z.length = cols B) (hAm : Rem m A) (hBm : Rem m B) :
    CallH Tryd.prog 65 #[va, vb, .int .i64 m] h fun r h' => Ext h h' ∧ Fresh h.size h' r (mulM A B m) := by
  have hE := Ext.refl h
  refine calls_of_W (l := [_, _, _]) mx Tryd.func65 rfl rfl rfl rfl rfl (by kernel_rfl) ?_
  refine w_seq ?_
  refine w_reg ?_
  refine r_as (r_nil (q_t ?_))
  refine w_seq ?_
  have hc0 := cols_eq (M := B) h0
  refine w_reg ?_
  refine r_mv (r_lenm sl_MM rfl (HA.ext hE) (r_mk (n := A.length) sl_MM ze_I64 rfl trivial rfl rfl (by omega) (by omega) ⟨trivial, ?_⟩))
  have HP0 := partM_new h tR tI A.length (by unfold maxLen; omega)
  have hE := ext_push h (.cells (List.replicate A.length (.slice none 0 0)).toArray tR (0, 0))
  refine r_as (r_nil (q_t ?_))
  refine w_seq ?_
  refine w_seq ?_
  refine w_reg ?_
  refine r_mv (r_lenm sl_MM rfl (HA.ext hE) (r_mv (r_nil (q_t ?_))))
  refine w_block ?_
  refine w_loop 2361183241434822098688 (fun i : Nat => [(19, .int .i64 (i : Int))]) (fun k i h' => Ext h h' ∧ k = A.length - i ∧ i ≤ A.length ∧ ∃ gs, PartM h' tR tI h.size gs (.slice (some ⟨h.size, 0, none⟩) A.length A.length) A.length ((List.range i).map (fun i => (List.range B[0].length).map fun j => psum (fun k => ent A i k * ent B k j) B.length % m)) ∧ ∀ g ∈ h.size :: gs, h.size ≤ g) (by kernel_rfl) A.length 0 ?_ ⟨rfl, trivial⟩ ?_
  · exact ⟨hE, by omega, by omega, [], by simpa using HP0, by simp⟩
  rintro k i s h1 ⟨hE, rfl, hi, gs, HP, hgs⟩
  refine w_seq ?_
  refine w_reg ?_
  refine r_lss rfl rfl (fun hc1 => ?_) (fun hc1 => ?_)   -- t20 := binOp lss 3 t19 t18 3
  · skip
    refine r_nil (q_t ?_)
    refine w_seq ?_
    refine w_true rfl ?_
    refine w_skip (q_t ?_)
    refine w_seq ?_
    refine w_block ?_
    refine w_seq ?_
    have hiA : i < A.length := by omega
    have hAl := hAr A[i] (List.getElem_mem _)
    refine w_reg ?_
    refine r_mv (r_ixmE sl_MM rfl HA hE rfl (List.getElem?_eq_getElem (by omega)) fun aR rR haR hrR => ?_)
    refine r_ld na_I64 rfl haR (r_as (r_as (r_nil (q_t ?_))))
    refine w_seq ?_
    refine w_reg ?_
    refine r_mv (r_mv (r_mv (r_ixmE (n := 0) sl_MM rfl HB hE rfl (List.getElem?_eq_getElem (by omega)) fun aZ rZ haZ hrZ => ?_)))
    refine r_ld na_I64 rfl haZ (r_leni sl_I64 rfl (Ints.ext hrZ hE) (r_mk (n := B[0].length) sl_I64 ze_i64 rfl trivial rfl rfl (by omega) (by omega) ⟨trivial, ?_⟩))
    have hP := ext_push h1 (.cells (List.replicate B[0].length (.int .i64 0)).toArray tI (0, 0))
    have HPa := HP.ext hP
    have hnew := ownI_new h1 tI B[0].length 0 (by unfold maxLen; omega)
    obtain ⟨rs, hTop, hrs⟩ := HPa.top
    refine r_ixo sl_MM rfl hTop rfl (by omega) ?_
    refine r_sto na_I64 rfl rfl rfl hTop (by omega) ?_
    have HPb := HPa.push (i := i) (by simp; try omega) (by omega) hnew (fun hc => by have := HP.lt _ hc; omega)
    have hE0 := hE
    have hE := (hE.trans hP).thenUpd (upd_set _ ⟨h.size, i, none⟩ (.slice (some ⟨h1.size, 0, none⟩) B[0].length B[0].length)) (fun k hk => by have hk2 : k = h.size := hk; omega)
    refine r_nil (q_t ?_)
    refine w_seq ?_
    refine w_reg ?_
    refine r_mv (r_leni sl_I64 rfl (Ints.ext hrR hE) (r_mv (r_nil (q_t ?_))))
    refine w_block ?_
    refine w_loop 1180591620700231449600 (fun q : Nat => [(34, .int .i64 (q : Int))]) (fun k q h' => Ext h h' ∧ k = A[i].length - q ∧ q ≤ A[i].length ∧ PartM h' tR tI h.size (gs ++ [h1.size]) (.slice (some ⟨h.size, 0, none⟩) A.length A.length) A.length ((List.range i).map (fun i => (List.range B[0].length).map fun j => psum (fun k => ent A i k * ent B k j) B.length % m) ++ [(List.range B[0].length).map (fun j => psum (fun k => ent A i k * ent B k j) q % m)])) (by kernel_rfl) A[i].length 0 ?_ ⟨rfl, trivial⟩ ?_
    · exact ⟨hE, by omega, by omega, by simp only [psum, Int.zero_emod, range_rep]; exact HPb⟩
    rintro k q s2 h2 ⟨hE, rfl, hq, HQ⟩
    refine w_seq ?_
    refine w_reg ?_
    refine r_lss rfl rfl (fun hc2 => ?_) (fun hc2 => ?_)   -- t35 := binOp lss 3 t34 t33 3
    · skip
      refine r_nil (q_t ?_)
      refine w_seq ?_
      refine w_true rfl ?_
      refine w_skip (q_t ?_)
      refine w_seq ?_
      refine w_block ?_
      refine w_seq ?_
      have hqB : q < B.length := by omega
      have hBl := hBr B[q] (List.getElem_mem _)
      have hqA : q < A[i].length := by omega
      have hxb := hAm.at hiA hqA
      refine w_reg ?_
      refine r_mv (r_ixi sl_I64 rfl (Ints.ext hrR hE) rfl (List.getElem?_eq_getElem (by omega)) fun aX haX => ?_)
      refine r_ld na_i64 rfl haX (r_as (r_as (r_nil (q_t ?_))))
      refine w_seq ?_
      refine w_reg ?_
      refine r_mv (r_mv (r_ixmE sl_MM rfl HB hE rfl (List.getElem?_eq_getElem (by omega)) fun aY rY haY hrY => ?_))
      refine r_ld na_I64 rfl haY (r_leni sl_I64 rfl (Ints.ext hrY hE) (r_mv (r_nil (q_t ?_))))
      refine w_block ?_
      refine w_loop 590295792766519619584 (fun j : Nat => [(44, .int .i64 (j : Int))]) (fun k j h' => Ext h h' ∧ k = B[q].length - j ∧ j ≤ B[q].length ∧ PartM h' tR tI h.size (gs ++ [h1.size]) (.slice (some ⟨h.size, 0, none⟩) A.length A.length) A.length ((List.range i).map (fun i => (List.range B[0].length).map fun j => psum (fun k => ent A i k * ent B k j) B.length % m) ++ [mixR B[0].length (fun j => psum (fun k => ent A i k * ent B k j) (q + 1) % m) (fun j => psum (fun k => ent A i k * ent B k j) q % m) j])) (by kernel_rfl) B[q].length 0 ?_ ⟨rfl, trivial⟩ ?_
      · exact ⟨hE, by omega, by omega, by rw [mixR_zero]; exact HQ⟩
      rintro k j s3 h3 ⟨hE, rfl, hj, HS⟩
      refine w_seq ?_
      refine w_reg ?_
      refine r_lss rfl rfl (fun hc3 => ?_) (fun hc3 => ?_)   -- t45 := binOp lss 3 t44 t43 3
      · skip
        refine r_nil (q_t ?_)
        refine w_seq ?_
        refine w_true rfl ?_
        refine w_skip (q_t ?_)
        refine w_seq ?_
        refine w_block ?_
        refine w_seq ?_
        have hjB : j < B[q].length := by omega
        have hyb := hBm.at hqB hjB
        have hxy := mul_bd (a := A[i][q]) (b := B[q][j]) (A := 2147483647) (B := 2147483647) (by omega) (by omega) (by omega) (by omega)
        have hsb := Int.emod_lt_of_pos (psum (fun k => ent A i k * ent B k j) q) (b := m) (by omega)
        have hsn := Int.emod_nonneg (psum (fun k => ent A i k * ent B k j) q) (b := m) (by omega)
        refine w_reg ?_
        refine r_mv (r_ixi sl_I64 rfl (Ints.ext hrY hE) rfl (List.getElem?_eq_getElem (by omega)) fun aW haW => ?_)
        refine r_ld na_i64 rfl haW (r_as (r_as (r_nil (q_t ?_))))
        refine w_draw (by kernel_rfl) ?_
        refine r_mv (r_mv (r_ixp sl_MM rfl HS rfl (get_snoc (by simp)) fun aP rP gP haP hgP hrP => ?_))
        refine r_ld na_I64 rfl haP (r_mv (r_mv (r_mv (r_ixp sl_MM rfl HS rfl (get_snoc (by simp)) fun aQ rQ gQ haQ hgQ hrQ => ?_))))
        refine r_ld na_I64 rfl haQ (r_mv (r_ixi sl_I64 rfl hrQ.sl rfl (mixR_at (by omega)) fun aC haC => ?_))
        refine r_ld na_i64 rfl haC (r_mv (r_mv (r_mulb rfl rfl (by omega) (by omega) (r_addb rfl rfl (by omega) (by omega) (r_mv (r_remp rfl rfl (by omega) (by omega) (r_ixo sl_I64 rfl hrP rfl (by rw [List.length_map, mixR_len]; omega) ?_)))))))
        refine r_sto na_i64 rfl rfl rfl hrP (by rw [List.length_map, mixR_len]; omega) ?_
        have HS2 := HS.setElem hgP (get_snoc (by simp)) (j := j) (by rw [mixR_len]; omega) ((psum (fun k => ent A i k * ent B k j) q % m + A[i][q] * B[q][j]) % m)
        rw [set_snoc (by simp), mixR_set (by omega) (by rw [← ent_eq hiA hqA, ← ent_eq hqB hjB]; exact psum_step (f := fun k => ent A i k * ent B k j))] at HS2
        have hE := hE.thenUpd (upd_set h3 ⟨gP, j, none⟩ (.int .i64 ((psum (fun k => ent A i k * ent B k j) q % m + A[i][q] * B[q][j]) % m))) (fun k hk => by have hk2 : k = gP := hk; subst hk2; have := List.mem_of_getElem? hgP; rcases List.mem_append.1 this with hg | hg; exact hgs _ (List.mem_cons_of_mem _ hg); simp at hg; subst hg; exact hE0.1)
        refine r_nil (q_b (q_t ?_))
        refine w_reg ?_
        refine r_inc rfl (by omega) (r_mv (r_nil (q_t ?_)))
        exact ⟨B[q].length - (j + 1), j + 1, by omega, ⟨hE, rfl, by omega, HS2⟩, rfl, trivial⟩
      · skip
        refine r_nil (q_t ?_)
        refine w_seq ?_
        refine w_false rfl ?_
        refine w_exit (q_tx (q_tx (q_bx (q_b (q_t ?_)))))
        refine w_reg ?_
        refine r_inc rfl (by omega) (r_mv (r_nil (q_t ?_)))
        refine ⟨A[i].length - (q + 1), q + 1, by omega, ⟨hE, rfl, by omega, ?_⟩, rfl, trivial⟩
        rw [mixR_all _ _ (by omega)] at HS
        exact HS
    · skip
      refine r_nil (q_t ?_)
      refine w_seq ?_
      refine w_false rfl ?_
      refine w_exit (q_tx (q_tx (q_bx (q_b (q_t ?_)))))
      refine w_reg ?_
      refine r_inc rfl (by omega) (r_mv (r_nil (q_t ?_)))
      obtain rfl : q = B.length := by omega
      refine ⟨A.length - (i + 1), i + 1, by omega, ⟨hE, rfl, by omega, gs ++ [h1.size], ?_, (fun g hg => by rw [← List.cons_append] at hg; rcases List.mem_append.1 hg with hg | hg; exact hgs g hg; simp at hg; subst hg; exact hE0.1)⟩, rfl, trivial⟩
      rw [← range_snoc]
      exact HQ
  · skip
    refine r_nil (q_t ?_)
    refine w_seq ?_
    refine w_false rfl ?_
    refine w_exit (q_tx (q_tx (q_bx (q_t ?_))))
    refine w_seq ?_
    refine w_reg ?_
    refine r_mv (r_as (r_nil (q_t ?_)))
    refine w_ret ?_
    refine ⟨_, retV_1, ?_⟩
    refine ⟨hE, h.size, gs, ?_, hgs⟩
    obtain rfl : i = A.length := by omega
    unfold OwnM mulM
    rw [tab_len, hc0]
    exact HP

theorem Transpose_ok {h : Heap} {v : Value} {M : List (List Int)} (HM : Mat h v M) (h0 : 0 < M.length) (hl : M.length ≤ 1000000) (hl2 : cols M ≤ 1000000) (hrow : ∀ z ∈ M, z.length = cols M) :
    CallH Tryd.prog 37 #[v] h fun r h' => Ext h h' ∧ Mat h' r (transM M) ∧ (0 < cols M → Fresh h.size h' r (transM M)) := by
  have hE := Ext.refl h
  refine calls_of_W (l := [_]) mx Tryd.func37 rfl rfl rfl rfl rfl (by kernel_rfl) ?_
  refine w_seq ?_
  refine w_reg ?_
  refine r_as (r_nil (q_t ?_))
  refine w_seq ?_
  refine w_reg ?_
  refine r_as (r_nil (q_t ?_))
  refine w_seq ?_
  refine w_seq ?_
  have hc0 := cols_eq (M := M) h0
  refine w_reg ?_
  refine r_mv (r_ixmE (n := 0) sl_MM rfl HM hE rfl (List.getElem?_eq_getElem (by omega)) fun aZ rZ haZ hrZ => ?_)
  refine r_ld na_I64 rfl haZ (r_leni sl_I64 rfl (Ints.ext hrZ hE) (r_mv (r_nil (q_t ?_))))
  refine w_block ?_
  refine w_loop 34359736440 (fun y : Nat × Value => [(11, .int .i64 (y.1 : Int)), (3, y.2)]) (fun k y h' => Ext h h' ∧ k = M[0].length - y.1 ∧ y.1 ≤ M[0].length ∧ ∃ gs, GroM h' tR tI h.size y.2 gs ((List.range y.1).map (fun j => (List.range M.length).map fun i => ent M i j))) (by kernel_rfl) M[0].length (0, .slice none 0 0) ?_ ⟨rfl, rfl, trivial⟩ ?_
  · exact ⟨hE, rfl, by omega, [], groM_nil _ _ _ _⟩
  rintro k ⟨j, out⟩ s h1 ⟨hE, rfl, hj, gs, HZ⟩
  dsimp only at hj HZ ⊢
  refine w_seq ?_
  refine w_reg ?_
  refine r_lss rfl rfl (fun hc1 => ?_) (fun hc1 => ?_)   -- t12 := binOp lss 3 t11 t10 3
  · skip
    refine r_nil (q_t ?_)
    refine w_seq ?_
    refine w_true rfl ?_
    refine w_skip (q_t ?_)
    refine w_seq ?_
    refine w_block ?_
    refine w_seq ?_
    refine w_reg ?_
    refine r_mv (r_as (r_nil (q_t ?_)))
    refine w_seq ?_
    refine w_reg ?_
    refine r_as (r_nil (q_t ?_))
    refine w_seq ?_
    refine w_seq ?_
    refine w_reg ?_
    refine r_mv (r_lenm sl_MM rfl (HM.ext hE) (r_mv (r_nil (q_t ?_))))
    refine w_block ?_
    refine w_loop 1073676384 (fun y : Nat × Value => [(16, .int .i64 (y.1 : Int)), (5, y.2)]) (fun k y h' => Ext h1 h' ∧ k = M.length - y.1 ∧ y.1 ≤ M.length ∧ Gro h' tI h1.size y.2 (((List.range y.1).map fun i => ent M i j).map (Value.int .i64))) (by kernel_rfl) M.length (0, .slice none 0 0) ?_ ⟨rfl, rfl, trivial⟩ ?_
    · exact ⟨Ext.refl _, rfl, by omega, by simpa using gro_nil _ _ _⟩
    rintro k ⟨i, row⟩ s2 h2 ⟨hF, rfl, hi, HG⟩
    dsimp only at hi HG ⊢
    refine w_seq ?_
    refine w_reg ?_
    refine r_lss rfl rfl (fun hc2 => ?_) (fun hc2 => ?_)   -- t17 := binOp lss 3 t16 t15 3
    · skip
      refine r_nil (q_t ?_)
      refine w_seq ?_
      refine w_true rfl ?_
      refine w_skip (q_t ?_)
      refine w_seq ?_
      refine w_block ?_
      refine w_seq ?_
      refine w_reg ?_
      refine r_mv (r_as (r_nil (q_t ?_)))
      have hiM : i < M.length := by omega
      have hjl : j < M[i].length := by have := hrow M[i] (List.getElem_mem _); omega
      have hE := hE.trans hF
      refine w_reg ?_
      refine r_mv (r_mv (r_mv (r_ixmE sl_MM rfl HM hE rfl (List.getElem?_eq_getElem (by omega)) fun aR rR haR hrR => ?_)))
      refine r_ld na_I64 rfl haR (r_mv (r_ixi sl_I64 rfl (Ints.ext hrR hE) rfl (List.getElem?_eq_getElem (by omega)) fun aX haX => ?_))
      refine r_ld na_i64 rfl haX (r_push sl_I64 ze_i64 rfl (fun _ => trivial) (fun _ => rfl) rfl rfl HG hF.1 (by omega) (by simp; omega) fun p row' h3 HG3 hU hb3 => ?_)
      refine r_as (r_nil (q_b (q_t ?_)))
      refine w_reg ?_
      refine r_inc rfl (by omega) (r_mv (r_nil (q_t ?_)))
      refine ⟨M.length - (i + 1), (i + 1, row'), by first | omega | (dsimp only; omega), ⟨hF.thenUpd hU (fun k hk => (HG.blk k hk).1), rfl, by first | omega | (dsimp only; omega), ?_⟩, rfl, rfl, trivial⟩
      dsimp only
      rw [← range_snoc, List.map_append, ent_eq hiM hjl]
      exact HG3
    · skip
      refine r_nil (q_t ?_)
      refine w_seq ?_
      refine w_false rfl ?_
      refine w_exit (q_tx (q_tx (q_bx (q_t ?_))))
      refine w_reg ?_
      refine r_mv (r_mv ?_)
      obtain ⟨g, hg, HO⟩ := HG.own (by rw [List.map_map]; exact range_map_ne (by omega))
      have HZ2 := HZ.ext hF
      obtain ⟨rs, hrs, hrsl⟩ := HZ2.gro
      refine r_push sl_MM ze_I64 rfl (fun _ => trivial) (fun _ => rfl) rfl HO.one hrs (Nat.le_trans hE.1 hF.1) (by omega) (by simp at hrsl; omega) fun p out' h3 HG3 hU hb3 => ?_
      refine r_as (r_nil (q_b (q_t ?_)))
      refine w_reg ?_
      refine r_inc rfl (by omega) (r_mv (r_nil (q_t ?_)))
      refine ⟨M[0].length - (j + 1), (j + 1, out'), by first | omega | (dsimp only; omega), ⟨(hE.trans hF).thenUpd hU (fun k hk => (hrs.blk k hk).1), rfl, by first | omega | (dsimp only; omega), gs ++ [g], ?_⟩, rfl, rfl, trivial⟩
      dsimp only
      obtain rfl : i = M.length := by omega
      rw [← range_snoc]
      exact HZ2.push hrs HO (fun hm => by have := HZ.lt g hm; omega) (Nat.le_trans hE.1 hg) (fun he => by have := HZ.topLt g he; omega) HG3 hU hb3
  · skip
    refine r_nil (q_t ?_)
    refine w_seq ?_
    refine w_false rfl ?_
    refine w_exit (q_tx (q_tx (q_bx (q_t ?_))))
    refine w_seq ?_
    refine w_reg ?_
    refine r_mv (r_as (r_nil (q_t ?_)))
    refine w_ret ?_
    refine ⟨_, retV_1, ?_⟩
    obtain rfl : j = M[0].length := by omega
    refine ⟨hE, ?_⟩
    unfold transM tab
    rw [hc0]
    exact ⟨HZ.mat, fun hne => let ⟨b, hb1, hb2⟩ := HZ.own (range_map_ne (by omega)); ⟨b, gs, hb1, hb2⟩⟩

theorem refproduct_ok {h : Heap} {va vb : Value} {A B : List (List Int)} (HA : Mat h va A) (HB : Mat h vb B) {m : Int} (hm : 2 ≤ m) (hm2 : m ≤ 2147483647) (hA0 : 0 < A.length) (h0 : 0 < B.length) (hlA : A.length ≤ 1000000) (hlB : cols B ≤ 1000000) (hlB2 : B.length ≤ 1000000) (hAp : ∀ z ∈ A, 0 < z.length ∧ z.length ≤ 1000000) (hBp : ∀ z ∈ B, 0 < z.length ∧ z.length ≤ 1000000) (hAr : ∀ z ∈ A, z.length = B.length) (hBr : ∀ z ∈ B, z.length = cols B) :
    CallH Tryd.prog 66 #[va, vb, .int .i64 m] h fun r h' => Ext h h' ∧ Fresh h.size h' r (mulM (redM A m) (redM B m) m) := by
  refine calls_of_W (l := [_, _, _]) mx Tryd.func66 rfl rfl rfl rfl rfl (by kernel_rfl) ?_
  refine w_seq ?_
  refine w_reg ?_
  refine r_as (r_nil (q_t ?_))
  refine w_seq ?_
  refine w_reg ?_
  refine r_mv (r_mv (r_call trivial rfl (Reduce_ok HA hm hm2 hA0 hlA hAp) fun va2 h2 hk => ?_))
  obtain ⟨hE1, HF1⟩ := hk
  refine ⟨trivial, ?_⟩
  refine r_mv (r_mv (r_call trivial rfl (Reduce_ok (HB.ext hE1) hm hm2 h0 hlB2 hBp) fun vb2 h3 hk => ?_))
  obtain ⟨hE2, HF2⟩ := hk
  refine ⟨trivial, ?_⟩
  have HA2 := HF1.mat.ext hE2
  have HB2 := HF2.mat
  obtain ⟨A2, hA2⟩ : ∃ A2, redM A m = A2 := ⟨_, rfl⟩
  obtain ⟨B2, hB2⟩ : ∃ B2, redM B m = B2 := ⟨_, rfl⟩
  have hlA2 := red_len A m
  have hlB2' := red_len B m
  have hcB2 := cols_red B m
  have hAr2 := red_rows (m := m) hAr
  have hBr2 := red_rows (m := m) hBr
  have hAm := rem_red (m := m) (by omega) A
  have hBm := rem_red (m := m) (by omega) B
  change Mat h3 va2 (redM A m) at HA2
  change Mat h3 vb2 (redM B m) at HB2
  rw [hA2] at HA2 hlA2 hAr2 hAm
  rw [hB2] at HB2 hlB2' hBr2 hBm hcB2
  have hc0 := cols_eq (M := B2) (by omega)
  have hE := Ext.refl h3
  have hC := Ext.refl h3
  have hE3 := hE1.trans hE2
  refine r_as (r_as (r_nil (q_t ?_)))
  refine w_seq ?_
  refine w_reg ?_
  refine r_as (r_nil (q_t ?_))
  refine w_seq ?_
  refine w_seq ?_
  refine w_reg ?_
  refine r_mv (r_lenm sl_MM rfl (HA2.ext hC) (r_mv (r_nil (q_t ?_))))
  refine w_block ?_
  refine w_loop 4722366482869644169088 (fun y : Nat × Value => [(20, .int .i64 (y.1 : Int)), (7, y.2)]) (fun k y h' => Ext h3 h' ∧ k = A2.length - y.1 ∧ y.1 ≤ A2.length ∧ ∃ gs, GroM h' tR tI h3.size y.2 gs ((List.range y.1).map (fun i => (List.range B2[0].length).map fun j => psum (fun k => ent A2 i k * ent B2 k j) B2.length % m))) (by kernel_rfl) A2.length (0, .slice none 0 0) ?_ ⟨rfl, rfl, trivial⟩ ?_
  · exact ⟨hE, rfl, by omega, [], groM_nil _ _ _ _⟩
  rintro k ⟨i, out⟩ s h1 ⟨hE, rfl, hi, gs, HZ⟩
  dsimp only at hi HZ ⊢
  have hC := hE
  refine w_seq ?_
  refine w_reg ?_
  refine r_lss rfl rfl (fun hc1 => ?_) (fun hc1 => ?_)   -- t21 := binOp lss 3 t20 t19 3
  · skip
    refine r_nil (q_t ?_)
    refine w_seq ?_
    refine w_true rfl ?_
    refine w_skip (q_t ?_)
    refine w_seq ?_
    refine w_block ?_
    refine w_seq ?_
    have hiA : i < A2.length := by omega
    have hAl := hAr2 A2[i] (List.getElem_mem _)
    refine w_reg ?_
    refine r_mv (r_as (r_nil (q_t ?_)))
    refine w_seq ?_
    refine w_reg ?_
    refine r_mv (r_ixmE (n := 0) sl_MM rfl HB2 hC rfl (List.getElem?_eq_getElem (by omega)) fun aZ rZ haZ hrZ => ?_)
    refine r_ld na_I64 rfl haZ (r_leni sl_I64 rfl (Ints.ext hrZ hC) (r_mk (n := B2[0].length) sl_I64 ze_i64 rfl trivial rfl rfl (by omega) (by omega) ⟨trivial, ?_⟩))
    have hF := ext_push h1 (.cells (List.replicate B2[0].length (.int .i64 0)).toArray tI (0, 0))
    have HO := ownI_new h1 tI B2[0].length 0 (by unfold maxLen; omega)
    have hC := hE.trans hF
    refine r_as (r_nil (q_t ?_))
    refine w_seq ?_
    refine w_seq ?_
    refine w_reg ?_
    refine r_mv (r_leni sl_I64 rfl HO.sl (r_mv (r_nil (q_t ?_))))
    refine w_block ?_
    refine w_loop 147573952588602674176 (fun j : Nat => [(30, .int .i64 (j : Int))]) (fun k j h' => Ext h1 h' ∧ k = B2[0].length - j ∧ j ≤ B2[0].length ∧ OwnA h' tI h1.size (.slice (some ⟨h1.size, 0, none⟩) B2[0].length B2[0].length) ((mixR B2[0].length (fun j => psum (fun k => ent A2 i k * ent B2 k j) B2.length % m) (fun _ => 0) j).map (.int .i64))) (by kernel_rfl) B2[0].length 0 ?_ ⟨rfl, trivial⟩ ?_
    · exact ⟨hF, by omega, by omega, by rw [mixR_zero, range_rep]; exact HO⟩
    rintro k j s2 h2 ⟨hF, rfl, hj, HO⟩
    have hC := hE.trans hF
    refine w_seq ?_
    refine w_reg ?_
    refine r_lss rfl rfl (fun hc2 => ?_) (fun hc2 => ?_)   -- t31 := binOp lss 3 t30 t29 3
    · skip
      refine r_nil (q_t ?_)
      refine w_seq ?_
      refine w_true rfl ?_
      refine w_skip (q_t ?_)
      refine w_seq ?_
      refine w_block ?_
      refine w_seq ?_
      rw [List.length_replicate] at hc2
      refine w_reg ?_
      refine r_mv (r_as (r_nil (q_t ?_)))
      refine w_seq ?_
      refine w_reg ?_
      refine r_mv (r_lenm sl_MM rfl (HB2.ext hC) (r_mv (r_nil (q_t ?_))))
      refine w_block ?_
      refine w_loop 73786976260478470144 (fun q : Nat => [(35, .int .i64 (q : Int))]) (fun k q h' => Ext h1 h' ∧ k = B2.length - q ∧ q ≤ B2.length ∧ OwnA h' tI h1.size (.slice (some ⟨h1.size, 0, none⟩) B2[0].length B2[0].length) (((mixR B2[0].length (fun j => psum (fun k => ent A2 i k * ent B2 k j) B2.length % m) (fun _ => 0) j).set j (psum (fun k => ent A2 i k * ent B2 k j) q % m)).map (.int .i64))) (by kernel_rfl) B2.length 0 ?_ ⟨rfl, trivial⟩ ?_
      · exact ⟨hF, by omega, by omega, by rw [show (mixR B2[0].length (fun j => psum (fun k => ent A2 i k * ent B2 k j) B2.length % m) (fun _ => 0) j).set j (psum (fun k => ent A2 i k * ent B2 k j) 0 % m) = mixR B2[0].length (fun j => psum (fun k => ent A2 i k * ent B2 k j) B2.length % m) (fun _ => 0) j from set_self (by rw [mixR_at (by omega)]; simp [psum])]; exact HO⟩
      rintro k q s3 h3' ⟨hF, rfl, hq, HQ⟩
      have hC := hE.trans hF
      refine w_seq ?_
      refine w_reg ?_
      refine r_lss rfl rfl (fun hc3 => ?_) (fun hc3 => ?_)   -- t36 := binOp lss 3 t35 t34 3
      · skip
        refine r_nil (q_t ?_)
        refine w_seq ?_
        refine w_true rfl ?_
        refine w_skip (q_t ?_)
        refine w_seq ?_
        refine w_block ?_
        refine w_seq ?_
        refine w_reg ?_
        refine r_mv (r_as (r_nil (q_t ?_)))
        have hqB : q < B2.length := by omega
        have hBl := hBr2 B2[q] (List.getElem_mem _)
        have hqA : q < A2[i].length := by omega
        have hxb := hAm.at hiA hqA
        have hjB : j < B2[q].length := by omega
        have hyb := hBm.at hqB hjB
        have hxy := mul_bd (a := A2[i][q]) (b := B2[q][j]) (A := 2147483647) (B := 2147483647) (by omega) (by omega) (by omega) (by omega)
        have hxm := Int.emod_lt_of_pos (A2[i][q] * B2[q][j]) (b := m) (by omega)
        have hxn := Int.emod_nonneg (A2[i][q] * B2[q][j]) (b := m) (by omega)
        have hsb := Int.emod_lt_of_pos (psum (fun k => ent A2 i k * ent B2 k j) q) (b := m) (by omega)
        have hsn := Int.emod_nonneg (psum (fun k => ent A2 i k * ent B2 k j) q) (b := m) (by omega)
        have hjC : j < (mixR B2[0].length (fun j => psum (fun k => ent A2 i k * ent B2 k j) B2.length % m) (fun _ => 0) j).length := by rw [mixR_len]; omega
        refine w_draw (by kernel_rfl) ?_
        refine r_mv (r_mv (r_mv (r_mv (r_ixi sl_I64 rfl HQ.sl rfl (List.getElem?_set_self hjC) fun aC haC => ?_))))
        refine r_ld na_i64 rfl haC (r_mv (r_mv (r_ixmE sl_MM rfl HA2 hC rfl (List.getElem?_eq_getElem (by omega)) fun aX rX haX hrX => ?_)))
        refine r_ld na_I64 rfl haX (r_mv (r_ixi sl_I64 rfl (Ints.ext hrX hC) rfl (List.getElem?_eq_getElem (by omega)) fun aXX haXX => ?_))
        refine r_ld na_i64 rfl haXX (r_mv (r_mv (r_ixmE sl_MM rfl HB2 hC rfl (List.getElem?_eq_getElem (by omega)) fun aY rY haY hrY => ?_)))
        refine r_ld na_I64 rfl haY (r_mv (r_ixi sl_I64 rfl (Ints.ext hrY hC) rfl (List.getElem?_eq_getElem (by omega)) fun aYY haYY => ?_))
        refine r_ld na_i64 rfl haYY (r_mulb rfl rfl (by omega) (by omega) (r_mv (r_remp rfl rfl (by omega) (by omega) (r_addb rfl rfl (by omega) (by omega) (r_mv (r_remp rfl rfl (by omega) (by omega) (r_ixo sl_I64 rfl HQ rfl (by rw [List.length_map, List.length_set]; exact hjC) ?_)))))))
        refine r_sto na_i64 rfl rfl rfl HQ (by rw [List.length_map, List.length_set]; exact hjC) ?_
        have HQ2 := HQ.setI (j := j) (by rw [List.length_set]; exact hjC) ((psum (fun k => ent A2 i k * ent B2 k j) q % m + A2[i][q] * B2[q][j] % m) % m)
        rw [set_set_eq (show (psum (fun k => ent A2 i k * ent B2 k j) q % m + A2[i][q] * B2[q][j] % m) % m = psum (fun k => ent A2 i k * ent B2 k j) (q + 1) % m by rw [← ent_eq hiA hqA, ← ent_eq hqB hjB]; exact psum_step2 (f := fun k => ent A2 i k * ent B2 k j))] at HQ2
        refine r_nil (q_b (q_t ?_))
        refine w_reg ?_
        refine r_inc rfl (by omega) (r_mv (r_nil (q_t ?_)))
        exact ⟨B2.length - (q + 1), q + 1, by omega, ⟨hF.thenUpd (upd_set _ _ _) (fun k hk => by have hk2 : k = h1.size := hk; omega), rfl, by omega, HQ2⟩, rfl, trivial⟩
      · skip
        refine r_nil (q_t ?_)
        refine w_seq ?_
        refine w_false rfl ?_
        refine w_exit (q_tx (q_tx (q_bx (q_b (q_t ?_)))))
        refine w_reg ?_
        refine r_inc rfl (by omega) (r_mv (r_nil (q_t ?_)))
        refine ⟨B2[0].length - (j + 1), j + 1, by omega, ⟨hF, rfl, by omega, ?_⟩, rfl, trivial⟩
        obtain rfl : q = B2.length := by omega
        rw [mixR_set (by omega) rfl] at HQ
        exact HQ
    · skip
      refine r_nil (q_t ?_)
      refine w_seq ?_
      refine w_false rfl ?_
      refine w_exit (q_tx (q_tx (q_bx (q_t ?_))))
      refine w_reg ?_
      refine r_mv (r_mv ?_)
      rw [List.length_replicate] at hc2
      have HZ2 := HZ.ext hF
      obtain ⟨rs, hrs, hrsl⟩ := HZ2.gro
      rw [mixR_all _ _ (by omega)] at HO
      refine r_push sl_MM ze_I64 rfl (fun _ => trivial) (fun _ => rfl) rfl HO.one hrs (Nat.le_trans hE.1 hF.1) (by omega) (by simp at hrsl; omega) fun p out' h3' HG3 hU hb3 => ?_
      refine r_as (r_nil (q_b (q_t ?_)))
      refine w_reg ?_
      refine r_inc rfl (by omega) (r_mv (r_nil (q_t ?_)))
      refine ⟨A2.length - (i + 1), (i + 1, out'), by first | omega | (dsimp only; omega), ⟨(hE.trans hF).thenUpd hU (fun k hk => (hrs.blk k hk).1), rfl, by first | omega | (dsimp only; omega), gs ++ [h1.size], ?_⟩, rfl, rfl, trivial⟩
      dsimp only
      rw [← range_snoc]
      exact HZ2.push hrs HO (fun hm => by have := HZ.lt _ hm; omega) hE.1 (fun he => by have := HZ.topLt _ he; omega) HG3 hU hb3
  · skip
    refine r_nil (q_t ?_)
    refine w_seq ?_
    refine w_false rfl ?_
    refine w_exit (q_tx (q_tx (q_bx (q_t ?_))))
    refine w_seq ?_
    refine w_reg ?_
    refine r_mv (r_as (r_nil (q_t ?_)))
    refine w_ret ?_
    refine ⟨_, retV_1, ?_⟩
    obtain rfl : i = A2.length := by omega
    obtain ⟨b, hb1, hb2⟩ := HZ.own (range_map_ne (by omega))
    refine ⟨hE3.trans hE, b, gs, ?_, fun g hg => Nat.le_trans hE3.1 (hb2 g hg)⟩
    rw [hA2, hB2]
    unfold mulM tab
    rw [hc0]
    exact hb1

end Go.Proofs.YtdlfineibanppaaDoor
