/-
  Contracts of the row operations of package modular: scale, eliminator and the function that it returns. Conditions stand in each statement.
-/
import Derived.Test.YtdlfineibanppaaDoorMul
namespace Go.Proofs.YtdlfineibanppaaDoor
open Go Go.QF
set_option linter.unusedVariables false
set_option maxRecDepth 100000

/-- A row by its index. -/
def zf (z : List Int) (c : Nat) : Int := z[c]?.getD 0
theorem range_zf (z : List Int) : (List.range z.length).map (zf z) = z := by
  refine List.ext_getElem (by simp) fun i h1 h2 => ?_
  simp [zf, h2]
theorem zf_bd {z : List Int} {m : Int} (hm : 0 < m) (h : ∀ x ∈ z, 0 ≤ x ∧ x < m) (c : Nat) : 0 ≤ zf z c ∧ zf z c < m := by
  unfold zf
  rcases Nat.lt_or_ge c z.length with hc | hc
  · simp [hc]; exact h _ (List.getElem_mem _)
  · simp [List.getElem?_eq_none hc, hm]

theorem scale_ok {h : Heap} {g : Nat} {v : Value} {z : List Int} (HO : OwnA h tI g v (z.map (.int .i64))) {f m : Int} (hz : ∀ x ∈ z, 0 ≤ x ∧ x < m) (hf : 0 ≤ f) (hfm : f < m) (hm : 2 ≤ m) (hm2 : m ≤ 2147483647) (hl : z.length ≤ 1000000) :
    CallH Tryd.prog 50 #[v, .int .i64 f, .int .i64 m] h fun r h' => Upd (· = g) h h' ∧ OwnA h' tI g v (((List.range z.length).map fun c => zf z c * f % m).map (.int .i64)) := by
  refine calls_of_W (l := [_, _, _]) mx Tryd.func50 rfl rfl rfl rfl rfl (by kernel_rfl) ?_
  refine w_seq ?_
  refine w_reg ?_
  refine r_mv (r_leni sl_I64 rfl HO.sl (r_mv (r_nil (q_t ?_))))
  refine w_block ?_
  refine w_loop 16776384 (fun j : Nat => [(10, .int .i64 (j : Int))]) (fun k j h' => Upd (· = g) h h' ∧ k = z.length - j ∧ j ≤ z.length ∧ OwnA h' tI g v ((mixR z.length (fun c => zf z c * f % m) (zf z) j).map (.int .i64))) (by kernel_rfl) z.length 0 ?_ ⟨rfl, trivial⟩ ?_
  · exact ⟨Upd.refl _ _, by omega, by omega, by rw [mixR_zero, range_zf]; exact HO⟩
  rintro k j s h1 ⟨hU, rfl, hj, HQ⟩
  refine w_seq ?_
  refine w_reg ?_
  refine r_lss rfl rfl (fun hc1 => ?_) (fun hc1 => ?_)   -- t11 := binOp lss 3 t10 t9 3
  · skip
    refine r_nil (q_t ?_)
    refine w_seq ?_
    refine w_true rfl ?_
    refine w_skip (q_t ?_)
    refine w_seq ?_
    refine w_block ?_
    refine w_seq ?_
    refine w_reg ?_
    refine r_mv (r_ixi sl_I64 rfl HQ.sl rfl (mixR_at (by omega)) fun aX haX => ?_)
    refine r_ld na_i64 rfl haX (r_as (r_as (r_nil (q_t ?_))))
    have hxb := zf_bd (by omega) hz j
    have hxf := mul_bd (a := zf z j) (b := f) (A := 2147483647) (B := 2147483647) (by omega) (by omega) (by omega) (by omega)
    refine w_reg ?_
    refine r_mv (r_mv (r_mv (r_mv (r_mulb rfl rfl (by omega) (by omega) (r_mv (r_remp rfl rfl (by omega) (by omega) (r_ixo sl_I64 rfl HQ rfl (by rw [List.length_map, mixR_len]; omega) ?_)))))))
    refine r_sto na_i64 rfl rfl rfl HQ (by rw [List.length_map, mixR_len]; omega) ?_
    have HQ2 := HQ.setI (j := j) (by rw [mixR_len]; omega) (zf z j * f % m)
    rw [mixR_set (by omega) rfl] at HQ2
    refine r_nil (q_b (q_t ?_))
    refine w_reg ?_
    refine r_inc rfl (by omega) (r_mv (r_nil (q_t ?_)))
    exact ⟨z.length - (j + 1), j + 1, by omega, ⟨hU.trans (upd_set _ _ _), rfl, by omega, HQ2⟩, rfl, trivial⟩
  · skip
    refine r_nil (q_t ?_)
    refine w_seq ?_
    refine w_false rfl ?_
    refine w_exit (q_tx (q_tx (q_bx ?_)))
    refine ⟨_, retV_none, ?_⟩
    rw [mixR_all _ _ (by omega)] at HQ
    exact ⟨hU, HQ⟩

theorem eliminate_ok {h : Heap} {g gr : Nat} {vt vr : Value} {t r : List Int} {a : Addr} (HT : OwnA h tI g vt (t.map (.int .i64))) (HR : OwnA h tI gr vr (r.map (.int .i64))) (hne : g ≠ gr) (htr : t.length = r.length) {f m : Int} (hb : cellH h a = some (.int .i64 m)) (hab : a.block ≠ g)
    (ht : ∀ x ∈ t, 0 ≤ x ∧ x < m) (hr : ∀ x ∈ r, 0 ≤ x ∧ x < m) (hf : 0 ≤ f) (hfm : f < m) (hm : 2 ≤ m) (hm2 : m ≤ 2147483647) (hl : r.length ≤ 1000000) :
    CallH Tryd.prog 70 #[vt, vr, .int .i64 f, .pointer (some a)] h fun _ h' => Upd (· = g) h h' ∧ OwnA h' tI g vt (((List.range r.length).map fun c => (zf t c + (m - f) * zf r c) % m).map (.int .i64)) := by
  refine calls_of_W (l := [_, _, _, _]) mx Tryd.func70 rfl rfl rfl rfl rfl (by kernel_rfl) ?_
  refine w_seq ?_
  refine w_reg ?_
  refine r_mv (r_leni sl_I64 rfl HR.sl (r_mv (r_nil (q_t ?_))))
  refine w_block ?_
  refine w_loop 4294965632 (fun j : Nat => [(11, .int .i64 (j : Int))]) (fun k j h' => Upd (· = g) h h' ∧ k = r.length - j ∧ j ≤ r.length ∧ OwnA h' tI g vt ((mixR r.length (fun c => (zf t c + (m - f) * zf r c) % m) (zf t) j).map (.int .i64))) (by kernel_rfl) r.length 0 ?_ ⟨rfl, trivial⟩ ?_
  · exact ⟨Upd.refl _ _, by omega, by omega, by rw [mixR_zero, ← htr, range_zf]; exact HT⟩
  rintro k j s h1 ⟨hU, rfl, hj, HQ⟩
  have HRc := HR.upd hU (fun he => hne he.symm)
  have hbx := cellH_upd hb hU (fun he => hab he)
  refine w_seq ?_
  refine w_reg ?_
  refine r_lss rfl rfl (fun hc1 => ?_) (fun hc1 => ?_)   -- t12 := binOp lss 3 t11 t10 3
  · skip
    refine r_nil (q_t ?_)
    refine w_seq ?_
    refine w_true rfl ?_
    refine w_skip (q_t ?_)
    refine w_seq ?_
    refine w_block ?_
    refine w_seq ?_
    refine w_reg ?_
    refine r_mv (r_ixi sl_I64 rfl HRc.sl rfl (show r[j]? = some (zf r j) by rw [zf, List.getElem?_eq_getElem (by omega)]; rfl) fun aX haX => ?_)
    refine r_ld na_i64 rfl haX (r_as (r_as (r_nil (q_t ?_))))
    have hxb := zf_bd (by omega) hr j
    have htb := zf_bd (by omega) ht j
    have hxf := mul_bd (a := m - f) (b := zf r j) (A := 2147483647) (B := 2147483647) (by omega) (by omega) (by omega) (by omega)
    refine w_draw (by kernel_rfl) ?_
    refine r_mv (r_mv (r_mv (r_mv (r_ixi sl_I64 rfl HQ.sl rfl (mixR_at (by omega)) fun aT haT => ?_))))
    refine r_ld na_i64 rfl haT (r_ld na_i64 rfl hbx (r_mv (r_subb rfl rfl (by omega) (by omega) (r_mv (r_mulb rfl rfl (by omega) (by omega) (r_addb rfl rfl (by omega) (by omega) (r_ld na_i64 rfl hbx (r_remp rfl rfl (by omega) (by omega) (r_ixo sl_I64 rfl HQ rfl (by rw [List.length_map, mixR_len]; omega) ?_)))))))))
    refine r_sto na_i64 rfl rfl rfl HQ (by rw [List.length_map, mixR_len]; omega) ?_
    have HQ2 := HQ.setI (j := j) (by rw [mixR_len]; omega) ((zf t j + (m - f) * zf r j) % m)
    rw [mixR_set (by omega) rfl] at HQ2
    refine r_nil (q_b (q_t ?_))
    refine w_reg ?_
    refine r_inc rfl (by omega) (r_mv (r_nil (q_t ?_)))
    exact ⟨r.length - (j + 1), j + 1, by omega, ⟨hU.trans (upd_set _ _ _), rfl, by omega, HQ2⟩, rfl, trivial⟩
  · skip
    refine r_nil (q_t ?_)
    refine w_seq ?_
    refine w_false rfl ?_
    refine w_exit (q_tx (q_tx (q_bx ?_)))
    refine ⟨_, retV_none, ?_⟩
    rw [mixR_all _ _ (by omega)] at HQ
    exact ⟨hU, HQ⟩

theorem eliminator_ok (m : Int) (h : Heap) : CallH Tryd.prog 48 #[.int .i64 m] h fun v h' => h' = h.push (.cells #[.int .i64 m] tI (0, 0)) ∧ v = .func (.func 70) #[] #[.pointer (some ⟨h.size, 0, none⟩)] := by
  refine calls_of_W (l := [_]) mx Tryd.func48 rfl rfl rfl rfl rfl (by kernel_rfl) ?_
  refine w_seq ?_
  refine w_reg ?_
  refine r_box trivial rfl ⟨trivial, ?_⟩
  refine r_as (r_nil (q_t ?_))
  refine w_seq ?_
  refine w_reg ?_
  refine r_mf (l := [.pointer (some ⟨h.size, 0, none⟩)]) rfl ?_
  refine r_as (r_nil (q_t ?_))
  refine w_ret ?_
  refine ⟨_, retV_1, ?_⟩
  exact ⟨rfl, rfl⟩

end Go.Proofs.YtdlfineibanppaaDoor
