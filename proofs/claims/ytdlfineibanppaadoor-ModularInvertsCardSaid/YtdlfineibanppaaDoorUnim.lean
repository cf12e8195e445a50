/-
  Contracts of the tape's Below and of Unimodular: the matrix has an inverse in integers.
-/
import Derived.Test.YtdlfineibanppaaDoorLaw5
import Derived.Test.YtdlfineibanppaaDoorUni
namespace Go.Proofs.YtdlfineibanppaaDoor
open Go Go.QF
set_option linter.unusedVariables false
set_option maxRecDepth 100000
def rowTo (U : Nat → Nat → Int) (i j : Nat) (c : Int) (rr : Nat) : Nat → Nat → Int := fun r => if r < rr then opR i j c (U r) else U r
theorem rowTo_at (U : Nat → Nat → Int) (i j : Nat) (c : Int) (rr : Nat) : rowTo U i j c rr rr = U rr := by simp [rowTo]
theorem rowTo_zero (U : Nat → Nat → Int) (i j : Nat) (c : Int) : rowTo U i j c 0 = U := by funext r; simp [rowTo]
theorem rowTo_row {U : Nat → Nat → Int} {i j n rr : Nat} {c : Int} (h : rr < n) : (tab n n (rowTo U i j c rr))[rr]? = some ((List.range n).map (U rr)) := by rw [tab_row h]; simp only [rowTo_at]
theorem rowTo_step (U : Nat → Nat → Int) (i j : Nat) (c : Int) (rr : Nat) : setF (rowTo U i j c rr) rr (opR i j c (U rr)) = rowTo U i j c (rr + 1) := by
  funext r
  by_cases h : r = rr
  · subst h; rw [setF_same]; simp [rowTo]
  · rw [setF_ne _ _ h]
    unfold rowTo
    by_cases h1 : r < rr
    · rw [if_pos h1, if_pos (by omega)]
    · rw [if_neg h1, if_neg (by omega)]
theorem rowTo_all {U : Nat → Nat → Int} {i j n : Nat} {c : Int} : tab n n (rowTo U i j c n) = tab n n (fun r => opR i j c (U r)) := tab_congr fun r q hr _ => by simp [rowTo, hr]
theorem opR_neg {n i j : Nat} {c : Int} {z : Nat → Int} (h : i = j) (hc : c < 0) : ((List.range n).map z).set i (-z i) = (List.range n).map (opR i j c z) :=
  range_set (fun q _ hne => by simp [opR, h, hc]; intro he; exact absurd (he.trans h.symm) hne) (by simp [opR, h, hc])
theorem opR_add {n i j : Nat} {c : Int} {z : Nat → Int} (h : i ≠ j) (hc : c ≠ 0) : ((List.range n).map z).set i (z i + c * z j) = (List.range n).map (opR i j c z) :=
  range_set (fun q _ hne => by simp [opR, h, hc, hne]) (by simp [opR, h, hc])
theorem opR_swap {n i j : Nat} {c : Int} {z : Nat → Int} (h : i ≠ j) (hc : c = 0) : (((List.range n).map z).set i (z j)).set j (z i) = (List.range n).map (opR i j c z) := by
  rw [range_set (g := fun q => if q = i then z j else z q) (fun q _ hne => by simp [hne]) (by simp)]
  refine range_set (fun q _ hne => ?_) ?_
  · simp [opR, h, hc, hne]
  · simp [opR, h, hc, Ne.symm h]
theorem opR_none {i j : Nat} {c : Int} {z : Nat → Int} (h : i = j) (hc : 0 ≤ c) : opR i j c z = z := by
  funext q; simp [opR, h]; omega
theorem mul_small {c x B : Int} (h1 : -2 ≤ c) (h2 : c ≤ 2) (h3 : -B ≤ x) (h4 : x ≤ B) : -(2 * B) ≤ c * x ∧ c * x ≤ 2 * B := by
  rcases (by omega : c = -2 ∨ c = -1 ∨ c = 0 ∨ c = 1 ∨ c = 2) with rfl | rfl | rfl | rfl | rfl <;> omega
theorem opR_bd {n i j : Nat} {c B : Int} {z : Nat → Int} (hi : i < n) (hj : j < n) (h1 : -2 ≤ c) (h2 : c ≤ 2) (hz : ∀ q, q < n → -B ≤ z q ∧ z q ≤ B) : ∀ q, q < n → -(B * 3) ≤ opR i j c z q ∧ opR i j c z q ≤ B * 3 := by
  intro q hq
  have a1 := hz q hq
  have a2 := hz i hi
  have a3 := hz j hj
  have a4 := mul_small h1 h2 a3.1 a3.2
  unfold opR
  split
  · split
    · split <;> omega
    · omega
  · split
    · split
      · omega
      · split <;> omega
    · split <;> omega
theorem pow3 {k : Nat} (h : k ≤ 11) : 1 ≤ (3 : Int) ^ k ∧ (3 : Int) ^ k ≤ 177147 := by
  have : k = 0 ∨ k = 1 ∨ k = 2 ∨ k = 3 ∨ k = 4 ∨ k = 5 ∨ k = 6 ∨ k = 7 ∨ k = 8 ∨ k = 9 ∨ k = 10 ∨ k = 11 := by omega
  rcases this with rfl | rfl | rfl | rfl | rfl | rfl | rfl | rfl | rfl | rfl | rfl | rfl <;> decide
theorem u8_ex (z : Int) : ∃ w : Nat, IntKind.u8.wrap z = (w : Int) ∧ w < 256 := by
  refine ⟨(z % 256).toNat, ?_, ?_⟩
  · simp [IntKind.wrap, IntKind.bits, IntKind.signed]; omega
  · omega

theorem Below_ok {h : Heap} {b k n : Nat} {lv : Value} {Z : List Int} (HT : TapeH tTape h b lv k) (HZ : Sl h lv (Z.map i8V)) (hne : Z ≠ [] → lv.ownBlock ≠ some b) (hk : k ≤ Z.length) (hk2 : k < 1000000000) (hZ : ∀ z ∈ Z, -128 ≤ z ∧ z ≤ 127) (hn : 0 < n) :
    CallH Tryd.prog 67 #[.pointer (some ⟨b, 0, none⟩), .int .i64 (n : Int)] h fun x h' => ∃ q : Nat, q < n ∧ x = .int .i64 (q : Int) ∧ TapeH tTape h' b lv (min (k + 1) Z.length) ∧ Upd (· = b) h h' := by
  refine calls_of_W (l := [_, _]) mx Tryd.func67 rfl rfl rfl rfl rfl (by kernel_rfl) ?_
  refine w_seq ?_
  refine w_reg ?_
  refine r_as (r_nil (q_t ?_))
  refine w_seq ?_
  refine w_reg ?_
  refine r_mv (r_call trivial rfl (Next_ok HT HZ hne hk hk2 hZ) fun x1 h1 hk => ?_)
  obtain ⟨rfl, HT1, hU1⟩ := hk
  refine ⟨trivial, ?_⟩
  refine r_cv it_i64 it_u8 rfl ?_
  obtain ⟨w, hw, hw2⟩ := u8_ex (Z[k]?.getD 0)
  rw [hw]
  refine r_cvk it_u8 it_int rfl (wrap_small (by omega) (by omega)) ?_
  refine r_mv (r_remn rfl rfl (by omega) ?_)
  refine r_as (r_nil (q_t ?_))
  refine w_ret ?_
  refine ⟨_, retV_1, ?_⟩
  exact ⟨w % n, Nat.mod_lt _ hn, rfl, HT1, hU1⟩

theorem Unimodular_ok {h : Heap} {n : Nat} {lv : Value} {Z : List Int} (HZ : Sl h lv (Z.map i8V)) (hn1 : 1 ≤ n) (hn2 : n ≤ 1000) (hZ : ∀ z ∈ Z, -128 ≤ z ∧ z ≤ 127) :
    CallH Tryd.prog 35 #[lv, .int .i64 (n : Int)] h fun x h' => Ext h h' ∧ ∃ b gs U, PartM h' tR tI b gs x n (tab n n U) ∧ (∀ g ∈ b :: gs, h.size ≤ g) ∧ UniI n U := by
  obtain ⟨la, ln, lcap, hlvE⟩ : ∃ a n c, lv = .slice a n c := by obtain ⟨a, c, h, _⟩ := HZ; exact ⟨_, _, _, h⟩
  refine calls_of_W (l := [_, _]) mx Tryd.func35 rfl rfl rfl rfl rfl (by kernel_rfl) ?_
  refine w_seq ?_
  refine w_reg ?_
  refine r_as (r_nil (q_t ?_))
  refine w_seq ?_
  refine w_reg ?_
  refine r_mv (r_mk (n := n) sl_MM ze_I64 rfl trivial rfl rfl (by omega) (by omega) ⟨trivial, ?_⟩)
  have hP0 := ext_push h (.cells (List.replicate n (.slice none 0 0)).toArray tR (0, 0))
  have HP0 := partM_new h tR tI n (by unfold maxLen; omega)
  obtain ⟨bM, hbM⟩ : ∃ bM, h.size = bM := ⟨_, rfl⟩
  rw [hbM] at HP0 ⊢
  obtain ⟨hC, hhC⟩ : ∃ hC, h.push (.cells (List.replicate n (.slice none 0 0)).toArray tR (0, 0)) = hC := ⟨_, rfl⟩
  rw [hhC] at HP0 hP0 ⊢
  refine r_as (r_nil (q_t ?_))
  refine w_seq ?_
  refine w_seq ?_
  refine w_reg ?_
  refine r_mv (r_lenp sl_MM rfl HP0 (r_mv (r_nil (q_t ?_))))
  refine w_block ?_
  refine w_loop 4294836288 (fun i : Nat => [(17, .int .i64 (i : Int))]) (fun k i h' => Ext h h' ∧ k = n - i ∧ i ≤ n ∧ ∃ gs, PartM h' tR tI bM gs (.slice (some ⟨bM, 0, none⟩) n n) n ((List.range i).map (fun i => (List.range n).map (dl i))) ∧ ∀ g ∈ bM :: gs, h.size ≤ g) (by kernel_rfl) n 0 ?_ ⟨rfl, trivial⟩ ?_
  · exact ⟨hP0, rfl, by omega, [], by simpa using HP0, fun g hg => by simp at hg; omega⟩
  rintro k i s h1 ⟨hE, rfl, hi, gs, HP, hgs⟩
  refine w_seq ?_
  refine w_reg ?_
  refine r_lss rfl rfl (fun hc1 => ?_) (fun hc1 => ?_)   -- t18 := binOp lss 3 t17 t16 3
  · skip
    refine r_nil (q_t ?_)
    refine w_seq ?_
    refine w_true rfl ?_
    refine w_skip (q_t ?_)
    refine w_seq ?_
    refine w_block ?_
    refine w_seq ?_
    refine w_reg ?_
    refine r_mv (r_as (r_nil (q_t ?_)))
    refine w_seq ?_
    refine w_reg ?_
    refine r_mv (r_mv (r_mv (r_mk (n := n) sl_I64 ze_i64 rfl trivial rfl rfl (by omega) (by omega) ⟨trivial, ?_⟩)))
    have hPP := ext_push h1 (.cells (List.replicate n (.int .i64 0)).toArray tI (0, 0))
    have HPa := HP.ext hPP
    have hnew := ownI_new h1 tI n 0 (by unfold maxLen; omega)
    obtain ⟨rs, hTop, hrs⟩ := HPa.top
    have hbMl := HP.lt bM (List.mem_cons_self ..)
    refine r_ixo sl_MM rfl hTop rfl (by omega) ?_
    refine r_sto na_I64 rfl rfl rfl hTop (by omega) ?_
    have HPb := HPa.push (i := i) (by simp) (by omega) hnew (fun hc => by have := HP.lt _ hc; omega)
    have hE2 := (hE.trans hPP).thenUpd (upd_set _ ⟨bM, i, none⟩ (.slice (some ⟨h1.size, 0, none⟩) n n)) (fun k hk => by have hk2 : k = bM := hk; omega)
    have hgs2 : ∀ g ∈ bM :: (gs ++ [h1.size]), h.size ≤ g := fun g hg => by
      rw [← List.cons_append] at hg
      rcases List.mem_append.1 hg with hg | hg
      · exact hgs g hg
      · simp at hg; subst hg; exact hE.1
    refine r_nil (q_t ?_)
    refine w_reg ?_
    refine r_mv (r_mv (r_ixp sl_MM rfl HPb rfl (get_snoc (by simp)) fun aR rR gR haR hgR hrR => ?_))
    refine r_ld na_I64 rfl haR (r_mv (r_ixo sl_I64 rfl hrR rfl (by simp; omega) ?_))
    refine r_sto na_i64 rfl rfl rfl hrR (by simp; omega) ?_
    have HPc := PartM.setElem HPb hgR (get_snoc (by simp)) (j := i) (by simp; omega) 1
    rw [set_snoc (by simp), ← range_rep, range_set (g := dl i) (fun q _ hne => by simp [dl, Ne.symm hne]) (by simp [dl])] at HPc
    have hE3 := hE2.thenUpd (upd_set _ ⟨gR, i, none⟩ (.int .i64 1)) (fun k hk => by have hk2 : k = gR := hk; have := hgs2 gR (List.mem_cons_of_mem _ (List.mem_of_getElem? hgR)); omega)
    refine r_nil (q_b (q_t ?_))
    refine w_reg ?_
    refine r_inc rfl (by omega) (r_mv (r_nil (q_t ?_)))
    exact ⟨n - (i + 1), i + 1, by omega, ⟨hE3, rfl, by omega, gs ++ [h1.size], by rw [← range_snoc]; exact HPc, hgs2⟩, rfl, trivial⟩
  · skip
    refine r_nil (q_t ?_)
    refine w_seq ?_
    refine w_false rfl ?_
    refine w_exit (q_tx (q_tx (q_bx (q_t ?_))))
    refine w_seq ?_
    have hin : i = n := by omega
    rw [hin] at HP
    refine w_reg ?_
    refine r_mv (r_build (v := .agg #[lv, .int .i64 0]) (fun w => by have hbt := build_tape la ln lcap w; rw [← hlvE] at hbt; exact hbt) ?_)
    refine r_boxG (fun _ => trivial) rfl fun bT hB hEB hbT hbT2 hcT => ?_
    have HT0 : TapeH tTape hB bT lv 0 := hcT
    have HPB : PartM hB tR tI bM gs (.slice (some ⟨bM, 0, none⟩) n n) n (tab n n dl) := HP.ext hEB
    have hEb := hE.trans hEB
    have hgs : ∀ g ∈ bM :: gs, h.size ≤ g ∧ g ≠ bT := fun g hg => ⟨hgs g hg, by have := HP.lt g hg; omega⟩
    have hhb := hE.1
    refine r_as (r_nil (q_t ?_))
    refine w_seq ?_
    refine w_seq ?_
    refine w_reg ?_
    refine r_as (r_nil (q_t ?_))
    refine w_block ?_
    refine w_loop 22300745198530623141535718272648327146249984 (fun kk : Nat => [(8, .int .i64 (kk : Int))]) (fun k kk h' => k = 12 - kk ∧ kk ≤ 12 ∧ Ext h h' ∧ ∃ U at1, TapeH tTape h' bT lv at1 ∧ at1 ≤ Z.length ∧ at1 ≤ 3 * kk ∧ PartM h' tR tI bM gs (.slice (some ⟨bM, 0, none⟩) n n) n (tab n n U) ∧ UniI n U ∧ ∀ r q, r < n → q < n → -(3 : Int) ^ kk ≤ U r q ∧ U r q ≤ (3 : Int) ^ kk) (by kernel_rfl) 12 0 ?_ ⟨rfl, trivial⟩ ?_
    · exact ⟨rfl, by omega, hEb, dl, 0, HT0, by omega, by omega, HPB, uni_id n, fun r q _ _ => by unfold dl; split <;> simp⟩
    rintro k kk sx h3 ⟨rfl, hkk, hE, U, at1, HT, hat1, hat2, HU, hUni, hUb⟩
    refine w_seq ?_
    refine w_seq ?_
    refine w_draw (by kernel_rfl) ?_
    refine r_mv (r_lss rfl rfl (fun hc2 => ?_) (fun hc2 => ?_))   -- t36 := binOp lss 3 t35 12:i64 3
    · skip
      refine r_mv (r_want 37 true (by kernel_rfl) rfl rfl (r_mv (r_want 37 true (by kernel_rfl) rfl rfl (r_nc rfl ?_))))
      refine r_want 37 true (by kernel_rfl) rfl rfl (r_fa (fs := 1) fd_T1 (by kernel_rfl) (by decide) rfl ?_)
      refine r_want 37 true (by kernel_rfl) rfl rfl (r_ld na_int rfl HT.c1 (r_want 37 true (by kernel_rfl) rfl rfl (r_mv (r_want 37 true (by kernel_rfl) rfl rfl (r_nc rfl ?_)))))
      refine r_want 37 true (by kernel_rfl) rfl rfl (r_fa (fs := 1) fd_T0 (by kernel_rfl) (by decide) rfl ?_)
      refine r_want 37 true (by kernel_rfl) rfl rfl (r_ld na_I8 rfl HT.c0 (r_want 37 true (by kernel_rfl) rfl rfl (r_lens sl_I8 rfl (HZ.ext hE) ?_)))
      rw [List.length_map]
      refine r_want 37 true (by kernel_rfl) rfl rfl (r_lss rfl rfl (fun hc3 => ?_) (fun hc3 => ?_))   -- t47 := binOp lss 3 t41 t46 3   [guard op2 true]
      · skip
        refine r_pickT rfl (r_nil (q_t ?_))
        refine w_true rfl ?_
        refine w_skip (q_t ?_)
        refine w_seq ?_
        refine w_block ?_
        refine w_seq ?_
        have hp3 := pow3 (k := kk) (by omega)
        obtain ⟨B3, hB3⟩ : ∃ B3, (3 : Int) ^ kk = B3 := ⟨_, rfl⟩
        rw [hB3] at hp3 hUb
        refine w_reg ?_
        refine r_mv (r_mv (r_call trivial rfl (Below_ok (n := n) HT (HZ.ext hE) (fun hz he => by have := HZ.blk_lt (by simpa using hz) bT he; have := hbT; omega) (by omega) (by omega) hZ (by omega)) fun x1 h4 hk => ?_))
        obtain ⟨i, hi, rfl, HT1, hU1⟩ := hk
        refine ⟨trivial, ?_⟩
        have hE1 := hE.thenUpd hU1 (fun k hk => by have hk2 : k = bT := hk; omega)
        have HU1 := HU.upd hU1 (fun g hg he => (hgs g hg).2 he)
        refine r_mv (r_mv (r_call trivial rfl (Below_ok (n := n) HT1 (HZ.ext hE1) (fun hz he => by have := HZ.blk_lt (by simpa using hz) bT he; have := hbT; omega) (by omega) (by omega) hZ (by omega)) fun x2 h5 hk => ?_))
        obtain ⟨j, hj, rfl, HT2, hU2⟩ := hk
        refine ⟨trivial, ?_⟩
        have hE2 := hE1.thenUpd hU2 (fun k hk => by have hk2 : k = bT := hk; omega)
        have HU2 := HU1.upd hU2 (fun g hg he => (hgs g hg).2 he)
        refine r_as (r_as (r_nil (q_t ?_)))
        refine w_seq ?_
        refine w_reg ?_
        refine r_mv (r_call trivial rfl (Next_ok HT2 (HZ.ext hE2) (fun hz he => by have := HZ.blk_lt (by simpa using hz) bT he; have := hbT; omega) (by omega) (by omega) hZ) fun x3 h6 hk => ?_)
        obtain ⟨rfl, HT3, hU3⟩ := hk
        refine ⟨trivial, ?_⟩
        have hE3 := hE2.thenUpd hU3 (fun k hk => by have hk2 : k = bT := hk; omega)
        have HU3 := HU2.upd hU3 (fun g hg he => (hgs g hg).2 he)
        obtain ⟨zc, hzc⟩ : ∃ zc, Z[min (min (at1 + 1) Z.length + 1) Z.length]?.getD 0 = zc := ⟨_, rfl⟩
        rw [hzc]
        obtain ⟨at3, hat3⟩ : ∃ at3, min (min (min (at1 + 1) Z.length + 1) Z.length + 1) Z.length = at3 := ⟨_, rfl⟩
        rw [hat3] at HT3
        have hcb := tmod_bd (x := zc) (m := 3) (by omega)
        have hlat3 : at3 ≤ Z.length ∧ at3 ≤ 3 * (kk + 1) := by omega
        refine r_rem rfl rfl (by decide) ?_
        obtain ⟨c, hce⟩ : ∃ c, zc.tmod 3 = c := ⟨_, rfl⟩
        rw [hce] at hcb ⊢
        have hc2 : -2 ≤ c ∧ c ≤ 2 := by omega
        refine r_as (r_nil (q_t ?_))
        refine w_seq ?_
        refine w_reg ?_
        refine r_mv (r_lenp sl_MM rfl HU3 ?_)
        refine r_mv (r_nil (q_t ?_))
        refine w_block ?_
        refine w_loop 22300745198530623141535713660962343078596608 (fun rr : Nat => [(62, .int .i64 (rr : Int))]) (fun k rr h' => k = n - rr ∧ rr ≤ n ∧ Ext h h' ∧ TapeH tTape h' bT lv at3 ∧ PartM h' tR tI bM gs (.slice (some ⟨bM, 0, none⟩) n n) n (tab n n (rowTo U i j c rr))) (by kernel_rfl) n 0 ?_ ⟨rfl, trivial⟩ ?_
        · exact ⟨rfl, by omega, hE3, HT3, by rw [rowTo_zero]; exact HU3⟩
        rintro k rr sy h7 ⟨rfl, hrr, hEq, HTq, HQ⟩
        refine w_seq ?_
        refine w_reg ?_
        refine r_lss rfl rfl (fun hc4 => ?_) (fun hc4 => ?_)   -- t63 := binOp lss 3 t62 t61 3
        · skip
          refine r_nil (q_t ?_)
          refine w_seq ?_
          refine w_true rfl ?_
          refine w_skip (q_t ?_)
          refine w_seq ?_
          refine w_block ?_
          refine w_seq ?_
          have hrn : rr < n := by omega
          have hzi := hUb rr i hrn hi
          have hzj := hUb rr j hrn hj
          have hmul := mul_small hc2.1 hc2.2 hzj.1 hzj.2
          refine w_reg ?_
          refine r_mv (r_as (r_nil (q_t ?_)))
          refine w_block ?_
          refine w_seq ?_
          refine w_reg ?_
          refine r_mv (r_mv (r_eql rfl rfl (fun hc5 => ?_) (fun hc5 => ?_)))   -- t68 := binOp eql 3 t66 t67 3
          · skip
            refine r_mv (r_want 69 true (by kernel_rfl) rfl rfl (r_mv (r_want 69 true (by kernel_rfl) rfl rfl (r_lss rfl rfl (fun hc6 => ?_) (fun hc6 => ?_)))))   -- t71 := binOp lss 2 t70 0:i64 2   [guard op3 true]
            · skip
              refine r_pickT rfl (r_as (r_nil (q_t ?_)))
              refine w_true rfl ?_
              refine w_draw (by kernel_rfl) ?_
              refine r_mv (r_mv (r_ixp sl_MM rfl HQ rfl (rowTo_row hrn) fun aA rA gA haA hgA hrA => ?_))
              refine r_ld na_I64 rfl haA (r_mv (r_mv (r_mv (r_ixp sl_MM rfl HQ rfl (rowTo_row hrn) fun aB rB gB haB hgB hrB => ?_))))
              refine r_ld na_I64 rfl haB (r_mv (r_ixi sl_I64 rfl hrB.sl rfl (range_at (by omega)) fun aX haX => ?_))
              refine r_ld na_i64 rfl haX (r_neg rfl ?_)
              rw [show IntKind.i64.wrap (0 - U rr i) = -(U rr i) by rw [IntKind.wrap_i64]; omega]
              refine r_ixo sl_I64 rfl hrA rfl (by simp; omega) ?_
              refine r_sto na_i64 rfl rfl rfl hrA (by simp; omega) ?_
              have HPf := PartM.setElem HQ hgA (rowTo_row hrn) (j := i) (by simp; omega) (-(U rr i))
              rw [opR_neg (c := c) (j := j) (by omega) (by omega), tab_setF, rowTo_step] at HPf
              have hgK := hgs gA (List.mem_cons_of_mem _ (List.mem_of_getElem? hgA))
              have hEf := hEq.thenUpd (upd_set h7 ⟨gA, i, none⟩ (.int .i64 (-(U rr i)))) (fun k hk => by have hk2 : k = gA := hk; omega)
              have HTf := HTq.upd (upd_set h7 ⟨gA, i, none⟩ (.int .i64 (-(U rr i)))) (fun he => hgK.2 (Eq.symm he))
              refine r_nil (q_b (q_b (q_t ?_)))
              refine w_reg ?_
              refine r_inc rfl (by omega) (r_mv (r_nil (q_t ?_)))
              first | exact ⟨n - (rr + 1), rr + 1, by omega, ⟨rfl, by omega, hEf, HTf, HPf⟩, rfl, trivial⟩ | exact ⟨n - (rr + 1), rr + 1, by omega, ⟨rfl, by omega, hEq, HTq, by rw [← rowTo_step, opR_none (by omega) (by omega), ← rowTo_at U i j c rr, setF_self]; exact HQ⟩, rfl, trivial⟩
            · skip
              refine r_pickT rfl (r_as (r_nil (q_t ?_)))
              refine w_false rfl ?_
              refine w_seq ?_
              refine w_reg ?_
              refine r_mv (r_mv (r_neq rfl rfl (fun hc7 => ?_) (fun hc7 => ?_)))   -- t90 := binOp neq 3 t88 t89 3
              · skip
                refine r_mv (r_want 91 true (by kernel_rfl) rfl rfl (r_mv (r_want 91 true (by kernel_rfl) rfl rfl (r_eql rfl rfl (fun hc8 => ?_) (fun hc8 => ?_)))))   -- t93 := binOp eql 2 t92 0:i64 2   [guard op3 true]
                · skip
                  refine r_pickT rfl (r_as (r_nil (q_t ?_)))
                  refine w_true rfl ?_
                  refine w_draw (by kernel_rfl) ?_
                  refine r_mv (r_mv (r_ixp sl_MM rfl HQ rfl (rowTo_row hrn) fun aA rA gA haA hgA hrA => ?_))
                  refine r_ld na_I64 rfl haA (r_mv (r_mv (r_mv (r_ixp sl_MM rfl HQ rfl (rowTo_row hrn) fun aB rB gB haB hgB hrB => ?_))))
                  refine r_ld na_I64 rfl haB (r_mv (r_mv (r_mv (r_ixp sl_MM rfl HQ rfl (rowTo_row hrn) fun aC rC gC haC hgC hrC => ?_))))
                  refine r_ld na_I64 rfl haC (r_mv (r_ixi sl_I64 rfl hrC.sl rfl (range_at (by omega)) fun aX haX => ?_))
                  refine r_ld na_i64 rfl haX (r_mv (r_mv (r_ixp sl_MM rfl HQ rfl (rowTo_row hrn) fun aD rD gD haD hgD hrD => ?_)))
                  refine r_ld na_I64 rfl haD (r_mv (r_ixi sl_I64 rfl hrD.sl rfl (range_at (by omega)) fun aY haY => ?_))
                  refine r_ld na_i64 rfl haY ?_
                  obtain rfl : gA = gB := Option.some.inj (hgA.symm.trans hgB)
                  refine r_ixo sl_I64 rfl hrA rfl (by simp; omega) ?_
                  refine r_sto na_i64 rfl rfl rfl hrA (by simp; omega) ?_
                  have HP1 := PartM.setElem HQ hgA (rowTo_row hrn) (j := i) (by simp; omega) (U rr j)
                  have hrB2 := hrB.setI (j := i) (by simp; omega) (U rr j)
                  refine r_ixo sl_I64 rfl hrB2 rfl (by simp; omega) ?_
                  refine r_sto na_i64 rfl rfl rfl hrB2 (by simp; omega) ?_
                  have HPf := PartM.setElem HP1 hgA (List.getElem?_set_self (by rw [tab_len]; omega)) (j := j) (by simp; omega) (U rr i)
                  rw [List.set_set, opR_swap (c := c) (by omega) (by omega), tab_setF, rowTo_step] at HPf
                  have hgK := hgs gA (List.mem_cons_of_mem _ (List.mem_of_getElem? hgA))
                  have hUU := (upd_set h7 ⟨gA, i, none⟩ (.int .i64 (U rr j))).trans (upd_set _ ⟨gA, j, none⟩ (.int .i64 (U rr i)))
                  have hEf := hEq.thenUpd hUU (fun k hk => by have hk2 : k = gA := hk; omega)
                  have HTf := HTq.upd hUU (fun he => hgK.2 (Eq.symm he))
                  refine r_nil (q_b (q_b (q_t ?_)))
                  refine w_reg ?_
                  refine r_inc rfl (by omega) (r_mv (r_nil (q_t ?_)))
                  first | exact ⟨n - (rr + 1), rr + 1, by omega, ⟨rfl, by omega, hEf, HTf, HPf⟩, rfl, trivial⟩ | exact ⟨n - (rr + 1), rr + 1, by omega, ⟨rfl, by omega, hEq, HTq, by rw [← rowTo_step, opR_none (by omega) (by omega), ← rowTo_at U i j c rr, setF_self]; exact HQ⟩, rfl, trivial⟩
                · skip
                  refine r_pickT rfl (r_as (r_nil (q_t ?_)))
                  refine w_false rfl ?_
                  refine w_seq ?_
                  refine w_reg ?_
                  refine r_mv (r_mv (r_neq rfl rfl (fun hc9 => ?_) (fun hc9 => ?_)))   -- t124 := binOp neq 3 t122 t123 3
                  · skip
                    refine r_as (r_nil (q_t ?_))
                    refine w_true rfl ?_
                    refine w_draw (by kernel_rfl) ?_
                    refine r_mv (r_mv (r_ixp sl_MM rfl HQ rfl (rowTo_row hrn) fun aA rA gA haA hgA hrA => ?_))
                    refine r_ld na_I64 rfl haA (r_mv (r_ixi sl_I64 rfl hrA.sl rfl (range_at (by omega)) fun aX haX => ?_))
                    refine r_ld na_i64 rfl haX (r_mv (r_mv (r_mv (r_ixp sl_MM rfl HQ rfl (rowTo_row hrn) fun aB rB gB haB hgB hrB => ?_))))
                    refine r_ld na_I64 rfl haB (r_mv (r_ixi sl_I64 rfl hrB.sl rfl (range_at (by omega)) fun aY haY => ?_))
                    refine r_ld na_i64 rfl haY (r_mulb rfl rfl (by omega) (by omega) (r_addb rfl rfl (by omega) (by omega) (r_ixo sl_I64 rfl hrA rfl (by simp; omega) ?_)))
                    refine r_sto na_i64 rfl rfl rfl hrA (by simp; omega) ?_
                    have HPf := PartM.setElem HQ hgA (rowTo_row hrn) (j := i) (by simp; omega) (U rr i + c * U rr j)
                    rw [opR_add (by omega) (by omega), tab_setF, rowTo_step] at HPf
                    have hgK := hgs gA (List.mem_cons_of_mem _ (List.mem_of_getElem? hgA))
                    have hEf := hEq.thenUpd (upd_set h7 ⟨gA, i, none⟩ (.int .i64 (U rr i + c * U rr j))) (fun k hk => by have hk2 : k = gA := hk; omega)
                    have HTf := HTq.upd (upd_set h7 ⟨gA, i, none⟩ (.int .i64 (U rr i + c * U rr j))) (fun he => hgK.2 (Eq.symm he))
                    refine r_nil (q_b (q_b (q_t ?_)))
                    refine w_reg ?_
                    refine r_inc rfl (by omega) (r_mv (r_nil (q_t ?_)))
                    first | exact ⟨n - (rr + 1), rr + 1, by omega, ⟨rfl, by omega, hEf, HTf, HPf⟩, rfl, trivial⟩ | exact ⟨n - (rr + 1), rr + 1, by omega, ⟨rfl, by omega, hEq, HTq, by rw [← rowTo_step, opR_none (by omega) (by omega), ← rowTo_at U i j c rr, setF_self]; exact HQ⟩, rfl, trivial⟩
                  · skip
                    refine r_as (r_nil (q_t ?_))
                    refine w_false rfl ?_
                    refine w_skip (q_b (q_b (q_t ?_)))
                    refine w_reg ?_
                    refine r_inc rfl (by omega) (r_mv (r_nil (q_t ?_)))
                    first | exact ⟨n - (rr + 1), rr + 1, by omega, ⟨rfl, by omega, hEf, HTf, HPf⟩, rfl, trivial⟩ | exact ⟨n - (rr + 1), rr + 1, by omega, ⟨rfl, by omega, hEq, HTq, by rw [← rowTo_step, opR_none (by omega) (by omega), ← rowTo_at U i j c rr, setF_self]; exact HQ⟩, rfl, trivial⟩
              · skip
                refine r_mv (r_skip 91 false (by kernel_rfl) rfl rfl (r_skip 91 false (by kernel_rfl) rfl rfl (r_pickF rfl (r_as (r_nil (q_t ?_))))))
                refine w_false rfl ?_
                refine w_seq ?_
                refine w_reg ?_
                refine r_mv (r_mv (r_neq rfl rfl (fun hc10 => ?_) (fun hc10 => ?_)))   -- t124 := binOp neq 3 t122 t123 3
                · skip
                  refine r_as (r_nil (q_t ?_))
                  refine w_true rfl ?_
                  refine w_draw (by kernel_rfl) ?_
                  refine r_mv (r_mv (r_ixp sl_MM rfl HQ rfl (rowTo_row hrn) fun aA rA gA haA hgA hrA => ?_))
                  refine r_ld na_I64 rfl haA (r_mv (r_ixi sl_I64 rfl hrA.sl rfl (range_at (by omega)) fun aX haX => ?_))
                  refine r_ld na_i64 rfl haX (r_mv (r_mv (r_mv (r_ixp sl_MM rfl HQ rfl (rowTo_row hrn) fun aB rB gB haB hgB hrB => ?_))))
                  refine r_ld na_I64 rfl haB (r_mv (r_ixi sl_I64 rfl hrB.sl rfl (range_at (by omega)) fun aY haY => ?_))
                  refine r_ld na_i64 rfl haY (r_mulb rfl rfl (by omega) (by omega) (r_addb rfl rfl (by omega) (by omega) (r_ixo sl_I64 rfl hrA rfl (by simp; omega) ?_)))
                  refine r_sto na_i64 rfl rfl rfl hrA (by simp; omega) ?_
                  have HPf := PartM.setElem HQ hgA (rowTo_row hrn) (j := i) (by simp; omega) (U rr i + c * U rr j)
                  rw [opR_add (by omega) (by omega), tab_setF, rowTo_step] at HPf
                  have hgK := hgs gA (List.mem_cons_of_mem _ (List.mem_of_getElem? hgA))
                  have hEf := hEq.thenUpd (upd_set h7 ⟨gA, i, none⟩ (.int .i64 (U rr i + c * U rr j))) (fun k hk => by have hk2 : k = gA := hk; omega)
                  have HTf := HTq.upd (upd_set h7 ⟨gA, i, none⟩ (.int .i64 (U rr i + c * U rr j))) (fun he => hgK.2 (Eq.symm he))
                  refine r_nil (q_b (q_b (q_t ?_)))
                  refine w_reg ?_
                  refine r_inc rfl (by omega) (r_mv (r_nil (q_t ?_)))
                  first | exact ⟨n - (rr + 1), rr + 1, by omega, ⟨rfl, by omega, hEf, HTf, HPf⟩, rfl, trivial⟩ | exact ⟨n - (rr + 1), rr + 1, by omega, ⟨rfl, by omega, hEq, HTq, by rw [← rowTo_step, opR_none (by omega) (by omega), ← rowTo_at U i j c rr, setF_self]; exact HQ⟩, rfl, trivial⟩
                · skip
                  refine r_as (r_nil (q_t ?_))
                  refine w_false rfl ?_
                  refine w_skip (q_b (q_b (q_t ?_)))
                  refine w_reg ?_
                  refine r_inc rfl (by omega) (r_mv (r_nil (q_t ?_)))
                  first | exact ⟨n - (rr + 1), rr + 1, by omega, ⟨rfl, by omega, hEf, HTf, HPf⟩, rfl, trivial⟩ | exact ⟨n - (rr + 1), rr + 1, by omega, ⟨rfl, by omega, hEq, HTq, by rw [← rowTo_step, opR_none (by omega) (by omega), ← rowTo_at U i j c rr, setF_self]; exact HQ⟩, rfl, trivial⟩
          · skip
            refine r_mv (r_skip 69 false (by kernel_rfl) rfl rfl (r_skip 69 false (by kernel_rfl) rfl rfl (r_pickF rfl (r_as (r_nil (q_t ?_))))))
            refine w_false rfl ?_
            refine w_seq ?_
            refine w_reg ?_
            refine r_mv (r_mv (r_neq rfl rfl (fun hc11 => ?_) (fun hc11 => ?_)))   -- t90 := binOp neq 3 t88 t89 3
            · skip
              refine r_mv (r_want 91 true (by kernel_rfl) rfl rfl (r_mv (r_want 91 true (by kernel_rfl) rfl rfl (r_eql rfl rfl (fun hc12 => ?_) (fun hc12 => ?_)))))   -- t93 := binOp eql 2 t92 0:i64 2   [guard op3 true]
              · skip
                refine r_pickT rfl (r_as (r_nil (q_t ?_)))
                refine w_true rfl ?_
                refine w_draw (by kernel_rfl) ?_
                refine r_mv (r_mv (r_ixp sl_MM rfl HQ rfl (rowTo_row hrn) fun aA rA gA haA hgA hrA => ?_))
                refine r_ld na_I64 rfl haA (r_mv (r_mv (r_mv (r_ixp sl_MM rfl HQ rfl (rowTo_row hrn) fun aB rB gB haB hgB hrB => ?_))))
                refine r_ld na_I64 rfl haB (r_mv (r_mv (r_mv (r_ixp sl_MM rfl HQ rfl (rowTo_row hrn) fun aC rC gC haC hgC hrC => ?_))))
                refine r_ld na_I64 rfl haC (r_mv (r_ixi sl_I64 rfl hrC.sl rfl (range_at (by omega)) fun aX haX => ?_))
                refine r_ld na_i64 rfl haX (r_mv (r_mv (r_ixp sl_MM rfl HQ rfl (rowTo_row hrn) fun aD rD gD haD hgD hrD => ?_)))
                refine r_ld na_I64 rfl haD (r_mv (r_ixi sl_I64 rfl hrD.sl rfl (range_at (by omega)) fun aY haY => ?_))
                refine r_ld na_i64 rfl haY ?_
                obtain rfl : gA = gB := Option.some.inj (hgA.symm.trans hgB)
                refine r_ixo sl_I64 rfl hrA rfl (by simp; omega) ?_
                refine r_sto na_i64 rfl rfl rfl hrA (by simp; omega) ?_
                have HP1 := PartM.setElem HQ hgA (rowTo_row hrn) (j := i) (by simp; omega) (U rr j)
                have hrB2 := hrB.setI (j := i) (by simp; omega) (U rr j)
                refine r_ixo sl_I64 rfl hrB2 rfl (by simp; omega) ?_
                refine r_sto na_i64 rfl rfl rfl hrB2 (by simp; omega) ?_
                have HPf := PartM.setElem HP1 hgA (List.getElem?_set_self (by rw [tab_len]; omega)) (j := j) (by simp; omega) (U rr i)
                rw [List.set_set, opR_swap (c := c) (by omega) (by omega), tab_setF, rowTo_step] at HPf
                have hgK := hgs gA (List.mem_cons_of_mem _ (List.mem_of_getElem? hgA))
                have hUU := (upd_set h7 ⟨gA, i, none⟩ (.int .i64 (U rr j))).trans (upd_set _ ⟨gA, j, none⟩ (.int .i64 (U rr i)))
                have hEf := hEq.thenUpd hUU (fun k hk => by have hk2 : k = gA := hk; omega)
                have HTf := HTq.upd hUU (fun he => hgK.2 (Eq.symm he))
                refine r_nil (q_b (q_b (q_t ?_)))
                refine w_reg ?_
                refine r_inc rfl (by omega) (r_mv (r_nil (q_t ?_)))
                first | exact ⟨n - (rr + 1), rr + 1, by omega, ⟨rfl, by omega, hEf, HTf, HPf⟩, rfl, trivial⟩ | exact ⟨n - (rr + 1), rr + 1, by omega, ⟨rfl, by omega, hEq, HTq, by rw [← rowTo_step, opR_none (by omega) (by omega), ← rowTo_at U i j c rr, setF_self]; exact HQ⟩, rfl, trivial⟩
              · skip
                refine r_pickT rfl (r_as (r_nil (q_t ?_)))
                refine w_false rfl ?_
                refine w_seq ?_
                refine w_reg ?_
                refine r_mv (r_mv (r_neq rfl rfl (fun hc13 => ?_) (fun hc13 => ?_)))   -- t124 := binOp neq 3 t122 t123 3
                · skip
                  refine r_as (r_nil (q_t ?_))
                  refine w_true rfl ?_
                  refine w_draw (by kernel_rfl) ?_
                  refine r_mv (r_mv (r_ixp sl_MM rfl HQ rfl (rowTo_row hrn) fun aA rA gA haA hgA hrA => ?_))
                  refine r_ld na_I64 rfl haA (r_mv (r_ixi sl_I64 rfl hrA.sl rfl (range_at (by omega)) fun aX haX => ?_))
                  refine r_ld na_i64 rfl haX (r_mv (r_mv (r_mv (r_ixp sl_MM rfl HQ rfl (rowTo_row hrn) fun aB rB gB haB hgB hrB => ?_))))
                  refine r_ld na_I64 rfl haB (r_mv (r_ixi sl_I64 rfl hrB.sl rfl (range_at (by omega)) fun aY haY => ?_))
                  refine r_ld na_i64 rfl haY (r_mulb rfl rfl (by omega) (by omega) (r_addb rfl rfl (by omega) (by omega) (r_ixo sl_I64 rfl hrA rfl (by simp; omega) ?_)))
                  refine r_sto na_i64 rfl rfl rfl hrA (by simp; omega) ?_
                  have HPf := PartM.setElem HQ hgA (rowTo_row hrn) (j := i) (by simp; omega) (U rr i + c * U rr j)
                  rw [opR_add (by omega) (by omega), tab_setF, rowTo_step] at HPf
                  have hgK := hgs gA (List.mem_cons_of_mem _ (List.mem_of_getElem? hgA))
                  have hEf := hEq.thenUpd (upd_set h7 ⟨gA, i, none⟩ (.int .i64 (U rr i + c * U rr j))) (fun k hk => by have hk2 : k = gA := hk; omega)
                  have HTf := HTq.upd (upd_set h7 ⟨gA, i, none⟩ (.int .i64 (U rr i + c * U rr j))) (fun he => hgK.2 (Eq.symm he))
                  refine r_nil (q_b (q_b (q_t ?_)))
                  refine w_reg ?_
                  refine r_inc rfl (by omega) (r_mv (r_nil (q_t ?_)))
                  first | exact ⟨n - (rr + 1), rr + 1, by omega, ⟨rfl, by omega, hEf, HTf, HPf⟩, rfl, trivial⟩ | exact ⟨n - (rr + 1), rr + 1, by omega, ⟨rfl, by omega, hEq, HTq, by rw [← rowTo_step, opR_none (by omega) (by omega), ← rowTo_at U i j c rr, setF_self]; exact HQ⟩, rfl, trivial⟩
                · skip
                  refine r_as (r_nil (q_t ?_))
                  refine w_false rfl ?_
                  refine w_skip (q_b (q_b (q_t ?_)))
                  refine w_reg ?_
                  refine r_inc rfl (by omega) (r_mv (r_nil (q_t ?_)))
                  first | exact ⟨n - (rr + 1), rr + 1, by omega, ⟨rfl, by omega, hEf, HTf, HPf⟩, rfl, trivial⟩ | exact ⟨n - (rr + 1), rr + 1, by omega, ⟨rfl, by omega, hEq, HTq, by rw [← rowTo_step, opR_none (by omega) (by omega), ← rowTo_at U i j c rr, setF_self]; exact HQ⟩, rfl, trivial⟩
            · skip
              refine r_mv (r_skip 91 false (by kernel_rfl) rfl rfl (r_skip 91 false (by kernel_rfl) rfl rfl (r_pickF rfl (r_as (r_nil (q_t ?_))))))
              refine w_false rfl ?_
              refine w_seq ?_
              refine w_reg ?_
              refine r_mv (r_mv (r_neq rfl rfl (fun hc14 => ?_) (fun hc14 => ?_)))   -- t124 := binOp neq 3 t122 t123 3
              · skip
                refine r_as (r_nil (q_t ?_))
                refine w_true rfl ?_
                refine w_draw (by kernel_rfl) ?_
                refine r_mv (r_mv (r_ixp sl_MM rfl HQ rfl (rowTo_row hrn) fun aA rA gA haA hgA hrA => ?_))
                refine r_ld na_I64 rfl haA (r_mv (r_ixi sl_I64 rfl hrA.sl rfl (range_at (by omega)) fun aX haX => ?_))
                refine r_ld na_i64 rfl haX (r_mv (r_mv (r_mv (r_ixp sl_MM rfl HQ rfl (rowTo_row hrn) fun aB rB gB haB hgB hrB => ?_))))
                refine r_ld na_I64 rfl haB (r_mv (r_ixi sl_I64 rfl hrB.sl rfl (range_at (by omega)) fun aY haY => ?_))
                refine r_ld na_i64 rfl haY (r_mulb rfl rfl (by omega) (by omega) (r_addb rfl rfl (by omega) (by omega) (r_ixo sl_I64 rfl hrA rfl (by simp; omega) ?_)))
                refine r_sto na_i64 rfl rfl rfl hrA (by simp; omega) ?_
                have HPf := PartM.setElem HQ hgA (rowTo_row hrn) (j := i) (by simp; omega) (U rr i + c * U rr j)
                rw [opR_add (by omega) (by omega), tab_setF, rowTo_step] at HPf
                have hgK := hgs gA (List.mem_cons_of_mem _ (List.mem_of_getElem? hgA))
                have hEf := hEq.thenUpd (upd_set h7 ⟨gA, i, none⟩ (.int .i64 (U rr i + c * U rr j))) (fun k hk => by have hk2 : k = gA := hk; omega)
                have HTf := HTq.upd (upd_set h7 ⟨gA, i, none⟩ (.int .i64 (U rr i + c * U rr j))) (fun he => hgK.2 (Eq.symm he))
                refine r_nil (q_b (q_b (q_t ?_)))
                refine w_reg ?_
                refine r_inc rfl (by omega) (r_mv (r_nil (q_t ?_)))
                first | exact ⟨n - (rr + 1), rr + 1, by omega, ⟨rfl, by omega, hEf, HTf, HPf⟩, rfl, trivial⟩ | exact ⟨n - (rr + 1), rr + 1, by omega, ⟨rfl, by omega, hEq, HTq, by rw [← rowTo_step, opR_none (by omega) (by omega), ← rowTo_at U i j c rr, setF_self]; exact HQ⟩, rfl, trivial⟩
              · skip
                refine r_as (r_nil (q_t ?_))
                refine w_false rfl ?_
                refine w_skip (q_b (q_b (q_t ?_)))
                refine w_reg ?_
                refine r_inc rfl (by omega) (r_mv (r_nil (q_t ?_)))
                first | exact ⟨n - (rr + 1), rr + 1, by omega, ⟨rfl, by omega, hEf, HTf, HPf⟩, rfl, trivial⟩ | exact ⟨n - (rr + 1), rr + 1, by omega, ⟨rfl, by omega, hEq, HTq, by rw [← rowTo_step, opR_none (by omega) (by omega), ← rowTo_at U i j c rr, setF_self]; exact HQ⟩, rfl, trivial⟩
        · skip
          refine r_nil (q_t ?_)
          refine w_seq ?_
          refine w_false rfl ?_
          refine w_exit (q_tx (q_tx (q_bx (q_b (q_t ?_)))))
          refine w_reg ?_
          refine r_mv (r_inc rfl (by omega) (r_as (r_nil (q_t ?_))))
          obtain rfl : rr = n := by omega
          rw [rowTo_all] at HQ
          exact ⟨12 - (kk + 1), kk + 1, by omega, ⟨rfl, by omega, hEq, _, at3, HTq, hlat3.1, hlat3.2, HQ, uni_op hi hj hUni, fun r q hr hq => by rw [Int.pow_succ, hB3]; exact opR_bd hi hj hc2.1 hc2.2 (fun q hq => hUb r q hr hq) q hq⟩, rfl, trivial⟩
      · skip
        refine r_pickT rfl (r_nil (q_t ?_))
        refine w_false rfl ?_
        refine w_exit (q_tx (q_tx (q_bx (q_t ?_))))
        refine w_seq ?_
        refine w_reg ?_
        refine r_mv (r_as (r_nil (q_t ?_)))
        refine w_ret ?_
        refine ⟨_, retV_1, ?_⟩
        exact ⟨hE, bM, gs, U, HU, fun g hg => by have := (hgs g hg).1; omega, hUni⟩
    · skip
      refine r_mv (r_skip 37 false (by kernel_rfl) rfl rfl (r_skip 37 false (by kernel_rfl) rfl rfl (r_skip 37 false (by kernel_rfl) rfl rfl (r_skip 37 false (by kernel_rfl) rfl rfl (r_skip 37 false (by kernel_rfl) rfl rfl (r_skip 37 false (by kernel_rfl) rfl rfl (r_skip 37 false (by kernel_rfl) rfl rfl (r_skip 37 false (by kernel_rfl) rfl rfl (r_skip 37 false (by kernel_rfl) rfl rfl (r_skip 37 false (by kernel_rfl) rfl rfl (r_pickF rfl (r_nil (q_t ?_)))))))))))))
      refine w_false rfl ?_
      refine w_exit (q_tx (q_tx (q_bx (q_t ?_))))
      refine w_seq ?_
      refine w_reg ?_
      refine r_mv (r_as (r_nil (q_t ?_)))
      refine w_ret ?_
      refine ⟨_, retV_1, ?_⟩
      exact ⟨hE, bM, gs, U, HU, fun g hg => by have := (hgs g hg).1; omega, hUni⟩

end Go.Proofs.YtdlfineibanppaaDoor
