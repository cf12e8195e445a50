/-
  Contracts of echelon, Echelon, Rank of package modular. Conditions stand in each statement.
-/
import Derived.Test.YtdlfineibanppaaDoorRow
import Derived.Test.YtdlfineibanppaaDoorEch
import Derived.Test.YtdlfineibanppaaDoorPrm
namespace Go.Proofs.YtdlfineibanppaaDoor
open Go Go.QF
set_option linter.unusedVariables false
set_option maxRecDepth 100000

theorem zf_range {c : Nat} {g : Nat → Int} {q : Nat} (hq : q < c) : zf ((List.range c).map g) q = g q := by simp [zf, hq]
theorem range_at {α : Type} {c : Nat} {g : Nat → α} {q : Nat} (hq : q < c) : ((List.range c).map g)[q]? = some (g q) := by simp [hq]
theorem range_congr {α : Type} {c : Nat} {f g : Nat → α} (h : ∀ q, q < c → f q = g q) : (List.range c).map f = (List.range c).map g := List.map_congr_left fun q hq => h q (by simpa using hq)
theorem scale_row {c : Nat} {g : Nat → Int} {f m : Int} : (List.range ((List.range c).map g).length).map (fun q => zf ((List.range c).map g) q * f % m) = (List.range c).map fun q => g q * f % m := by
  rw [List.length_map, List.length_range]
  exact range_congr fun q hq => by rw [zf_range hq]
theorem elim_row {c : Nat} {g k : Nat → Int} {f m : Int} : (List.range ((List.range c).map g).length).map (fun q => (zf ((List.range c).map k) q + (m - f) * zf ((List.range c).map g) q) % m) = (List.range c).map fun q => (k q + (m - f) * g q) % m := by
  rw [List.length_map, List.length_range]
  exact range_congr fun q hq => by rw [zf_range hq, zf_range hq]
def natV (x : Nat) : Value := .int .i64 (x : Int)
/-- What holds in the elimination: the matrix, the pivots, the number in the closure's box; nothing else of old memory has turned. -/
def EchI (h h' : Heap) (b : Nat) (gs : List Nat) (v : Value) (r c : Nat) (p : Int) (F : Nat → Nat → Int) (pv : Value) (piv : List Nat) (gs' : List Nat) : Prop :=
  Upd (· ∈ b :: gs) h h' ∧ PartM h' tR tI b gs' v r (tab r c F) ∧ (∀ g ∈ gs', g ∈ gs) ∧ Gro h' 3 (h.size + 1) pv (piv.map natV) ∧ cellH h' ⟨h.size, 0, none⟩ = some (.int .i64 p) ∧ h.size + 1 ≤ h'.size
theorem EchI.turn {h h1 h2 : Heap} {b : Nat} {gs gs1 gs2 : List Nat} {v pv : Value} {r c : Nat} {p : Int} {F F2 : Nat → Nat → Int} {piv : List Nat} (H : EchI h h1 b gs v r c p F pv piv gs1) (hlt : ∀ g ∈ b :: gs, g < h.size) {g : Nat} (hU : Upd (· = g) h1 h2) (hg : g ∈ b :: gs)
    (HP : PartM h2 tR tI b gs2 v r (tab r c F2)) (hs : ∀ g ∈ gs2, g ∈ gs) : EchI h h2 b gs v r c p F2 pv piv gs2 := by
  obtain ⟨h3, h4, h5, h6, h7, h8⟩ := H
  have hgl := hlt g hg
  refine ⟨h3.trans (hU.mono fun k _ hk => by have hk2 : k = g := hk; rw [hk2]; exact hg), HP, hs, h6.upd hU (fun k hk he => by have he2 : k = g := he; have := (h6.blk k hk).1; omega), cellH_upd h7 hU (fun he => by have he2 : h.size = g := he; omega), Nat.le_trans h8 hU.1⟩
theorem EchI.push {h h1 h2 : Heap} {b : Nat} {gs gs1 : List Nat} {v pv pv2 : Value} {r c : Nat} {p : Int} {F : Nat → Nat → Int} {piv : List Nat} {j : Nat} (H : EchI h h1 b gs v r c p F pv piv gs1) (hlt : ∀ g ∈ b :: gs, g < h.size) (HG : Gro h2 3 (h.size + 1) pv2 (piv.map natV ++ [natV j])) (hU : Upd (fun k => pv.ownBlock = some k) h1 h2) :
    EchI h h2 b gs v r c p F pv2 (piv ++ [j]) gs1 := by
  obtain ⟨h3, h4, h5, h6, h7, h8⟩ := H
  refine ⟨⟨Nat.le_trans h3.1 hU.1, fun k hk hs => (hU.2 k (Nat.lt_of_lt_of_le hk h3.1) (fun he => by have := (h6.blk k he).1; omega)).trans (h3.2 k hk hs)⟩, ?_, h5, by rw [List.map_append]; exact HG, ?_, Nat.le_trans h8 hU.1⟩
  · exact h4.upd hU (fun g hg he => by
      have := (h6.blk g he).1
      have : g ∈ b :: gs := by
        rcases List.mem_cons.1 hg with rfl | hg
        · exact List.mem_cons_self ..
        · exact List.mem_cons_of_mem _ (h5 g hg)
      have := hlt g this
      omega)
  · exact cellH_upd h7 hU (fun he => by have := (h6.blk _ he).1; dsimp only at this; omega)
theorem Mat.take {h : Heap} {a : Option Addr} {n cap k : Nat} {M : List (List Int)} (H : Mat h (.slice a n cap) M) (hk : k ≤ M.length) : Mat h (.slice a k cap) (M.take k) := by
  obtain ⟨rs, ⟨a', cap', hv, hc⟩, h2, h3⟩ := H
  injection hv with ha hn hcap
  subst ha; subst hcap
  refine ⟨rs.take k, ⟨a, cap, by rw [List.length_take, Nat.min_eq_left (by omega)], fun i x hx => ?_⟩, by simp [h2], fun i r z hr hz => ?_⟩
  · rw [List.getElem?_take] at hx
    split at hx
    · exact hc i x hx
    · cases hx
  · rw [List.getElem?_take] at hr hz
    split at hr
    · rename_i hi
      rw [if_pos hi] at hz
      exact h3 i r z hr hz
    · cases hr
theorem tab_take {r c k : Nat} {F : Nat → Nat → Int} (hk : k ≤ r) : (tab r c F).take k = tab k c F := by
  unfold tab
  rw [← List.map_take, List.take_range, Nat.min_eq_left hk]
section
variable {P : Program} {B : Heap → Prop} {st : Bool} {ops : Array Oper} {rest : List Oper} {e : Env} {h : Heap} {K : Env → Heap → Prop}
variable {d : Nat} {ty : TypeId} {pos : String} {af : Array Edge}
theorem r_lenc {x : Operand} {t el s c : Nat} {v : Value} {g : Nat → Int} (hT : SlT P t el s) (hx : e.ev x = v) (HI : Ints h v ((List.range c).map g)) (H : RL P B st ops rest (e.set d (.int .i64 (c : Int))) h K) :
    RL P B st ops (⟨some d, .call ⟨.builtin .len, #[x], #[t]⟩, ty, pos, af, none⟩ :: rest) e h K := by
  refine r_leni hT hx HI ?_
  rw [List.length_map, List.length_range]; exact H
end
theorem PartM.nodup {h : Heap} {er ei b n : Nat} {gs : List Nat} {v : Value} {M : List (List Int)} (H : PartM h er ei b gs v n M) : (b :: gs).Nodup := let ⟨_, _, _, _, _, _, h⟩ := H; h
theorem PartM.slice {h : Heap} {er ei b n : Nat} {gs : List Nat} {v : Value} {M : List (List Int)} (H : PartM h er ei b gs v n M) : ∃ cap, v = .slice (some ⟨b, 0, none⟩) n cap ∧ n ≤ cap := by
  obtain ⟨rs, ⟨cap, cur, hv, _, hl, _⟩, h2, _⟩ := H
  exact ⟨cap, by rw [← h2]; exact hv, by omega⟩

theorem echelon_ok {h : Heap} {b : Nat} {gs : List Nat} {v : Value} {r c : Nat} {F : Nat → Nat → Int} {p : Int} (HP0 : PartM h tR tI b gs v r (tab r c F)) (hr : 0 < r) (hr2 : r ≤ 1000000) (hc2 : c ≤ 1000000) (hp : Pr p) (hp2 : p ≤ 2147483647) (hbd : Bd r c p F) :
    CallH Tryd.prog 42 #[v, .int .i64 p] h fun x h' => Upd (· ∈ b :: gs) h h' ∧ ∃ vr vp, x = .tuple #[vr, vp] ∧ Mat h' vr (tab (echTo (invM p) r p F c).2.length c (echTo (invM p) r p F c).1) ∧ Sl h' vp ((echTo (invM p) r p F c).2.map natV) := by
  have hp1 := hp.1
  have HP := HP0
  refine calls_of_W (l := [_, _]) mx Tryd.func42 rfl rfl rfl rfl rfl (by kernel_rfl) ?_
  refine w_seq ?_
  refine w_reg ?_
  refine r_as (r_as (r_nil (q_t ?_)))
  refine w_seq ?_
  refine w_reg ?_
  refine r_mv (r_call trivial rfl (eliminator_ok p h) fun fv h1 hk => ?_)
  obtain ⟨rfl, rfl⟩ := hk
  refine ⟨trivial, ?_⟩
  have hpush := ext_push h (.cells #[.int .i64 p] tI (0, 0))
  have HP := PartM.ext HP hpush
  refine r_as (r_nil (q_t ?_))
  refine w_seq ?_
  refine w_reg ?_
  refine r_as (r_nil (q_t ?_))
  refine w_seq ?_
  refine w_seq ?_
  refine w_reg ?_
  refine r_mv (r_lenp sl_MM rfl HP (r_eql rfl rfl (fun hc1 => ?_) (fun hc1 => ?_)))   -- t18 := binOp eql 3 t17 0:i64 3
  · skip
    refine r_nil (q_t ?_)
    refine w_true rfl ?_
    refine w_seq ?_
    refine w_reg ?_
    refine r_as (r_as (r_nil (q_t ?_)))
    refine w_ret (q_tr ?_)
    refine ⟨_, retV_2, ?_⟩
    exact absurd hc1 (by omega)
  · skip
    refine r_nil (q_t ?_)
    refine w_false rfl ?_
    refine w_skip (q_t ?_)
    refine w_seq ?_
    refine w_seq ?_
    have hr0 : 0 < r := hr
    refine w_reg ?_
    refine r_mv (r_ixp (j := 0) sl_MM rfl HP rfl (tab_row (by omega)) fun aZ rZ gZ haZ hgZ hrZ => ?_)
    refine r_ld na_I64 rfl haZ (r_lenc sl_I64 rfl hrZ.sl ?_)
    refine r_mv (r_nil (q_t ?_))
    refine w_block ?_
    have hlt := PartM.lt HP0
    refine w_loop 10384593717069655257060992650067840 (fun y : Nat × Value => [(23, .int .i64 (y.1 : Int)), (7, y.2)]) (fun k y h' => k = c - y.1 ∧ y.1 ≤ c ∧ ∃ gs', EchI h h' b gs v r c p (echTo (invM p) r p F y.1).1 y.2 (echTo (invM p) r p F y.1).2 gs') (by kernel_rfl) c (0, .slice none 0 0) ?_ ⟨rfl, rfl, trivial⟩ ?_
    · refine ⟨rfl, by omega, gs, hpush.upd, HP, fun g hg => hg, gro_nil _ _ _, ?_, by simp⟩
      simp [cellH]
    rintro k ⟨j, pv⟩ s1 h3 ⟨rfl, hj, gs3, HIj0⟩
    dsimp only at hj HIj0 ⊢
    have hpl0 := piv_le (rc := invM p) (r := r) (m := p) (F := F) j
    refine w_seq ?_
    refine w_reg ?_
    refine r_lss rfl rfl (fun hc2 => ?_) (fun hc2 => ?_)   -- t24 := binOp lss 3 t23 t22 3
    · skip
      refine r_nil (q_t ?_)
      refine w_seq ?_
      refine w_true rfl ?_
      refine w_skip (q_t ?_)
      refine w_seq ?_
      refine w_block ?_
      refine w_seq ?_
      refine w_reg ?_
      refine r_mv (r_as (r_nil (q_t ?_)))
      refine w_seq ?_
      refine w_reg ?_
      refine r_mv (r_lens sl_II rfl HIj0.2.2.2.1.sl (r_as (r_nil (q_t ?_))))
      refine w_seq ?_
      have HIj := HIj0
      obtain ⟨Fj, hFj⟩ : ∃ Fj, (echTo (invM p) r p F j).1 = Fj := ⟨_, rfl⟩
      obtain ⟨piv, hpiv⟩ : ∃ piv, (echTo (invM p) r p F j).2 = piv := ⟨_, rfl⟩
      have hbdj : Bd r c p Fj := hFj ▸ bd_ech (by omega) hbd j
      have hpl := piv_le (rc := invM p) (r := r) (m := p) (F := F) j
      rw [hpiv] at hpl
      rw [hFj, hpiv] at HIj
      obtain ⟨top, htop⟩ : ∃ top, piv.length = top := ⟨_, rfl⟩
      rw [htop] at hpl
      simp only [hpiv, List.length_map, htop]
      have HPj := HIj.2.1
      refine w_reg ?_
      refine r_mv (r_as (r_nil (q_t ?_)))
      refine w_join 35183835218944 (fun i : Nat => [(10, .int .i64 (i : Int))]) (fun i h' => h' = h3 ∧ i = firstNZ Fj j (r - top) top ∧ i ≤ r) (by kernel_rfl) ?_ ?_
      · skip
        refine w_block ?_
        refine w_loop 35183835218944 (fun i : Nat => [(10, .int .i64 (i : Int))]) (fun k i h' => h' = h3 ∧ k = r - i ∧ top ≤ i ∧ i ≤ r ∧ ∀ q, top ≤ q → q < i → Fj q j = 0) (by kernel_rfl) (r - top) top ?_ ⟨rfl, trivial⟩ ?_
        · exact ⟨rfl, rfl, by omega, by omega, fun q h1 h2 => by omega⟩
        rintro k i s2 h3' ⟨rfl, rfl, hti, hi, hz⟩
        refine w_seq ?_
        refine w_seq ?_
        refine w_reg ?_
        refine r_mv (r_mv (r_lenp sl_MM rfl HPj (r_lss rfl rfl (fun hc3 => ?_) (fun hc3 => ?_))))   -- t32 := binOp lss 3 t29 t31 3
        · skip
          refine r_mv (r_want 33 true (by kernel_rfl) rfl rfl (r_mv (r_want 33 true (by kernel_rfl) rfl rfl (r_mv (r_want 33 true (by kernel_rfl) rfl rfl (r_ixp sl_MM rfl HPj rfl (tab_row (by omega)) fun aA rA gA haA hgA hrA => ?_))))))
          refine r_want 33 true (by kernel_rfl) rfl rfl (r_ld na_I64 rfl haA (r_want 33 true (by kernel_rfl) rfl rfl (r_mv (r_want 33 true (by kernel_rfl) rfl rfl (r_ixi sl_I64 rfl hrA.sl rfl (range_at (by omega)) fun aB haB => ?_)))))
          refine r_want 33 true (by kernel_rfl) rfl rfl (r_ld na_i64 rfl haB (r_want 33 true (by kernel_rfl) rfl rfl (r_eql rfl rfl (fun hc4 => ?_) (fun hc4 => ?_))))   -- t41 := binOp eql 2 t40 0:i64 2   [guard op4 true]
          · skip
            refine r_pickT rfl (r_nil (q_t ?_))
            refine w_true rfl ?_
            refine w_skip (q_t ?_)
            refine w_block ?_
            refine w_reg ?_
            refine r_mv (r_inc rfl (by omega) (r_as (r_nil (q_b (q_t ?_)))))
            refine ⟨r - (i + 1), i + 1, by omega, ⟨rfl, rfl, by omega, by omega, fun q h1 h2 => ?_⟩, rfl, trivial⟩
            rcases Nat.lt_or_ge q i with hq | hq
            · exact hz q h1 hq
            · obtain rfl : q = i := by omega
              exact hc4
          · skip
            refine r_pickT rfl (r_nil (q_t ?_))
            refine w_false rfl ?_
            refine w_exit (q_tx (q_tx (q_bx (q_t ?_))))
            exact ⟨i, ⟨rfl, (firstNZ_uniq hti (by omega) hz (fun _ => hc4)).symm, by omega⟩, rfl, trivial⟩
        · skip
          refine r_mv (r_skip 33 false (by kernel_rfl) rfl rfl (r_skip 33 false (by kernel_rfl) rfl rfl (r_skip 33 false (by kernel_rfl) rfl rfl (r_skip 33 false (by kernel_rfl) rfl rfl (r_skip 33 false (by kernel_rfl) rfl rfl (r_skip 33 false (by kernel_rfl) rfl rfl (r_skip 33 false (by kernel_rfl) rfl rfl (r_skip 33 false (by kernel_rfl) rfl rfl (r_pickF rfl (r_nil (q_t ?_)))))))))))
          refine w_false rfl ?_
          refine w_exit (q_tx (q_tx (q_bx (q_t ?_))))
          exact ⟨i, ⟨rfl, (firstNZ_uniq hti (by omega) hz (fun hlt => absurd hlt (by omega))).symm, by omega⟩, rfl, trivial⟩
      rintro i s2 h3' ⟨rfl, hi, hir⟩
      refine w_seq ?_
      refine w_seq ?_
      refine w_reg ?_
      refine r_mv (r_mv (r_lenp sl_MM rfl HPj (r_eql rfl rfl (fun hc5 => ?_) (fun hc5 => ?_))))   -- t48 := binOp eql 3 t45 t47 3
      · skip
        refine r_nil (q_t ?_)
        refine w_true rfl ?_
        refine w_exit (q_tx (q_bx (q_t ?_)))
        refine w_reg ?_
        refine r_inc rfl (by omega) (r_mv (r_nil (q_t ?_)))
        have hS : echTo (invM p) r p F (j + 1) = echTo (invM p) r p F j := by
          simp only [echTo, colS]
          rw [hFj, hpiv, htop, ← hi, if_neg (by omega)]
        refine ⟨c - (j + 1), (j + 1, pv), by first | omega | (dsimp only; omega), ⟨rfl, by first | omega | (dsimp only; omega), gs3, ?_⟩, rfl, rfl, trivial⟩
        dsimp only
        rw [hS]
        exact HIj0
      · skip
        refine r_nil (q_t ?_)
        refine w_false rfl ?_
        refine w_skip (q_t ?_)
        refine w_seq ?_
        have hir : i < r := by omega
        have hti : top ≤ i := by rw [hi]; exact (firstNZ_le Fj j (r - top) top).1
        have htr : top < r := by omega
        refine w_draw (by kernel_rfl) ?_
        refine r_mv (r_mv (r_mv (r_mv (r_mv (r_mv (r_ixp sl_MM rfl HPj rfl (tab_row (by omega)) fun aI rI gI haI hgI hrI => ?_))))))
        refine r_ld na_I64 rfl haI (r_mv (r_mv (r_ixp sl_MM rfl HPj rfl (tab_row (by omega)) fun aT rT gT haT hgT hrT => ?_)))
        refine r_ld na_I64 rfl haT ?_
        obtain ⟨rs, HT, hrl⟩ := PartM.top HPj
        refine r_ixo sl_MM rfl HT rfl (by omega) ?_
        refine r_sto na_I64 rfl rfl hrI.one HT (by omega) ?_
        have HT2 := HT.set top rI (by omega)
        refine r_ixo sl_MM rfl HT2 rfl (by simp; omega) ?_
        refine r_sto na_I64 rfl rfl hrT.one HT2 (by simp; omega) ?_
        have HP2 := PartM.swap HPj hgT hgI (tab_row htr) (tab_row hir) hrT hrI
        rw [tab_setF, tab_setF] at HP2
        have HI2 := HIj.turn hlt ((upd_set _ ⟨b, top, none⟩ rI).trans (upd_set _ ⟨b, i, none⟩ rT)) (List.mem_cons_self ..) (F2 := swapF Fj top i) HP2 (fun g hg => HIj.2.2.1 g (mem_swap hgT hgI hg))
        have HP2 := HI2.2.1
        have hbd2 := bd_swap hbdj htr hir
        have hx0 : swapF Fj top i top j ≠ 0 := by
          have : swapF Fj top i top = Fj i := by unfold swapF; by_cases he : top = i
                                                 · subst he; rw [setF_same]
                                                 · rw [setF_ne _ _ he, setF_same]
          rw [this, hi]; exact firstNZ_ne Fj j (r - top) top (by omega)
        have hxb := hbd2 top j htr (by omega)
        refine r_nil (q_t ?_)
        refine w_seq ?_
        refine w_reg ?_
        refine r_mv (r_mv (r_ixp sl_MM rfl HP2 rfl (tab_row (by omega)) fun aR rR gR haR hgR hrR => ?_))
        refine r_ld na_I64 rfl haR (r_mv (r_ixi sl_I64 rfl hrR.sl rfl (range_at (by omega)) fun aX haX => ?_))
        refine r_ld na_i64 rfl haX (r_mv (r_call trivial rfl (reciprocal_ok (x := swapF Fj top i top j) (m := p) (by omega) (by omega) (by omega) hp2 _) fun rv h4 hk => ?_))
        obtain ⟨rfl, inv, ok, rfl, hi0, him, hok, hno⟩ := hk
        refine ⟨trivial, ?_⟩
        have hinv : inv = invM p (swapF Fj top i top j) := by
          have hex := isInv_exists hp (x := swapF Fj top i top j) (by omega) (by omega)
          cases ok with
          | true => exact (invM_eq (hok rfl)).symm
          | false => exact absurd hex (hno rfl)
        refine r_mv (r_ext rfl rfl (r_ext rfl rfl (r_as (r_as (r_nil (q_t ?_))))))
        refine w_seq ?_
        refine w_reg ?_
        refine r_mv (r_mv (r_ixp sl_MM rfl HP2 rfl (tab_row (by omega)) fun aS rS gS haS hgS hrS => ?_))
        refine r_ld na_I64 rfl haS (r_mv (r_mv (r_call trivial rfl (scale_ok hrS (row_bd hbd2 (by omega)) hi0 him (by omega) hp2 (by simp; omega)) fun sv h5 hk => ?_)))
        obtain ⟨hU5, HO5⟩ := hk
        refine ⟨trivial, ?_⟩
        rw [scale_row] at HO5
        have HP5 := PartM.setRow' HI2.2.1 hgS hU5 (tab_row (by omega)) hrS HO5
        rw [tab_setF] at HP5
        have HP2x := HP5
        have HI5 := HI2.turn hlt hU5 (List.mem_cons_of_mem _ (HI2.2.2.1 _ (List.mem_of_getElem? hgS))) (F2 := scaleF (swapF Fj top i) top inv p) HP5 HI2.2.2.1
        refine r_nil (q_t ?_)
        refine w_seq ?_
        refine w_seq ?_
        have HP2 := HI5.2.1
        have hbd5 := bd_scale (a := top) (f := inv) (by omega : 0 < p) hbd2
        refine w_reg ?_
        refine r_mv (r_lenp sl_MM rfl HP2 (r_mv (r_nil (q_t ?_))))
        refine w_block ?_
        refine w_loop 324518534315613612949089225285632 (fun q : Nat => [(84, .int .i64 (q : Int))]) (fun k q h' => k = r - q ∧ q ≤ r ∧ EchI h h' b gs v r c p (elimF (scaleF (swapF Fj top i) top inv p) top j p q) pv piv ((gs3.set top gI).set i gT)) (by kernel_rfl) r 0 ?_ ⟨rfl, trivial⟩ ?_
        · exact ⟨rfl, by omega, by rw [elimF_zero]; exact HI5⟩
        rintro k q s3 h6 ⟨rfl, hq, HIk⟩
        have HPk := HIk.2.1
        refine w_seq ?_
        refine w_reg ?_
        refine r_lss rfl rfl (fun hc6 => ?_) (fun hc6 => ?_)   -- t85 := binOp lss 3 t84 t83 3
        · skip
          refine r_nil (q_t ?_)
          refine w_seq ?_
          refine w_true rfl ?_
          refine w_skip (q_t ?_)
          refine w_seq ?_
          refine w_block ?_
          refine w_seq ?_
          refine w_reg ?_
          refine r_mv (r_as (r_nil (q_t ?_)))
          refine w_seq ?_
          refine w_reg ?_
          refine r_mv (r_mv (r_neq rfl rfl (fun hc7 => ?_) (fun hc7 => ?_)))   -- t89 := binOp neq 3 t87 t88 3
          · skip
            refine r_nil (q_t ?_)
            refine w_true rfl ?_
            have hbk := bd_elim (k := q) (top := top) (j := j) (by omega : 0 < p) hbd5
            have hY := hbk q j (by omega) (by omega)
            refine w_draw (by kernel_rfl) ?_
            refine r_mv (r_mv (r_mv (r_ixp sl_MM rfl HPk rfl (tab_row (by omega)) fun aK rK gK haK hgK hrK => ?_)))
            refine r_ld na_I64 rfl haK (r_mv (r_mv (r_ixp sl_MM rfl HPk rfl (tab_row (by omega)) fun aL rL gL haL hgL hrL => ?_)))
            refine r_ld na_I64 rfl haL ?_
            have hgKm : gK ∈ b :: gs := List.mem_cons_of_mem _ (HIk.2.2.1 _ (List.mem_of_getElem? hgK))
            have hneKL : gK ≠ gL := fun he => absurd (nodup_getElem?_inj (List.nodup_cons.1 (PartM.nodup HIk.2.1)).2 hgK (he ▸ hgL)) (by omega)
            refine r_mv ?_
            refine r_mv (r_ixp sl_MM rfl HPk rfl (tab_row (by omega)) fun aN rN gN haN hgN hrN => ?_)
            refine r_ld na_I64 rfl haN (r_mv (r_ixi sl_I64 rfl hrN.sl rfl (range_at (by omega)) fun aY haY => ?_))
            refine r_ld na_i64 rfl haY (r_callc trivial rfl rfl (eliminate_ok (a := ⟨h.size, 0, none⟩) hrK hrL (hneKL) (by simp) HIk.2.2.2.2.1 (by have := hlt _ hgKm; dsimp only; omega) (row_bd hbk (by omega)) (row_bd hbk (by omega)) hY.1 hY.2 (by omega) hp2 (by simp; omega)) fun ev h7 hk => ?_)
            obtain ⟨hU7, HO7⟩ := hk
            refine ⟨trivial, ?_⟩
            rw [elim_row] at HO7
            have HP7 := PartM.setRow' HIk.2.1 hgK hU7 (tab_row (by omega)) hrK HO7
            rw [tab_setF] at HP7
            simp only [elimF_at, elimF_top] at HP7
            rw [elimF_step (by omega)] at HP7
            have HI7 := HIk.turn hlt hU7 (hgKm) HP7 HIk.2.2.1
            refine r_nil (q_b (q_t ?_))
            refine w_reg ?_
            refine r_inc rfl (by omega) (r_mv (r_nil (q_t ?_)))
            exact ⟨r - (q + 1), q + 1, by omega, ⟨rfl, by omega, HI7⟩, rfl, trivial⟩
          · skip
            refine r_nil (q_t ?_)
            refine w_false rfl ?_
            refine w_skip (q_b (q_t ?_))
            refine w_reg ?_
            refine r_inc rfl (by omega) (r_mv (r_nil (q_t ?_)))
            obtain rfl : q = top := by omega
            exact ⟨r - (q + 1), q + 1, by omega, ⟨rfl, by omega, by rw [elimF_skip]; exact HIk⟩, rfl, trivial⟩
        · skip
          refine r_nil (q_t ?_)
          refine w_seq ?_
          refine w_false rfl ?_
          refine w_exit (q_tx (q_tx (q_bx (q_t ?_))))
          refine w_reg ?_
          refine r_mv (r_mv ?_)
          have hqr : q = r := by omega
          rw [hqr] at HIk
          have HG := HIk.2.2.2.1
          refine r_push sl_II ze_int rfl (fun _ => trivial) (fun _ => rfl) rfl rfl HG HIk.2.2.2.2.2 (by omega) (by simp; omega) fun p' pv2 h8 HG8 hU8 hb8 => ?_
          refine r_as (r_nil (q_b (q_t ?_)))
          refine w_reg ?_
          refine r_inc rfl (by omega) (r_mv (r_nil (q_t ?_)))
          have hS : echTo (invM p) r p F (j + 1) = (elimF (scaleF (swapF Fj top i) top inv p) top j p r, piv ++ [j]) := by
            simp only [echTo, colS]
            rw [hFj, hpiv, htop, ← hi, if_pos (by omega), hinv]
          refine ⟨c - (j + 1), (j + 1, pv2), by first | omega | (dsimp only; omega), ⟨rfl, by first | omega | (dsimp only; omega), (gs3.set top gI).set i gT, ?_⟩, rfl, rfl, trivial⟩
          dsimp only
          rw [hS]
          exact HIk.push hlt HG8 hU8
    · skip
      refine r_nil (q_t ?_)
      refine w_seq ?_
      refine w_false rfl ?_
      refine w_exit (q_tx (q_tx (q_bx (q_t ?_))))
      refine w_seq ?_
      refine w_reg ?_
      refine r_mv (r_mv (r_lens sl_II rfl HIj0.2.2.2.1.sl ?_))
      obtain ⟨cap, hv, hcap⟩ := PartM.slice HIj0.2.1
      refine r_slTo sl_MM hv rfl (by simp only [List.length_map]; omega) ?_
      refine r_mv (r_as (r_as (r_nil (q_t ?_))))
      refine w_ret ?_
      refine ⟨_, retV_2, ?_⟩
      obtain rfl : j = c := by omega
      have HM := (show OwnM h3 tR tI b gs3 v (tab r j _) by unfold OwnM; rw [tab_len]; exact HIj0.2.1).mat
      rw [hv] at HM
      have HM2 := Mat.take HM (k := ((echTo (invM p) r p F j).2.map natV).length) (by rw [tab_len, List.length_map]; omega)
      rw [tab_take (by rw [List.length_map]; omega)] at HM2
      have HM3 : Mat h3 (.slice (some ⟨b, 0, none⟩) ((echTo (invM p) r p F j).2.map natV).length cap) (tab (echTo (invM p) r p F j).2.length j (echTo (invM p) r p F j).1) := by
        simp only [List.length_map] at HM2 ⊢; exact HM2
      exact ⟨HIj0.1, _, _, rfl, HM3, HIj0.2.2.2.1.sl⟩

end Go.Proofs.YtdlfineibanppaaDoor
