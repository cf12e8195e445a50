/-
  The law JordanUnits. Conditions stand in each statement.
-/
import Derived.Test.YtccgaemmdikhcaaDoorJ24
import Derived.Test.YtccgaemmdikhcaaDoorJoU
import Derived.Test.YtccgaemmdikhcaaDoorDy3
namespace Go.Proofs.YtccgaemmdikhcaaDoor
open Go Go.QF
set_option linter.unusedVariables false
set_option linter.unusedSimpArgs false
set_option maxRecDepth 100000
theorem build_jorp (p : Int) (a : Option Addr) (n c : Nat) (w : World) : (Instr.build 31 #[(0, .int .i64 p), (2, .slice a n c)]).run Tryd.prog w = .ok (.agg #[.int .i64 p, .slice none 0 0, .slice a n c]) w := by kernel_rfl
theorem sgn_twice {x t : Int} (hx : x = 1 ∨ x = -1) (ht : t = 1 ∨ t = -1) : IntKind.i64.wrap (x * t * t) = x := by
  rcases hx with rfl | rfl <;> rcases ht with rfl | rfl <;> decide

theorem JordanUnits_ok {h : Heap} {vX : Value} {Xs : List Q5} (k at0 u : Nat) (hk : k < 256) (hat : at0 < 256) (hu : u < 256) (HF : OffH h) (HX : SlK h 5 vX (Xs.map q5V)) (hX : ∀ q ∈ Xs, q.I) (hn : Xs.length ≤ 9223372036854775807) : CallH Tryd.prog 7 #[vX, .int .u8 (k : Int), .int .u8 (at0 : Int), .int .u8 (u : Int)] h fun x h' => Ext h h' ∧ x = .bool true := by
  refine calls_of_W (l := [_, _, _, _]) mx Tryd.func7 rfl rfl rfl rfl rfl (by kernel_rfl) ?_
  refine w_seq ?_
  refine w_reg ?_
  refine r_as (r_nil (q_t ?_))
  refine w_seq ?_
  refine w_reg ?_
  refine r_mv (r_call trivial rfl (OddPrime_ok hk _) fun x1 h2 hk => ?_)
  obtain ⟨E3, p, hp, rfl⟩ := hk
  refine ⟨trivial, ?_⟩
  have sz4 := E3.1
  have Z5 := (Ext.refl h).trans E3
  have hp3 := p8_range hp
  refine r_as (r_nil (q_t ?_))
  refine w_seq ?_
  refine w_reg ?_
  refine r_mv (r_mv (r_mv (r_call trivial rfl (Blocks_ok (most := 8) (p := (p : Int)) (HX.ext E3) hX hn (by omega) (by omega)) fun x6 h7 hk => ?_)))
  obtain ⟨E8, Bs, HG, hmade⟩ := hk
  refine ⟨trivial, ?_⟩
  have sz9 := E8.1
  have Z10 := Z5.trans E8
  have X11 := E3.trans E8
  obtain ⟨a7, c7, hv7⟩ := HG.sl.len
  subst hv7
  have hml := hmade.len
  refine r_build (v := .agg #[.int .i64 (p : Int), .slice none 0 0, (.slice a7 (Bs.map blkV).length c7)]) (build_jorp _ _ _ _) ?_
  refine r_allocB [.int .i64 0, .slice none 0 0, .slice none 0 0] ze_Jor rfl (fun _ => trivial) fun bq12 h13 V14 E15 hb16 hl17 => ?_
  have hzbq12 : Array.size h ≤ bq12 := Nat.le_trans X11.1 hb16
  have avHGbq12 : ∀ g, Value.ownBlock (.slice a7 (Bs.map blkV).length c7) = some g → g < bq12 := fun g hg => by have := (HG.blk g hg).2; omega
  have sz18 := E15.1
  have Z19 := Z10.trans E15
  have X20 := X11.trans E15
  have HG_21 := HG.ext E15
  refine r_stA [.int .i64 (p : Int), .slice none 0 0, (.slice a7 (Bs.map blkV).length c7)] ag_Jor rfl rfl rfl rfl (by simp [isOne]) V14 fun h22 V14_23 U24 => ?_
  have X25 := X20.thenUpd U24 (fun k hk => by have hk2 : k = bq12 := hk; omega)
  have sz26 := U24.1
  have Z27 := Z19.thenUpd U24 (fun k hk => by have hk2 : k = bq12 := hk; omega)
  have Y28 := E15.thenUpd U24 (fun k hk => by have hk2 : k = bq12 := hk; omega)
  have HG_29 := HG.ext Y28
  refine r_nil (q_t ?_)
  refine w_seq ?_
  refine w_reg ?_
  refine r_mv (r_cvk it_u8 it_i64 rfl (wrap_small (by omega) (by omega)) (r_mv (r_subb rfl rfl (by omega) (by omega) ?_)))
  refine r_remp rfl rfl (by omega) (by omega) ?_
  have hrm : 0 ≤ (u : Int) % ((p : Int) - 1) ∧ (u : Int) % ((p : Int) - 1) < (p : Int) - 1 := ⟨Int.emod_nonneg _ (by omega), Int.emod_lt_of_pos _ (by omega)⟩
  refine r_addb rfl rfl (by omega) (by omega) ?_
  obtain ⟨c, hce, hcl1, hcl2⟩ : ∃ c : Nat, (c : Int) = 1 + (u : Int) % ((p : Int) - 1) ∧ 1 ≤ c ∧ c < p := ⟨(1 + (u : Int) % ((p : Int) - 1)).toNat, by omega, by omega, by omega⟩
  rw [← hce]
  have hcp : c % p ≠ 0 := by rw [Nat.mod_eq_of_lt hcl2]; omega
  refine r_as (r_nil (q_t ?_))
  refine w_seq ?_
  refine w_seq ?_
  refine w_reg ?_
  refine r_fo (fs := 1) fd_Jor2 (by kernel_rfl) (by decide) rfl (r_ld na_BL rfl (V14_23.cell (i := 2) rfl) (r_lenKm sl_BL rfl HG_29.sl ?_))
  refine r_eql rfl rfl (fun hc1 => ?_) (fun hc1 => ?_)   -- t36 := binOp eql 3 t35 0:i64 3
  · skip
    refine r_nil (q_t ?_)
    refine w_true rfl ?_
    refine w_seq ?_
    refine w_reg ?_
    refine r_call trivial rfl (awake24_ok (HF.ext X25)) fun x30 h31 hk => ?_
    obtain ⟨E32, rfl⟩ := hk
    refine ⟨trivial, ?_⟩
    have sz33 := E32.1
    have Z34 := Z27.trans E32
    have X35 := X25.trans E32
    have HG_36 := HG_29.ext E32
    have V14_37 := V14_23.ext E32
    have Y38 := Y28.trans E32
    refine r_as (r_nil (q_t ?_))
    refine w_ret (q_tr ?_)
    refine ⟨_, retV_1, ?_⟩
    first | exact ⟨X35, rfl⟩ | (exfalso; omega)
  · skip
    refine r_nil (q_t ?_)
    refine w_false rfl ?_
    refine w_skip (q_t ?_)
    refine w_seq ?_
    refine w_reg ?_
    refine r_ldA [.int .i64 (p : Int), .slice none 0 0, (.slice a7 (Bs.map blkV).length c7)] ag_Jor rfl rfl V14_23.agg ?_
    have hbm := fun g hg => (HG_29.blk g hg).2
    have hG0 := good_of_made hp hmade (by omega)
    refine r_call trivial rfl (ConJ_ok hp (HF.ext X25) HG_29.sl hG0) fun x39 h40 hk => ?_
    obtain ⟨E41, r1, rfl, HC1⟩ := hk
    refine ⟨trivial, ?_⟩
    have sz42 := E41.1
    have Z43 := Z27.trans E41
    have X44 := X25.trans E41
    have HG_45 := HG_29.ext E41
    have V14_46 := V14_23.ext E41
    have Y47 := Y28.trans E41
    refine r_mv (r_ext rfl rfl (r_ext rfl rfl (r_as (r_as (r_nil (q_t ?_))))))
    refine w_seq ?_
    refine w_reg ?_
    refine r_mv (r_cvk it_u8 it_int rfl (wrap_small (by omega) (by omega)) (r_fo (fs := 1) fd_Jor2 (by kernel_rfl) (by decide) rfl (r_ld na_BL rfl (V14_46.cell (i := 2) rfl) (r_lenKm sl_BL rfl HG_45.sl ?_))))
    refine r_remn rfl rfl (by omega) ?_
    obtain ⟨i, hie⟩ : ∃ i, i = at0 % Bs.length := ⟨_, rfl⟩
    have hil : i < Bs.length := by rw [hie]; exact Nat.mod_lt _ (by omega)
    rw [← hie]
    obtain ⟨b, hbi⟩ : ∃ b, Bs[i]? = some b := ⟨_, List.getElem?_eq_getElem hil⟩
    obtain ⟨w1, w2, w3, w4, w5, w6, w7, w8⟩ := hG0.wf b (List.mem_of_getElem? hbi)
    have w10 := hmade.sm b (List.mem_of_getElem? hbi)
    have hcc : c * c ≤ 23 * 23 := Nat.mul_le_mul (by omega) (by omega)
    obtain ⟨cc, hcce⟩ : ∃ cc, cc = c * c := ⟨_, rfl⟩
    have q1 : 0 ≤ (b.a * ((c * c : Nat) : Int)) ∧ (b.a * ((c * c : Nat) : Int)) ≤ 600 * 529 := ⟨Int.mul_nonneg w6 (by omega), Int.mul_le_mul w10.2.1 (by omega) (by omega) (by omega)⟩
    have q2 : 0 ≤ (b.a * ((c * c : Nat) : Int) * (c : Int)) ∧ (b.a * ((c * c : Nat) : Int) * (c : Int)) ≤ 600 * 529 * 23 := ⟨Int.mul_nonneg q1.1 (by omega), Int.mul_le_mul q1.2 (by omega) (by omega) (by omega)⟩
    have q1n : (b.a * ((c * c : Nat) : Int)).toNat % p ≠ 0 := by rw [toNat_mul w6]; exact mulJ_ne hp w8 (mulJ_ne hp hcp hcp)
    have q2n : (b.a * ((c * c : Nat) : Int) * (c : Int)).toNat % p ≠ 0 := by rw [toNat_mul q1.1, toNat_mul w6]; exact mulJ_ne hp (mulJ_ne hp w8 (mulJ_ne hp hcp hcp)) hcp
    have hlmB : (Bs.map blkV).length = Bs.length := List.length_map ..
    refine r_as (r_nil (q_t ?_))
    refine w_seq ?_
    refine w_reg ?_
    refine r_fo (fs := 1) fd_Jor2 (by kernel_rfl) (by decide) rfl (r_ld na_BL rfl (V14_46.cell (i := 2) rfl) (r_mv ?_))
    obtain ⟨g, hgl, HOg⟩ := HG_45.own (by intro he; have he2 := congrArg List.length he; rw [List.length_map] at he2; simp only [List.length_nil] at he2; omega)
    have hgb : g < bq12 := avHGbq12 g HOg.blk
    have hgm := hbm g HOg.blk
    have HB : OwnK h40 41 5 g (.slice a7 (Bs.map blkV).length c7) ((Bs.map blkV).set i (blkV b)) := by rw [set_same (get_blk hbi)]; exact HOg
    have hiB : i < (Bs.map blkV).length := by omega
    refine r_ixKo sl_BL rfl HB rfl (by rw [List.length_set]; exact hiB) ?_
    refine r_fo (fs := 1) fd_Blk2 (by kernel_rfl) (by decide) rfl (r_ld na_i64 rfl (HB.cell (i := i) (j := 2) (List.getElem?_set_self hiB) rfl) (r_mv (r_mv (r_mulb rfl rfl (by rw [← Int.natCast_mul]; omega) (by rw [← Int.natCast_mul]; omega) ?_))))
    rw [← Int.natCast_mul]
    refine r_mulb rfl rfl (by omega) (by omega) ?_
    refine r_ixKo sl_BL rfl HB rfl (by rw [List.length_set]; exact hiB) ?_
    refine r_fo (fs := 1) fd_Blk2 (by kernel_rfl) (by decide) rfl (r_stK [.int .i64 b.exp, .int .i64 b.size, .int .i64 (b.a * ((c * c : Nat) : Int)), .int .i64 b.b, .int .i64 b.c] na_i64 rfl (show _ = .int .i64 (b.a * ((c * c : Nat) : Int)) from rfl) rfl HB hiB (by decide) rfl fun h48 HB_49 U50 => ?_)
    have sz52 := U50.1
    have X51 := X44.thenUpd U50 (fun k hk => by have hk2 : k = g := hk; omega)
    have V14_53 := V14_46.upd U50 (fun he => by have he2 : bq12 = g := he; omega)
    have HC1_54 := HC1.upd U50 (fun g1 hg hs => by have hs2 : g1 = g := hs; have := (HC1.blk g1 hg).1; omega)
    refine r_nil (q_t ?_)
    refine w_seq ?_
    refine w_reg ?_
    refine r_ldA [.int .i64 (p : Int), .slice none 0 0, (.slice a7 (Bs.map blkV).length c7)] ag_Jor rfl rfl V14_53.agg ?_
    have hb1x := fun g hg => (HC1_54.blk g hg).2
    have hG1 := good_set hG0 hbi q1.1 (by omega) q1n
    have HS1 : SlK h48 5 (.slice a7 (Bs.map blkV).length c7) ((Bs.set i (setA b (b.a * ((c * c : Nat) : Int)))).map blkV) := by rw [List.map_set]; exact HB_49.sl
    refine r_call trivial rfl (ConJ_ok hp (HF.ext X51) HS1 hG1) fun x55 h56 hk => ?_
    obtain ⟨E57, r2, rfl, HC2⟩ := hk
    refine ⟨trivial, ?_⟩
    have sz58 := E57.1
    have X59 := X51.trans E57
    have V14_60 := V14_53.ext E57
    have HC1_61 := HC1_54.ext E57
    have HB_62 := HB_49.ext E57
    rw [conJ_same (b' := setA b (b.a * ((c * c : Nat) : Int))) hG0 hbi rfl (unit_sq hp w6 hcp)] at HC2
    refine r_mv (r_ext rfl rfl (r_ext rfl rfl (r_as (r_as (r_nil (q_t ?_))))))
    refine w_seq ?_
    refine w_reg ?_
    refine r_fo (fs := 1) fd_Jor2 (by kernel_rfl) (by decide) rfl (r_ld na_BL rfl (V14_60.cell (i := 2) rfl) (r_mv (r_ixKo sl_BL rfl HB_62 rfl (by rw [List.length_set]; exact hiB) ?_)))
    refine r_fo (fs := 1) fd_Blk2 (by kernel_rfl) (by decide) rfl (r_ld na_i64 rfl (HB_62.cell (i := i) (j := 2) (List.getElem?_set_self hiB) rfl) (r_mv (r_mulb rfl rfl (by omega) (by omega) ?_)))
    refine r_ixKo sl_BL rfl HB_62 rfl (by rw [List.length_set]; exact hiB) ?_
    refine r_fo (fs := 1) fd_Blk2 (by kernel_rfl) (by decide) rfl (r_stK [.int .i64 b.exp, .int .i64 b.size, .int .i64 (b.a * ((c * c : Nat) : Int) * (c : Int)), .int .i64 b.b, .int .i64 b.c] na_i64 rfl (show _ = .int .i64 (b.a * ((c * c : Nat) : Int) * (c : Int)) from rfl) rfl HB_62 hiB (by decide) rfl fun h63 HB_64 U65 => ?_)
    have sz67 := U65.1
    have X66 := X59.thenUpd U65 (fun k hk => by have hk2 : k = g := hk; omega)
    have V14_68 := V14_60.upd U65 (fun he => by have he2 : bq12 = g := he; omega)
    have HC1_69 := HC1_61.upd U65 (fun g1 hg hs => by have hs2 : g1 = g := hs; have := (HC1.blk g1 hg).1; omega)
    have HC2_70 := HC2.upd U65 (fun g1 hg hs => by have hs2 : g1 = g := hs; have := (HC2.blk g1 hg).1; have := HB.lt; omega)
    refine r_nil (q_t ?_)
    refine w_seq ?_
    refine w_reg ?_
    refine r_ldA [.int .i64 (p : Int), .slice none 0 0, (.slice a7 (Bs.map blkV).length c7)] ag_Jor rfl rfl V14_68.agg ?_
    have hG2 := good_set hG0 hbi q2.1 (by omega) q2n
    have HS2 : SlK h63 5 (.slice a7 (Bs.map blkV).length c7) ((Bs.set i (setA b (b.a * ((c * c : Nat) : Int) * (c : Int)))).map blkV) := by rw [List.map_set]; exact HB_64.sl
    obtain ⟨lo3, hlo3⟩ : ∃ lo, lo = Array.size h63 := ⟨_, rfl⟩
    have hA1b : ∀ g, Value.ownBlock r1 = some g → g < lo3 := fun g hg => by have := (HC1_69.blk g hg).2; omega
    have hgB3 : g < lo3 := by have := HB_64.lt; omega
    have hb103 : bq12 < lo3 := by have := V14_68.lt; omega
    have hh3 : Array.size h ≤ lo3 := by have := X66.1; omega
    refine r_call trivial rfl (ConJ_ok hp (HF.ext X66) HS2 hG2) fun x71 h72 hk => ?_
    obtain ⟨E73, r3, rfl, HC3⟩ := hk
    refine ⟨trivial, ?_⟩
    have sz74 := E73.1
    have X75 := X66.trans E73
    have V14_76 := V14_68.ext E73
    have HC1_77 := HC1_69.ext E73
    have HB_78 := HB_64.ext E73
    have HC2_79 := HC2_70.ext E73
    rw [conJ_turn (b' := setA b (b.a * ((c * c : Nat) : Int) * (c : Int))) hG0 hbi rfl (unit_cu hp w6 hcp)] at HC3
    rw [← hlo3] at HC3
    refine r_mv (r_ext rfl rfl (r_ext rfl rfl (r_as (r_as (r_nil (q_t ?_))))))
    refine w_seq ?_
    refine w_seq ?_
    have hcl8 := consTo_len (incJ p) Bs Bs.length
    have hcle : (conJ p Bs).length ≤ Bs.length := hcl8
    have hhi8 := hG0.hi
    have hl3 : ((conJ p Bs).map (FJ b.exp (leg c p))).length = (conJ p Bs).length := List.length_map ..
    refine w_reg ?_
    refine r_mv ?_
    refine r_not rfl (r_mv (r_want 83 false (by kernel_rfl) rfl rfl (r_mv ?_)))
    refine r_want 83 false (by kernel_rfl) rfl rfl (r_not rfl (r_pickF rfl (r_mv (r_want 87 false (by kernel_rfl) rfl rfl (r_mv ?_)))))
    refine r_want 87 false (by kernel_rfl) rfl rfl (r_not rfl (r_pickF rfl (r_mv (r_want 91 false (by kernel_rfl) rfl rfl (r_mv (r_want 91 false (by kernel_rfl) rfl rfl (r_mv (r_want 91 false (by kernel_rfl) rfl rfl (r_call trivial rfl (SameList_ok HC1_77.sl HC2_79.sl (by omega)) fun x80 h72 hk => ?_)))))))))
    obtain ⟨rfl, rfl⟩ := hk
    refine ⟨trivial, ?_⟩
    rw [decide_eq_true rfl]
    refine r_want 91 false (by kernel_rfl) rfl rfl (r_not rfl (r_pickF rfl (r_mv (r_want 97 false (by kernel_rfl) rfl rfl (r_mv (r_want 97 false (by kernel_rfl) rfl rfl (r_lenKm sl_CL rfl HC3.sl ?_)))))))
    refine r_want 97 false (by kernel_rfl) rfl rfl (r_mv (r_want 97 false (by kernel_rfl) rfl rfl (r_lenKm sl_CL rfl HC1_77.sl ?_)))
    refine r_want 97 false (by kernel_rfl) rfl rfl (r_neq rfl rfl (fun hc2 => ?_) (fun hc2 => ?_))   -- t102 := binOp neq 3 t99 t101 3   [guard op16 false]
    · skip
      refine r_pickF rfl (r_nil (q_t ?_))
      refine w_true rfl ?_
      refine w_seq ?_
      refine w_reg ?_
      refine r_as (r_nil (q_t ?_))
      refine w_ret (q_tr ?_)
      refine ⟨_, retV_1, ?_⟩
      first | exact ⟨X75, rfl⟩ | (exfalso; omega)
    · skip
      refine r_pickF rfl (r_nil (q_t ?_))
      refine w_false rfl ?_
      refine w_skip (q_t ?_)
      refine w_seq ?_
      refine w_seq ?_
      refine w_reg ?_
      refine r_mv (r_lenKm sl_CL rfl HC3.sl ?_)
      refine r_mv (r_nil (q_t ?_))
      refine w_block ?_
      obtain ⟨g3, hg3, HOd⟩ := HC3.own (by intro he; have he2 := congrArg List.length he; rw [List.length_map, List.length_map] at he2; simp only [List.length_nil] at he2; have hne := consTo_ne (inc := incJ p) (Bs := Bs) (i := Bs.length - 1) (by omega); rw [show Bs.length - 1 + 1 = Bs.length by omega] at hne; exact hne (List.length_eq_zero_iff.1 he2))
      have HBL0 : SlK h72 5 (.slice a7 (Bs.map blkV).length c7) ((Bs.set i (setA b (b.a * ((c * c : Nat) : Int) * (c : Int)))).map blkV) := by rw [List.map_set]; exact HB_78.sl
      have hBLb : ∀ g1, Value.ownBlock (.slice a7 (Bs.map blkV).length c7) = some g1 → g1 < lo3 := fun g1 hg1 => by have hz := HB_78.blk; rw [hg1] at hz; injection hz with hz; omega
      rw [← DJ_zero] at HOd
      rw [List.length_map]
      refine w_loop 10889035660340392416221305742027578146816 (fun y : Nat => [(106, .int .i64 (y : Int))]) (fun k y h' => k = (conJ p Bs).length - y ∧ y ≤ (conJ p Bs).length ∧ Ext h h' ∧ BoxH 31 h' bq12 [.int .i64 (p : Int), .slice none 0 0, (.slice a7 (Bs.map blkV).length c7)] ∧ SlK h' 5 (.slice a7 (Bs.map blkV).length c7) ((Bs.set i (setA b (b.a * ((c * c : Nat) : Int) * (c : Int)))).map blkV) ∧ SlK h' 5 r1 ((conJ p Bs).map conV) ∧ OwnK h' 44 5 g3 r3 ((DJ (conJ p Bs) b.exp (leg c p) y).map conV)) (by kernel_rfl) (conJ p Bs).length 0 ?_ ⟨rfl, trivial⟩ ?_
      · exact ⟨rfl, Nat.zero_le _, X75, V14_76, HBL0, HC1_77.sl, HOd⟩
      rintro k n s1 hq ⟨rfl, hn3, XQ, VQ, HBL, HA1, HD⟩
      refine w_seq ?_
      refine w_reg ?_
      refine r_lss rfl rfl (fun hc3 => ?_) (fun hc3 => ?_)   -- t107 := binOp lss 3 t106 t105 3
      · skip
        refine r_nil (q_t ?_)
        refine w_seq ?_
        refine w_true rfl ?_
        refine w_skip (q_t ?_)
        refine w_seq ?_
        refine w_block ?_
        refine w_seq ?_
        refine w_reg ?_
        refine r_mv (r_as (r_nil (q_t ?_)))
        refine w_seq ?_
        obtain ⟨x, hx⟩ : ∃ x, (conJ p Bs)[n]? = some x := ⟨_, List.getElem?_eq_getElem (by omega)⟩
        have hxs := smJ_cons hG0 _ x (List.mem_of_getElem? hx)
        have hgx := DJ_get (e := b.exp) (t := leg c p) hx
        have hse : (setA b (b.a * ((c * c : Nat) : Int) * (c : Int))).exp = b.exp := rfl
        refine w_draw (by kernel_rfl) ?_
        refine r_mv (r_mv (r_ixK sl_CL rfl HD.sl rfl (get_con hgx) fun aD oD hkD => ?_))
        refine r_fo (fs := 1) fd_Con0 (by kernel_rfl) (by decide) rfl (r_ld na_int rfl (show _ = some (Value.int .i64 x.exp) by have hz := hkD 0 _ rfl; rw [FJ_exp] at hz; exact hz) ?_)
        refine r_fo (fs := 1) fd_Jor2 (by kernel_rfl) (by decide) rfl (r_ld na_BL rfl (VQ.cell (i := 2) rfl) (r_mv (r_ixK sl_BL rfl HBL rfl (get_blk (show (Bs.set i (setA b (b.a * ((c * c : Nat) : Int) * (c : Int))))[i]? = some (setA b (b.a * ((c * c : Nat) : Int) * (c : Int))) from List.getElem?_set_self hil)) fun aB oB hkB => ?_)))
        refine r_fo (fs := 1) fd_Blk0 (by kernel_rfl) (by decide) rfl (r_ld na_int rfl (hkB 0 _ rfl) (r_eql rfl rfl (fun hc4 => ?_) (fun hc4 => ?_)))   -- t120 := binOp eql 3 t113 t119 3
        · skip
          refine r_nil (q_t ?_)
          refine w_true rfl ?_
          refine w_drawB (fun h' => Ext hq h') (by kernel_rfl) ?_
          have hB0 := Ext.refl hq
          refine r_mv (r_mv ?_)
          have HO2 : OwnK hq 44 5 g3 r3 (((DJ (conJ p Bs) b.exp (leg c p) n).map conV).set n [.int .i64 x.exp, .int .i64 x.dim, .int .i64 (x.sign * leg c p), .bool x.odd, .int .i64 x.oddity]) := by
            have hz : [.int .i64 x.exp, .int .i64 x.dim, .int .i64 (x.sign * leg c p), .bool x.odd, .int .i64 x.oddity] = conV (FJ b.exp (leg c p) x) := by unfold FJ; rw [if_pos (by omega)]; rfl
            rw [hz, set_same (get_con hgx)]; exact HD
          have hnD : n < ((DJ (conJ p Bs) b.exp (leg c p) n).map conV).length := by rw [List.length_map, DJ_len _ _ _ (by omega)]; omega
          refine r_ixKo sl_CL rfl HO2 rfl (by rw [List.length_set]; exact hnD) ?_
          refine r_fo (fs := 1) fd_Con2 (by kernel_rfl) (by decide) rfl (r_ldB na_int rfl hB0 (fun h' hb => (HO2.ext hb).cell (i := n) (j := 2) (List.getElem?_set_self hnD) rfl) ?_)
          refine r_mv (r_mv (r_call hB0 rfl (Leg_ok hp hcl2 _) fun x81 h82 hk => ?_))
          obtain ⟨E83, rfl⟩ := hk
          have hB84 := hB0.trans E83
          refine ⟨hB84, ?_⟩
          have sz85 := E83.1
          have X86 := XQ.trans E83
          have V14_87 := VQ.ext E83
          have HBL_88 := HBL.ext E83
          have HA1_89 := HA1.ext E83
          have HD_90 := HD.ext E83
          have HO2_91 := HO2.ext E83
          refine r_mul rfl rfl ?_
          rw [sgn_twice hxs.1 (leg_pm hcp)]
          refine r_ixKo sl_CL rfl HO2_91 rfl (by rw [List.length_set]; exact hnD) ?_
          refine r_fo (fs := 1) fd_Con2 (by kernel_rfl) (by decide) rfl (r_stK [.int .i64 x.exp, .int .i64 x.dim, .int .i64 x.sign, .bool x.odd, .int .i64 x.oddity] na_int rfl (show _ = .int .i64 x.sign from rfl) rfl HO2_91 hnD (by decide) rfl fun h92 HO2_93 U94 => ?_)
          have sz96 := U94.1
          have X95 := X86.thenUpd U94 (fun k hk => by have hk2 : k = g3 := hk; omega)
          have V14_97 := V14_87.upd U94 (fun he => by have he2 : bq12 = g3 := he; omega)
          have HBL_98 := HBL_88.upd U94 (fun g1 hg hs => by have hs2 : g1 = g3 := hs; have := hBLb g1 hg; omega)
          have HA1_99 := HA1_89.upd U94 (fun g1 hg hs => by have hs2 : g1 = g3 := hs; have := hA1b g1 hg; omega)
          refine r_nil (q_b (q_t ?_))
          refine w_reg ?_
          refine r_inc rfl (by omega) (r_mv (r_nil (q_t ?_)))
          have hHD : OwnK h92 44 5 g3 r3 (((DJ (conJ p Bs) b.exp (leg c p) n).map conV).set n (conV x)) := HO2_93
          rw [← List.map_set, DJ_set hx] at hHD
          exact ⟨(conJ p Bs).length - (n + 1), n + 1, by omega, ⟨rfl, by omega, X95, V14_97, HBL_98, HA1_99, hHD⟩, rfl, trivial⟩
        · skip
          refine r_nil (q_t ?_)
          refine w_false rfl ?_
          refine w_skip (q_b (q_t ?_))
          refine w_reg ?_
          refine r_inc rfl (by omega) (r_mv (r_nil (q_t ?_)))
          have hHD := HD
          rw [← DJ_skip hx (by omega)] at hHD
          exact ⟨(conJ p Bs).length - (n + 1), n + 1, by omega, ⟨rfl, by omega, XQ, VQ, HBL, HA1, hHD⟩, rfl, trivial⟩
      · skip
        refine r_nil (q_t ?_)
        refine w_seq ?_
        refine w_false rfl ?_
        refine w_exit (q_tx (q_tx (q_bx (q_t ?_))))
        refine w_seq ?_
        refine w_reg ?_
        refine r_mv (r_mv ?_)
        have HDe := HD.sl
        rw [show n = (conJ p Bs).length by omega, DJ_all] at HDe
        refine r_call trivial rfl (SameList_ok HA1 HDe (by omega)) fun x100 hq hk => ?_
        obtain ⟨rfl, rfl⟩ := hk
        refine ⟨trivial, ?_⟩
        rw [decide_eq_true rfl]
        refine r_mv (r_want 136 true (by kernel_rfl) rfl rfl (r_call trivial rfl (awake24_ok (HF.ext XQ)) fun x101 h102 hk => ?_))
        obtain ⟨E103, rfl⟩ := hk
        refine ⟨trivial, ?_⟩
        have sz104 := E103.1
        have X105 := XQ.trans E103
        have V14_106 := VQ.ext E103
        have HBL_107 := HBL.ext E103
        have HA1_108 := HA1.ext E103
        have HD_109 := HD.ext E103
        refine r_pickT rfl (r_as (r_nil (q_t ?_)))
        refine w_ret ?_
        refine ⟨_, retV_1, ?_⟩
        first | exact ⟨X105, rfl⟩ | (exfalso; omega)

end Go.Proofs.YtccgaemmdikhcaaDoor
