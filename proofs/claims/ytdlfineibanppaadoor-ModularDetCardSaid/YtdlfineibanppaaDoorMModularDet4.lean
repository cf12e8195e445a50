/-
  Texts of the proof of ModularDet, joined: A23, Cv, RefS, Lin, Rref, Solve, Uniq, Uni, Det, Mul, Row, Ech2, Ker, Tri, Inv, DetM, AwS, Awake, A23w, A23d, Ok, Bar, P3, PD, PL23, PG, LD. Conditions stand in each statement.
-/
import Derived.Test.YtdlfineibanppaaDoorMModularDet3
/-
  quadformref22, quadformref23, quadformmake.Grid, walked.
-/
namespace Go.Proofs.YtdlfineibanppaaDoor
open Go Go.QF
set_option linter.unusedVariables false
set_option linter.unusedSimpArgs false
set_option maxRecDepth 100000
set_option maxHeartbeats 4000000
def P_quadformref22_Mod (fuel : Nat) (a1 : Int) (a2 : Int) : Option Int :=
  (if a2 ≠ 0 then (if (Int.tmod a1 a2) < 0 then (some (w64 ((Int.tmod a1 a2) + a2))) else (some (Int.tmod a1 a2))) else none)
theorem P_quadformref22_Mod_ok {fuel : Nat} {h : Heap} {a1 : Int} {a2 : Int} {r : Int}  (hp : P_quadformref22_Mod fuel a1 a2 = some r) : CallH Tryd.prog 36 #[(.int .i64 a1), (.int .i64 a2)] h (fun x h' => Ext h h' ∧ x = .int .i64 r) := by
  unfold P_quadformref22_Mod at hp
  have S0 := sp_nil h (Array.size h)
  refine calls_of_W (l := [_, _]) mx Tryd.func36 rfl rfl rfl rfl rfl (by kernel_rfl) ?_
  refine w_seq ?_
  refine w_reg ?_
  refine r_as (r_nil (q_t ?_))
  refine w_seq ?_
  refine w_reg ?_
  refine r_mv (r_mv ?_)
  obtain ⟨hn3, hp4⟩ := ifN hp
  clear hp
  refine r_rem rfl rfl hn3 (r_as (r_nil (q_t ?_)))
  refine w_seq ?_
  refine w_seq ?_
  refine w_reg ?_
  refine r_mv (r_cmp rfl rfl (cmp_lss _ _) (r_nil (q_t ?_)))
  refine ⟨_, rfl, fun hc5 => ?_, fun hc5 => ?_⟩
  · skip
    have hp6 := ifTd hp4 hc5
    clear hp4
    refine w_reg ?_
    refine r_mv (r_mv (r_add rfl rfl (r_as (r_nil (q_t ?_)))))
    refine w_seq ?_
    refine w_reg ?_
    refine r_mv (r_as (r_nil (q_t ?_)))
    refine w_ret ?_
    have hq7 := Option.some.inj hp6
    subst hq7
    exact ⟨_, retV_1, (Ext.refl _), rfl⟩
  · skip
    have hp8 := ifFd hp4 hc5
    clear hp4
    refine w_skip (q_t ?_)
    refine w_seq ?_
    refine w_reg ?_
    refine r_mv (r_as (r_nil (q_t ?_)))
    refine w_ret ?_
    have hq9 := Option.some.inj hp8
    subst hq9
    exact ⟨_, retV_1, (Ext.refl _), rfl⟩

def P_quadformref22_Residue (fuel : Nat) (a1 : Int) (a5 : Int) : Option Int :=
  ((zSmallP fuel a5).bind fun x13 => ((P_quadformref01_Rem fuel a1 x13).bind fun x24 => ((zInt64P fuel x24).bind fun (x35, x36) => (some x35))))
theorem P_quadformref22_Residue_ok {fuel : Nat} {h : Heap} {pv2 : Value} {a1 : Int} {a5 : Int} {r : Int} (H3 : ZZ h pv2 a1) (hp : P_quadformref22_Residue fuel a1 a5 = some r) : CallH Tryd.prog 55 #[pv2, (.int .i64 a5)] h (fun x h' => Ext h h' ∧ x = .int .i64 r) := by
  unfold P_quadformref22_Residue at hp
  obtain ⟨cs4, rfl, H3z⟩ := H3.cs
  have S0 := sp_nil h (Array.size h)
  refine calls_of_W (l := [_, _]) mx Tryd.func55 rfl rfl rfl rfl rfl (by kernel_rfl) ?_
  refine w_seq ?_
  refine w_reg ?_
  refine r_boxE cs4 trivial (fun _ _ => trivial) rfl rfl fun b6 h7 V8 E9 S10 => ?_
  have sz12 := E9.1
  have S13 : Sp h7 (Array.size h) [[b6]] := S0.app S10 E9.1 (Nat.le_refl _)
  have lo14 := S10.loAll 0 rfl
  refine r_as (r_nil (q_t ?_))
  refine w_seq ?_
  refine w_drawB (fun h' => UpT [] h7 h') (by kernel_rfl) ?_
  have hB15 : UpT [] h7 h7 := UpT.start all_nil
  have Z16 := cZ.upT H3z E9.upT
  refine r_ldAB cs4 ag_Z (cZ.klen Z16) rfl hB15 (fun h' hb => (V8.ext hb.ext).agg) (r_mv ?_)
  obtain ⟨x17, hx18, hp19⟩ := obind hp
  clear hp
  refine r_callE hB15 (fun _ E => hB15.thenE E) rfl (zSmall_P hx18) fun xv23 h21 E20 hk22 => ?_
  obtain ⟨x24, rfl, Z25⟩ := hk22
  have sz27 := E20.1
  have X28 := E9.trans E20
  have hB29 := hB15.thenE E20
  obtain ⟨cs26, rfl, Z30⟩ := Z25.cs
  have S31 : Sp h21 (Array.size h) [[b6]] := S13.keep E20.1
  have Z32 := cZ.upT Z16 E20.upT
  obtain ⟨x33, hx34, hp35⟩ := obind hp19
  clear hp19
  refine r_callE hB29 (fun _ E => hB29.thenE E) rfl (P_quadformref01_Rem_ok Z32.2 Z30.2 hx34) fun xv39 h37 E36 hk38 => ?_
  obtain ⟨x40, rfl, Z41⟩ := hk38
  have sz43 := E36.1
  have X44 := X28.trans E36
  have hB45 := hB29.thenE E36
  obtain ⟨cs42, rfl, Z46⟩ := Z41.cs
  have S47 : Sp h37 (Array.size h) [[b6]] := S31.keep E36.1
  obtain ⟨⟨x48, x49⟩, hx50, hp51⟩ := obind hp35
  clear hp35
  dsimp only at hp51
  refine r_callE hB45 (fun _ E => hB45.thenE E) rfl (zInt64_P Z46.2 hx50) fun xv55 h53 E52 hk54 => ?_
  subst hk54
  have sz56 := E52.1
  have X57 := X44.trans E52
  have hB58 := hB45.thenE E52
  have S59 : Sp h53 (Array.size h) [[b6]] := S47.keep E52.1
  refine r_mv (r_ext rfl rfl (r_ext rfl rfl (r_as (r_as (r_nil (q_t ?_))))))
  refine w_seq ?_
  refine w_reg ?_
  refine r_mv (r_as (r_nil (q_t ?_)))
  refine w_ret ?_
  have hq60 := Option.some.inj hp51
  subst hq60
  exact ⟨_, retV_1, X57, rfl⟩

def P_quadformref23_Valid_b2 (fuel : Nat) (a3 : (List (List Int))) (s45 : Int) : Option ((Int) ⊕ ((Bool) ⊕ (Unit))) :=
  (if s45 < (a3.length : Int) then ((gI a3 s45).bind fun x48 => ((gI a3 0).bind fun x55 => (if ¬ (x48.length : Int) = (x55.length : Int) then (some (Sum.inr<| Sum.inl <| false)) else (if (x48.length : Int) < 1 then (some (Sum.inr<| Sum.inl <| false)) else (if 16 < (x48.length : Int) then (some (Sum.inr<| Sum.inl <| false)) else (some (Sum.inl (w64 (s45 + 1))))))))) else (some (Sum.inr<| Sum.inr <|  ())))
def P_quadformref23_Valid (fuel : Nat) (a3 : (List (List Int))) : Option Bool :=
  (((if (a3.length : Int) < 1 then (some (Sum.inl <| false)) else (if 16 < (a3.length : Int) then (some (Sum.inl <| false)) else (some (Sum.inr <|  ())))) : Option ((Bool) ⊕ (Unit))).bind (fun ex => match ex with | Sum.inl e17 => (some e17) | Sum.inr (_) => ((iter (fun s => P_quadformref23_Valid_b2 fuel a3 s) fuel 0).bind (fun ex => match ex with | Sum.inl e72 => (some e72) | Sum.inr (_) => (some true)))))
theorem P_quadformref23_Valid_ok {fuel : Nat} {h : Heap} {pv1 : Value} {a3 : (List (List Int))} {r : Bool} (H2 : SlC2 (cI .i64) h pv1 a3) (hp : P_quadformref23_Valid fuel a3 = some r) : CallH Tryd.prog 59 #[pv1] h (fun x h' => Ext h h' ∧ x = .bool r) := by
  unfold P_quadformref23_Valid at hp
  have S0 := sp_nil h (Array.size h)
  refine calls_of_W (l := [_]) mx Tryd.func59 rfl rfl rfl rfl rfl (by kernel_rfl) ?_
  refine w_seq ?_
  refine w_reg ?_
  refine r_as (r_nil (q_t ?_))
  obtain ⟨ex5, hj6, hp7⟩ := obind hp
  clear hp
  refine w_join 8164 (fun x : Unit => []) (fun (x : Unit) (h' : Heap) => (Sum.inr <|  ()) = ex5 ∧ UpT [] h h' ∧ Sp h' (Array.size h) []) (by kernel_rfl) ?_ ?_
  · skip
    refine w_seq ?_
    refine w_reg ?_
    refine r_mv ?_
    refine r_lenR sl_MM rfl H2 (r_cmp rfl rfl (cmp_lss _ _) (r_mv ?_))
    rcases Decidable.em ((a3.length : Int) < 1) with hc8 | hc8
    · skip
      have hp9 := ifT hj6 hc8
      clear hj6
      rw [show decide ((a3.length : Int) < 1) = true from decide_eq_true hc8]
      refine r_skip 8 true (by kernel_rfl) rfl rfl (r_skip 8 true (by kernel_rfl) rfl rfl (r_skip 8 true (by kernel_rfl) rfl rfl (r_pickT rfl (r_nil (q_t ?_)))))
      refine w_true rfl ?_
      refine w_seq ?_
      refine w_reg ?_
      refine r_as (r_nil (q_t ?_))
      have hq10 := Option.some.inj hp9
      subst hq10
      have hp12 := hp7
      try dsimp only at hp12
      refine w_ret (q_tr ?_)
      have hq13 := Option.some.inj hp12
      subst hq13
      exact ⟨_, retV_1, (Ext.refl _), rfl⟩
    · skip
      have hp14 := ifF hj6 hc8
      clear hj6
      rw [show decide ((a3.length : Int) < 1) = false from decide_eq_false hc8]
      refine r_want 8 false (by kernel_rfl) rfl rfl (r_mv (r_want 8 false (by kernel_rfl) rfl rfl ?_))
      refine r_lenR sl_MM rfl H2 (r_want 8 false (by kernel_rfl) rfl rfl (r_cmp rfl rfl (cmp_gtr _ _) (r_pickF rfl (r_nil (q_t ?_)))))
      refine ⟨_, rfl, fun hc15 => ?_, fun hc15 => ?_⟩
      · skip
        have hp16 := ifTd hp14 hc15
        clear hp14
        refine w_seq ?_
        refine w_reg ?_
        refine r_as (r_nil (q_t ?_))
        have hq17 := Option.some.inj hp16
        subst hq17
        have hp19 := hp7
        try dsimp only at hp19
        refine w_ret (q_tr ?_)
        have hq20 := Option.some.inj hp19
        subst hq20
        exact ⟨_, retV_1, (Ext.refl _), rfl⟩
      · skip
        have hp21 := ifFd hp14 hc15
        clear hp14
        refine w_skip (q_t ?_)
        have T23 : UpT [] h h := UpT.start all_nil
        exact ⟨(() : Unit), ⟨Option.some.inj hp21, T23, S0⟩, trivial⟩
  rintro ⟨⟩ sv26 h25 ⟨hk24, T27, S28⟩
  replace S28 : Sp h25 (Array.size h) [] := S28
  refine (show W _ _ _ (setL [] (mix _ sv26 _)) h25 from ?_)
  have sz29 := T27.size
  have X30 := (Ext.refl _).thenT T27 all_nil
  subst hk24
  have hp31 := hp7
  try dsimp only at hp31
  refine w_seq ?_
  refine w_seq ?_
  refine w_reg ?_
  refine r_mv ?_
  refine r_lenR sl_MM rfl H2 (r_mv (r_nil (q_t ?_)))
  refine w_block ?_
  obtain ⟨ex32, hL33, hp34⟩ := obind hp31
  clear hp31
  obtain ⟨bd35, hbd36, hL37⟩ := iter_gen hL33
  clear hL33
  refine w_loop 137438920724 (fun x : (Int) => [(15, (.int .i64 x))]) (fun (k : Nat) (x : (Int)) (h' : Heap) => iter bd35 k x = some ex32 ∧ UpT [] h25 h' ∧ Sp h' (Array.size h) []) (by kernel_rfl) fuel (0 : (Int)) ?_ ⟨rfl, trivial⟩ ?_
  · exact ⟨hL37, UpT.start all_nil, S28⟩
  rintro k38 u44 sv41 h40 ⟨hk39, T42, S43⟩
  replace S43 : Sp h40 (Array.size h) [] := S43
  refine (show W _ _ _ (setL [(15, (.int .i64 u44))] (mix _ sv41 _)) h40 from ?_)
  have sz45 := T42.size
  have X46 := X30.thenT T42 all_nil
  obtain ⟨k47, rr48, rfl, hb49, hr50⟩ := iter_step hk39
  clear hk39
  rw [hbd36] at hb49
  dsimp only at hb49
  unfold P_quadformref23_Valid_b2 at hb49
  refine w_seq ?_
  refine w_reg ?_
  refine r_cmp rfl rfl (cmp_lss _ _) (r_nil (q_t ?_))
  refine w_seq ?_
  refine ⟨_, rfl, fun hc51 => ?_, fun hc51 => ?_⟩
  · skip
    have hp52 := ifTd hb49 hc51
    clear hb49
    refine w_skip (q_t ?_)
    refine w_seq ?_
    refine w_block ?_
    refine w_seq ?_
    refine w_reg ?_
    obtain ⟨x53, hx54, hp55⟩ := obind hp52
    clear hp52
    refine r_ixR sl_MM rfl H2 rfl hx54 fun b56 o57 r58 hc59 H60 => ?_
    refine r_ld na_I64 rfl (cellH_ext hc59 X46) (r_as (r_nil (q_t ?_)))
    refine w_seq ?_
    refine w_reg ?_
    refine r_mv ?_
    refine r_lenC sl_I64 rfl H60 (r_mv ?_)
    obtain ⟨x62, hx63, hp64⟩ := obind hp55
    clear hp55
    refine r_ixR sl_MM rfl H2 rfl hx63 fun b65 o66 r67 hc68 H69 => ?_
    refine r_ld na_I64 rfl (cellH_ext hc68 X46) ?_
    refine r_lenC sl_I64 rfl H69 (r_cmp rfl rfl (cmp_neq _ _) (r_mv ?_))
    rcases Decidable.em (¬ (x53.length : Int) = (x62.length : Int)) with hc71 | hc71
    · skip
      have hp72 := ifT hp64 hc71
      clear hp64
      rw [show decide (¬ (x53.length : Int) = (x62.length : Int)) = true from decide_eq_true hc71]
      refine r_skip 26 true (by kernel_rfl) rfl rfl (r_skip 26 true (by kernel_rfl) rfl rfl (r_skip 26 true (by kernel_rfl) rfl rfl (r_pickT rfl (r_mv (r_skip 31 true (by kernel_rfl) rfl rfl (r_skip 31 true (by kernel_rfl) rfl rfl (r_skip 31 true (by kernel_rfl) rfl rfl (r_pickT rfl (r_nil (q_t ?_))))))))))
      refine w_true rfl ?_
      refine w_seq ?_
      refine w_reg ?_
      refine r_as (r_nil (q_t ?_))
      have hq73 := Option.some.inj hp72
      subst hq73
      have hp74 := hr50
      change _ = ex32 at hp74
      subst hp74
      have hp75 := hp34
      try dsimp only at hp75
      refine w_ret (q_br (q_tr (q_tr (q_br (q_tr ?_)))))
      have hq76 := Option.some.inj hp75
      subst hq76
      exact ⟨_, retV_1, X46, rfl⟩
    · skip
      have hp77 := ifF hp64 hc71
      clear hp64
      rw [show decide (¬ (x53.length : Int) = (x62.length : Int)) = false from decide_eq_false hc71]
      refine r_want 26 false (by kernel_rfl) rfl rfl (r_mv (r_want 26 false (by kernel_rfl) rfl rfl ?_))
      refine r_lenC sl_I64 rfl H60 (r_want 26 false (by kernel_rfl) rfl rfl (r_cmp rfl rfl (cmp_lss _ _) (r_pickF rfl (r_mv ?_))))
      rcases Decidable.em ((x53.length : Int) < 1) with hc78 | hc78
      · skip
        have hp79 := ifT hp77 hc78
        clear hp77
        rw [show decide ((x53.length : Int) < 1) = true from decide_eq_true hc78]
        refine r_skip 31 true (by kernel_rfl) rfl rfl (r_skip 31 true (by kernel_rfl) rfl rfl (r_skip 31 true (by kernel_rfl) rfl rfl (r_pickT rfl (r_nil (q_t ?_)))))
        refine w_true rfl ?_
        refine w_seq ?_
        refine w_reg ?_
        refine r_as (r_nil (q_t ?_))
        have hq80 := Option.some.inj hp79
        subst hq80
        have hp81 := hr50
        change _ = ex32 at hp81
        subst hp81
        have hp82 := hp34
        try dsimp only at hp82
        refine w_ret (q_br (q_tr (q_tr (q_br (q_tr ?_)))))
        have hq83 := Option.some.inj hp82
        subst hq83
        exact ⟨_, retV_1, X46, rfl⟩
      · skip
        have hp84 := ifF hp77 hc78
        clear hp77
        rw [show decide ((x53.length : Int) < 1) = false from decide_eq_false hc78]
        refine r_want 31 false (by kernel_rfl) rfl rfl (r_mv (r_want 31 false (by kernel_rfl) rfl rfl ?_))
        refine r_lenC sl_I64 rfl H60 (r_want 31 false (by kernel_rfl) rfl rfl (r_cmp rfl rfl (cmp_gtr _ _) (r_pickF rfl (r_nil (q_t ?_)))))
        refine ⟨_, rfl, fun hc85 => ?_, fun hc85 => ?_⟩
        · skip
          have hp86 := ifTd hp84 hc85
          clear hp84
          refine w_seq ?_
          refine w_reg ?_
          refine r_as (r_nil (q_t ?_))
          have hq87 := Option.some.inj hp86
          subst hq87
          have hp88 := hr50
          change _ = ex32 at hp88
          subst hp88
          have hp89 := hp34
          try dsimp only at hp89
          refine w_ret (q_br (q_tr (q_tr (q_br (q_tr ?_)))))
          have hq90 := Option.some.inj hp89
          subst hq90
          exact ⟨_, retV_1, X46, rfl⟩
        · skip
          have hp91 := ifFd hp84 hc85
          clear hp84
          refine w_skip (q_b (q_t ?_))
          refine w_reg ?_
          refine r_add rfl rfl (r_mv (r_nil (q_t ?_)))
          have hq92 := Option.some.inj hp91
          subst hq92
          exact ⟨k47, ((w64 (u44 + 1)) : (Int)), Nat.lt_succ_self _, ⟨hr50, T42, S43⟩, rfl, trivial⟩
  · skip
    have hp93 := ifFd hb49 hc51
    clear hb49
    have hq94 := Option.some.inj hp93
    subst hq94
    have hp95 := hr50
    change _ = ex32 at hp95
    subst hp95
    have hp96 := hp34
    try dsimp only at hp96
    refine w_exit (q_tx (q_tx (q_bx (q_t ?_))))
    refine w_seq ?_
    refine w_reg ?_
    refine r_as (r_nil (q_t ?_))
    refine w_ret ?_
    have hq97 := Option.some.inj hp96
    subst hq97
    exact ⟨_, retV_1, X46, rfl⟩

def P_quadformref23_modulus (fuel : Nat) (a1 : Int) : Option Bool :=
  (if 2 ≤ a1 then (some (decide (a1 ≤ 2147483647))) else (some false))
theorem P_quadformref23_modulus_ok {fuel : Nat} {h : Heap} {a1 : Int} {r : Bool}  (hp : P_quadformref23_modulus fuel a1 = some r) : CallH Tryd.prog 62 #[(.int .i64 a1)] h (fun x h' => Ext h h' ∧ x = .bool r) := by
  unfold P_quadformref23_modulus at hp
  have S0 := sp_nil h (Array.size h)
  refine calls_of_W (l := [_]) mx Tryd.func62 rfl rfl rfl rfl rfl (by kernel_rfl) ?_
  refine w_seq ?_
  refine w_reg ?_
  refine r_as (r_nil (q_t ?_))
  refine w_seq ?_
  refine w_reg ?_
  refine r_mv (r_cmp rfl rfl (cmp_geq _ _) (r_mv ?_))
  rcases Decidable.em (2 ≤ a1) with hc2 | hc2
  · skip
    have hp3 := ifT hp hc2
    clear hp
    rw [show decide (2 ≤ a1) = true from decide_eq_true hc2]
    refine r_want 5 true (by kernel_rfl) rfl rfl (r_mv (r_want 5 true (by kernel_rfl) rfl rfl (r_cmp rfl rfl (cmp_leq _ _) (r_pickT rfl (r_as (r_nil (q_t ?_)))))))
    refine w_ret ?_
    have hq4 := Option.some.inj hp3
    subst hq4
    exact ⟨_, retV_1, (Ext.refl _), rfl⟩
  · skip
    have hp5 := ifF hp hc2
    clear hp
    rw [show decide (2 ≤ a1) = false from decide_eq_false hc2]
    refine r_skip 5 false (by kernel_rfl) rfl rfl (r_skip 5 false (by kernel_rfl) rfl rfl (r_pickF rfl (r_as (r_nil (q_t ?_)))))
    refine w_ret ?_
    have hq6 := Option.some.inj hp5
    subst hq6
    exact ⟨_, retV_1, (Ext.refl _), rfl⟩

def P_quadformref23_Reduce_b2 (fuel : Nat) (a5 : Int) (x106 : (List Int)) (s144 : (List Int)) (s147 : Int) : Option (((List Int) × Int) ⊕ (((List Int)))) :=
  (if s147 < (x106.length : Int) then ((gI x106 s147).bind fun x151 => ((P_quadformref22_Mod fuel x151 a5).bind fun x157 => (if s144.length ≤ 100000000 then (some (Sum.inl ((s144 ++ [x157]), (w64 (s147 + 1))))) else none))) else (some (Sum.inr<|  s144)))
def P_quadformref23_Reduce_b1 (fuel : Nat) (a3 : (List (List Int))) (a5 : Int) (s97 : (List (List Int))) (s102 : Int) : Option (((List (List Int)) × Int) ⊕ (((List (List Int))))) :=
  (if s102 < (a3.length : Int) then ((gI a3 s102).bind fun x106 => ((iter (fun s => P_quadformref23_Reduce_b2 fuel a5 x106 s.1 s.2) fuel ([], 0)).bind (fun (e173 : (List Int)) => (if s97.length ≤ 100000000 then (some (Sum.inl ((s97 ++ [e173]), (w64 (s102 + 1))))) else none)))) else (some (Sum.inr<|  s97)))
def P_quadformref23_Reduce (fuel : Nat) (a3 : (List (List Int))) (a5 : Int) : Option (List (List Int)) :=
  ((iter (fun s => P_quadformref23_Reduce_b1 fuel a3 a5 s.1 s.2) fuel ([], 0)).bind (fun (e186 : (List (List Int))) => (some e186)))
theorem P_quadformref23_Reduce_ok {fuel : Nat} {h : Heap} {pv1 : Value} {a3 : (List (List Int))} {a5 : Int} {r : (List (List Int))} (H2 : SlC2 (cI .i64) h pv1 a3) (hp : P_quadformref23_Reduce fuel a3 a5 = some r) : CallH Tryd.prog 54 #[pv1, (.int .i64 a5)] h (fun x h' => Ext h h' ∧ ∃ (x0 : Value) (F0 : List Nat) (Gs0 : List (List Nat)) (rs0 : List Value), x = x0 ∧ OwC2 (cI .i64) 46 2 h' F0 Gs0 rs0 x0 r ∧ Sp h' (Array.size h) [F0]) := by
  unfold P_quadformref23_Reduce at hp
  have S0 := sp_nil h (Array.size h)
  refine calls_of_W (l := [_, _]) mx Tryd.func54 rfl rfl rfl rfl rfl (by kernel_rfl) ?_
  refine w_seq ?_
  refine w_reg ?_
  refine r_as (r_nil (q_t ?_))
  refine w_seq ?_
  refine w_reg ?_
  refine r_as (r_nil (q_t ?_))
  refine w_seq ?_
  refine w_seq ?_
  refine w_reg ?_
  refine r_mv ?_
  refine r_lenR sl_MM rfl H2 (r_mv (r_nil (q_t ?_)))
  refine w_block ?_
  have I7 := owC2_nil (cI .i64) 46 2 h
  have S8 : Sp h (Array.size h) [[]] := S0.addnil
  obtain ⟨ex9, hL10, hp11⟩ := obind hp
  clear hp
  obtain ⟨bd12, hbd13, hL14⟩ := iter_gen hL10
  clear hL10
  refine w_loop 34359731616 (fun x : ((List (List Int))) × (Value) × (List Nat) × (List (List Nat)) × (List Value) × (Int) => [(5, x.2.1), (13, (.int .i64 x.2.2.2.2.2))]) (fun (k : Nat) (x : ((List (List Int))) × (Value) × (List Nat) × (List (List Nat)) × (List Value) × (Int)) (h' : Heap) => iter bd12 k (x.1, x.2.2.2.2.2) = some ex9 ∧ UpT ([] ++ []) h h' ∧ Sp h' (Array.size h) [x.2.2.1] ∧ OwC2 (cI .i64) 46 2 h' x.2.2.1 x.2.2.2.1 x.2.2.2.2.1 x.2.1 x.1 ∧ (∀ z ∈ x.2.2.1, z ∈ ([] ++ []) ∨ Array.size h ≤ z)) (by kernel_rfl) fuel (([], (.slice none 0 0), [], [], [], 0) : ((List (List Int))) × (Value) × (List Nat) × (List (List Nat)) × (List Value) × (Int)) ?_ ⟨rfl, rfl, trivial⟩ ?_
  · exact ⟨hL14, UpT.start (all_app I7.notD all_nil), S8, I7, (fr_in rfl)⟩
  rintro k16 ⟨u22, q23, q24, q25, q26, u27⟩ sv19 h18 ⟨hk17, T20, S21, I28, fr29⟩
  replace I28 : OwC2 (cI .i64) 46 2 h18 q24 q25 q26 q23 u22 := I28
  replace fr29 : ∀ z ∈ q24, z ∈ ([] ++ []) ∨ Array.size h ≤ z := fr29
  replace S21 : Sp h18 (Array.size h) [q24] := S21
  refine (show W _ _ _ (setL [(5, q23), (13, (.int .i64 u27))] (mix _ sv19 _)) h18 from ?_)
  have sz30 := T20.size
  have X31 := (Ext.refl _).thenT T20 (all_app (S8.loAll 0 rfl) all_nil)
  obtain ⟨k32, rr33, rfl, hb34, hr35⟩ := iter_step hk17
  clear hk17
  rw [hbd13] at hb34
  dsimp only at hb34
  unfold P_quadformref23_Reduce_b1 at hb34
  refine w_seq ?_
  refine w_reg ?_
  refine r_cmp rfl rfl (cmp_lss _ _) (r_nil (q_t ?_))
  refine w_seq ?_
  refine ⟨_, rfl, fun hc36 => ?_, fun hc36 => ?_⟩
  · skip
    have hp37 := ifTd hb34 hc36
    clear hb34
    refine w_skip (q_t ?_)
    refine w_seq ?_
    refine w_block ?_
    refine w_seq ?_
    refine w_reg ?_
    obtain ⟨x38, hx39, hp40⟩ := obind hp37
    clear hp37
    refine r_ixR sl_MM rfl H2 rfl hx39 fun b41 o42 r43 hc44 H45 => ?_
    refine r_ld na_I64 rfl (cellH_ext hc44 X31) (r_as (r_nil (q_t ?_)))
    refine w_seq ?_
    refine w_reg ?_
    refine r_as (r_nil (q_t ?_))
    refine w_seq ?_
    refine w_seq ?_
    refine w_reg ?_
    refine r_mv ?_
    refine r_lenC sl_I64 rfl H45 (r_mv (r_nil (q_t ?_)))
    refine w_block ?_
    have I48 := owC_nil (cI .i64) 2 h18
    have S49 : Sp h18 (Array.size h) [q24, []] := S21.addnil
    obtain ⟨ex50, hL51, hp52⟩ := obind hp40
    clear hp40
    obtain ⟨bd53, hbd54, hL55⟩ := iter_gen hL51
    clear hL51
    refine w_loop 1073218816 (fun x : ((List Int)) × (Value) × (List Nat) × (Int) => [(8, x.2.1), (19, (.int .i64 x.2.2.2))]) (fun (k : Nat) (x : ((List Int)) × (Value) × (List Nat) × (Int)) (h' : Heap) => iter bd53 k (x.1, x.2.2.2) = some ex50 ∧ UpT ([] ++ []) h18 h' ∧ Sp h' (Array.size h) [q24, x.2.2.1] ∧ OwC (cI .i64) 2 h' x.2.2.1 x.2.1 x.1 ∧ (∀ z ∈ x.2.2.1, z ∈ ([] ++ []) ∨ Array.size h18 ≤ z)) (by kernel_rfl) fuel (([], (.slice none 0 0), [], 0) : ((List Int)) × (Value) × (List Nat) × (Int)) ?_ ⟨rfl, rfl, trivial⟩ ?_
    · exact ⟨hL55, UpT.start (all_app I48.notD all_nil), S49, I48, (fr_in rfl)⟩
    rintro k57 ⟨u63, q64, q65, u66⟩ sv60 h59 ⟨hk58, T61, S62, I67, fr68⟩
    replace I67 : OwC (cI .i64) 2 h59 q65 q64 u63 := I67
    replace fr68 : ∀ z ∈ q65, z ∈ ([] ++ []) ∨ Array.size h18 ≤ z := fr68
    replace S62 : Sp h59 (Array.size h) [q24, q65] := S62
    refine (show W _ _ _ (setL [(8, q64), (19, (.int .i64 u66))] (mix _ sv60 _)) h59 from ?_)
    have sz69 := T61.size
    have X70 := X31.thenT T61 (all_app (S49.loAll 1 rfl) all_nil)
    obtain ⟨k71, rr72, rfl, hb73, hr74⟩ := iter_step hk58
    clear hk58
    rw [hbd54] at hb73
    dsimp only at hb73
    unfold P_quadformref23_Reduce_b2 at hb73
    refine w_seq ?_
    refine w_reg ?_
    refine r_cmp rfl rfl (cmp_lss _ _) (r_nil (q_t ?_))
    refine w_seq ?_
    refine ⟨_, rfl, fun hc75 => ?_, fun hc75 => ?_⟩
    · skip
      have hp76 := ifTd hb73 hc75
      clear hb73
      refine w_skip (q_t ?_)
      refine w_seq ?_
      refine w_block ?_
      refine w_seq ?_
      refine w_reg ?_
      obtain ⟨x77, hx78, hp79⟩ := obind hp76
      clear hp76
      refine r_ixC (c := (cI .i64)) sl_I64 rfl H45 rfl hx78 fun b80 o81 cs82 hr83 hc84 => ?_
      obtain rfl := hr83
      refine r_ld na_i64 rfl (cellH_ext (hc84 0 _ rfl) X70) (r_as (r_nil (q_t ?_)))
      refine w_reg ?_
      refine r_mv (r_mv (r_mv ?_))
      obtain ⟨x85, hx86, hp87⟩ := obind hp79
      clear hp79
      refine r_callE trivial (fun _ _ => trivial) rfl (P_quadformref22_Mod_ok hx86) fun xv91 h89 E88 hk90 => ?_
      subst hk90
      have sz92 := E88.1
      have X93 := X70.trans E88
      have S94 : Sp h89 (Array.size h) [q24, q65] := S62.keep E88.1
      obtain ⟨hn95, hp96⟩ := ifN hp87
      clear hp87
      have I104 := I67.ext E88
      refine r_pushC sl_I64 ze_i64 rfl rfl trivial (fun _ _ => trivial) (fun _ => rfl) rfl (show ((cI .i64)).rep _ x85 [(.int .i64 x85)] from rfl) I104 (by decide) hn95 fun pp97 F98 v99 h100 I101 U102 hs103 => ?_
      have sz106 := U102.size
      have X107 := X93.thenT U102 (S94.loAll 1 rfl)
      have S108 : Sp h100 (Array.size h) [q24, F98] := S94.put 1 rfl I101.nodup U102.size X93.1 I101.lt hs103
      refine r_as (r_nil (q_b (q_t ?_)))
      refine w_reg ?_
      refine r_add rfl rfl (r_mv (r_nil (q_t ?_)))
      have T109 := T61.thenE E88
      have T110 := T109.then U102 (fr_hyp fr68 (all_app (fr_in rfl) all_nil) (by omega))
      have hq111 := Option.some.inj hp96
      subst hq111
      exact ⟨k71, (((u63 ++ [x85]), v99, F98, (w64 (u66 + 1))) : ((List Int)) × (Value) × (List Nat) × (Int)), Nat.lt_succ_self _, ⟨hr74, T110, S108, I101, (fr_hyp hs103 (fr_hyp fr68 (all_app (fr_in rfl) all_nil) (by omega)) (by omega))⟩, rfl, rfl, trivial⟩
    · skip
      have hp112 := ifFd hb73 hc75
      clear hb73
      have hq113 := Option.some.inj hp112
      subst hq113
      have hp114 := hr74
      change _ = ex50 at hp114
      subst hp114
      have hp115 := hp52
      try dsimp only at hp115
      refine w_exit (q_tx (q_tx (q_bx (q_t ?_))))
      refine w_reg ?_
      refine r_mv (r_mv ?_)
      obtain ⟨hn116, hp117⟩ := ifN hp115
      clear hp115
      have I125 := I28.upT T61 (dj_app (S49.dj 0 1 rfl rfl (by decide)) dj_nil)
      refine r_pushR sl_MM ze_I64 rfl rfl trivial (fun _ _ => trivial) (fun _ => rfl) rfl I67 I125 (S62.dj 1 0 rfl rfl (by decide)) (by decide) hn116 fun pp118 F119 v120 h121 I122 U123 hs124 => ?_
      have S126 : Sp h59 (Array.size h) [q24, q65] := (S62.sel [0, 1] (by decide))
      have S127 := S126.mrg
      have hs128 : ∀ z ∈ F119, z ∈ q24 ++ q65 ∨ Array.size h59 ≤ z := hs124
      have sz129 := U123.size
      have X130 := X70.thenT U123 (S62.loAll 0 rfl)
      have S132 : Sp h121 (Array.size h) [F119] := S127.put 0 rfl I122.nodup U123.size X70.1 I122.lt hs128
      refine r_as (r_nil (q_b (q_t ?_)))
      refine w_reg ?_
      refine r_add rfl rfl (r_mv (r_nil (q_t ?_)))
      have T133 := T20.then T61 (all_app (fr_in rfl) all_nil)
      have T134 := T133.then U123 (fr_hyp fr29 (all_app (fr_in rfl) all_nil) (by omega))
      have hq135 := Option.some.inj hp117
      subst hq135
      exact ⟨k32, (((u22 ++ [u63]), v120, F119, (q25 ++ [q65]), (q26 ++ [q64]), (w64 (u27 + 1))) : ((List (List Int))) × (Value) × (List Nat) × (List (List Nat)) × (List Value) × (Int)), Nat.lt_succ_self _, ⟨hr35, T134, S132, I122, (fr_hyp hs128 (all_app (fr_hyp fr29 (all_app (fr_in rfl) all_nil) (by omega)) (fr_hyp fr68 (all_app (fr_in rfl) all_nil) (by omega))) (by omega))⟩, rfl, rfl, trivial⟩
  · skip
    have hp136 := ifFd hb34 hc36
    clear hb34
    have hq137 := Option.some.inj hp136
    subst hq137
    have hp138 := hr35
    change _ = ex9 at hp138
    subst hp138
    have hp139 := hp11
    try dsimp only at hp139
    refine w_exit (q_tx (q_tx (q_bx (q_t ?_))))
    refine w_seq ?_
    refine w_reg ?_
    refine r_mv (r_as (r_nil (q_t ?_)))
    refine w_ret ?_
    have hq140 := Option.some.inj hp139
    subst hq140
    exact ⟨_, retV_1, X31, _, _, _, _, rfl, I28, S21⟩

def P_quadformref23_square (fuel : Nat) (a3 : (List (List Int))) : Option Bool :=
  ((P_quadformref23_Valid fuel a3).bind fun x5 => (if x5 = true then ((gI a3 0).bind fun x15 => (if (a3.length : Int) = (x15.length : Int) then (some (decide ((a3.length : Int) ≤ 8))) else (some false))) else (some false)))
theorem P_quadformref23_square_ok {fuel : Nat} {h : Heap} {pv1 : Value} {a3 : (List (List Int))} {r : Bool} (H2 : SlC2 (cI .i64) h pv1 a3) (hp : P_quadformref23_square fuel a3 = some r) : CallH Tryd.prog 63 #[pv1] h (fun x h' => Ext h h' ∧ x = .bool r) := by
  unfold P_quadformref23_square at hp
  have S0 := sp_nil h (Array.size h)
  refine calls_of_W (l := [_]) mx Tryd.func63 rfl rfl rfl rfl rfl (by kernel_rfl) ?_
  refine w_seq ?_
  refine w_reg ?_
  refine r_as (r_nil (q_t ?_))
  refine w_seq ?_
  refine w_reg ?_
  refine r_mv ?_
  obtain ⟨x5, hx6, hp7⟩ := obind hp
  clear hp
  refine r_callE trivial (fun _ _ => trivial) rfl (P_quadformref23_Valid_ok H2 hx6) fun xv11 h9 E8 hk10 => ?_
  subst hk10
  have sz12 := E8.1
  have S13 : Sp h9 (Array.size h) [] := S0.keep E8.1
  refine r_mv ?_
  cases hc14 : x5
  · skip
    have hp15 := ifFb hp7 hc14
    refine r_skip 5 false (by kernel_rfl) rfl rfl (r_skip 5 false (by kernel_rfl) rfl rfl (r_skip 5 false (by kernel_rfl) rfl rfl (r_skip 5 false (by kernel_rfl) rfl rfl (r_skip 5 false (by kernel_rfl) rfl rfl (r_skip 5 false (by kernel_rfl) rfl rfl (r_skip 5 false (by kernel_rfl) rfl rfl (r_pickF rfl (r_mv (r_skip 14 false (by kernel_rfl) rfl rfl (r_skip 14 false (by kernel_rfl) rfl rfl (r_skip 14 false (by kernel_rfl) rfl rfl (r_pickF rfl (r_as (r_nil (q_t ?_)))))))))))))))
    refine w_ret ?_
    have hq16 := Option.some.inj hp15
    subst hq16
    exact ⟨_, retV_1, E8, rfl⟩
  · skip
    have hp17 := ifT hp7 hc14
    refine r_want 5 true (by kernel_rfl) rfl rfl (r_mv (r_want 5 true (by kernel_rfl) rfl rfl ?_))
    refine r_lenR sl_MM rfl H2 (r_want 5 true (by kernel_rfl) rfl rfl (r_mv (r_want 5 true (by kernel_rfl) rfl rfl ?_)))
    obtain ⟨x18, hx19, hp20⟩ := obind hp17
    clear hp17
    refine r_ixR sl_MM rfl H2 rfl hx19 fun b21 o22 r23 hc24 H25 => ?_
    refine r_want 5 true (by kernel_rfl) rfl rfl (r_ld na_I64 rfl (cellH_ext hc24 E8) (r_want 5 true (by kernel_rfl) rfl rfl ?_))
    refine r_lenC sl_I64 rfl H25 (r_want 5 true (by kernel_rfl) rfl rfl (r_cmp rfl rfl (cmp_eql _ _) (r_pickT rfl (r_mv ?_))))
    rcases Decidable.em ((a3.length : Int) = (x18.length : Int)) with hc27 | hc27
    · skip
      have hp28 := ifT hp20 hc27
      clear hp20
      rw [show decide ((a3.length : Int) = (x18.length : Int)) = true from decide_eq_true hc27]
      refine r_want 14 true (by kernel_rfl) rfl rfl (r_mv (r_want 14 true (by kernel_rfl) rfl rfl ?_))
      refine r_lenR sl_MM rfl H2 (r_want 14 true (by kernel_rfl) rfl rfl (r_cmp rfl rfl (cmp_leq _ _) (r_pickT rfl (r_as (r_nil (q_t ?_))))))
      refine w_ret ?_
      have hq29 := Option.some.inj hp28
      subst hq29
      exact ⟨_, retV_1, E8, rfl⟩
    · skip
      have hp30 := ifF hp20 hc27
      clear hp20
      rw [show decide ((a3.length : Int) = (x18.length : Int)) = false from decide_eq_false hc27]
      refine r_skip 14 false (by kernel_rfl) rfl rfl (r_skip 14 false (by kernel_rfl) rfl rfl (r_skip 14 false (by kernel_rfl) rfl rfl (r_pickF rfl (r_as (r_nil (q_t ?_))))))
      refine w_ret ?_
      have hq31 := Option.some.inj hp30
      subst hq31
      exact ⟨_, retV_1, E8, rfl⟩

def P_quadformref23_determinant (fuel : Nat) (a3 : (List (List Int))) : Option Int :=
  ((P_quadformref03_Of fuel a3).bind fun x12 => ((P_quadformref03_Determinant fuel x12).bind fun x26 => (some x26)))
theorem P_quadformref23_determinant_ok {fuel : Nat} {h : Heap} {pv1 : Value} {a3 : (List (List Int))} {r : Int} (H2 : SlC2 (cI .i64) h pv1 a3) (hp : P_quadformref23_determinant fuel a3 = some r) : CallH Tryd.prog 64 #[pv1] h (fun x h' => Ext h h' ∧ ∃ (x0 : Value), x = x0 ∧ ZZ h' x0 r) := by
  unfold P_quadformref23_determinant at hp
  have S0 := sp_nil h (Array.size h)
  refine calls_of_W (l := [_]) mx Tryd.func64 rfl rfl rfl rfl rfl (by kernel_rfl) ?_
  refine w_seq ?_
  refine w_reg ?_
  have Z11 := rep_nilZ h
  refine r_allocE [.bool false, .slice none 0 0] ze_Z rfl trivial (fun _ _ => trivial) fun b5 h6 V7 E8 S9 => ?_
  have sz12 := E8.1
  have S13 : Sp h6 (Array.size h) [[b5]] := S0.app S9 E8.1 (Nat.le_refl _)
  have lo14 := S9.loAll 0 rfl
  refine r_nil (q_t ?_)
  refine w_seq ?_
  refine w_reg ?_
  refine r_mv ?_
  obtain ⟨x15, hx16, hp17⟩ := obind hp
  clear hp
  refine r_callE trivial (fun _ _ => trivial) rfl (P_quadformref03_Of_ok (H2.ext E8) hx16) fun xv21 h19 E18 hk20 => ?_
  obtain ⟨v22, F25, G26, rs27, rfl, I23, S28⟩ := hk20
  have sz29 := E18.1
  have X30 := E8.trans E18
  have S31 : Sp h19 (Array.size h) [[b5], F25] := S13.app S28 E18.1 E8.1
  have lo32 := S28.loAll 0 rfl
  obtain ⟨x33, hx34, hp35⟩ := obind hp17
  clear hp17
  refine r_callE trivial (fun _ _ => trivial) rfl (P_quadformref03_Determinant_ok I23.rd hx34) fun xv39 h37 E36 hk38 => ?_
  obtain ⟨x40, rfl, Z41⟩ := hk38
  have sz43 := E36.1
  have X44 := X30.trans E36
  obtain ⟨cs42, rfl, Z45⟩ := Z41.cs
  have S46 : Sp h37 (Array.size h) [[b5], F25] := S31.keep E36.1
  have I50 := V7.ext E18
  have I51 := I50.ext E36
  have Z53 := cZ.upT Z11 E8.upT
  have Z54 := cZ.upT Z53 E18.upT
  have Z55 := cZ.upT Z54 E36.upT
  refine r_stA cs42 ag_Z (cZ.klen Z45) (cZ.klen Z55) rfl rfl (cZ.one Z45) I51 fun h47 I49 U52 => ?_
  have U48 := I49.stA U52 (boxAll I51 rfl) rfl
  have sz56 := U48.size
  have X57 := X44.thenT U48 (S46.loAll 0 rfl)
  have S58 : Sp h47 (Array.size h) [[b5], F25] := S46.keep U48.size
  refine r_nil (q_t ?_)
  refine w_ret ?_
  have hq59 := Option.some.inj hp35
  subst hq59
  have Z60 := cZ.upT Z45 U48
  exact ⟨_, retV_c ag_Z (cZ.klen Z60) rfl I49, X57, _, rfl, Z60.2⟩

def P_quadformref23_Det (fuel : Nat) (a3 : (List (List Int))) (a5 : Int) : Option (Int × Int) :=
  ((P_quadformref23_square fuel a3).bind fun x6 => (if (!x6) = true then (some (0, 3)) else ((P_quadformref23_modulus fuel a5).bind fun x16 => (if (!x16) = true then (some (0, 1)) else ((P_quadformref23_Reduce fuel a3 a5).bind fun x26 => ((P_quadformref23_determinant fuel x26).bind fun x40 => ((P_quadformref22_Residue fuel x40 a5).bind fun x51 => (some (x51, 0)))))))))
theorem P_quadformref23_Det_ok {fuel : Nat} {h : Heap} {pv1 : Value} {a3 : (List (List Int))} {a5 : Int} {r : (Int × Int)} (H2 : SlC2 (cI .i64) h pv1 a3) (hp : P_quadformref23_Det fuel a3 a5 = some r) : CallH Tryd.prog 31 #[pv1, (.int .i64 a5)] h (fun x h' => Ext h h' ∧ x = .tuple #[.int .i64 r.1, .int .i64 r.2]) := by
  unfold P_quadformref23_Det at hp
  have S0 := sp_nil h (Array.size h)
  refine calls_of_W (l := [_, _]) mx Tryd.func31 rfl rfl rfl rfl rfl (by kernel_rfl) ?_
  refine w_seq ?_
  refine w_reg ?_
  refine r_as (r_as (r_nil (q_t ?_)))
  refine w_seq ?_
  refine w_seq ?_
  refine w_reg ?_
  refine r_mv ?_
  obtain ⟨x6, hx7, hp8⟩ := obind hp
  clear hp
  refine r_callE trivial (fun _ _ => trivial) rfl (P_quadformref23_square_ok H2 hx7) fun xv12 h10 E9 hk11 => ?_
  subst hk11
  have sz13 := E9.1
  have S14 : Sp h10 (Array.size h) [] := S0.keep E9.1
  refine r_not rfl (r_nil (q_t ?_))
  refine ⟨_, rfl, fun hc15 => ?_, fun hc15 => ?_⟩
  · skip
    have hp16 := ifT hp8 hc15
    clear hp8
    refine w_seq ?_
    refine w_reg ?_
    refine r_as (r_as (r_nil (q_t ?_)))
    refine w_ret (q_tr ?_)
    have hq17 := Option.some.inj hp16
    subst hq17
    exact ⟨_, retV_2, E9, rfl⟩
  · skip
    have hp18 := ifFb hp8 hc15
    clear hp8
    refine w_skip (q_t ?_)
    refine w_seq ?_
    refine w_seq ?_
    refine w_reg ?_
    refine r_mv ?_
    obtain ⟨x19, hx20, hp21⟩ := obind hp18
    clear hp18
    refine r_callE trivial (fun _ _ => trivial) rfl (P_quadformref23_modulus_ok hx20) fun xv25 h23 E22 hk24 => ?_
    subst hk24
    have sz26 := E22.1
    have X27 := E9.trans E22
    have S28 : Sp h23 (Array.size h) [] := S14.keep E22.1
    refine r_not rfl (r_nil (q_t ?_))
    refine ⟨_, rfl, fun hc29 => ?_, fun hc29 => ?_⟩
    · skip
      have hp30 := ifT hp21 hc29
      clear hp21
      refine w_seq ?_
      refine w_reg ?_
      refine r_as (r_as (r_nil (q_t ?_)))
      refine w_ret (q_tr ?_)
      have hq31 := Option.some.inj hp30
      subst hq31
      exact ⟨_, retV_2, X27, rfl⟩
    · skip
      have hp32 := ifFb hp21 hc29
      clear hp21
      refine w_skip (q_t ?_)
      refine w_seq ?_
      refine w_reg ?_
      refine r_mv (r_mv ?_)
      obtain ⟨x33, hx34, hp35⟩ := obind hp32
      clear hp32
      refine r_callE trivial (fun _ _ => trivial) rfl (P_quadformref23_Reduce_ok (H2.ext X27) hx34) fun xv39 h37 E36 hk38 => ?_
      obtain ⟨v40, F43, G44, rs45, rfl, I41, S46⟩ := hk38
      have sz47 := E36.1
      have X48 := X27.trans E36
      have S49 : Sp h37 (Array.size h) [F43] := S28.app S46 E36.1 X27.1
      have lo50 := S46.loAll 0 rfl
      obtain ⟨x51, hx52, hp53⟩ := obind hp35
      clear hp35
      refine r_callE trivial (fun _ _ => trivial) rfl (P_quadformref23_determinant_ok I41.rd hx52) fun xv57 h55 E54 hk56 => ?_
      obtain ⟨x58, rfl, Z59⟩ := hk56
      have sz61 := E54.1
      have X62 := X48.trans E54
      obtain ⟨cs60, rfl, Z63⟩ := Z59.cs
      have S64 : Sp h55 (Array.size h) [F43] := S49.keep E54.1
      refine r_mv ?_
      obtain ⟨x65, hx66, hp67⟩ := obind hp53
      clear hp53
      refine r_callE trivial (fun _ _ => trivial) rfl (P_quadformref22_Residue_ok Z63.2 hx66) fun xv71 h69 E68 hk70 => ?_
      subst hk70
      have sz72 := E68.1
      have X73 := X62.trans E68
      have S74 : Sp h69 (Array.size h) [F43] := S64.keep E68.1
      refine r_as (r_as (r_nil (q_t ?_)))
      refine w_ret ?_
      have hq75 := Option.some.inj hp67
      subst hq75
      exact ⟨_, retV_2, X73, rfl⟩

def P_quadformmake_Grid_Ints_b2 (fuel : Nat) (a5 : (List Int)) (s410 : Int) (x439 : (List Int)) (s544 : Int) (s545 : Int) (s546 : (List (List Int))) : Option ((Int × Int × (List (List Int))) ⊕ ((Int × (List (List Int))))) :=
  (if s544 < (x439.length : Int) then ((gI s546 s410).bind fun x554 => (((if (a5.length : Int) ≤ s545 then (some ( (0, s545))) else ((gI a5 (w64 ((w64 (s545 + 1)) - 1))).bind fun x581 => (some ( ((w64 x581), (w64 (s545 + 1))))))) : Option (Int × Int)).bind fun (e587, e588) => ((gI x554 s544).bind fun x589 => (some (Sum.inl ((w64 (s544 + 1)), e588, (sI s546 s410 (sI x554 s544 e587)))))))) else (some (Sum.inr<|  (s545, s546))))
def P_quadformmake_Grid_Ints_b1 (fuel : Nat) (a1 : Int) (a2 : Int) (a5 : (List Int)) (a7 : Int) (s410 : Int) (s411 : Int) (s412 : (List (List Int))) : Option ((Int × Int × (List (List Int))) ⊕ (((List (List Int))))) :=
  (if s410 < ((List.replicate (Int.toNat (w64 (1 + (Int.tmod (w64 a1) a7)))) ([] : List Int)).length : Int) then (if a7 ≠ 0 then (if 0 ≤ (w64 (1 + (Int.tmod (w64 a2) a7))) ∧ (w64 (1 + (Int.tmod (w64 a2) a7))) ≤ 100000000 then ((gI s412 s410).bind fun x428 => ((gI (sI s412 s410 (List.replicate (Int.toNat (w64 (1 + (Int.tmod (w64 a2) a7)))) (0 : Int))) s410).bind fun x439 => ((iter (fun s => P_quadformmake_Grid_Ints_b2 fuel a5 s410 x439 s.1 s.2.1 s.2.2) fuel (0, s411, (sI s412 s410 (List.replicate (Int.toNat (w64 (1 + (Int.tmod (w64 a2) a7)))) (0 : Int))))).bind (fun ((e596, e597) : Int × (List (List Int))) => (some (Sum.inl ((w64 (s410 + 1)), e596, e597))))))) else none) else none) else (some (Sum.inr<|  s412)))
def P_quadformmake_Grid_Ints (fuel : Nat) (a1 : Int) (a2 : Int) (a5 : (List Int)) (a7 : Int) : Option (List (List Int)) :=
  (if a7 ≠ 0 then (if 0 ≤ (w64 (1 + (Int.tmod (w64 a1) a7))) ∧ (w64 (1 + (Int.tmod (w64 a1) a7))) ≤ 100000000 then ((iter (fun s => P_quadformmake_Grid_Ints_b1 fuel a1 a2 a5 a7 s.1 s.2.1 s.2.2) fuel (0, 0, (List.replicate (Int.toNat (w64 (1 + (Int.tmod (w64 a1) a7)))) ([] : List Int)))).bind (fun (e603 : (List (List Int))) => (some e603))) else none) else none)
theorem P_quadformmake_Grid_Ints_ok {fuel : Nat} {h : Heap} {a1 : Int} {a2 : Int} {pv3 : Value} {a5 : (List Int)} {a7 : Int} {r : (List (List Int))} (H4 : SlC (cI .i8) h pv3 a5) (hp : P_quadformmake_Grid_Ints fuel a1 a2 a5 a7 = some r) : CallH Tryd.prog 17 #[(.agg #[(.int .u8 a1), (.int .u8 a2), pv3]), (.int .i64 a7)] h (fun x h' => Ext h h' ∧ ∃ (x0 : Value) (F0 : List Nat) (Gs0 : List (List Nat)) (rs0 : List Value), x = x0 ∧ OwC2 (cI .i64) 46 2 h' F0 Gs0 rs0 x0 r ∧ Sp h' (Array.size h) [F0]) := by
  unfold P_quadformmake_Grid_Ints at hp
  have S0 := sp_nil h (Array.size h)
  refine calls_of_W (l := [_, _]) mx Tryd.func17 rfl rfl rfl rfl rfl (by kernel_rfl) ?_
  refine w_seq ?_
  refine w_reg ?_
  refine r_boxE [(.int .u8 a1), (.int .u8 a2), pv3] trivial (fun _ _ => trivial) rfl rfl fun b8 h9 V10 E11 S12 => ?_
  have sz14 := E11.1
  have S15 : Sp h9 (Array.size h) [[b8]] := S0.app S12 E11.1 (Nat.le_refl _)
  have lo16 := S12.loAll 0 rfl
  refine r_as (r_nil (q_t ?_))
  refine w_seq ?_
  refine w_reg ?_
  refine r_fo (fs := 1) fd_GridT2 (by kernel_rfl) (by decide) rfl ?_
  refine r_ld na_I8 rfl (V10.cell (i := 2) rfl) ?_
  obtain ⟨_, _, _, hv17⟩ := (H4.ext E11).shape
  refine r_build (v := (.agg #[pv3, (.int .i64 0)])) (fun _ => by subst hv17; kernel_rfl) ?_
  refine r_boxE [pv3, (.int .i64 0)] trivial (fun _ _ => trivial) rfl rfl fun b18 h19 V20 E21 S22 => ?_
  have sz24 := E21.1
  have X25 := E11.trans E21
  have S26 : Sp h19 (Array.size h) [[b8], [b18]] := S15.app S22 E21.1 E11.1
  have lo27 := S22.loAll 0 rfl
  refine r_as (r_nil (q_t ?_))
  refine w_seq ?_
  refine w_reg ?_
  have I28 := V10.ext E21
  refine r_fo (fs := 1) fd_GridT0 (by kernel_rfl) (by decide) rfl ?_
  refine r_ld na_u8 rfl (I28.cell (i := 0) rfl) (r_cv it_u8 it_int rfl (r_mv ?_))
  obtain ⟨hn29, hp30⟩ := ifN hp
  clear hp
  refine r_rem rfl rfl hn29 (r_add rfl rfl ?_)
  obtain ⟨hn31, hp32⟩ := ifN hp30
  clear hp30
  refine r_mkR (cI .i64) 2 sl_MM ze_I64 rfl trivial (fun _ _ => trivial) rfl rfl (by decide) hn31 fun F38 G39 rs40 v37 h35 I36 E33 S34 => ?_
  have sz42 := E33.1
  have X43 := X25.trans E33
  have S44 : Sp h35 (Array.size h) [[b8], [b18], F38] := S26.app S34 E33.1 X25.1
  have lo45 := S34.loAll 0 rfl
  refine r_as (r_nil (q_t ?_))
  refine w_seq ?_
  refine w_seq ?_
  refine w_reg ?_
  refine r_mv ?_
  refine r_lenR sl_MM rfl I36.rd (r_mv (r_nil (q_t ?_)))
  refine w_block ?_
  obtain ⟨ex46, hL47, hp48⟩ := obind hp32
  clear hp32
  obtain ⟨bd49, hbd50, hL51⟩ := iter_gen hL47
  clear hL47
  have I52 := V20.ext E33
  refine w_loop 9007199250547072 (fun x : (Int) × (Int) × ((List (List Int))) × (List Nat) × (List (List Nat)) × (List Value) => [(22, (.int .i64 x.1))]) (fun (k : Nat) (x : (Int) × (Int) × ((List (List Int))) × (List Nat) × (List (List Nat)) × (List Value)) (h' : Heap) => iter bd49 k (x.1, x.2.1, x.2.2.1) = some ex46 ∧ UpT (F38 ++ ([b18] ++ [])) h35 h' ∧ Sp h' (Array.size h) [[b8], [b18], x.2.2.2.1] ∧ OwC2 (cI .i64) 46 2 h' x.2.2.2.1 x.2.2.2.2.1 x.2.2.2.2.2 v37 x.2.2.1 ∧ (∀ z ∈ x.2.2.2.1, z ∈ (F38 ++ ([b18] ++ [])) ∨ Array.size h35 ≤ z) ∧ BoxH 59 h' b18 [pv3, (.int .i64 x.2.1)]) (by kernel_rfl) fuel ((0, 0, (List.replicate (Int.toNat (w64 (1 + (Int.tmod (w64 a1) a7)))) ([] : List Int)), F38, G39, rs40) : (Int) × (Int) × ((List (List Int))) × (List Nat) × (List (List Nat)) × (List Value)) ?_ ⟨rfl, trivial⟩ ?_
  · exact ⟨hL51, UpT.start (all_app I36.notD (all_app (boxAll I52 rfl) all_nil)), S44, I36, (fr_in rfl), I52⟩
  rintro k54 ⟨u60, u61, u62, q63, q64, q65⟩ sv57 h56 ⟨hk55, T58, S59, I66, fr67, V68⟩
  replace I66 : OwC2 (cI .i64) 46 2 h56 q63 q64 q65 v37 u62 := I66
  replace fr67 : ∀ z ∈ q63, z ∈ (F38 ++ ([b18] ++ [])) ∨ Array.size h35 ≤ z := fr67
  replace V68 : BoxH 59 h56 b18 [pv3, (.int .i64 u61)] := V68
  replace S59 : Sp h56 (Array.size h) [[b8], [b18], q63] := S59
  refine (show W _ _ _ (setL [(22, (.int .i64 u60))] (mix _ sv57 _)) h56 from ?_)
  have sz69 := T58.size
  have X70 := X43.thenT T58 (all_app (S44.loAll 2 rfl) (all_app (S44.loAll 1 rfl) all_nil))
  obtain ⟨k71, rr72, rfl, hb73, hr74⟩ := iter_step hk55
  clear hk55
  rw [hbd50] at hb73
  dsimp only at hb73
  unfold P_quadformmake_Grid_Ints_b1 at hb73
  refine w_seq ?_
  refine w_reg ?_
  refine r_cmp rfl rfl (cmp_lss _ _) (r_nil (q_t ?_))
  refine w_seq ?_
  refine ⟨_, rfl, fun hc75 => ?_, fun hc75 => ?_⟩
  · skip
    have hp76 := ifTd hb73 hc75
    clear hb73
    refine w_skip (q_t ?_)
    refine w_seq ?_
    refine w_block ?_
    refine w_seq ?_
    refine w_reg ?_
    refine r_mv (r_as (r_nil (q_t ?_)))
    refine w_seq ?_
    refine w_reg ?_
    have I77 := I28.ext E33
    have I78 := I77.upT T58 (dj_app (S44.dj 0 2 rfl rfl (by decide)) (dj_app (S44.dj 0 1 rfl rfl (by decide)) dj_nil))
    refine r_mv (r_mv (r_fo (fs := 1) fd_GridT1 (by kernel_rfl) (by decide) rfl ?_))
    refine r_ld na_u8 rfl (I78.cell (i := 1) rfl) (r_cv it_u8 it_int rfl (r_mv ?_))
    obtain ⟨hn79, hp80⟩ := ifN hp76
    clear hp76
    refine r_rem rfl rfl hn79 (r_add rfl rfl ?_)
    obtain ⟨hn81, hp82⟩ := ifN hp80
    clear hp80
    refine r_mkC1 (c := (cI .i64)) (a := 0) sl_I64 ze_i64 rfl rfl (fun _ => rfl) rfl trivial (fun _ _ => trivial) rfl rfl (by decide) hn81 fun b88 v87 h85 I86 E83 hl90 hl91 => ?_
    have S84 := sp_one hl90 hl91
    have sz92 := E83.1
    have X93 := X70.trans E83
    have S94 : Sp h85 (Array.size h) [[b8], [b18], q63, [b88]] := S59.app S84 E83.1 X70.1
    have lo95 := S84.loAll 0 rfl
    obtain ⟨x96, hx97, hp98⟩ := obind hp82
    clear hp82
    have I104 := I66.ext E83
    refine r_ixR2 sl_MM rfl I104 rfl hx97 fun b99 r100 hF101 hr102 hc103 => ?_
    refine r_stR na_I64 I104 hx97 hF101 rfl rfl I86 (S94.dj 3 2 rfl rfl (by decide)) fun h105 I107 U106 hs108 => ?_
    have S109 : Sp h85 (Array.size h) [q63, [b88], [b8], [b18]] := (S94.sel [2, 3, 0, 1] (by decide))
    have S110 := S109.mrg
    have hs111 : ∀ z ∈ (b99 :: (q64.set (Int.toNat u60) [b88]).flatten), z ∈ q63 ++ [b88] ∨ Array.size h85 ≤ z := (fun z hz => .inl (hs108 z hz))
    have sz112 := U106.size
    have X113 := X93.thenT U106 (S94.loAll 2 rfl)
    have S115 : Sp h105 (Array.size h) [(b99 :: (q64.set (Int.toNat u60) [b88]).flatten), [b8], [b18]] := S110.put 0 rfl I107.nodup U106.size X93.1 I107.lt hs111
    refine r_nil (q_t ?_)
    refine w_seq ?_
    refine w_reg ?_
    refine r_mv (r_mv ?_)
    obtain ⟨x116, hx117, hp118⟩ := obind hp98
    clear hp98
    refine r_ixR2 sl_MM rfl I107 rfl hx117 fun b119 r120 hF121 hr122 hc123 => ?_
    refine r_ld na_I64 rfl hc123 ?_
    refine r_lenC sl_I64 rfl (I107.rowI hr122 hx117) (r_mv (r_nil (q_t ?_)))
    refine w_block ?_
    obtain ⟨ex125, hL126, hp127⟩ := obind hp118
    clear hp118
    obtain ⟨bd128, hbd129, hL130⟩ := iter_gen hL126
    clear hL126
    have I131 := V68.ext E83
    have I132 := I131.upT U106 (S94.dj 1 2 rfl rfl (by decide))
    refine w_loop 4502500115742976 (fun x : (Int) × (Int) × ((List (List Int))) × (List Nat) × (List (List Nat)) × (List Value) => [(40, (.int .i64 x.1))]) (fun (k : Nat) (x : (Int) × (Int) × ((List (List Int))) × (List Nat) × (List (List Nat)) × (List Value)) (h' : Heap) => iter bd128 k (x.1, x.2.1, x.2.2.1) = some ex125 ∧ UpT ((b99 :: (q64.set (Int.toNat u60) [b88]).flatten) ++ ([b18] ++ [])) h105 h' ∧ Sp h' (Array.size h) [x.2.2.2.1, [b8], [b18]] ∧ OwC2 (cI .i64) 46 2 h' x.2.2.2.1 x.2.2.2.2.1 x.2.2.2.2.2 v37 x.2.2.1 ∧ (∀ z ∈ x.2.2.2.1, z ∈ ((b99 :: (q64.set (Int.toNat u60) [b88]).flatten) ++ ([b18] ++ [])) ∨ Array.size h105 ≤ z) ∧ BoxH 59 h' b18 [pv3, (.int .i64 x.2.1)]) (by kernel_rfl) fuel ((0, u61, (sI u62 u60 (List.replicate (Int.toNat (w64 (1 + (Int.tmod (w64 a2) a7)))) (0 : Int))), (b99 :: (q64.set (Int.toNat u60) [b88]).flatten), (q64.set (Int.toNat u60) [b88]), (q65.set (Int.toNat u60) v87)) : (Int) × (Int) × ((List (List Int))) × (List Nat) × (List (List Nat)) × (List Value)) ?_ ⟨rfl, trivial⟩ ?_
    · exact ⟨hL130, UpT.start (all_app I107.notD (all_app (boxAll I132 rfl) all_nil)), S115, I107, (fr_in rfl), I132⟩
    rintro k134 ⟨u140, u141, u142, q143, q144, q145⟩ sv137 h136 ⟨hk135, T138, S139, I146, fr147, V148⟩
    replace I146 : OwC2 (cI .i64) 46 2 h136 q143 q144 q145 v37 u142 := I146
    replace fr147 : ∀ z ∈ q143, z ∈ ((b99 :: (q64.set (Int.toNat u60) [b88]).flatten) ++ ([b18] ++ [])) ∨ Array.size h105 ≤ z := fr147
    replace V148 : BoxH 59 h136 b18 [pv3, (.int .i64 u141)] := V148
    replace S139 : Sp h136 (Array.size h) [q143, [b8], [b18]] := S139
    refine (show W _ _ _ (setL [(40, (.int .i64 u140))] (mix _ sv137 _)) h136 from ?_)
    have sz149 := T138.size
    have X150 := X113.thenT T138 (all_app (S115.loAll 0 rfl) (all_app (S115.loAll 2 rfl) all_nil))
    obtain ⟨k151, rr152, rfl, hb153, hr154⟩ := iter_step hk135
    clear hk135
    rw [hbd129] at hb153
    dsimp only at hb153
    unfold P_quadformmake_Grid_Ints_b2 at hb153
    refine w_seq ?_
    refine w_reg ?_
    refine r_cmp rfl rfl (cmp_lss _ _) (r_nil (q_t ?_))
    refine w_seq ?_
    refine ⟨_, rfl, fun hc155 => ?_, fun hc155 => ?_⟩
    · skip
      have hp156 := ifTd hb153 hc155
      clear hb153
      refine w_skip (q_t ?_)
      refine w_seq ?_
      refine w_block ?_
      refine w_seq ?_
      refine w_reg ?_
      refine r_mv (r_as (r_nil (q_t ?_)))
      refine w_drawB (fun h' => UpT ([b18] ++ []) h136 h') (by kernel_rfl) ?_
      have hB157 : UpT ([b18] ++ []) h136 h136 := UpT.start (all_app (boxAll V148 rfl) all_nil)
      refine r_mv (r_mv ?_)
      obtain ⟨x158, hx159, hp160⟩ := obind hp156
      clear hp156
      refine r_ixR2 sl_MM rfl I146 rfl hx159 fun b161 r162 hF163 hr164 hc165 => ?_
      refine r_ldB na_I64 rfl hB157 (fun h' hb => cellH_upT hc165 hb (ni_app (S139.dj 0 2 rfl rfl (by decide) _ (by simp [hF163])) ni_nil)) (r_mv (r_mv ?_))
      obtain ⟨ex167, hj168, hp169⟩ := obind hp160
      clear hp160
      refine r_call (K' := (fun xr h' => ∃ x : (Int) × (Int), (x.1, x.2) = ex167 ∧ xr = (.int .i64 x.1) ∧ UpT ([b18] ++ []) h136 h' ∧ Sp h' (Array.size h) [q143, [b8], [b18]] ∧ BoxH 59 h' b18 [pv3, (.int .i64 x.2)])) hB157 rfl ?_ fun xv170 h171 hk172 => ?_
      · skip
        refine calls_of_W (l := [_]) mx Tryd.func40 rfl rfl rfl rfl rfl (by kernel_rfl) ?_
        refine w_seq ?_
        refine w_reg ?_
        refine r_as (r_nil (q_t ?_))
        refine w_seq ?_
        refine w_seq ?_
        refine w_draw (by kernel_rfl) ?_
        refine r_mv (r_nc rfl (r_fo (fs := 1) fd_Tape1 (by kernel_rfl) (by decide) rfl ?_))
        refine r_ld na_int rfl (V148.cell (i := 1) rfl) (r_mv (r_nc rfl (r_fo (fs := 1) fd_Tape0 (by kernel_rfl) (by decide) rfl ?_)))
        refine r_ld na_I8 rfl (V148.cell (i := 0) rfl) ?_
        refine r_lenC sl_I8 rfl H4 (r_cmp rfl rfl (cmp_geq _ _) (r_nil (q_t ?_)))
        refine ⟨_, rfl, fun hc173 => ?_, fun hc173 => ?_⟩
        · skip
          have hp174 := ifTd hj168 hc173
          clear hj168
          refine w_seq ?_
          refine w_reg ?_
          refine r_as (r_nil (q_t ?_))
          refine w_ret (q_tr ?_)
          have T175 : UpT ([b18] ++ []) h136 h136 := UpT.start (all_app (boxAll V148 rfl) all_nil)
          exact ⟨_, retV_1, ((0, u141) : (Int) × (Int)), Option.some.inj hp174, rfl, T175, S139, V148⟩
        · skip
          have hp176 := ifFd hj168 hc173
          clear hj168
          refine w_skip (q_t ?_)
          refine w_seq ?_
          refine w_reg ?_
          refine r_mv (r_nc rfl (r_fo (fs := 1) fd_Tape1 (by kernel_rfl) (by decide) rfl ?_))
          refine r_ld na_int rfl (V148.cell (i := 1) rfl) (r_add rfl rfl (r_nc rfl (r_fo (fs := 1) fd_Tape1 (by kernel_rfl) (by decide) rfl ?_)))
          refine r_stB [pv3, (.int .i64 (w64 (u141 + 1)))] na_int rfl rfl rfl V148 (Nat.le_of_ble_eq_true rfl) rfl fun h177 I179 U180 => ?_
          have U178 := I179.stA U180 (boxAll V148 rfl) rfl
          have sz181 := U178.size
          have X182 := X150.thenT U178 (S139.loAll 2 rfl)
          have S183 : Sp h177 (Array.size h) [q143, [b8], [b18]] := S139.keep U178.size
          refine r_nil (q_t ?_)
          refine w_seq ?_
          refine w_draw (by kernel_rfl) ?_
          refine r_mv (r_nc rfl (r_fo (fs := 1) fd_Tape0 (by kernel_rfl) (by decide) rfl ?_))
          refine r_ld na_I8 rfl (I179.cell (i := 0) rfl) (r_mv (r_nc rfl (r_fo (fs := 1) fd_Tape1 (by kernel_rfl) (by decide) rfl ?_)))
          refine r_ld na_int rfl (I179.cell (i := 1) rfl) (r_sub rfl rfl ?_)
          obtain ⟨x184, hx185, hp186⟩ := obind hp176
          clear hp176
          refine r_ixC (c := (cI .i8)) sl_I8 rfl H4 rfl hx185 fun b187 o188 cs189 hr190 hc191 => ?_
          obtain rfl := hr190
          refine r_ld na_i8 rfl (cellH_ext (hc191 0 _ rfl) X182) (r_cv it_i8 it_i64 rfl (r_as (r_nil (q_t ?_))))
          refine w_ret ?_
          have T192 : UpT ([b18] ++ []) h136 h136 := UpT.start (all_app (boxAll V148 rfl) all_nil)
          have T193 := T192.then U178 (fr_in rfl)
          exact ⟨_, retV_1, (((w64 x184), (w64 (u141 + 1))) : (Int) × (Int)), Option.some.inj hp186, rfl, T193, S183, I179⟩
      obtain ⟨⟨u199, u200⟩, hq194, rfl, T197, S198, V201⟩ := hk172
      replace V201 : BoxH 59 h171 b18 [pv3, (.int .i64 u200)] := V201
      replace S198 : Sp h171 (Array.size h) [q143, [b8], [b18]] := S198
      have sz202 := T197.size
      have X203 := X150.thenT T197 (all_app (S139.loAll 2 rfl) all_nil)
      have hB204 := hB157.then T197 (all_app (fr_in rfl) all_nil)
      refine ⟨hB204, ?_⟩
      subst hq194
      have hp205 := hp169
      try dsimp only at hp205
      obtain ⟨x206, hx207, hp208⟩ := obind hp205
      clear hp205
      refine r_ixO2 (m := u60) sl_I64 rfl I146 hr164 hx159 rfl hx207 fun g209 hG210 => ?_
      have I214 := I146.upT T197 (dj_app (S139.dj 0 2 rfl rfl (by decide)) dj_nil)
      refine r_stO2 (m := u60) (stEl_na na_i64 rfl rfl rfl) I214 hG210 hx159 hx207 (show ((cI .i64)).rep _ u199 _ from rfl) fun h211 I213 U212 => ?_
      have sz215 := U212.size
      have X216 := X203.thenT U212 (S198.loAll 0 rfl)
      have S218 : Sp h211 (Array.size h) [q143, [b8], [b18]] := S198.keep U212.size
      refine r_nil (q_b (q_t ?_))
      refine w_reg ?_
      refine r_add rfl rfl (r_mv (r_nil (q_t ?_)))
      have I219 := V201.upT U212 (S198.dj 2 0 rfl rfl (by decide))
      have T220 := T138.then T197 (all_app (fr_tl (fr_in rfl)) all_nil)
      have T221 := T220.then U212 (fr_hyp fr147 (all_app (fr_in rfl) (all_app (fr_tl (fr_in rfl)) all_nil)) (by omega))
      have hq222 := Option.some.inj hp208
      subst hq222
      exact ⟨k151, (((w64 (u140 + 1)), u200, (sI u142 u60 (sI x158 u140 u199)), q143, q144, q145) : (Int) × (Int) × ((List (List Int))) × (List Nat) × (List (List Nat)) × (List Value)), Nat.lt_succ_self _, ⟨hr154, T221, S218, I213, (fr_hyp fr147 (all_app (fr_in rfl) (all_app (fr_tl (fr_in rfl)) all_nil)) (by omega)), I219⟩, rfl, trivial⟩
    · skip
      have hp223 := ifFd hb153 hc155
      clear hb153
      have hq224 := Option.some.inj hp223
      subst hq224
      have hp225 := hr154
      change _ = ex125 at hp225
      subst hp225
      have hp226 := hp127
      try dsimp only at hp226
      refine w_exit (q_tx (q_tx (q_bx (q_b (q_t ?_)))))
      refine w_reg ?_
      refine r_add rfl rfl (r_mv (r_nil (q_t ?_)))
      have T227 := T58.thenE E83
      have T228 := T227.then U106 (fr_hyp fr67 (all_app (fr_in rfl) (all_app (fr_tl (fr_in rfl)) all_nil)) (by omega))
      have T229 := T228.then T138 (all_app (fr_hyp hs111 (all_app (fr_hyp fr67 (all_app (fr_in rfl) (all_app (fr_tl (fr_in rfl)) all_nil)) (by omega)) (fr_new lo95 (by omega))) (by omega)) (all_app (fr_tl (fr_in rfl)) all_nil))
      have hq230 := Option.some.inj hp226
      subst hq230
      exact ⟨k71, (((w64 (u60 + 1)), u141, u142, q143, q144, q145) : (Int) × (Int) × ((List (List Int))) × (List Nat) × (List (List Nat)) × (List Value)), Nat.lt_succ_self _, ⟨hr74, T229, (S139.sel [1, 2, 0] (by decide)), I146, (fr_hyp fr147 (all_app (fr_hyp hs111 (all_app (fr_hyp fr67 (all_app (fr_in rfl) (all_app (fr_tl (fr_in rfl)) all_nil)) (by omega)) (fr_new lo95 (by omega))) (by omega)) (all_app (fr_tl (fr_in rfl)) all_nil)) (by omega)), V148⟩, rfl, trivial⟩
  · skip
    have hp231 := ifFd hb73 hc75
    clear hb73
    have hq232 := Option.some.inj hp231
    subst hq232
    have hp233 := hr74
    change _ = ex46 at hp233
    subst hp233
    have hp234 := hp48
    try dsimp only at hp234
    refine w_exit (q_tx (q_tx (q_bx (q_t ?_))))
    refine w_seq ?_
    refine w_reg ?_
    refine r_mv (r_as (r_nil (q_t ?_)))
    refine w_ret ?_
    have hq235 := Option.some.inj hp234
    subst hq235
    exact ⟨_, retV_1, X70, _, _, _, _, rfl, I66, S59.sel [2] (by decide)⟩

def P_quadformlaw23_large_b1 (fuel : Nat) (a3 : (List (List Int))) (s22 : Int) : Option ((Int) ⊕ ((Bool) ⊕ (Unit))) :=
  (if s22 < (a3.length : Int) then ((gI a3 s22).bind fun x25 => (if 20 < (x25.length : Int) then (some (Sum.inr<| Sum.inl <| true)) else (some (Sum.inl (w64 (s22 + 1)))))) else (some (Sum.inr<| Sum.inr <|  ())))
def P_quadformlaw23_large (fuel : Nat) (a3 : (List (List Int))) : Option Bool :=
  (if 20 < (a3.length : Int) then (some true) else ((iter (fun s => P_quadformlaw23_large_b1 fuel a3 s) fuel 0).bind (fun ex => match ex with | Sum.inl e36 => (some e36) | Sum.inr (_) => (some false))))
theorem P_quadformlaw23_large_ok {fuel : Nat} {h : Heap} {pv1 : Value} {a3 : (List (List Int))} {r : Bool} (H2 : SlC2 (cI .i64) h pv1 a3) (hp : P_quadformlaw23_large fuel a3 = some r) : CallH Tryd.prog 15 #[pv1] h (fun x h' => Ext h h' ∧ x = .bool r) := by
  unfold P_quadformlaw23_large at hp
  have S0 := sp_nil h (Array.size h)
  refine calls_of_W (l := [_]) mx Tryd.func15 rfl rfl rfl rfl rfl (by kernel_rfl) ?_
  refine w_seq ?_
  refine w_reg ?_
  refine r_as (r_nil (q_t ?_))
  refine w_seq ?_
  refine w_seq ?_
  refine w_reg ?_
  refine r_mv ?_
  refine r_lenR sl_MM rfl H2 (r_cmp rfl rfl (cmp_gtr _ _) (r_nil (q_t ?_)))
  refine ⟨_, rfl, fun hc5 => ?_, fun hc5 => ?_⟩
  · skip
    have hp6 := ifTd hp hc5
    clear hp
    refine w_seq ?_
    refine w_reg ?_
    refine r_as (r_nil (q_t ?_))
    refine w_ret (q_tr ?_)
    have hq7 := Option.some.inj hp6
    subst hq7
    exact ⟨_, retV_1, (Ext.refl _), rfl⟩
  · skip
    have hp8 := ifFd hp hc5
    clear hp
    refine w_skip (q_t ?_)
    refine w_seq ?_
    refine w_seq ?_
    refine w_reg ?_
    refine r_mv ?_
    refine r_lenR sl_MM rfl H2 (r_mv (r_nil (q_t ?_)))
    refine w_block ?_
    obtain ⟨ex9, hL10, hp11⟩ := obind hp8
    clear hp8
    obtain ⟨bd12, hbd13, hL14⟩ := iter_gen hL10
    clear hL10
    refine w_loop 261140 (fun x : (Int) => [(10, (.int .i64 x))]) (fun (k : Nat) (x : (Int)) (h' : Heap) => iter bd12 k x = some ex9 ∧ UpT [] h h' ∧ Sp h' (Array.size h) []) (by kernel_rfl) fuel (0 : (Int)) ?_ ⟨rfl, trivial⟩ ?_
    · exact ⟨hL14, UpT.start all_nil, S0⟩
    rintro k15 u21 sv18 h17 ⟨hk16, T19, S20⟩
    replace S20 : Sp h17 (Array.size h) [] := S20
    refine (show W _ _ _ (setL [(10, (.int .i64 u21))] (mix _ sv18 _)) h17 from ?_)
    have sz22 := T19.size
    have X23 := (Ext.refl _).thenT T19 all_nil
    obtain ⟨k24, rr25, rfl, hb26, hr27⟩ := iter_step hk16
    clear hk16
    rw [hbd13] at hb26
    dsimp only at hb26
    unfold P_quadformlaw23_large_b1 at hb26
    refine w_seq ?_
    refine w_reg ?_
    refine r_cmp rfl rfl (cmp_lss _ _) (r_nil (q_t ?_))
    refine w_seq ?_
    refine ⟨_, rfl, fun hc28 => ?_, fun hc28 => ?_⟩
    · skip
      have hp29 := ifTd hb26 hc28
      clear hb26
      refine w_skip (q_t ?_)
      refine w_seq ?_
      refine w_block ?_
      refine w_seq ?_
      refine w_reg ?_
      obtain ⟨x30, hx31, hp32⟩ := obind hp29
      clear hp29
      refine r_ixR sl_MM rfl H2 rfl hx31 fun b33 o34 r35 hc36 H37 => ?_
      refine r_ld na_I64 rfl (cellH_ext hc36 X23) (r_as (r_nil (q_t ?_)))
      refine w_seq ?_
      refine w_reg ?_
      refine r_mv ?_
      refine r_lenC sl_I64 rfl H37 (r_cmp rfl rfl (cmp_gtr _ _) (r_nil (q_t ?_)))
      refine ⟨_, rfl, fun hc39 => ?_, fun hc39 => ?_⟩
      · skip
        have hp40 := ifTd hp32 hc39
        clear hp32
        refine w_seq ?_
        refine w_reg ?_
        refine r_as (r_nil (q_t ?_))
        have hq41 := Option.some.inj hp40
        subst hq41
        have hp42 := hr27
        change _ = ex9 at hp42
        subst hp42
        have hp43 := hp11
        try dsimp only at hp43
        refine w_ret (q_br (q_tr (q_tr (q_br (q_tr ?_)))))
        have hq44 := Option.some.inj hp43
        subst hq44
        exact ⟨_, retV_1, X23, rfl⟩
      · skip
        have hp45 := ifFd hp32 hc39
        clear hp32
        refine w_skip (q_b (q_t ?_))
        refine w_reg ?_
        refine r_add rfl rfl (r_mv (r_nil (q_t ?_)))
        have hq46 := Option.some.inj hp45
        subst hq46
        exact ⟨k24, ((w64 (u21 + 1)) : (Int)), Nat.lt_succ_self _, ⟨hr27, T19, S20⟩, rfl, trivial⟩
    · skip
      have hp47 := ifFd hb26 hc28
      clear hb26
      have hq48 := Option.some.inj hp47
      subst hq48
      have hp49 := hr27
      change _ = ex9 at hp49
      subst hp49
      have hp50 := hp11
      try dsimp only at hp50
      refine w_exit (q_tx (q_tx (q_bx (q_t ?_))))
      refine w_seq ?_
      refine w_reg ?_
      refine r_as (r_nil (q_t ?_))
      refine w_ret ?_
      have hq51 := Option.some.inj hp50
      subst hq51
      exact ⟨_, retV_1, X23, rfl⟩

def P_quadformlaw23_modulus (fuel : Nat) (a1 : Int) (a2 : Int) (a3 : Bool) : Option Int :=
  (if a3 = true then (some a2) else (some (w64 (2 + (w64 a1)))))
theorem P_quadformlaw23_modulus_ok {fuel : Nat} {h : Heap} {a1 : Int} {a2 : Int} {a3 : Bool} {r : Int}  (hp : P_quadformlaw23_modulus fuel a1 a2 a3 = some r) : CallH Tryd.prog 22 #[(.int .u16 a1), (.int .i64 a2), (.bool a3)] h (fun x h' => Ext h h' ∧ x = .int .i64 r) := by
  unfold P_quadformlaw23_modulus at hp
  have S0 := sp_nil h (Array.size h)
  refine calls_of_W (l := [_, _, _]) mx Tryd.func22 rfl rfl rfl rfl rfl (by kernel_rfl) ?_
  refine w_seq ?_
  refine w_reg ?_
  refine r_as (r_nil (q_t ?_))
  refine w_seq ?_
  refine w_seq ?_
  refine w_reg ?_
  refine r_mv (r_nil (q_t ?_))
  refine ⟨_, rfl, fun hc4 => ?_, fun hc4 => ?_⟩
  · skip
    have hp5 := ifT hp hc4
    clear hp
    refine w_seq ?_
    refine w_reg ?_
    refine r_mv (r_as (r_nil (q_t ?_)))
    refine w_ret (q_tr ?_)
    have hq6 := Option.some.inj hp5
    subst hq6
    exact ⟨_, retV_1, (Ext.refl _), rfl⟩
  · skip
    have hp7 := ifFb hp hc4
    clear hp
    refine w_skip (q_t ?_)
    refine w_seq ?_
    refine w_reg ?_
    refine r_mv (r_cv it_U16 it_i64 rfl (r_add rfl rfl (r_as (r_nil (q_t ?_)))))
    refine w_ret ?_
    have hq8 := Option.some.inj hp7
    subst hq8
    exact ⟨_, retV_1, (Ext.refl _), rfl⟩
end Go.Proofs.YtdlfineibanppaaDoor


/-
  From the older words for matrices in memory to codecs, and back. No condition.
-/
namespace Go.QF
open Go
theorem slK_of_sl {h : Heap} {v : Value} {l : List Value} (H : Sl h v l) : SlK h 1 v (l.map fun x => [x]) := by
  obtain ⟨a, cap, hv, hc⟩ := H
  refine ⟨a, cap, by rw [List.length_map]; exact hv, fun i row hr => ?_⟩
  rw [List.getElem?_map] at hr
  obtain ⟨x, hx, rfl⟩ := Option.map_eq_some_iff.1 hr
  obtain ⟨b, o, ha, hb⟩ := hc i x hx
  refine ⟨b, o, ha, fun j y hy => ?_⟩
  cases j with
  | zero => injection hy with hy; subst hy; rw [Nat.mul_one, Nat.add_zero]; exact hb
  | succ j => simp at hy
theorem sl_of_slK {h : Heap} {v : Value} {l : List Value} (H : SlK h 1 v (l.map fun x => [x])) : Sl h v l := by
  obtain ⟨a, cap, hv, hc⟩ := H
  refine ⟨a, cap, by rw [List.length_map] at hv; exact hv, fun i x hx => ?_⟩
  obtain ⟨b, o, ha, hb⟩ := hc i [x] (by simp [hx])
  refine ⟨b, o, ha, ?_⟩
  have := hb 0 x rfl
  rwa [Nat.mul_one, Nat.add_zero] at this
theorem slC_of {κ : IntKind} {h : Heap} {v : Value} {L : List Int} (H : Sl h v (L.map (.int κ))) : SlC (cI κ) h v L := by
  refine ⟨L.map fun a => [.int κ a], ?_, by simp, fun i cs a h1 h2 => ?_⟩
  · have := slK_of_sl H
    rwa [List.map_map] at this
  · rw [List.getElem?_map, h2] at h1
    injection h1 with h1
    exact h1.symm
theorem sl_of {κ : IntKind} {h : Heap} {v : Value} {L : List Int} (H : SlC (cI κ) h v L) : Sl h v (L.map (.int κ)) := by
  obtain ⟨Ls, h1, h2, h3⟩ := H
  have : Ls = (L.map (Value.int κ)).map fun x => [x] := by
    apply List.ext_getElem?
    intro i
    by_cases hi : i < L.length
    · obtain ⟨a, ha⟩ : ∃ a, L[i]? = some a := ⟨L[i], List.getElem?_eq_getElem hi⟩
      obtain ⟨cs, hcs⟩ : ∃ cs, Ls[i]? = some cs := ⟨Ls[i]'(by omega), List.getElem?_eq_getElem _⟩
      have := h3 i cs a hcs ha
      rw [hcs, List.map_map, List.getElem?_map, ha]
      exact congrArg some this
    · rw [List.getElem?_eq_none (by omega), List.getElem?_eq_none (by simp; omega)]
  subst this
  exact sl_of_slK h1
theorem mat_of {h : Heap} {v : Value} {M : List (List Int)} (H : SlC2 (cI .i64) h v M) : Mat h v M := by
  obtain ⟨rs, h1, h2, h3⟩ := H
  exact ⟨rs, sl_of_slK h1, h2, fun i r z hr hz => sl_of (h3 i r z hr hz)⟩
theorem slC2_of {h : Heap} {v : Value} {M : List (List Int)} (H : Mat h v M) : SlC2 (cI .i64) h v M := by
  obtain ⟨rs, h1, h2, h3⟩ := H
  exact ⟨rs, slK_of_sl h1, h2, fun i r z hr hz => slC_of (h3 i r z hr hz)⟩
end Go.QF


/-
  Plain: the reference's way to the echelon form is the program's. No condition.
-/
namespace Go.QF
set_option linter.unusedVariables false
theorem setF_self (F : Nat → Nat → Int) (i : Nat) : setF F i (F i) = F := by
  funext k
  by_cases h : k = i
  · subst h; rw [setF_same]
  · rw [setF_ne _ _ h]
end Go.QF


/-
  Plain: combinations of rows modulo a number, and that row operations keep them. No condition.
-/
namespace Go.QF
set_option linter.unusedVariables false

/-! ### sums -/
theorem psum_add (f g : Nat → Int) (n : Nat) : psum (fun i => f i + g i) n = psum f n + psum g n := by
  induction n with
  | zero => rfl
  | succ n ih => simp only [psum]; rw [ih]; omega
theorem psum_mul (c : Int) (f : Nat → Int) (n : Nat) : psum (fun i => c * f i) n = c * psum f n := by
  induction n with
  | zero => simp [psum]
  | succ n ih => simp only [psum]; rw [ih, Int.mul_add]
theorem psum_zero (n : Nat) : psum (fun _ => 0) n = 0 := by
  induction n with
  | zero => rfl
  | succ n ih => simp only [psum]; rw [ih]; rfl
/-- One term is another. -/
theorem psum_upd {f g : Nat → Int} {n a : Nat} (ha : a < n) (h : ∀ i, i ≠ a → g i = f i) : psum g n = psum f n + (g a - f a) := by
  induction n with
  | zero => omega
  | succ n ih =>
    simp only [psum]
    by_cases hn : a = n
    · subst hn
      rw [psum_congr (f := g) (g := f) (fun k hk => h k (by omega))]; omega
    · rw [ih (by omega), h n (fun he => hn he.symm)]; omega
theorem psum_one {f : Nat → Int} {n a : Nat} (ha : a < n) (h : ∀ i, i ≠ a → f i = 0) : psum f n = f a := by
  rw [psum_upd (f := fun _ => 0) ha h, psum_zero]; omega
/-! ### congruence -/
def Eqm (m a b : Int) : Prop := a % m = b % m
theorem Eqm.refl (m a : Int) : Eqm m a a := rfl
theorem Eqm.of_eq {m a b : Int} (h : a = b) : Eqm m a b := h ▸ rfl
theorem Eqm.symm {m a b : Int} (h : Eqm m a b) : Eqm m b a := Eq.symm h
theorem Eqm.trans {m a b c : Int} (h : Eqm m a b) (k : Eqm m b c) : Eqm m a c := Eq.trans h k
theorem Eqm.add {m a b c d : Int} (h : Eqm m a b) (k : Eqm m c d) : Eqm m (a + c) (b + d) := by
  unfold Eqm at *; rw [Int.add_emod, h, k, ← Int.add_emod]
theorem Eqm.sub {m a b c d : Int} (h : Eqm m a b) (k : Eqm m c d) : Eqm m (a - c) (b - d) := by
  unfold Eqm at *; rw [Int.sub_emod, h, k, ← Int.sub_emod]
theorem Eqm.mul {m a b c d : Int} (h : Eqm m a b) (k : Eqm m c d) : Eqm m (a * c) (b * d) := by
  unfold Eqm at *; rw [Int.mul_emod, h, k, ← Int.mul_emod]
theorem Eqm.mod (m a : Int) : Eqm m (a % m) a := Int.emod_emod_of_dvd a (Int.dvd_refl m)
theorem Eqm.psum {m : Int} {f g : Nat → Int} {n : Nat} (h : ∀ i, i < n → Eqm m (f i) (g i)) : Eqm m (psum f n) (psum g n) := by
  induction n with
  | zero => rfl
  | succ n ih => exact (ih fun i hi => h i (by omega)).add (h n (by omega))
theorem Eqm.zero {m a : Int} (h : Eqm m a 0) : a % m = 0 := by simpa [Eqm] using h
/-! ### combinations of rows -/
def comb (r : Nat) (y : Nat → Int) (F : Nat → Nat → Int) (q : Nat) : Int := psum (fun i => y i * F i q) r
/-- The same combinations, and none of F' that vanishes unless one of F does. -/
def RowEq (r c : Nat) (m : Int) (F F' : Nat → Nat → Int) : Prop :=
  (∀ y', ∃ y, (∀ q, q < c → Eqm m (comb r y' F' q) (comb r y F q)) ∧ ((∀ i, i < r → Eqm m (y i) 0) → ∀ i, i < r → Eqm m (y' i) 0)) ∧
  (∀ y, ∃ y', ∀ q, q < c → Eqm m (comb r y F q) (comb r y' F' q))
theorem RowEq.refl (r c : Nat) (m : Int) (F : Nat → Nat → Int) : RowEq r c m F F := ⟨fun y => ⟨y, fun _ _ => rfl, fun h => h⟩, fun y => ⟨y, fun _ _ => rfl⟩⟩
theorem RowEq.trans {r c : Nat} {m : Int} {F G H : Nat → Nat → Int} (h : RowEq r c m F G) (k : RowEq r c m G H) : RowEq r c m F H := by
  refine ⟨fun y2 => ?_, fun y0 => ?_⟩
  · obtain ⟨y1, e1, z1⟩ := k.1 y2
    obtain ⟨y0, e0, z0⟩ := h.1 y1
    exact ⟨y0, fun q hq => (e1 q hq).trans (e0 q hq), fun hz => z1 (z0 hz)⟩
  · obtain ⟨y1, e1⟩ := h.2 y0
    obtain ⟨y2, e2⟩ := k.2 y1
    exact ⟨y2, fun q hq => (e1 q hq).trans (e2 q hq)⟩
/-! ### the elimination keeps the combinations -/
end Go.QF


/-
  Plain: the reduced echelon form and its rank. No condition.
-/
namespace Go.QF
set_option linter.unusedVariables false
/-- What holds when j columns are done. -/
structure Rref (r j : Nat) (F : Nat → Nat → Int) (piv : List Nat) : Prop where
  asc : piv.Pairwise (· < ·)
  lt : ∀ x ∈ piv, x < j
  len : piv.length ≤ r
  unit : ∀ a (ha : a < piv.length) i, i < r → F i piv[a] = if i = a then 1 else 0
  low : ∀ i q, piv.length ≤ i → i < r → q < j → F i q = 0
  lead : ∀ a (ha : a < piv.length) q, q < piv[a] → F a q = 0
/-! ### solutions -/
end Go.QF


/-
  Plain: the kernel: solutions, their number, their rank. No condition.
-/
namespace Go.QF
set_option linter.unusedVariables false
end Go.QF


/-
  Plain: the reduced echelon form is unique. No condition.
-/
namespace Go.QF
set_option linter.unusedVariables false
theorem psum_cut {f : Nat → Int} {k r : Nat} (hk : k ≤ r) (h : ∀ i, k ≤ i → i < r → f i = 0) : psum f r = psum f k := by
  induction r with
  | zero => rw [Nat.le_zero.1 hk]
  | succ r ih =>
    rcases Nat.lt_or_ge k (r + 1) with h1 | h1
    · simp only [psum]
      rw [ih (by omega) (fun i h2 h3 => h i h2 (by omega)), h r (by omega) (by omega)]; omega
    · obtain rfl : k = r + 1 := by omega
      rfl
end Go.QF


/-
  Plain: products of elementary column operations have inverses; they keep the echelon form. No condition.
-/
namespace Go.QF
set_option linter.unusedVariables false
def dl (a b : Nat) : Int := if a = b then 1 else 0
end Go.QF


/-
  Plain: determinants by expansion along the first column; row steps, products, transposes. No condition.
-/
namespace Go.QF
set_option linter.unusedVariables false

def skp (i a : Nat) : Nat := if a < i then a else a + 1
def usk (i r : Nat) : Nat := if r < i then r else r - 1
def sg (i : Nat) : Int := if i % 2 = 0 then 1 else -1
theorem sg_succ (i : Nat) : sg (i + 1) = -sg i := by unfold sg; split <;> split <;> first | omega | rfl
theorem skp_ne (i a : Nat) : skp i a ≠ i := by unfold skp; split <;> omega
theorem skp_lt {i a n : Nat} (ha : a < n) : skp i a < n + 1 := by unfold skp; split <;> omega
theorem skp_usk {i r : Nat} (h : r ≠ i) : skp i (usk i r) = r := by
  unfold usk
  split <;> (unfold skp; split <;> omega)
theorem skp_inj {i a r : Nat} (h : skp i a = r) : a = usk i r := by unfold skp at h; unfold usk; split at h <;> split <;> omega
theorem usk_lt {i r n : Nat} (h : r ≠ i) (hi : i < n + 1) (hr : r < n + 1) : usk i r < n := by unfold usk; split <;> omega

theorem setF_app (F : Nat → Nat → Int) (a : Nat) (g : Nat → Int) (i j : Nat) : setF F a g i j = if i = a then g j else F i j := by
  unfold setF; split <;> rfl
theorem swapF_app (F : Nat → Nat → Int) (a b i j : Nat) : swapF F a b i j = if i = b then F a j else if i = a then F b j else F i j := by
  unfold swapF; rw [setF_app, setF_app]
def minor0 (i : Nat) (F : Nat → Nat → Int) : Nat → Nat → Int := fun a b => F (skp i a) (b + 1)
def det : Nat → (Nat → Nat → Int) → Int
  | 0, _ => 1
  | n + 1, F => psum (fun i => sg i * F i 0 * det n (minor0 i F)) (n + 1)
theorem det_congr : ∀ {n : Nat} {F G : Nat → Nat → Int}, (∀ i j, i < n → j < n → F i j = G i j) → det n F = det n G := by
  intro n
  induction n with
  | zero => intro _ _ _; rfl
  | succ n ih =>
    intro F G h
    refine psum_congr fun i hi => ?_
    rw [h i 0 hi (by omega), ih (F := minor0 i F) (G := minor0 i G) fun a b ha hb => h _ _ (skp_lt ha) (by omega)]
theorem minor0_set {i r : Nat} {F : Nat → Nat → Int} {g : Nat → Int} (h : r ≠ i) : minor0 i (setF F r g) = setF (minor0 i F) (usk i r) (fun b => g (b + 1)) := by
  funext a b
  unfold minor0 setF
  by_cases ha : skp i a = r
  · rw [if_pos ha, if_pos (skp_inj ha)]
  · rw [if_neg ha, if_neg (fun he => ha (by rw [he, skp_usk h]))]
theorem minor0_set_self {i : Nat} {F : Nat → Nat → Int} {g : Nat → Int} : minor0 i (setF F i g) = minor0 i F := by
  funext a b
  unfold minor0
  rw [setF_ne _ _ (skp_ne i a)]
theorem det_lin : ∀ {n : Nat} {F : Nat → Nat → Int} {r : Nat} (u v : Nat → Int) (c d : Int), r < n → det n (setF F r fun q => c * u q + d * v q) = c * det n (setF F r u) + d * det n (setF F r v) := by
  intro n
  induction n with
  | zero => intro _ _ _ _ _ _ h; omega
  | succ n ih =>
    intro F r u v c d hr
    simp only [det]
    rw [← psum_mul, ← psum_mul, ← psum_add]
    refine psum_congr fun i hi => ?_
    by_cases h : r = i
    · subst h
      simp only [minor0_set_self, setF_same]
      grind
    · rw [minor0_set h, minor0_set h, minor0_set h, setF_ne _ _ (Ne.symm h), setF_ne _ _ (Ne.symm h), setF_ne _ _ (Ne.symm h), ih (fun b => u (b + 1)) (fun b => v (b + 1)) c d (usk_lt h hi hr)]
      grind
theorem psum_two {f : Nat → Int} {n r s : Nat} (hr : r < n) (hs : s < n) (hrs : r ≠ s) (h : ∀ i, i < n → i ≠ r → i ≠ s → f i = 0) : psum f n = f r + f s := by
  have h1 : psum f n = psum (fun i => (if i = r then f r else 0) + (if i = s then f s else 0)) n := psum_congr fun i hi => by
    by_cases h1 : i = r
    · subst h1; rw [if_pos rfl, if_neg hrs]; omega
    · rw [if_neg h1]
      by_cases h2 : i = s
      · subst h2; rw [if_pos rfl]; omega
      · rw [if_neg h2, h i hi h1 h2]; rfl
  rw [h1, psum_add, psum_one (f := fun i => if i = r then f r else 0) hr (fun i hi => if_neg hi), psum_one (f := fun i => if i = s then f s else 0) hs (fun i hi => if_neg hi), if_pos rfl, if_pos rfl]
theorem det_adj : ∀ {n : Nat} {F : Nat → Nat → Int} {r : Nat}, r + 1 < n → (∀ q, q < n → F r q = F (r + 1) q) → det n F = 0 := by
  intro n
  induction n with
  | zero => intro _ _ h; omega
  | succ n ih =>
    intro F r hr h
    simp only [det]
    rw [psum_two (r := r) (s := r + 1) (by omega) (by omega) (by omega)]
    · have : det n (minor0 r F) = det n (minor0 (r + 1) F) := det_congr fun a b ha hb => by
        unfold minor0 skp
        by_cases h1 : a < r
        · rw [if_pos h1, if_pos (by omega)]
        · rw [if_neg h1]
          by_cases h2 : a < r + 1
          · rw [if_pos h2]
            obtain rfl : a = r := by omega
            exact (h (b + 1) (by omega)).symm
          · rw [if_neg h2]
      rw [this, sg_succ, h 0 (by omega)]
      grind
    · intro i hi h1 h2
      rcases Nat.lt_or_ge i r with hlt | hge
      · rw [ih (F := minor0 i F) (r := r - 1) (by omega)]
        · simp
        · intro q hq
          unfold minor0 skp
          rw [if_neg (by omega), if_neg (by omega), show r - 1 + 1 = r by omega]
          exact h (q + 1) (by omega)
      · rw [ih (F := minor0 i F) (r := r) (by omega)]
        · simp
        · intro q hq
          unfold minor0 skp
          rw [if_pos (by omega), if_pos (by omega)]
          exact h (q + 1) (by omega)
theorem setF_comm {F : Nat → Nat → Int} {a b : Nat} (h : a ≠ b) (u v : Nat → Int) : setF (setF F a u) b v = setF (setF F b v) a u := by
  funext k
  unfold setF
  by_cases h1 : k = a <;> by_cases h2 : k = b
  · omega
  · simp [h1, h]
  · simp [h2, Ne.symm h]
  · simp [h1, h2]
/-- An alternating function changes its sign. -/
theorem alt_swap {n : Nat} {F : Nat → Nat → Int} {a b : Nat} (ha : a < n) (hb : b < n) (hab : a ≠ b) (h0 : ∀ G : Nat → Nat → Int, G a = G b → det n G = 0) : det n (swapF F a b) = -det n F := by
  have key : ∀ u v : Nat → Int, det n (setF (setF F a u) b v) = -det n (setF (setF F a v) b u) := by
    intro u v
    have h1 := h0 (setF (setF F a fun q => 1 * u q + 1 * v q) b fun q => 1 * u q + 1 * v q) (by rw [setF_same, setF_ne _ _ hab, setF_same])
    rw [det_lin u v 1 1 hb, setF_comm hab, setF_comm hab, det_lin u v 1 1 ha, det_lin u v 1 1 ha, setF_comm (Ne.symm hab), setF_comm (Ne.symm hab), setF_comm (Ne.symm hab), setF_comm (Ne.symm hab)] at h1
    have h2 := h0 (setF (setF F a u) b u) (by rw [setF_same, setF_ne _ _ hab, setF_same])
    have h3 := h0 (setF (setF F a v) b v) (by rw [setF_same, setF_ne _ _ hab, setF_same])
    omega
  unfold swapF
  rw [key (F b) (F a), setF_self]
  rw [show setF F b (F b) = F from setF_self F b]
theorem det_eqr : ∀ {d n : Nat} {F : Nat → Nat → Int} {a : Nat}, a + d + 1 < n → F a = F (a + d + 1) → det n F = 0 := by
  intro d
  induction d with
  | zero => intro n F a hn h; exact det_adj hn fun q _ => by rw [h]
  | succ d ih =>
    intro n F a hn h
    have h1 := alt_swap (n := n) (F := F) (a := a + d + 1) (b := a + d + 1 + 1) (by omega) (by omega) (by omega) fun G hG => det_adj (r := a + d + 1) (by omega) fun q _ => congrFun hG q
    have h2 := ih (n := n) (F := swapF F (a + d + 1) (a + d + 1 + 1)) (a := a) (by omega) (by rw [swapF_at2, swapF_ne _ (by omega) (by omega), h]; rfl)
    omega
theorem det_eq_rows {n : Nat} {F : Nat → Nat → Int} {a b : Nat} (ha : a < n) (hb : b < n) (hab : a ≠ b) (h : F a = F b) : det n F = 0 := by
  rcases Nat.lt_or_ge a b with hlt | hge
  · exact det_eqr (d := b - a - 1) (a := a) (by omega) (by rw [h]; congr 1; omega)
  · exact det_eqr (d := a - b - 1) (a := b) (by omega) (by rw [← h]; congr 1; omega)
theorem det_swap {n : Nat} {F : Nat → Nat → Int} {a b : Nat} (ha : a < n) (hb : b < n) (hab : a ≠ b) : det n (swapF F a b) = -det n F :=
  alt_swap ha hb hab fun _ h => det_eq_rows ha hb hab h
theorem det_scale {n : Nat} {F : Nat → Nat → Int} {r : Nat} (u : Nat → Int) (c : Int) (hr : r < n) : det n (setF F r fun q => c * u q) = c * det n (setF F r u) := by
  have := det_lin (F := F) u (fun _ => 0) c 0 hr
  rw [show (fun q => c * u q + 0 * (fun _ : Nat => (0 : Int)) q) = fun q => c * u q from by funext q; omega] at this
  rw [this]; omega
theorem det_zero_row {n : Nat} {F : Nat → Nat → Int} {r : Nat} (hr : r < n) (h : ∀ q, q < n → F r q = 0) : det n F = 0 := by
  have := det_scale (F := F) (F r) 0 hr
  rw [Int.zero_mul] at this
  rw [← this]
  exact det_congr fun i j hi hj => by
    unfold setF
    split
    · rename_i he; subst he; rw [h j hj]; simp
    · rfl
theorem det_add_row {n : Nat} {F : Nat → Nat → Int} {a b : Nat} (ha : a < n) (hb : b < n) (hab : a ≠ b) (q : Int) : det n (setF F a fun x => F a x + q * F b x) = det n F := by
  have := det_lin (F := F) (F a) (F b) 1 q ha
  rw [setF_self, det_eq_rows (F := setF F a (F b)) ha hb hab (by rw [setF_same, setF_ne _ _ (Ne.symm hab)])] at this
  rw [show (fun x => F a x + q * F b x) = fun x => 1 * F a x + q * F b x from by funext x; omega, this]; omega
theorem det_psum {n : Nat} {F : Nat → Nat → Int} {r : Nat} (hr : r < n) (y : Nat → Int) (u : Nat → Nat → Int) : ∀ t, det n (setF F r fun q => psum (fun k => y k * u k q) t) = psum (fun k => y k * det n (setF F r (u k))) t := by
  intro t
  induction t with
  | zero => exact det_zero_row hr fun q _ => by rw [setF_same]; rfl
  | succ t ih =>
    have := det_lin (F := F) (fun q => psum (fun k => y k * u k q) t) (u t) 1 (y t) hr
    simp only [psum]
    rw [← ih, show (fun q => psum (fun k => y k * u k q) t + y t * u t q) = fun q => 1 * psum (fun k => y k * u k q) t + y t * u t q from by funext q; omega, this]; omega
/-- A row that is a combination of the rows. -/
theorem det_comb {n : Nat} {F : Nat → Nat → Int} {r : Nat} (hr : r < n) (y : Nat → Int) : det n (setF F r fun q => psum (fun k => y k * F k q) n) = y r * det n F := by
  rw [det_psum hr y F n, psum_congr (g := fun k => if k = r then y r * det n F else 0), psum_one hr (fun i hi => if_neg hi), if_pos rfl]
  intro k hk
  by_cases h : k = r
  · subst h; rw [if_pos rfl, setF_self]
  · rw [if_neg h, det_eq_rows (F := setF F r (F k)) hr hk (Ne.symm h) (by rw [setF_same, setF_ne _ _ h])]; simp

/-! ### triangular matrices, row steps -/
def dprod (f : Nat → Int) : Nat → Int
  | 0 => 1
  | n + 1 => dprod f n * f n
theorem dprod_shift (f : Nat → Int) (n : Nat) : dprod f (n + 1) = f 0 * dprod (fun i => f (i + 1)) n := by
  induction n with
  | zero => simp [dprod]
  | succ n ih => rw [dprod, ih, dprod]; grind
theorem dprod_congr {f g : Nat → Int} {n : Nat} (h : ∀ i, i < n → f i = g i) : dprod f n = dprod g n := by
  induction n with
  | zero => rfl
  | succ n ih => rw [dprod, dprod, ih (fun i hi => h i (by omega)), h n (by omega)]
theorem det_upper : ∀ {n : Nat} {F : Nat → Nat → Int}, Zc n F n → det n F = dprod (fun i => F i i) n := by
  intro n
  induction n with
  | zero => intro _ _; rfl
  | succ n ih =>
    intro F h
    rw [dprod_shift, det, psum_congr (g := fun i => if i = 0 then F 0 0 * det n (minor0 0 F) else 0), psum_one (a := 0) (by omega) (fun i hi => if_neg hi), if_pos rfl]
    · rw [ih (F := minor0 0 F) (fun c' i h1 h2 h3 => by unfold minor0 skp; rw [if_neg (by omega)]; exact h (c' + 1) (i + 1) (by omega) (by omega) (by omega))]
      rfl
    · intro i hi
      by_cases h0 : i = 0
      · subst h0; simp [sg]
      · rw [if_neg h0, h 0 i (by omega) (by omega) hi]; simp
theorem det_lower : ∀ {n : Nat} {F : Nat → Nat → Int}, (∀ i j, i < j → j < n → F i j = 0) → det n F = dprod (fun i => F i i) n := by
  intro n
  induction n with
  | zero => intro _ _; rfl
  | succ n ih =>
    intro F h
    rw [dprod_shift, det, psum_congr (g := fun i => if i = 0 then F 0 0 * det n (minor0 0 F) else 0), psum_one (a := 0) (by omega) (fun i hi => if_neg hi), if_pos rfl]
    · rw [ih (F := minor0 0 F) (fun i j h1 h2 => by unfold minor0 skp; rw [if_neg (by omega)]; exact h (i + 1) (j + 1) (by omega) (by omega))]
      rfl
    · intro i hi
      by_cases h0 : i = 0
      · subst h0; simp [sg]
      · rw [if_neg h0, det_zero_row (F := minor0 i F) (r := 0) (by omega) (fun q hq => by unfold minor0 skp; rw [if_pos (by omega)]; exact h 0 (q + 1) (by omega) (by omega))]; simp
def estep (F : Nat → Nat → Int) (c i : Nat) (q : Int) : Nat → Nat → Int := swapF (setF F c fun x => F c x + -q * F i x) c i
theorem estep_i (F : Nat → Nat → Int) {c i : Nat} (q : Int) : estep F c i q i = fun x => F c x + -q * F i x := by
  unfold estep; rw [swapF_at, setF_same]
theorem estep_c (F : Nat → Nat → Int) {c i : Nat} (h : c ≠ i) (q : Int) : estep F c i q c = F i := by
  unfold estep; rw [swapF_at2, setF_ne _ _ (Ne.symm h)]
theorem estep_ne (F : Nat → Nat → Int) {c i k : Nat} (hc : k ≠ c) (hi : k ≠ i) (q : Int) : estep F c i q k = F k := by
  unfold estep; rw [swapF_ne _ hc hi, setF_ne _ _ hc]
theorem zc_estep {n : Nat} {F : Nat → Nat → Int} {c i : Nat} {q : Int} (H : Zc n F c) (hci : c < i) (hi : i < n) : Zc n (estep F c i q) c := by
  intro c' k h1 h2 h3
  by_cases hk : k = i
  · subst hk
    rw [estep_i]
    simp [H c' c h1 h1 (by omega), H c' k h1 h2 h3]
  · by_cases hk2 : k = c
    · subst hk2
      rw [estep_c F hk]; exact H c' i h1 (by omega) hi
    · rw [estep_ne F hk2 hk]; exact H c' k h1 h2 h3
theorem zi_estep {F : Nat → Nat → Int} {c i : Nat} {q : Int} (H : Zi F c i) : Zi (estep F c i q) c i := by
  intro k h1 h2
  rw [estep_ne F (by omega) (by omega)]; exact H k h1 h2
/-- Every matrix becomes triangular by row steps. -/
theorem row_ind {n : Nat} {P : (Nat → Nat → Int) → Prop} (hadd : ∀ F a b q, a < n → b < n → a ≠ b → P (setF F a fun x => F a x + q * F b x) → P F) (hswap : ∀ F a b, a < n → b < n → a ≠ b → P (swapF F a b) → P F) (htri : ∀ F, Zc n F n → P F) : ∀ F, P F := by
  have key : ∀ d c, c + d = n → ∀ F, Zc n F c → P F := by
    intro d
    induction d with
    | zero => intro c hc F hF; obtain rfl : c = n := by omega
              exact htri F hF
    | succ d ih =>
      intro c hc
      have inner : ∀ e i, i + e = n → c < i → ∀ F, Zc n F c → Zi F c i → P F := by
        intro e
        induction e with
        | zero => intro i hi hci F hF hz; obtain rfl : i = n := by omega
                  exact ih (c + 1) (by omega) F (zc_succ hF hz)
        | succ e ihe =>
          intro i hi hci
          have strong : ∀ k F, (F i c).natAbs = k → Zc n F c → Zi F c i → P F := by
            intro k
            induction k using Nat.strongRecOn with
            | _ k ihk =>
              intro F hk hF hz
              by_cases h0 : F i c = 0
              · exact ihe (i + 1) (by omega) (by omega) F hF (zi_succ hz h0)
              · refine hadd F c i (-(F c c / F i c)) (by omega) (by omega) (by omega) (hswap _ c i (by omega) (by omega) (by omega) ?_)
                refine ihk ((estep F c i (F c c / F i c)) i c).natAbs ?_ (estep F c i (F c c / F i c)) rfl (zc_estep hF hci (by omega)) (zi_estep hz)
                rw [estep_i, ← hk]
                show (F c c + -(F c c / F i c) * F i c).natAbs < _
                have h1 := Int.mul_ediv_add_emod (F c c) (F i c)
                have h2 : F c c + -(F c c / F i c) * F i c = F c c % F i c := by grind
                rw [h2]
                have h3 := Int.emod_nonneg (F c c) h0
                have h4 := Int.emod_lt (F c c) h0
                omega
          exact fun F => strong _ F rfl
      exact fun F hF => inner (n - (c + 1)) (c + 1) (by omega) (by omega) F hF fun k h1 h2 => by omega
  exact fun F => key n 0 (by omega) F fun c' i h => by omega
/-! ### products -/
def mulF (n : Nat) (A B : Nat → Nat → Int) : Nat → Nat → Int := fun i j => psum (fun k => A i k * B k j) n
theorem mulF_add {n : Nat} {A B : Nat → Nat → Int} {a b : Nat} {q : Int} : mulF n (setF A a fun x => A a x + q * A b x) B = setF (mulF n A B) a fun x => mulF n A B a x + q * mulF n A B b x := by
  funext i j
  unfold mulF setF
  by_cases h : i = a
  · simp only [if_pos h]
    rw [← psum_mul, ← psum_add]
    exact psum_congr fun k _ => by grind
  · simp only [if_neg h]
theorem mulF_set {n : Nat} {A B : Nat → Nat → Int} {a : Nat} {u : Nat → Int} : mulF n (setF A a u) B = setF (mulF n A B) a fun x => psum (fun k => u k * B k x) n := by
  funext i j
  unfold mulF setF
  by_cases h : i = a
  · simp only [if_pos h]
  · simp only [if_neg h]
theorem mulF_swap {n : Nat} {A B : Nat → Nat → Int} {a b : Nat} : mulF n (swapF A a b) B = swapF (mulF n A B) a b := by
  unfold swapF
  rw [mulF_set, mulF_set]
  rfl
theorem det_mul {n : Nat} (A B : Nat → Nat → Int) : det n (mulF n A B) = det n A * det n B := by
  refine row_ind (n := n) (P := fun A => det n (mulF n A B) = det n A * det n B) (fun F a b q ha hb hab h => ?_) (fun F a b ha hb hab h => ?_) (fun F hF => ?_) A
  · rw [mulF_add, det_add_row ha hb hab, det_add_row ha hb hab] at h; exact h
  · rw [mulF_swap, det_swap ha hb hab, det_swap ha hb hab] at h
    rw [Int.neg_mul] at h; omega
  · rw [det_upper hF]
    have key : ∀ j, j ≤ n → det n (fun i => if i < j then mulF n F B i else B i) = dprod (fun i => F i i) j * det n B := by
      intro j
      induction j with
      | zero => intro _; simp [dprod]
      | succ j ih =>
        intro hj
        rw [dprod, Int.mul_assoc, Int.mul_comm (F j j), ← Int.mul_assoc, ← ih (by omega), Int.mul_comm]
        rw [← det_comb (F := fun i => if i < j then mulF n F B i else B i) (r := j) (by omega) (F j)]
        refine det_congr fun i q hi hq => ?_
        unfold setF
        by_cases h : i = j
        · subst h
          simp only [if_pos (Nat.lt_succ_self i), if_pos]
          unfold mulF
          refine psum_congr fun k hk => ?_
          by_cases hlt : k < i
          · rw [hF k i (by omega) hlt hi]; simp
          · rw [if_neg hlt]
        · simp only [if_neg h]
          by_cases hlt : i < j
          · rw [if_pos hlt, if_pos (by omega)]
          · rw [if_neg hlt, if_neg (by omega)]
    rw [← key n (Nat.le_refl _)]
    exact det_congr fun i j hi hj => by rw [if_pos hi]
def trF (F : Nat → Nat → Int) : Nat → Nat → Int := fun i j => F j i
theorem det_id (n : Nat) : det n dl = 1 := by
  rw [det_upper (fun c' i h1 h2 h3 => by unfold dl; rw [if_neg (by omega)])]
  have : ∀ k, dprod (fun i => dl i i) k = 1 := by
    intro k
    induction k with
    | zero => rfl
    | succ k ih => rw [dprod, ih]; simp [dl]
  exact this n
/-- A column step is a product with a changed unit matrix. -/
theorem det_tr_set {n : Nat} {F : Nat → Nat → Int} {a : Nat} (y : Nat → Int) (ha : a < n) : det n (trF (setF F a fun x => psum (fun k => y k * F k x) n)) = det n (trF F) * det n (trF (setF dl a y)) := by
  rw [← det_mul]
  refine det_congr fun i j hi hj => ?_
  unfold mulF trF setF
  by_cases h : j = a
  · simp only [if_pos h]
    exact psum_congr fun k _ => by grind
  · simp only [if_neg h]
    rw [psum_one hj (fun k hk => by unfold dl; rw [if_neg (Ne.symm hk)]; simp)]
    simp [dl]
theorem det_tr {n : Nat} (F : Nat → Nat → Int) : det n (trF F) = det n F := by
  refine row_ind (n := n) (P := fun F => det n (trF F) = det n F) (fun F a b q ha hb hab h => ?_) (fun F a b ha hb hab h => ?_) (fun F hF => ?_) F
  · rw [det_add_row ha hb hab] at h
    rw [← h]
    have h1 := det_tr_set (n := n) (F := F) (a := a) (fun k => dl k a + q * dl k b) ha
    have h2 : det n (trF (setF dl a fun k => dl k a + q * dl k b)) = 1 := by
      rw [← det_id n, ← det_add_row (F := dl) hb ha (Ne.symm hab) q]
      refine det_congr fun i j hi hj => ?_
      clear h1 h
      simp only [trF, setF_app, dl]
      grind
    rw [h2, Int.mul_one] at h1
    rw [← h1]
    refine det_congr fun i j hi hj => ?_
    unfold trF setF
    by_cases hja : j = a
    · simp only [if_pos hja]
      rw [psum_congr (g := fun k => F k i * dl k a + q * (F k i * dl k b)) (fun k _ => by grind), psum_add, psum_mul]
      rw [psum_one (a := a) ha (fun k hk => by unfold dl; rw [if_neg hk]; simp), psum_one (a := b) hb (fun k hk => by unfold dl; rw [if_neg hk]; simp)]
      simp [dl]
    · simp only [if_neg hja]
  · rw [det_swap ha hb hab] at h
    have h1 : det n (trF (swapF F a b)) = det n (trF F) * det n (swapF dl a b) := by
      rw [← det_mul]
      refine det_congr fun i j hi hj => ?_
      unfold mulF trF
      have hsym : ∀ k, swapF dl a b k j = if j = a then dl k b else if j = b then dl k a else dl k j := by
        intro k
        simp only [swapF_app, dl]
        grind
      rw [psum_congr (g := fun k => F k i * dl k (if j = a then b else if j = b then a else j)) (fun k _ => by rw [hsym]; grind)]
      rw [psum_one (a := if j = a then b else if j = b then a else j) (by grind) (fun k hk => by unfold dl; rw [if_neg hk]; simp)]
      simp only [dl, if_pos, Int.mul_one]
      by_cases h3 : j = a
      · subst h3; rw [swapF_at2, if_pos rfl]
      · rw [if_neg h3]
        by_cases h4 : j = b
        · subst h4; rw [swapF_at, if_pos rfl]
        · rw [swapF_ne _ h3 h4, if_neg h4]
    rw [det_swap ha hb hab, det_id] at h1
    omega
  · rw [det_upper hF, det_lower (F := trF F) (fun i j h1 h2 => hF i j (by omega) h1 h2)]
    rfl
end Go.QF


/-
  Contracts of Residues, Mul and Congruence, of the program and of the reference, for every argument.
-/
namespace Go.Proofs.YtdlfineibanppaaDoor
open Go Go.QF
set_option linter.unusedVariables false
set_option maxRecDepth 100000

end Go.Proofs.YtdlfineibanppaaDoor


/-
  Contracts of the row operations of package modular: scale, eliminator and the function that it returns. Conditions stand in each statement.
-/
namespace Go.Proofs.YtdlfineibanppaaDoor
open Go Go.QF
set_option linter.unusedVariables false
set_option maxRecDepth 100000

/-- A row by its index. -/
def zf (z : List Int) (c : Nat) : Int := z[c]?.getD 0
theorem range_zf (z : List Int) : (List.range z.length).map (zf z) = z := by
  refine List.ext_getElem (by simp) fun i h1 h2 => ?_
  simp [zf, h2]
theorem zf_bd {z : List Int} {m : Int} (hm : 0 < m) (h : ∀ x ∈ z, 0 ≤ x ∧ x < m) (c : Nat) : 0 ≤ zf z c ∧ zf z c < m := by
  unfold zf
  rcases Nat.lt_or_ge c z.length with hc | hc
  · simp [hc]; exact h _ (List.getElem_mem _)
  · simp [List.getElem?_eq_none hc, hm]

theorem scale_ok {h : Heap} {g : Nat} {v : Value} {z : List Int} (HO : OwnA h tI g v (z.map (.int .i64))) {f m : Int} (hz : ∀ x ∈ z, 0 ≤ x ∧ x < m) (hf : 0 ≤ f) (hfm : f < m) (hm : 2 ≤ m) (hm2 : m ≤ 2147483647) (hl : z.length ≤ 1000000) :
    CallH Tryd.prog 50 #[v, .int .i64 f, .int .i64 m] h fun r h' => Upd (· = g) h h' ∧ OwnA h' tI g v (((List.range z.length).map fun c => zf z c * f % m).map (.int .i64)) := by
  refine calls_of_W (l := [_, _, _]) mx Tryd.func50 rfl rfl rfl rfl rfl (by kernel_rfl) ?_
  refine w_seq ?_
  refine w_reg ?_
  refine r_mv (r_leni sl_I64 rfl HO.sl (r_mv (r_nil (q_t ?_))))
  refine w_block ?_
  refine w_loop 16776384 (fun j : Nat => [(10, .int .i64 (j : Int))]) (fun k j h' => Upd (· = g) h h' ∧ k = z.length - j ∧ j ≤ z.length ∧ OwnA h' tI g v ((mixR z.length (fun c => zf z c * f % m) (zf z) j).map (.int .i64))) (by kernel_rfl) z.length 0 ?_ ⟨rfl, trivial⟩ ?_
  · exact ⟨Upd.refl _ _, by omega, by omega, by rw [mixR_zero, range_zf]; exact HO⟩
  rintro k j s h1 ⟨hU, rfl, hj, HQ⟩
  refine w_seq ?_
  refine w_reg ?_
  refine r_lss rfl rfl (fun hc1 => ?_) (fun hc1 => ?_)   -- t11 := binOp lss 3 t10 t9 3
  · skip
    refine r_nil (q_t ?_)
    refine w_seq ?_
    refine w_true rfl ?_
    refine w_skip (q_t ?_)
    refine w_seq ?_
    refine w_block ?_
    refine w_seq ?_
    refine w_reg ?_
    refine r_mv (r_ixi sl_I64 rfl HQ.sl rfl (mixR_at (by omega)) fun aX haX => ?_)
    refine r_ld na_i64 rfl haX (r_as (r_as (r_nil (q_t ?_))))
    have hxb := zf_bd (by omega) hz j
    have hxf := mul_bd (a := zf z j) (b := f) (A := 2147483647) (B := 2147483647) (by omega) (by omega) (by omega) (by omega)
    refine w_reg ?_
    refine r_mv (r_mv (r_mv (r_mv (r_mulb rfl rfl (by omega) (by omega) (r_mv (r_remp rfl rfl (by omega) (by omega) (r_ixo sl_I64 rfl HQ rfl (by rw [List.length_map, mixR_len]; omega) ?_)))))))
    refine r_sto na_i64 rfl rfl rfl HQ (by rw [List.length_map, mixR_len]; omega) ?_
    have HQ2 := HQ.setI (j := j) (by rw [mixR_len]; omega) (zf z j * f % m)
    rw [mixR_set (by omega) rfl] at HQ2
    refine r_nil (q_b (q_t ?_))
    refine w_reg ?_
    refine r_inc rfl (by omega) (r_mv (r_nil (q_t ?_)))
    exact ⟨z.length - (j + 1), j + 1, by omega, ⟨hU.trans (upd_set _ _ _), rfl, by omega, HQ2⟩, rfl, trivial⟩
  · skip
    refine r_nil (q_t ?_)
    refine w_seq ?_
    refine w_false rfl ?_
    refine w_exit (q_tx (q_tx (q_bx ?_)))
    refine ⟨_, retV_none, ?_⟩
    rw [mixR_all _ _ (by omega)] at HQ
    exact ⟨hU, HQ⟩

theorem eliminate_ok {h : Heap} {g gr : Nat} {vt vr : Value} {t r : List Int} {a : Addr} (HT : OwnA h tI g vt (t.map (.int .i64))) (HR : OwnA h tI gr vr (r.map (.int .i64))) (hne : g ≠ gr) (htr : t.length = r.length) {f m : Int} (hb : cellH h a = some (.int .i64 m)) (hab : a.block ≠ g)
    (ht : ∀ x ∈ t, 0 ≤ x ∧ x < m) (hr : ∀ x ∈ r, 0 ≤ x ∧ x < m) (hf : 0 ≤ f) (hfm : f < m) (hm : 2 ≤ m) (hm2 : m ≤ 2147483647) (hl : r.length ≤ 1000000) :
    CallH Tryd.prog 70 #[vt, vr, .int .i64 f, .pointer (some a)] h fun _ h' => Upd (· = g) h h' ∧ OwnA h' tI g vt (((List.range r.length).map fun c => (zf t c + (m - f) * zf r c) % m).map (.int .i64)) := by
  refine calls_of_W (l := [_, _, _, _]) mx Tryd.func70 rfl rfl rfl rfl rfl (by kernel_rfl) ?_
  refine w_seq ?_
  refine w_reg ?_
  refine r_mv (r_leni sl_I64 rfl HR.sl (r_mv (r_nil (q_t ?_))))
  refine w_block ?_
  refine w_loop 4294965632 (fun j : Nat => [(11, .int .i64 (j : Int))]) (fun k j h' => Upd (· = g) h h' ∧ k = r.length - j ∧ j ≤ r.length ∧ OwnA h' tI g vt ((mixR r.length (fun c => (zf t c + (m - f) * zf r c) % m) (zf t) j).map (.int .i64))) (by kernel_rfl) r.length 0 ?_ ⟨rfl, trivial⟩ ?_
  · exact ⟨Upd.refl _ _, by omega, by omega, by rw [mixR_zero, ← htr, range_zf]; exact HT⟩
  rintro k j s h1 ⟨hU, rfl, hj, HQ⟩
  have HRc := HR.upd hU (fun he => hne he.symm)
  have hbx := cellH_upd hb hU (fun he => hab he)
  refine w_seq ?_
  refine w_reg ?_
  refine r_lss rfl rfl (fun hc1 => ?_) (fun hc1 => ?_)   -- t12 := binOp lss 3 t11 t10 3
  · skip
    refine r_nil (q_t ?_)
    refine w_seq ?_
    refine w_true rfl ?_
    refine w_skip (q_t ?_)
    refine w_seq ?_
    refine w_block ?_
    refine w_seq ?_
    refine w_reg ?_
    refine r_mv (r_ixi sl_I64 rfl HRc.sl rfl (show r[j]? = some (zf r j) by rw [zf, List.getElem?_eq_getElem (by omega)]; rfl) fun aX haX => ?_)
    refine r_ld na_i64 rfl haX (r_as (r_as (r_nil (q_t ?_))))
    have hxb := zf_bd (by omega) hr j
    have htb := zf_bd (by omega) ht j
    have hxf := mul_bd (a := m - f) (b := zf r j) (A := 2147483647) (B := 2147483647) (by omega) (by omega) (by omega) (by omega)
    refine w_draw (by kernel_rfl) ?_
    refine r_mv (r_mv (r_mv (r_mv (r_ixi sl_I64 rfl HQ.sl rfl (mixR_at (by omega)) fun aT haT => ?_))))
    refine r_ld na_i64 rfl haT (r_ld na_i64 rfl hbx (r_mv (r_subb rfl rfl (by omega) (by omega) (r_mv (r_mulb rfl rfl (by omega) (by omega) (r_addb rfl rfl (by omega) (by omega) (r_ld na_i64 rfl hbx (r_remp rfl rfl (by omega) (by omega) (r_ixo sl_I64 rfl HQ rfl (by rw [List.length_map, mixR_len]; omega) ?_)))))))))
    refine r_sto na_i64 rfl rfl rfl HQ (by rw [List.length_map, mixR_len]; omega) ?_
    have HQ2 := HQ.setI (j := j) (by rw [mixR_len]; omega) ((zf t j + (m - f) * zf r j) % m)
    rw [mixR_set (by omega) rfl] at HQ2
    refine r_nil (q_b (q_t ?_))
    refine w_reg ?_
    refine r_inc rfl (by omega) (r_mv (r_nil (q_t ?_)))
    exact ⟨r.length - (j + 1), j + 1, by omega, ⟨hU.trans (upd_set _ _ _), rfl, by omega, HQ2⟩, rfl, trivial⟩
  · skip
    refine r_nil (q_t ?_)
    refine w_seq ?_
    refine w_false rfl ?_
    refine w_exit (q_tx (q_tx (q_bx ?_)))
    refine ⟨_, retV_none, ?_⟩
    rw [mixR_all _ _ (by omega)] at HQ
    exact ⟨hU, HQ⟩

theorem eliminator_ok (m : Int) (h : Heap) : CallH Tryd.prog 48 #[.int .i64 m] h fun v h' => h' = h.push (.cells #[.int .i64 m] tI (0, 0)) ∧ v = .func (.func 70) #[] #[.pointer (some ⟨h.size, 0, none⟩)] := by
  refine calls_of_W (l := [_]) mx Tryd.func48 rfl rfl rfl rfl rfl (by kernel_rfl) ?_
  refine w_seq ?_
  refine w_reg ?_
  refine r_box trivial rfl ⟨trivial, ?_⟩
  refine r_as (r_nil (q_t ?_))
  refine w_seq ?_
  refine w_reg ?_
  refine r_mf (l := [.pointer (some ⟨h.size, 0, none⟩)]) rfl ?_
  refine r_as (r_nil (q_t ?_))
  refine w_ret ?_
  refine ⟨_, retV_1, ?_⟩
  exact ⟨rfl, rfl⟩

end Go.Proofs.YtdlfineibanppaaDoor


/-
  Contracts of echelon, Echelon, Rank of package modular. Conditions stand in each statement.
-/
namespace Go.Proofs.YtdlfineibanppaaDoor
open Go Go.QF
set_option linter.unusedVariables false
set_option maxRecDepth 100000

theorem zf_range {c : Nat} {g : Nat → Int} {q : Nat} (hq : q < c) : zf ((List.range c).map g) q = g q := by simp [zf, hq]
theorem range_at {α : Type} {c : Nat} {g : Nat → α} {q : Nat} (hq : q < c) : ((List.range c).map g)[q]? = some (g q) := by simp [hq]
theorem range_congr {α : Type} {c : Nat} {f g : Nat → α} (h : ∀ q, q < c → f q = g q) : (List.range c).map f = (List.range c).map g := List.map_congr_left fun q hq => h q (by simpa using hq)
theorem scale_row {c : Nat} {g : Nat → Int} {f m : Int} : (List.range ((List.range c).map g).length).map (fun q => zf ((List.range c).map g) q * f % m) = (List.range c).map fun q => g q * f % m := by
  rw [List.length_map, List.length_range]
  exact range_congr fun q hq => by rw [zf_range hq]
theorem elim_row {c : Nat} {g k : Nat → Int} {f m : Int} : (List.range ((List.range c).map g).length).map (fun q => (zf ((List.range c).map k) q + (m - f) * zf ((List.range c).map g) q) % m) = (List.range c).map fun q => (k q + (m - f) * g q) % m := by
  rw [List.length_map, List.length_range]
  exact range_congr fun q hq => by rw [zf_range hq, zf_range hq]
def natV (x : Nat) : Value := .int .i64 (x : Int)
/-- What holds in the elimination: the matrix, the pivots, the number in the closure's box; nothing else of old memory has turned. -/
def EchI (h h' : Heap) (b : Nat) (gs : List Nat) (v : Value) (r c : Nat) (p : Int) (F : Nat → Nat → Int) (pv : Value) (piv : List Nat) (gs' : List Nat) : Prop :=
  Upd (· ∈ b :: gs) h h' ∧ PartM h' tR tI b gs' v r (tab r c F) ∧ (∀ g ∈ gs', g ∈ gs) ∧ Gro h' 3 (h.size + 1) pv (piv.map natV) ∧ cellH h' ⟨h.size, 0, none⟩ = some (.int .i64 p) ∧ h.size + 1 ≤ h'.size
theorem EchI.turn {h h1 h2 : Heap} {b : Nat} {gs gs1 gs2 : List Nat} {v pv : Value} {r c : Nat} {p : Int} {F F2 : Nat → Nat → Int} {piv : List Nat} (H : EchI h h1 b gs v r c p F pv piv gs1) (hlt : ∀ g ∈ b :: gs, g < h.size) {g : Nat} (hU : Upd (· = g) h1 h2) (hg : g ∈ b :: gs)
    (HP : PartM h2 tR tI b gs2 v r (tab r c F2)) (hs : ∀ g ∈ gs2, g ∈ gs) : EchI h h2 b gs v r c p F2 pv piv gs2 := by
  obtain ⟨h3, h4, h5, h6, h7, h8⟩ := H
  have hgl := hlt g hg
  refine ⟨h3.trans (hU.mono fun k _ hk => by have hk2 : k = g := hk; rw [hk2]; exact hg), HP, hs, h6.upd hU (fun k hk he => by have he2 : k = g := he; have := (h6.blk k hk).1; omega), cellH_upd h7 hU (fun he => by have he2 : h.size = g := he; omega), Nat.le_trans h8 hU.1⟩
theorem EchI.push {h h1 h2 : Heap} {b : Nat} {gs gs1 : List Nat} {v pv pv2 : Value} {r c : Nat} {p : Int} {F : Nat → Nat → Int} {piv : List Nat} {j : Nat} (H : EchI h h1 b gs v r c p F pv piv gs1) (hlt : ∀ g ∈ b :: gs, g < h.size) (HG : Gro h2 3 (h.size + 1) pv2 (piv.map natV ++ [natV j])) (hU : Upd (fun k => pv.ownBlock = some k) h1 h2) :
    EchI h h2 b gs v r c p F pv2 (piv ++ [j]) gs1 := by
  obtain ⟨h3, h4, h5, h6, h7, h8⟩ := H
  refine ⟨⟨Nat.le_trans h3.1 hU.1, fun k hk hs => (hU.2 k (Nat.lt_of_lt_of_le hk h3.1) (fun he => by have := (h6.blk k he).1; omega)).trans (h3.2 k hk hs)⟩, ?_, h5, by rw [List.map_append]; exact HG, ?_, Nat.le_trans h8 hU.1⟩
  · exact h4.upd hU (fun g hg he => by
      have := (h6.blk g he).1
      have : g ∈ b :: gs := by
        rcases List.mem_cons.1 hg with rfl | hg
        · exact List.mem_cons_self ..
        · exact List.mem_cons_of_mem _ (h5 g hg)
      have := hlt g this
      omega)
  · exact cellH_upd h7 hU (fun he => by have := (h6.blk _ he).1; dsimp only at this; omega)
theorem Mat.take {h : Heap} {a : Option Addr} {n cap k : Nat} {M : List (List Int)} (H : Mat h (.slice a n cap) M) (hk : k ≤ M.length) : Mat h (.slice a k cap) (M.take k) := by
  obtain ⟨rs, ⟨a', cap', hv, hc⟩, h2, h3⟩ := H
  injection hv with ha hn hcap
  subst ha; subst hcap
  refine ⟨rs.take k, ⟨a, cap, by rw [List.length_take, Nat.min_eq_left (by omega)], fun i x hx => ?_⟩, by simp [h2], fun i r z hr hz => ?_⟩
  · rw [List.getElem?_take] at hx
    split at hx
    · exact hc i x hx
    · cases hx
  · rw [List.getElem?_take] at hr hz
    split at hr
    · rename_i hi
      rw [if_pos hi] at hz
      exact h3 i r z hr hz
    · cases hr
theorem tab_take {r c k : Nat} {F : Nat → Nat → Int} (hk : k ≤ r) : (tab r c F).take k = tab k c F := by
  unfold tab
  rw [← List.map_take, List.take_range, Nat.min_eq_left hk]
section
variable {P : Program} {B : Heap → Prop} {st : Bool} {ops : Array Oper} {rest : List Oper} {e : Env} {h : Heap} {K : Env → Heap → Prop}
variable {d : Nat} {ty : TypeId} {pos : String} {af : Array Edge}
theorem r_lenc {x : Operand} {t el s c : Nat} {v : Value} {g : Nat → Int} (hT : SlT P t el s) (hx : e.ev x = v) (HI : Ints h v ((List.range c).map g)) (H : RL P B st ops rest (e.set d (.int .i64 (c : Int))) h K) :
    RL P B st ops (⟨some d, .call ⟨.builtin .len, #[x], #[t]⟩, ty, pos, af, none⟩ :: rest) e h K := by
  refine r_leni hT hx HI ?_
  rw [List.length_map, List.length_range]; exact H
end
theorem PartM.nodup {h : Heap} {er ei b n : Nat} {gs : List Nat} {v : Value} {M : List (List Int)} (H : PartM h er ei b gs v n M) : (b :: gs).Nodup := let ⟨_, _, _, _, _, _, h⟩ := H; h
theorem PartM.slice {h : Heap} {er ei b n : Nat} {gs : List Nat} {v : Value} {M : List (List Int)} (H : PartM h er ei b gs v n M) : ∃ cap, v = .slice (some ⟨b, 0, none⟩) n cap ∧ n ≤ cap := by
  obtain ⟨rs, ⟨cap, cur, hv, _, hl, _⟩, h2, _⟩ := H
  exact ⟨cap, by rw [← h2]; exact hv, by omega⟩

theorem echelon_ok {h : Heap} {b : Nat} {gs : List Nat} {v : Value} {r c : Nat} {F : Nat → Nat → Int} {p : Int} (HP0 : PartM h tR tI b gs v r (tab r c F)) (hr : 0 < r) (hr2 : r ≤ 1000000) (hc2 : c ≤ 1000000) (hp : Pr p) (hp2 : p ≤ 2147483647) (hbd : Bd r c p F) :
    CallH Tryd.prog 42 #[v, .int .i64 p] h fun x h' => Upd (· ∈ b :: gs) h h' ∧ ∃ vr vp, x = .tuple #[vr, vp] ∧ Mat h' vr (tab (echTo (invM p) r p F c).2.length c (echTo (invM p) r p F c).1) ∧ Sl h' vp ((echTo (invM p) r p F c).2.map natV) := by
  have hp1 := hp.1
  have HP := HP0
  refine calls_of_W (l := [_, _]) mx Tryd.func42 rfl rfl rfl rfl rfl (by kernel_rfl) ?_
  refine w_seq ?_
  refine w_reg ?_
  refine r_as (r_as (r_nil (q_t ?_)))
  refine w_seq ?_
  refine w_reg ?_
  refine r_mv (r_call trivial rfl (eliminator_ok p h) fun fv h1 hk => ?_)
  obtain ⟨rfl, rfl⟩ := hk
  refine ⟨trivial, ?_⟩
  have hpush := ext_push h (.cells #[.int .i64 p] tI (0, 0))
  have HP := PartM.ext HP hpush
  refine r_as (r_nil (q_t ?_))
  refine w_seq ?_
  refine w_reg ?_
  refine r_as (r_nil (q_t ?_))
  refine w_seq ?_
  refine w_seq ?_
  refine w_reg ?_
  refine r_mv (r_lenp sl_MM rfl HP (r_eql rfl rfl (fun hc1 => ?_) (fun hc1 => ?_)))   -- t18 := binOp eql 3 t17 0:i64 3
  · skip
    refine r_nil (q_t ?_)
    refine w_true rfl ?_
    refine w_seq ?_
    refine w_reg ?_
    refine r_as (r_as (r_nil (q_t ?_)))
    refine w_ret (q_tr ?_)
    refine ⟨_, retV_2, ?_⟩
    exact absurd hc1 (by omega)
  · skip
    refine r_nil (q_t ?_)
    refine w_false rfl ?_
    refine w_skip (q_t ?_)
    refine w_seq ?_
    refine w_seq ?_
    have hr0 : 0 < r := hr
    refine w_reg ?_
    refine r_mv (r_ixp (j := 0) sl_MM rfl HP rfl (tab_row (by omega)) fun aZ rZ gZ haZ hgZ hrZ => ?_)
    refine r_ld na_I64 rfl haZ (r_lenc sl_I64 rfl hrZ.sl ?_)
    refine r_mv (r_nil (q_t ?_))
    refine w_block ?_
    have hlt := PartM.lt HP0
    refine w_loop 10384593717069655257060992650067840 (fun y : Nat × Value => [(23, .int .i64 (y.1 : Int)), (7, y.2)]) (fun k y h' => k = c - y.1 ∧ y.1 ≤ c ∧ ∃ gs', EchI h h' b gs v r c p (echTo (invM p) r p F y.1).1 y.2 (echTo (invM p) r p F y.1).2 gs') (by kernel_rfl) c (0, .slice none 0 0) ?_ ⟨rfl, rfl, trivial⟩ ?_
    · refine ⟨rfl, by omega, gs, hpush.upd, HP, fun g hg => hg, gro_nil _ _ _, ?_, by simp⟩
      simp [cellH]
    rintro k ⟨j, pv⟩ s1 h3 ⟨rfl, hj, gs3, HIj0⟩
    dsimp only at hj HIj0 ⊢
    have hpl0 := piv_le (rc := invM p) (r := r) (m := p) (F := F) j
    refine w_seq ?_
    refine w_reg ?_
    refine r_lss rfl rfl (fun hc2 => ?_) (fun hc2 => ?_)   -- t24 := binOp lss 3 t23 t22 3
    · skip
      refine r_nil (q_t ?_)
      refine w_seq ?_
      refine w_true rfl ?_
      refine w_skip (q_t ?_)
      refine w_seq ?_
      refine w_block ?_
      refine w_seq ?_
      refine w_reg ?_
      refine r_mv (r_as (r_nil (q_t ?_)))
      refine w_seq ?_
      refine w_reg ?_
      refine r_mv (r_lens sl_II rfl HIj0.2.2.2.1.sl (r_as (r_nil (q_t ?_))))
      refine w_seq ?_
      have HIj := HIj0
      obtain ⟨Fj, hFj⟩ : ∃ Fj, (echTo (invM p) r p F j).1 = Fj := ⟨_, rfl⟩
      obtain ⟨piv, hpiv⟩ : ∃ piv, (echTo (invM p) r p F j).2 = piv := ⟨_, rfl⟩
      have hbdj : Bd r c p Fj := hFj ▸ bd_ech (by omega) hbd j
      have hpl := piv_le (rc := invM p) (r := r) (m := p) (F := F) j
      rw [hpiv] at hpl
      rw [hFj, hpiv] at HIj
      obtain ⟨top, htop⟩ : ∃ top, piv.length = top := ⟨_, rfl⟩
      rw [htop] at hpl
      simp only [hpiv, List.length_map, htop]
      have HPj := HIj.2.1
      refine w_reg ?_
      refine r_mv (r_as (r_nil (q_t ?_)))
      refine w_join 35183835218944 (fun i : Nat => [(10, .int .i64 (i : Int))]) (fun i h' => h' = h3 ∧ i = firstNZ Fj j (r - top) top ∧ i ≤ r) (by kernel_rfl) ?_ ?_
      · skip
        refine w_block ?_
        refine w_loop 35183835218944 (fun i : Nat => [(10, .int .i64 (i : Int))]) (fun k i h' => h' = h3 ∧ k = r - i ∧ top ≤ i ∧ i ≤ r ∧ ∀ q, top ≤ q → q < i → Fj q j = 0) (by kernel_rfl) (r - top) top ?_ ⟨rfl, trivial⟩ ?_
        · exact ⟨rfl, rfl, by omega, by omega, fun q h1 h2 => by omega⟩
        rintro k i s2 h3' ⟨rfl, rfl, hti, hi, hz⟩
        refine w_seq ?_
        refine w_seq ?_
        refine w_reg ?_
        refine r_mv (r_mv (r_lenp sl_MM rfl HPj (r_lss rfl rfl (fun hc3 => ?_) (fun hc3 => ?_))))   -- t32 := binOp lss 3 t29 t31 3
        · skip
          refine r_mv (r_want 33 true (by kernel_rfl) rfl rfl (r_mv (r_want 33 true (by kernel_rfl) rfl rfl (r_mv (r_want 33 true (by kernel_rfl) rfl rfl (r_ixp sl_MM rfl HPj rfl (tab_row (by omega)) fun aA rA gA haA hgA hrA => ?_))))))
          refine r_want 33 true (by kernel_rfl) rfl rfl (r_ld na_I64 rfl haA (r_want 33 true (by kernel_rfl) rfl rfl (r_mv (r_want 33 true (by kernel_rfl) rfl rfl (r_ixi sl_I64 rfl hrA.sl rfl (range_at (by omega)) fun aB haB => ?_)))))
          refine r_want 33 true (by kernel_rfl) rfl rfl (r_ld na_i64 rfl haB (r_want 33 true (by kernel_rfl) rfl rfl (r_eql rfl rfl (fun hc4 => ?_) (fun hc4 => ?_))))   -- t41 := binOp eql 2 t40 0:i64 2   [guard op4 true]
          · skip
            refine r_pickT rfl (r_nil (q_t ?_))
            refine w_true rfl ?_
            refine w_skip (q_t ?_)
            refine w_block ?_
            refine w_reg ?_
            refine r_mv (r_inc rfl (by omega) (r_as (r_nil (q_b (q_t ?_)))))
            refine ⟨r - (i + 1), i + 1, by omega, ⟨rfl, rfl, by omega, by omega, fun q h1 h2 => ?_⟩, rfl, trivial⟩
            rcases Nat.lt_or_ge q i with hq | hq
            · exact hz q h1 hq
            · obtain rfl : q = i := by omega
              exact hc4
          · skip
            refine r_pickT rfl (r_nil (q_t ?_))
            refine w_false rfl ?_
            refine w_exit (q_tx (q_tx (q_bx (q_t ?_))))
            exact ⟨i, ⟨rfl, (firstNZ_uniq hti (by omega) hz (fun _ => hc4)).symm, by omega⟩, rfl, trivial⟩
        · skip
          refine r_mv (r_skip 33 false (by kernel_rfl) rfl rfl (r_skip 33 false (by kernel_rfl) rfl rfl (r_skip 33 false (by kernel_rfl) rfl rfl (r_skip 33 false (by kernel_rfl) rfl rfl (r_skip 33 false (by kernel_rfl) rfl rfl (r_skip 33 false (by kernel_rfl) rfl rfl (r_skip 33 false (by kernel_rfl) rfl rfl (r_skip 33 false (by kernel_rfl) rfl rfl (r_pickF rfl (r_nil (q_t ?_)))))))))))
          refine w_false rfl ?_
          refine w_exit (q_tx (q_tx (q_bx (q_t ?_))))
          exact ⟨i, ⟨rfl, (firstNZ_uniq hti (by omega) hz (fun hlt => absurd hlt (by omega))).symm, by omega⟩, rfl, trivial⟩
      rintro i s2 h3' ⟨rfl, hi, hir⟩
      refine w_seq ?_
      refine w_seq ?_
      refine w_reg ?_
      refine r_mv (r_mv (r_lenp sl_MM rfl HPj (r_eql rfl rfl (fun hc5 => ?_) (fun hc5 => ?_))))   -- t48 := binOp eql 3 t45 t47 3
      · skip
        refine r_nil (q_t ?_)
        refine w_true rfl ?_
        refine w_exit (q_tx (q_bx (q_t ?_)))
        refine w_reg ?_
        refine r_inc rfl (by omega) (r_mv (r_nil (q_t ?_)))
        have hS : echTo (invM p) r p F (j + 1) = echTo (invM p) r p F j := by
          simp only [echTo, colS]
          rw [hFj, hpiv, htop, ← hi, if_neg (by omega)]
        refine ⟨c - (j + 1), (j + 1, pv), by first | omega | (dsimp only; omega), ⟨rfl, by first | omega | (dsimp only; omega), gs3, ?_⟩, rfl, rfl, trivial⟩
        dsimp only
        rw [hS]
        exact HIj0
      · skip
        refine r_nil (q_t ?_)
        refine w_false rfl ?_
        refine w_skip (q_t ?_)
        refine w_seq ?_
        have hir : i < r := by omega
        have hti : top ≤ i := by rw [hi]; exact (firstNZ_le Fj j (r - top) top).1
        have htr : top < r := by omega
        refine w_draw (by kernel_rfl) ?_
        refine r_mv (r_mv (r_mv (r_mv (r_mv (r_mv (r_ixp sl_MM rfl HPj rfl (tab_row (by omega)) fun aI rI gI haI hgI hrI => ?_))))))
        refine r_ld na_I64 rfl haI (r_mv (r_mv (r_ixp sl_MM rfl HPj rfl (tab_row (by omega)) fun aT rT gT haT hgT hrT => ?_)))
        refine r_ld na_I64 rfl haT ?_
        obtain ⟨rs, HT, hrl⟩ := PartM.top HPj
        refine r_ixo sl_MM rfl HT rfl (by omega) ?_
        refine r_sto na_I64 rfl rfl hrI.one HT (by omega) ?_
        have HT2 := HT.set top rI (by omega)
        refine r_ixo sl_MM rfl HT2 rfl (by simp; omega) ?_
        refine r_sto na_I64 rfl rfl hrT.one HT2 (by simp; omega) ?_
        have HP2 := PartM.swap HPj hgT hgI (tab_row htr) (tab_row hir) hrT hrI
        rw [tab_setF, tab_setF] at HP2
        have HI2 := HIj.turn hlt ((upd_set _ ⟨b, top, none⟩ rI).trans (upd_set _ ⟨b, i, none⟩ rT)) (List.mem_cons_self ..) (F2 := swapF Fj top i) HP2 (fun g hg => HIj.2.2.1 g (mem_swap hgT hgI hg))
        have HP2 := HI2.2.1
        have hbd2 := bd_swap hbdj htr hir
        have hx0 : swapF Fj top i top j ≠ 0 := by
          have : swapF Fj top i top = Fj i := by unfold swapF; by_cases he : top = i
                                                 · subst he; rw [setF_same]
                                                 · rw [setF_ne _ _ he, setF_same]
          rw [this, hi]; exact firstNZ_ne Fj j (r - top) top (by omega)
        have hxb := hbd2 top j htr (by omega)
        refine r_nil (q_t ?_)
        refine w_seq ?_
        refine w_reg ?_
        refine r_mv (r_mv (r_ixp sl_MM rfl HP2 rfl (tab_row (by omega)) fun aR rR gR haR hgR hrR => ?_))
        refine r_ld na_I64 rfl haR (r_mv (r_ixi sl_I64 rfl hrR.sl rfl (range_at (by omega)) fun aX haX => ?_))
        refine r_ld na_i64 rfl haX (r_mv (r_call trivial rfl (reciprocal_ok (x := swapF Fj top i top j) (m := p) (by omega) (by omega) (by omega) hp2 _) fun rv h4 hk => ?_))
        obtain ⟨rfl, inv, ok, rfl, hi0, him, hok, hno⟩ := hk
        refine ⟨trivial, ?_⟩
        have hinv : inv = invM p (swapF Fj top i top j) := by
          have hex := isInv_exists hp (x := swapF Fj top i top j) (by omega) (by omega)
          cases ok with
          | true => exact (invM_eq (hok rfl)).symm
          | false => exact absurd hex (hno rfl)
        refine r_mv (r_ext rfl rfl (r_ext rfl rfl (r_as (r_as (r_nil (q_t ?_))))))
        refine w_seq ?_
        refine w_reg ?_
        refine r_mv (r_mv (r_ixp sl_MM rfl HP2 rfl (tab_row (by omega)) fun aS rS gS haS hgS hrS => ?_))
        refine r_ld na_I64 rfl haS (r_mv (r_mv (r_call trivial rfl (scale_ok hrS (row_bd hbd2 (by omega)) hi0 him (by omega) hp2 (by simp; omega)) fun sv h5 hk => ?_)))
        obtain ⟨hU5, HO5⟩ := hk
        refine ⟨trivial, ?_⟩
        rw [scale_row] at HO5
        have HP5 := PartM.setRow' HI2.2.1 hgS hU5 (tab_row (by omega)) hrS HO5
        rw [tab_setF] at HP5
        have HP2x := HP5
        have HI5 := HI2.turn hlt hU5 (List.mem_cons_of_mem _ (HI2.2.2.1 _ (List.mem_of_getElem? hgS))) (F2 := scaleF (swapF Fj top i) top inv p) HP5 HI2.2.2.1
        refine r_nil (q_t ?_)
        refine w_seq ?_
        refine w_seq ?_
        have HP2 := HI5.2.1
        have hbd5 := bd_scale (a := top) (f := inv) (by omega : 0 < p) hbd2
        refine w_reg ?_
        refine r_mv (r_lenp sl_MM rfl HP2 (r_mv (r_nil (q_t ?_))))
        refine w_block ?_
        refine w_loop 324518534315613612949089225285632 (fun q : Nat => [(84, .int .i64 (q : Int))]) (fun k q h' => k = r - q ∧ q ≤ r ∧ EchI h h' b gs v r c p (elimF (scaleF (swapF Fj top i) top inv p) top j p q) pv piv ((gs3.set top gI).set i gT)) (by kernel_rfl) r 0 ?_ ⟨rfl, trivial⟩ ?_
        · exact ⟨rfl, by omega, by rw [elimF_zero]; exact HI5⟩
        rintro k q s3 h6 ⟨rfl, hq, HIk⟩
        have HPk := HIk.2.1
        refine w_seq ?_
        refine w_reg ?_
        refine r_lss rfl rfl (fun hc6 => ?_) (fun hc6 => ?_)   -- t85 := binOp lss 3 t84 t83 3
        · skip
          refine r_nil (q_t ?_)
          refine w_seq ?_
          refine w_true rfl ?_
          refine w_skip (q_t ?_)
          refine w_seq ?_
          refine w_block ?_
          refine w_seq ?_
          refine w_reg ?_
          refine r_mv (r_as (r_nil (q_t ?_)))
          refine w_seq ?_
          refine w_reg ?_
          refine r_mv (r_mv (r_neq rfl rfl (fun hc7 => ?_) (fun hc7 => ?_)))   -- t89 := binOp neq 3 t87 t88 3
          · skip
            refine r_nil (q_t ?_)
            refine w_true rfl ?_
            have hbk := bd_elim (k := q) (top := top) (j := j) (by omega : 0 < p) hbd5
            have hY := hbk q j (by omega) (by omega)
            refine w_draw (by kernel_rfl) ?_
            refine r_mv (r_mv (r_mv (r_ixp sl_MM rfl HPk rfl (tab_row (by omega)) fun aK rK gK haK hgK hrK => ?_)))
            refine r_ld na_I64 rfl haK (r_mv (r_mv (r_ixp sl_MM rfl HPk rfl (tab_row (by omega)) fun aL rL gL haL hgL hrL => ?_)))
            refine r_ld na_I64 rfl haL ?_
            have hgKm : gK ∈ b :: gs := List.mem_cons_of_mem _ (HIk.2.2.1 _ (List.mem_of_getElem? hgK))
            have hneKL : gK ≠ gL := fun he => absurd (nodup_getElem?_inj (List.nodup_cons.1 (PartM.nodup HIk.2.1)).2 hgK (he ▸ hgL)) (by omega)
            refine r_mv ?_
            refine r_mv (r_ixp sl_MM rfl HPk rfl (tab_row (by omega)) fun aN rN gN haN hgN hrN => ?_)
            refine r_ld na_I64 rfl haN (r_mv (r_ixi sl_I64 rfl hrN.sl rfl (range_at (by omega)) fun aY haY => ?_))
            refine r_ld na_i64 rfl haY (r_callc trivial rfl rfl (eliminate_ok (a := ⟨h.size, 0, none⟩) hrK hrL (hneKL) (by simp) HIk.2.2.2.2.1 (by have := hlt _ hgKm; dsimp only; omega) (row_bd hbk (by omega)) (row_bd hbk (by omega)) hY.1 hY.2 (by omega) hp2 (by simp; omega)) fun ev h7 hk => ?_)
            obtain ⟨hU7, HO7⟩ := hk
            refine ⟨trivial, ?_⟩
            rw [elim_row] at HO7
            have HP7 := PartM.setRow' HIk.2.1 hgK hU7 (tab_row (by omega)) hrK HO7
            rw [tab_setF] at HP7
            simp only [elimF_at, elimF_top] at HP7
            rw [elimF_step (by omega)] at HP7
            have HI7 := HIk.turn hlt hU7 (hgKm) HP7 HIk.2.2.1
            refine r_nil (q_b (q_t ?_))
            refine w_reg ?_
            refine r_inc rfl (by omega) (r_mv (r_nil (q_t ?_)))
            exact ⟨r - (q + 1), q + 1, by omega, ⟨rfl, by omega, HI7⟩, rfl, trivial⟩
          · skip
            refine r_nil (q_t ?_)
            refine w_false rfl ?_
            refine w_skip (q_b (q_t ?_))
            refine w_reg ?_
            refine r_inc rfl (by omega) (r_mv (r_nil (q_t ?_)))
            obtain rfl : q = top := by omega
            exact ⟨r - (q + 1), q + 1, by omega, ⟨rfl, by omega, by rw [elimF_skip]; exact HIk⟩, rfl, trivial⟩
        · skip
          refine r_nil (q_t ?_)
          refine w_seq ?_
          refine w_false rfl ?_
          refine w_exit (q_tx (q_tx (q_bx (q_t ?_))))
          refine w_reg ?_
          refine r_mv (r_mv ?_)
          have hqr : q = r := by omega
          rw [hqr] at HIk
          have HG := HIk.2.2.2.1
          refine r_push sl_II ze_int rfl (fun _ => trivial) (fun _ => rfl) rfl rfl HG HIk.2.2.2.2.2 (by omega) (by simp; omega) fun p' pv2 h8 HG8 hU8 hb8 => ?_
          refine r_as (r_nil (q_b (q_t ?_)))
          refine w_reg ?_
          refine r_inc rfl (by omega) (r_mv (r_nil (q_t ?_)))
          have hS : echTo (invM p) r p F (j + 1) = (elimF (scaleF (swapF Fj top i) top inv p) top j p r, piv ++ [j]) := by
            simp only [echTo, colS]
            rw [hFj, hpiv, htop, ← hi, if_pos (by omega), hinv]
          refine ⟨c - (j + 1), (j + 1, pv2), by first | omega | (dsimp only; omega), ⟨rfl, by first | omega | (dsimp only; omega), (gs3.set top gI).set i gT, ?_⟩, rfl, rfl, trivial⟩
          dsimp only
          rw [hS]
          exact HIk.push hlt HG8 hU8
    · skip
      refine r_nil (q_t ?_)
      refine w_seq ?_
      refine w_false rfl ?_
      refine w_exit (q_tx (q_tx (q_bx (q_t ?_))))
      refine w_seq ?_
      refine w_reg ?_
      refine r_mv (r_mv (r_lens sl_II rfl HIj0.2.2.2.1.sl ?_))
      obtain ⟨cap, hv, hcap⟩ := PartM.slice HIj0.2.1
      refine r_slTo sl_MM hv rfl (by simp only [List.length_map]; omega) ?_
      refine r_mv (r_as (r_as (r_nil (q_t ?_))))
      refine w_ret ?_
      refine ⟨_, retV_2, ?_⟩
      obtain rfl : j = c := by omega
      have HM := (show OwnM h3 tR tI b gs3 v (tab r j _) by unfold OwnM; rw [tab_len]; exact HIj0.2.1).mat
      rw [hv] at HM
      have HM2 := Mat.take HM (k := ((echTo (invM p) r p F j).2.map natV).length) (by rw [tab_len, List.length_map]; omega)
      rw [tab_take (by rw [List.length_map]; omega)] at HM2
      have HM3 : Mat h3 (.slice (some ⟨b, 0, none⟩) ((echTo (invM p) r p F j).2.map natV).length cap) (tab (echTo (invM p) r p F j).2.length j (echTo (invM p) r p F j).1) := by
        simp only [List.length_map] at HM2 ⊢; exact HM2
      exact ⟨HIj0.1, _, _, rfl, HM3, HIj0.2.2.2.1.sl⟩

end Go.Proofs.YtdlfineibanppaaDoor


/-
  Contracts of Echelon, Rank and Kernel of package modular, for every argument.
-/
namespace Go.Proofs.YtdlfineibanppaaDoor
open Go Go.QF
set_option linter.unusedVariables false
set_option maxRecDepth 100000

theorem mem_take_succ {l : List Nat} {i q : Nat} (hi : i < l.length) : q ∈ l.take (i + 1) ↔ q ∈ l.take i ∨ q = l[i] := by
  rw [← take_snoc (List.getElem?_eq_getElem hi), List.mem_append, List.mem_singleton]
theorem map_const {α : Type} (n : Nat) (x : α) : (List.range n).map (fun _ => x) = List.replicate n x := List.ext_getElem (by simp) fun i h1 h2 => by simp
def PostE (h : Heap) (err : Int) (S : List (List Int)) (piv : List Nat) (x : Value) (h' : Heap) : Prop := Ext h h' ∧ ∃ vr vp, x = .tuple #[vr, vp, .int .i64 err] ∧ Mat h' vr S ∧ Sl h' vp (piv.map natV)
/-- What Kernel leaves: the matrix is only read afterwards. -/
def PostK (h : Heap) (err : Int) (S : List (List Int)) (v : Value) (h' : Heap) : Prop := Ext h h' ∧ ∃ r, v = .tuple #[r, .int .i64 err] ∧ Mat h' r S

theorem echelon_nil (p : Int) {h : Heap} {v : Value} (HS : Sl h v []) : CallH Tryd.prog 42 #[v, .int .i64 p] h fun x h' => Ext h h' ∧ x = .tuple #[.slice none 0 0, .slice none 0 0] := by
  refine calls_of_W (l := [_, _]) mx Tryd.func42 rfl rfl rfl rfl rfl (by kernel_rfl) ?_
  refine w_seq ?_
  refine w_reg ?_
  refine r_as (r_as (r_nil (q_t ?_)))
  refine w_seq ?_
  refine w_reg ?_
  refine r_mv (r_call trivial rfl (eliminator_ok p h) fun fv h1 hk => ?_)
  obtain ⟨rfl, rfl⟩ := hk
  refine ⟨trivial, ?_⟩
  refine r_as (r_nil (q_t ?_))
  refine w_seq ?_
  refine w_reg ?_
  refine r_as (r_nil (q_t ?_))
  refine w_seq ?_
  refine w_seq ?_
  refine w_reg ?_
  refine r_mv (r_lens sl_MM rfl (Sl.ext HS (ext_push _ _)) ?_)
  refine r_eql (b := 0) rfl rfl (fun hc1 => ?_) (fun hc1 => absurd rfl hc1)
  refine r_nil (q_t ?_)
  refine w_true rfl ?_
  refine w_seq ?_
  refine w_reg ?_
  refine r_as (r_as (r_nil (q_t ?_)))
  refine w_ret (q_tr ?_)
  refine ⟨_, retV_2, ?_⟩
  exact ⟨ext_push _ _, rfl⟩

/-- A basis that has grown is brought to echelon form. -/
theorem echelonG_ok {h : Heap} {lo : Nat} {v : Value} {gs : List Nat} {Z : List (List Int)} {c : Nat} {p : Int} (HG : GroM h tR tI lo v gs Z) (hZ : ∀ z ∈ Z, z.length = c) (hr2 : Z.length ≤ 1000000) (hc2 : c ≤ 1000000) (hp : Pr p) (hp2 : p ≤ 2147483647) (hrem : Rem p Z) :
    CallH Tryd.prog 42 #[v, .int .i64 p] h fun x h' => Upd (lo ≤ ·) h h' ∧ ∃ vr vp, x = .tuple #[vr, vp] ∧ Mat h' vr (echZ Z c p) := by
  have hp1 := hp.1
  cases Z with
  | nil =>
    obtain ⟨rs, hrs, hl⟩ := HG.gro
    obtain rfl : rs = [] := List.eq_nil_of_length_eq_zero hl
    refine (echelon_nil p hrs.sl).mono fun x h' hk => ?_
    obtain ⟨hE, rfl⟩ := hk
    exact ⟨hE.upd, _, _, rfl, by rw [echZ_nil]; exact mat_nil _⟩
  | cons z0 Z0 =>
    obtain ⟨b, HO, hb⟩ := HG.own (by simp)
    have ht := tab_eq hZ
    have HO2 : PartM h tR tI b gs v (z0 :: Z0).length (tab (z0 :: Z0).length c (ent (z0 :: Z0))) := by rw [← ht]; exact HO
    refine (echelon_ok HO2 (by simp) hr2 hc2 hp hp2 (bd_ent (by omega) hrem)).mono fun x h' hk => ?_
    obtain ⟨hU, vr, vp, rfl, HM, HS⟩ := hk
    exact ⟨hU.mono fun k _ hk => hb k hk, vr, vp, rfl, HM⟩

theorem Echelon_ok {h : Heap} {v : Value} {M : List (List Int)} (HM : Mat h v M) (p : Int) (HO : OffH h) : CallH Tryd.prog 25 #[v, .int .i64 p] h (PostE h (echE M p) (echS M p) (pivS M p)) := by
  refine calls_of_W (l := [_, _]) mx Tryd.func25 rfl rfl rfl rfl rfl (by kernel_rfl) ?_
  refine w_seq ?_
  refine w_reg ?_
  refine r_as (r_as (r_as (r_nil (q_t ?_))))
  refine w_seq ?_
  refine w_seq ?_
  refine w_reg ?_
  refine r_mv (r_mv (r_call trivial rfl (checkPrime_ok HM p HO) fun v' h hk => ?_))
  obtain ⟨rfl, rfl⟩ := hk
  refine ⟨trivial, ?_⟩
  refine r_as (r_nil (q_t ?_))
  refine w_seq ?_
  refine w_reg ?_
  refine r_mv (r_neq rfl rfl (fun hc1 => ?_) (fun hc1 => ?_))   -- t14 := binOp neq 30 t13 0:i64 30
  · skip
    refine r_nil (q_t ?_)
    refine w_true rfl ?_
    refine w_seq ?_
    refine w_reg ?_
    refine r_mv (r_as (r_as (r_as (r_nil (q_t ?_)))))
    refine w_ret (q_tr ?_)
    refine ⟨_, retV_3, ?_⟩
    have hpb := echE_not (M := M) (p := p) (by unfold echE; omega)
    exact ⟨Ext.refl _, _, _, rfl, by simp only [echS, hpb]; exact mat_nil _, by simp only [pivS, hpb]; exact sl_nil _⟩
  · skip
    refine r_nil (q_t ?_)
    refine w_false rfl ?_
    refine w_skip (q_t ?_)
    refine w_seq ?_
    refine w_reg ?_
    refine r_mv (r_mv ?_)
    have hpb := echE_of (M := M) (p := p) (by unfold echE; omega)
    obtain ⟨hv, hp2, hp⟩ := priB_of hpb
    have hp1 := hp.1
    have hv1 := hv.1
    have hv2 := hv.2.1
    have hv4 := hv.2.2.2.1
    refine r_call trivial rfl (residues_ok HM hp1 hp2 (by omega) (valid_le hv)) fun r1 h2 hk => ?_
    obtain ⟨hE1, b, gs, HO1, hb⟩ := hk
    refine ⟨trivial, ?_⟩
    have hlr := red_len M p
    have HO2 : PartM h2 tR tI b gs r1 M.length (tab M.length (cols M) (ent (redM M p))) := by
      have ht := tab_eq (A := redM M p) (c := cols M) (red_rows hv.2.2.2.2)
      rw [hlr] at ht
      rw [← ht]
      have : OwnM h2 tR tI b gs r1 (redM M p) := HO1
      unfold OwnM at this
      rw [hlr] at this
      exact this
    refine r_mv (r_call trivial rfl (echelon_ok HO2 (by omega) (by omega) (by omega) hp hp2 (by have := bd_ent (c := cols M) (by omega : 0 < p) (rem_red (by omega : 0 < p) M); rw [hlr] at this; exact this)) fun x2 h3 hk => ?_)
    obtain ⟨hU, vr, vp, rfl, HM2, HS2⟩ := hk
    refine ⟨trivial, ?_⟩
    refine r_mv (r_ext rfl rfl (r_ext rfl rfl (r_as (r_as (r_nil (q_t ?_))))))
    refine w_seq ?_
    refine w_reg ?_
    refine r_mv (r_mv (r_as (r_as (r_as (r_nil (q_t ?_))))))
    refine w_ret ?_
    refine ⟨_, retV_3, ?_⟩
    refine ⟨hE1.thenUpd hU (fun k hk => hb k hk), vr, vp, ?_, by simp only [echS, hpb]; exact HM2, by simp only [pivS, hpb]; exact HS2⟩
    have : echE M p = 0 := by unfold echE; omega
    rw [this]; rfl

theorem Kernel_ok {h : Heap} {v : Value} {M : List (List Int)} (HM : Mat h v M) (p : Int) (HO : OffH h) : CallH Tryd.prog 19 #[v, .int .i64 p] h (PostK h (echE M p) (kerS M p)) := by
  refine calls_of_W (l := [_, _]) mx Tryd.func19 rfl rfl rfl rfl rfl (by kernel_rfl) ?_
  refine w_seq ?_
  refine w_reg ?_
  refine r_as (r_as (r_nil (q_t ?_)))
  refine w_seq ?_
  refine w_reg ?_
  refine r_mv (r_mv (r_call trivial rfl (Echelon_ok HM p HO) fun x1 h1 hk => ?_))
  obtain ⟨hE1, vr, vp, rfl, HM2, HS2⟩ := hk
  refine ⟨trivial, ?_⟩
  refine r_mv (r_ext rfl rfl (r_ext rfl rfl (r_ext rfl rfl (r_as (r_as (r_as (r_nil (q_t ?_))))))))
  refine w_seq ?_
  refine w_seq ?_
  refine w_reg ?_
  refine r_mv (r_neq rfl rfl (fun hc1 => ?_) (fun hc1 => ?_))   -- t28 := binOp neq 30 t27 0:i64 30
  · skip
    refine r_nil (q_t ?_)
    refine w_true rfl ?_
    refine w_seq ?_
    refine w_reg ?_
    refine r_mv (r_as (r_as (r_nil (q_t ?_))))
    refine w_ret (q_tr ?_)
    refine ⟨_, retV_2, ?_⟩
    have hpb := echE_not (M := M) (p := p) (by omega)
    exact ⟨hE1, _, rfl, by simp only [kerS, hpb]; exact mat_nil _⟩
  · skip
    refine r_nil (q_t ?_)
    refine w_false rfl ?_
    refine w_skip (q_t ?_)
    refine w_seq ?_
    have hpb := echE_of (M := M) (p := p) (by omega)
    obtain ⟨hv, hp2, hp⟩ := priB_of hpb
    have hp1 := hp.1
    have hv1 := hv.1
    have hv2 := hv.2.1
    have hv4 := hv.2.2.2.1
    have hc0 := cols_eq (M := M) (by omega)
    have hbd := bd_eF (M := M) (p := p) (by omega)
    have hpl := piv_eF M p
    simp only [echS, hpb, if_true] at HM2
    simp only [pivS, hpb, if_true] at HS2
    obtain ⟨Fe, hFe⟩ : ∃ Fe, (eF M p).1 = Fe := ⟨_, rfl⟩
    obtain ⟨piv, hpiv⟩ : ∃ piv, (eF M p).2 = piv := ⟨_, rfl⟩
    rw [hFe, hpiv] at HM2
    rw [hpiv] at HS2 hpl
    rw [hFe] at hbd
    refine w_reg ?_
    refine r_mv (r_ixmE (n := 0) sl_MM rfl HM hE1 rfl (List.getElem?_eq_getElem (by omega)) fun aZ rZ haZ hrZ => ?_)
    refine r_ld na_I64 rfl haZ (r_leni sl_I64 rfl (Ints.ext hrZ hE1) ?_)
    rw [← hc0]
    refine r_as (r_nil (q_t ?_))
    refine w_seq ?_
    refine w_reg ?_
    refine r_mv (r_mk (n := cols M) sl_BB ze_bool rfl trivial rfl rfl (by omega) (by omega) ⟨trivial, ?_⟩)
    have hF0 := ext_push h1 (.cells (List.replicate (cols M) (.bool false)).toArray 4 (0, 0))
    have HB0 := ownA_new h1 4 (cols M) (.bool false) (by unfold maxLen; omega)
    refine r_as (r_nil (q_t ?_))
    refine w_seq ?_
    refine w_seq ?_
    refine w_reg ?_
    refine r_mv (r_lens sl_II rfl (HS2.ext hF0) ?_)
    refine r_mv (r_nil (q_t ?_))
    refine w_block ?_
    refine w_loop 70093866274816 (fun i : Nat => [(38, .int .i64 (i : Int))]) (fun k i h' => Ext h1 h' ∧ k = piv.length - i ∧ i ≤ piv.length ∧ OwnA h' 4 h1.size (.slice (some ⟨h1.size, 0, none⟩) (cols M) (cols M)) ((List.range (cols M)).map fun q => Value.bool (decide (q ∈ piv.take i))) ∧ h1.size + 1 ≤ h'.size) (by kernel_rfl) piv.length 0 ?_ ⟨rfl, trivial⟩ ?_
    · exact ⟨hF0, by omega, by omega, by simpa [map_const] using HB0, by simp⟩
    rintro k i s h2 ⟨hF, rfl, hi, HBi, hsz⟩
    refine w_seq ?_
    rw [List.length_map]
    refine w_reg ?_
    refine r_lss rfl rfl (fun hc2 => ?_) (fun hc2 => ?_)   -- t39 := binOp lss 3 t38 t37 3
    · skip
      refine r_nil (q_t ?_)
      refine w_seq ?_
      refine w_true rfl ?_
      refine w_skip (q_t ?_)
      refine w_seq ?_
      refine w_block ?_
      refine w_seq ?_
      refine w_reg ?_
      have hip : i < piv.length := by omega
      have hpi := hpl.2.2 piv[i] (List.getElem_mem _)
      refine r_ixs sl_II rfl (HS2.ext hF) rfl (show (piv.map natV)[i]? = some (natV piv[i]) by rw [List.getElem?_map, List.getElem?_eq_getElem hip]; rfl) fun aP haP => ?_
      refine r_ld na_int rfl haP (r_as (r_nil (q_t ?_)))
      refine w_reg ?_
      refine r_mv (r_mv (r_ixo (n := piv[i]) sl_BB rfl HBi rfl (by simp; omega) ?_))
      refine r_sto na_bool rfl rfl rfl HBi (by simp; omega) ?_
      have HB2 := HBi.set piv[i] (.bool true) (by simp; omega)
      rw [range_set (g := fun q => Value.bool (decide (q ∈ piv.take (i + 1)))) (fun q _ hne => by simp [mem_take_succ hip, hne]) (by simp [mem_take_succ hip])] at HB2
      refine r_nil (q_b (q_t ?_))
      refine w_reg ?_
      refine r_inc rfl (by omega) (r_mv (r_nil (q_t ?_)))
      refine ⟨piv.length - (i + 1), i + 1, by omega, ⟨hF.thenUpd (upd_set _ _ _) (fun k hk => by have hk2 : k = h1.size := hk; omega), rfl, by omega, HB2, by rw [size_setH]; exact hsz⟩, rfl, trivial⟩
    · skip
      refine r_nil (q_t ?_)
      refine w_seq ?_
      refine w_false rfl ?_
      refine w_exit (q_tx (q_tx (q_bx (q_t ?_))))
      refine w_seq ?_
      refine w_reg ?_
      refine r_as (r_nil (q_t ?_))
      refine w_seq ?_
      refine w_seq ?_
      obtain rfl : i = piv.length := by omega
      rw [List.take_length] at HBi
      refine w_reg ?_
      refine r_mv (r_mv (r_nil (q_t ?_)))
      refine w_block ?_
      refine w_loop 77371252455195529693093888 (fun y : Nat × Value => [(47, .int .i64 (y.1 : Int)), (13, y.2)]) (fun k y h' => Ext h1 h' ∧ k = cols M - y.1 ∧ y.1 ≤ cols M ∧ OwnA h' 4 h1.size (.slice (some ⟨h1.size, 0, none⟩) (cols M) (cols M)) ((List.range (cols M)).map fun q => Value.bool (decide (q ∈ piv))) ∧ h1.size + 1 ≤ h'.size ∧ ∃ gs, GroM h' tR tI (h1.size + 1) y.2 gs (kerB Fe piv p (cols M) y.1)) (by kernel_rfl) (cols M) (0, .slice none 0 0) ?_ ⟨rfl, rfl, trivial⟩ ?_
      · exact ⟨hF, by omega, by omega, HBi, hsz, [], groM_nil _ _ _ _⟩
      rintro k ⟨f, ba⟩ s2 h2 ⟨hF, rfl, hf, HBf, hsz, gs, HZ⟩
      dsimp only at hf HZ ⊢
      refine w_seq ?_
      refine w_reg ?_
      refine r_lss rfl rfl (fun hc3 => ?_) (fun hc3 => ?_)   -- t48 := binOp lss 3 t47 t46 3
      · skip
        refine r_nil (q_t ?_)
        refine w_seq ?_
        refine w_true rfl ?_
        refine w_skip (q_t ?_)
        refine w_seq ?_
        refine w_block ?_
        refine w_seq ?_
        refine w_reg ?_
        refine r_mv (r_as (r_nil (q_t ?_)))
        refine w_seq ?_
        refine w_seq ?_
        refine w_reg ?_
        refine r_mv (r_mv (r_ixs sl_BB rfl HBf.sl rfl (range_at (by omega)) fun aQ haQ => ?_))
        refine r_ld na_bool rfl haQ (r_nil (q_t ?_))
        refine ⟨_, rfl, fun hc4 => ?_, fun hc4 => ?_⟩
        · skip
          refine w_exit (q_tx (q_bx (q_t ?_)))
          refine w_reg ?_
          refine r_inc rfl (by omega) (r_mv (r_nil (q_t ?_)))
          have hmem : f ∈ piv := by simpa using hc4
          refine ⟨cols M - (f + 1), (f + 1, ba), by first | omega | (dsimp only; omega), ⟨hF, rfl, by first | omega | (dsimp only; omega), HBf, hsz, gs, ?_⟩, rfl, rfl, trivial⟩
          dsimp only
          rw [kerB_no hmem]
          exact HZ
        · skip
          refine w_skip (q_t ?_)
          refine w_seq ?_
          refine w_reg ?_
          refine r_mv (r_mk (n := cols M) sl_I64 ze_i64 rfl trivial rfl rfl (by omega) (by omega) ⟨trivial, ?_⟩)
          have hF2 := ext_push h2 (.cells (List.replicate (cols M) (.int .i64 0)).toArray tI (0, 0))
          have HX0 := ownI_new h2 tI (cols M) 0 (by unfold maxLen; omega)
          refine r_as (r_nil (q_t ?_))
          refine w_seq ?_
          refine w_reg ?_
          refine r_mv (r_mv (r_ixo (n := f) sl_I64 rfl HX0 rfl (by simp; omega) ?_))
          refine r_sto na_i64 rfl rfl rfl HX0 (by simp; omega) ?_
          have HX1 := HX0.setI (j := f) (by simp; omega) 1
          rw [← range_rep, range_set (g := kerF Fe piv p f 0) (fun q _ hne => by simp [kerF, hne]) (by simp [kerF])] at HX1
          have hF2 := hF2.thenUpd (upd_set _ ⟨h2.size, f, none⟩ (.int .i64 1)) (fun k hk => by have hk2 : k = h2.size := hk; omega)
          refine r_nil (q_t ?_)
          refine w_seq ?_
          refine w_seq ?_
          refine w_reg ?_
          refine r_mv (r_lens sl_II rfl (HS2.ext (hF.trans hF2)) ?_)
          refine r_mv (r_nil (q_t ?_))
          refine w_block ?_
          refine w_loop 2417849333386249135915008 (fun i : Nat => [(61, .int .i64 (i : Int))]) (fun k i h' => Ext h2 h' ∧ k = piv.length - i ∧ i ≤ piv.length ∧ OwnA h' tI h2.size (.slice (some ⟨h2.size, 0, none⟩) (cols M) (cols M)) (((List.range (cols M)).map (kerF Fe piv p f i)).map (.int .i64))) (by kernel_rfl) piv.length 0 ?_ ⟨rfl, trivial⟩ ?_
          · exact ⟨hF2, by omega, by omega, HX1⟩
          rintro k i s3 h3 ⟨hG, rfl, hi, HX⟩
          refine w_seq ?_
          rw [List.length_map]
          refine w_reg ?_
          refine r_lss rfl rfl (fun hc5 => ?_) (fun hc5 => ?_)   -- t62 := binOp lss 3 t61 t60 3
          · skip
            refine r_nil (q_t ?_)
            refine w_seq ?_
            refine w_true rfl ?_
            refine w_skip (q_t ?_)
            refine w_seq ?_
            refine w_block ?_
            refine w_seq ?_
            refine w_reg ?_
            refine r_mv ?_
            have hip : i < piv.length := by omega
            have hpi := hpl.2.2 piv[i] (List.getElem_mem _)
            refine r_ixs sl_II rfl (HS2.ext (hF.trans hG)) rfl (show (piv.map natV)[i]? = some (natV piv[i]) by rw [List.getElem?_map, List.getElem?_eq_getElem hip]; rfl) fun aJ haJ => ?_
            refine r_ld na_int rfl haJ (r_as (r_as (r_nil (q_t ?_))))
            have hfb := hbd i f (by omega) (by omega)
            have hCE := hF.trans hG
            refine w_reg ?_
            refine r_mv (r_mv (r_mv (r_mv (r_mv (r_ixmE sl_MM rfl HM2 hCE rfl (tab_row (by omega)) fun aR rR haR hrR => ?_)))))
            refine r_ld na_I64 rfl haR (r_mv (r_ixi sl_I64 rfl (Ints.ext hrR hCE) rfl (range_at (by omega)) fun aX haX => ?_))
            refine r_ld na_i64 rfl haX (r_subb rfl rfl (by omega) (by omega) (r_mv (r_remp rfl rfl (by omega) (by omega) (r_ixo (n := piv[i]) sl_I64 rfl HX rfl (by simp; omega) ?_))))
            refine r_sto na_i64 rfl rfl rfl HX (by simp; omega) ?_
            have HX2 := HX.setI (j := piv[i]) (by simp; omega) ((p - Fe i f) % p)
            rw [kerF_set (List.getElem?_eq_getElem hip) rfl] at HX2
            refine r_nil (q_b (q_t ?_))
            refine w_reg ?_
            refine r_inc rfl (by omega) (r_mv (r_nil (q_t ?_)))
            exact ⟨piv.length - (i + 1), i + 1, by omega, ⟨hG.thenUpd (upd_set _ _ _) (fun k hk => by have hk2 : k = h2.size := hk; omega), rfl, by omega, HX2⟩, rfl, trivial⟩
          · skip
            refine r_nil (q_t ?_)
            refine w_seq ?_
            refine w_false rfl ?_
            refine w_exit (q_tx (q_tx (q_bx (q_t ?_))))
            refine w_reg ?_
            refine r_mv (r_mv ?_)
            have HZ2 := HZ.ext hG
            obtain ⟨rs, hrs, hrsl⟩ := HZ2.gro
            have hkl := kerB_len (F := Fe) (piv := piv) (p := p) (c := cols M) (k := f)
            refine r_push sl_MM ze_I64 rfl (fun _ => trivial) (fun _ => rfl) rfl HX.one hrs (by have := hG.1; omega) (by omega) (by omega) fun p' ba' h4 HG4 hU4 hb4 => ?_
            refine r_as (r_nil (q_b (q_t ?_)))
            refine w_reg ?_
            refine r_inc rfl (by omega) (r_mv (r_nil (q_t ?_)))
            have hmem : f ∉ piv := by simpa using hc4
            obtain rfl : i = piv.length := by omega
            refine ⟨cols M - (f + 1), (f + 1, ba'), by first | omega | (dsimp only; omega), ⟨(hF.trans hG).thenUpd hU4 (fun k hk => by have := (hrs.blk k hk).1; omega), rfl, by first | omega | (dsimp only; omega), (HBf.ext hG).upd hU4 (fun hk => by have := (hrs.blk _ hk).1; omega), by have := hU4.1; have := hG.1; omega, gs ++ [h2.size], ?_⟩, rfl, rfl, trivial⟩
            dsimp only
            rw [← kerB_yes hmem]
            exact HZ2.push hrs HX (fun hm => by have := HZ.lt _ hm; omega) hsz (fun he => by have := HZ.topLt _ he; omega) HG4 hU4 hb4
      · skip
        refine r_nil (q_t ?_)
        refine w_seq ?_
        refine w_false rfl ?_
        refine w_exit (q_tx (q_tx (q_bx (q_t ?_))))
        refine w_seq ?_
        refine w_reg ?_
        refine r_mv (r_mv ?_)
        obtain rfl : f = cols M := by omega
        refine r_call trivial rfl (echelonG_ok HZ kerB_rows (by have := kerB_len (F := Fe) (piv := piv) (p := p) (c := cols M) (k := cols M); omega) (by omega) hp hp2 (kerB_rem hp1)) fun x2 h5 hk => ?_
        obtain ⟨hU5, vk, vq, rfl, HM5⟩ := hk
        refine ⟨trivial, ?_⟩
        refine r_mv (r_ext rfl rfl (r_ext rfl rfl (r_as (r_as (r_nil (q_t ?_))))))
        refine w_seq ?_
        refine w_reg ?_
        refine r_mv (r_as (r_as (r_nil (q_t ?_))))
        refine w_ret ?_
        refine ⟨_, retV_2, ?_⟩
        refine ⟨hE1.trans (hF.thenUpd hU5 (fun k hk => by omega)), vk, ?_, ?_⟩
        · have : echE M p = 0 := by omega
          rw [this]; rfl
        · simp only [kerS, hpb, if_true, hFe, hpiv]; exact HM5

end Go.Proofs.YtdlfineibanppaaDoor


/-
  Contracts of triangular of package modular: what every row step keeps, the result has. Conditions stand in each statement.
-/
namespace Go.Proofs.YtdlfineibanppaaDoor
open Go Go.QF
set_option linter.unusedVariables false
set_option maxRecDepth 100000

/-- What every step keeps. -/
def Keeps (n C : Nat) (m : Int) (Q : (Nat → Nat → Int) → Int → Prop) : Prop := ∀ F s c i q, c < n → i < n → c ≠ i → 0 ≤ q → q < m → Bd n C m F → Q F s → Q (stepF F c i q m) (-s)

theorem triangular_ok {h : Heap} {b : Nat} {gs : List Nat} {v : Value} {n C : Nat} {F : Nat → Nat → Int} {m : Int} (HP0 : PartM h tR tI b gs v n (tab n C F)) (hnC : n ≤ C) (hC : C ≤ 1000000) (hm : 2 ≤ m) (hm2 : m ≤ 2147483647) (hbd : Bd n C m F) (Q : (Nat → Nat → Int) → Int → Prop) (hQ0 : Q F 1) (hQ : Keeps n C m Q) :
    CallH Tryd.prog 47 #[v, .int .i64 m] h fun x h' => Upd (· ∈ b :: gs) h h' ∧ ∃ F1 s gs1, x = .int .i64 s ∧ (s = 1 ∨ s = -1) ∧ PartM h' tR tI b gs1 v n (tab n C F1) ∧ (∀ g ∈ gs1, g ∈ gs) ∧ Q F1 s ∧ Bd n C m F1 ∧ Zc n F1 n := by
  have HP := HP0
  refine calls_of_W (l := [_, _]) mx Tryd.func47 rfl rfl rfl rfl rfl (by kernel_rfl) ?_
  refine w_seq ?_
  refine w_reg ?_
  refine r_as (r_nil (q_t ?_))
  refine w_seq ?_
  refine w_reg ?_
  refine r_mv (r_call trivial rfl (eliminator_ok m h) fun fv h1 hk => ?_)
  obtain ⟨rfl, rfl⟩ := hk
  refine ⟨trivial, ?_⟩
  have hpush := ext_push h (.cells #[.int .i64 m] tI (0, 0))
  have HP := PartM.ext HP0 hpush
  have hlt := PartM.lt HP0
  refine r_as (r_nil (q_t ?_))
  refine w_seq ?_
  refine w_reg ?_
  refine r_as (r_nil (q_t ?_))
  refine w_seq ?_
  refine w_seq ?_
  refine w_reg ?_
  refine r_mv (r_lenp sl_MM rfl HP (r_mv (r_nil (q_t ?_))))
  refine w_block ?_
  refine w_loop 18889465931478580847040 (fun y : Nat × Int => [(13, .int .i64 (y.1 : Int)), (6, .int .i64 y.2)]) (fun k y h' => k = n - y.1 ∧ y.1 ≤ n ∧ (y.2 = 1 ∨ y.2 = -1) ∧ ∃ F1 gs1, EchI h h' b gs v n C m F1 (.slice none 0 0) [] gs1 ∧ Q F1 y.2 ∧ Bd n C m F1 ∧ Zc n F1 y.1) (by kernel_rfl) n (0, 1) ?_ ⟨rfl, rfl, trivial⟩ ?_
  · refine ⟨rfl, by omega, .inl rfl, F, gs, ⟨hpush.upd, HP, fun g hg => hg, gro_nil _ _ _, ?_, by simp⟩, hQ0, hbd, fun c' i h1 => by omega⟩
    simp [cellH]
  rintro k ⟨c, s1⟩ sx h1 ⟨rfl, hc, hs1, F1, gs1, HI1, hQ1, hbd1, hz1⟩
  dsimp only at hc hs1 hQ1 hz1 ⊢
  have HP1 := HI1.2.1
  refine w_seq ?_
  refine w_reg ?_
  refine r_lss rfl rfl (fun hc1 => ?_) (fun hc1 => ?_)   -- t14 := binOp lss 3 t13 t12 3
  · skip
    refine r_nil (q_t ?_)
    refine w_seq ?_
    refine w_true rfl ?_
    refine w_skip (q_t ?_)
    refine w_seq ?_
    refine w_block ?_
    refine w_seq ?_
    refine w_reg ?_
    refine r_mv (r_as (r_nil (q_t ?_)))
    refine w_seq ?_
    refine w_reg ?_
    refine r_mv (r_inc rfl (by omega) (r_as (r_nil (q_t ?_))))
    refine w_block ?_
    refine w_loop 9444732965739290165568 (fun y : Nat × Int => [(8, .int .i64 (y.1 : Int)), (6, .int .i64 y.2)]) (fun k y h' => k = n - y.1 ∧ c < y.1 ∧ y.1 ≤ n ∧ (y.2 = 1 ∨ y.2 = -1) ∧ ∃ F2 gs2, EchI h h' b gs v n C m F2 (.slice none 0 0) [] gs2 ∧ Q F2 y.2 ∧ Bd n C m F2 ∧ Zc n F2 c ∧ Zi F2 c y.1) (by kernel_rfl) (n - (c + 1)) (c + 1, s1) ?_ ⟨rfl, rfl, trivial⟩ ?_
    · exact ⟨rfl, by first | omega | (dsimp only; omega), by first | omega | (dsimp only; omega), hs1, F1, gs1, HI1, hQ1, hbd1, hz1, fun k h1 h2 => by omega⟩
    rintro k ⟨i, s2⟩ sy h2 ⟨rfl, hci, hi, hs2, F2, gs2, HI2, hQ2, hbd2, hz2, hzi2⟩
    dsimp only at hci hi hs2 hQ2 hzi2 ⊢
    have HP2 := HI2.2.1
    refine w_seq ?_
    refine w_seq ?_
    refine w_reg ?_
    refine r_mv (r_mv (r_lenp sl_MM rfl HP2 (r_lss rfl rfl (fun hc2 => ?_) (fun hc2 => ?_))))   -- t21 := binOp lss 3 t18 t20 3
    · skip
      refine r_nil (q_t ?_)
      refine w_true rfl ?_
      refine w_skip (q_t ?_)
      refine w_seq ?_
      refine w_block ?_
      refine w_block ?_
      refine w_loop 9444732965739273650240 (fun s3 : Int => [(6, .int .i64 s3)]) (fun k s3 h' => (s3 = 1 ∨ s3 = -1) ∧ ∃ F3 gs3, k = (F3 i c).toNat ∧ EchI h h' b gs v n C m F3 (.slice none 0 0) [] gs3 ∧ Q F3 s3 ∧ Bd n C m F3 ∧ Zc n F3 c ∧ Zi F3 c i) (by kernel_rfl) (F2 i c).toNat s2 ?_ ⟨rfl, trivial⟩ ?_
      · exact ⟨hs2, F2, gs2, rfl, HI2, hQ2, hbd2, hz2, hzi2⟩
      rintro k s3 sz h3 ⟨hs3, F3, gs3, rfl, HI3, hQ3, hbd3, hz3, hzi3⟩
      have HP3 := HI3.2.1
      refine w_seq ?_
      refine w_seq ?_
      refine w_reg ?_
      refine r_mv (r_mv (r_ixp sl_MM rfl HP3 rfl (tab_row (by omega)) fun aA rA gA haA hgA hrA => ?_))
      refine r_ld na_I64 rfl haA (r_mv (r_ixi sl_I64 rfl hrA.sl rfl (range_at (by omega)) fun aB haB => ?_))
      refine r_ld na_i64 rfl haB (r_neq rfl rfl (fun hc3 => ?_) (fun hc3 => ?_))   -- t31 := binOp neq 2 t30 0:i64 2
      · skip
        refine r_nil (q_t ?_)
        refine w_true rfl ?_
        refine w_skip (q_t ?_)
        refine w_block ?_
        refine w_seq ?_
        have hcc := hbd3 c c (by omega) (by omega)
        have hic := hbd3 i c (by omega) (by omega)
        have hq := quo_bd hcc.1 hcc.2 (b := F3 i c) (by omega)
        refine w_draw (by kernel_rfl) ?_
        refine r_mv (r_mv (r_mv (r_ixp sl_MM rfl HP3 rfl (tab_row (by omega)) fun aK rK gK haK hgK hrK => ?_)))
        refine r_ld na_I64 rfl haK (r_mv (r_mv (r_ixp sl_MM rfl HP3 rfl (tab_row (by omega)) fun aL rL gL haL hgL hrL => ?_)))
        refine r_ld na_I64 rfl haL ?_
        have hgKm : gK ∈ b :: gs := List.mem_cons_of_mem _ (HI3.2.2.1 _ (List.mem_of_getElem? hgK))
        have hneKL : gK ≠ gL := fun he => absurd (nodup_getElem?_inj (List.nodup_cons.1 (PartM.nodup HI3.2.1)).2 hgK (he ▸ hgL)) (by omega)
        refine r_mv ?_
        refine r_mv (r_ixp sl_MM rfl HP3 rfl (tab_row (by omega)) fun aN rN gN haN hgN hrN => ?_)
        refine r_ld na_I64 rfl haN (r_mv (r_ixi sl_I64 rfl hrN.sl rfl (range_at (by omega)) fun aU haU => ?_))
        refine r_ld na_i64 rfl haU (r_mv (r_mv (r_ixp sl_MM rfl HP3 rfl (tab_row (by omega)) fun aO rO gO haO hgO hrO => ?_)))
        refine r_ld na_I64 rfl haO (r_mv (r_ixi sl_I64 rfl hrO.sl rfl (range_at (by omega)) fun aV haV => ?_))
        refine r_ld na_i64 rfl haV (r_quop rfl rfl (by omega) (by omega) (by omega) (r_callc trivial rfl rfl (eliminate_ok (a := ⟨h.size, 0, none⟩) hrK hrL hneKL (by simp) HI3.2.2.2.2.1 (by have := hlt _ hgKm; dsimp only; omega) (row_bd hbd3 (by omega)) (row_bd hbd3 (by omega)) hq.1 hq.2 hm hm2 (by simp; omega)) fun ev h7 hk => ?_))
        obtain ⟨hU7, HO7⟩ := hk
        refine ⟨trivial, ?_⟩
        rw [elim_row] at HO7
        have HP7 := PartM.setRow' HI3.2.1 hgK hU7 (tab_row (by omega)) hrK HO7
        rw [tab_setF] at HP7
        have HI7 := HI3.turn hlt hU7 hgKm HP7 HI3.2.2.1
        have HP3 := HP7
        refine r_nil (q_t ?_)
        refine w_seq ?_
        refine w_draw (by kernel_rfl) ?_
        refine r_mv (r_mv (r_mv (r_mv (r_mv (r_mv (r_ixp sl_MM rfl HP3 rfl (tab_row (by omega)) fun aI rI gI haI hgI hrI => ?_))))))
        refine r_ld na_I64 rfl haI (r_mv (r_mv (r_ixp sl_MM rfl HP3 rfl (tab_row (by omega)) fun aT rT gT haT hgT hrT => ?_)))
        refine r_ld na_I64 rfl haT ?_
        obtain ⟨rs, HT, hrl⟩ := PartM.top HP3
        refine r_ixo sl_MM rfl HT rfl (by omega) ?_
        refine r_sto na_I64 rfl rfl hrI.one HT (by omega) ?_
        have HT2 := HT.set c rI (by omega)
        refine r_ixo sl_MM rfl HT2 rfl (by simp; omega) ?_
        refine r_sto na_I64 rfl rfl hrT.one HT2 (by simp; omega) ?_
        have HP8 := PartM.swap HP3 hgT hgI (tab_row (by omega)) (tab_row (by omega)) hrT hrI
        rw [tab_setF, tab_setF] at HP8
        have HI8 := HI7.turn hlt ((upd_set _ ⟨b, c, none⟩ rI).trans (upd_set _ ⟨b, i, none⟩ rT)) (List.mem_cons_self ..) (F2 := stepF F3 c i (F3 c c / F3 i c) m) HP8 (fun g hg => HI7.2.2.1 g (mem_swap hgT hgI hg))
        refine r_nil (q_t ?_)
        refine w_reg ?_
        refine r_mv (r_neg rfl ?_)
        have hws : IntKind.i64.wrap (0 - s3) = -s3 := by rw [IntKind.wrap_i64]; omega
        rw [hws]
        refine r_as (r_nil (q_b (q_t ?_)))
        have hv3 : stepF F3 c i (F3 c c / F3 i c) m i c = F3 c c % F3 i c := by rw [stepF_i]; exact step_lt hcc.1 hcc.2 (by omega) hic.2
        have hl3 := Int.emod_lt_of_pos (F3 c c) (b := F3 i c) (by omega)
        exact ⟨_, -s3, by rw [hv3]; omega, ⟨by omega, _, _, rfl, HI8, hQ _ _ _ _ _ (by omega) (by omega) (by omega) hq.1 hq.2 hbd3 hQ3, bd_step (by omega) hbd3 (by omega) (by omega), zc_step hz3 (by omega) (by omega), zi_step hzi3⟩, rfl, trivial⟩
      · skip
        refine r_nil (q_t ?_)
        refine w_false rfl ?_
        refine w_exit (q_tx (q_tx (q_bx (q_b (q_t ?_)))))
        refine w_reg ?_
        refine r_mv (r_inc rfl (by omega) (r_as (r_nil (q_t ?_))))
        exact ⟨n - (i + 1), (i + 1, s3), by first | omega | (dsimp only; omega), ⟨rfl, by first | omega | (dsimp only; omega), by first | omega | (dsimp only; omega), hs3, F3, gs3, HI3, hQ3, hbd3, hz3, zi_succ hzi3 hc3⟩, rfl, rfl, trivial⟩
    · skip
      refine r_nil (q_t ?_)
      refine w_false rfl ?_
      refine w_exit (q_tx (q_tx (q_bx (q_b (q_t ?_)))))
      refine w_reg ?_
      refine r_inc rfl (by omega) (r_mv (r_nil (q_t ?_)))
      obtain rfl : i = n := by omega
      exact ⟨i - (c + 1), (c + 1, s2), by first | omega | (dsimp only; omega), ⟨rfl, by first | omega | (dsimp only; omega), hs2, F2, gs2, HI2, hQ2, hbd2, zc_succ hz2 hzi2⟩, rfl, rfl, trivial⟩
  · skip
    refine r_nil (q_t ?_)
    refine w_seq ?_
    refine w_false rfl ?_
    refine w_exit (q_tx (q_tx (q_bx (q_t ?_))))
    refine w_seq ?_
    refine w_reg ?_
    refine r_mv (r_as (r_nil (q_t ?_)))
    refine w_ret ?_
    refine ⟨_, retV_1, ?_⟩
    obtain rfl : c = n := by omega
    exact ⟨HI1.1, F1, s1, gs1, rfl, hs1, HI1.2.1, HI1.2.2.1, hQ1, hbd1, hz1⟩

end Go.Proofs.YtdlfineibanppaaDoor


/-
  Contracts of Det and Inverse of package modular: by what every row step keeps.
-/
namespace Go.Proofs.YtdlfineibanppaaDoor
open Go Go.QF
set_option linter.unusedVariables false
set_option maxRecDepth 100000

theorem residues_tab {h h2 : Heap} {r1 : Value} {M : List (List Int)} {m : Int} {b : Nat} {gs : List Nat} {c : Nat} (HO1 : OwnM h2 tR tI b gs r1 (M.map (·.map (· % m)))) (hr : ∀ z ∈ M, z.length = c) : PartM h2 tR tI b gs r1 M.length (tab M.length c (ent (redM M m))) := by
  have ht := tab_eq (A := redM M m) (c := c) (red_rows hr)
  rw [red_len] at ht
  rw [← ht]
  have : OwnM h2 tR tI b gs r1 (redM M m) := HO1
  unfold OwnM at this
  rw [red_len] at this
  exact this
theorem bd_red {M : List (List Int)} {c : Nat} {m : Int} (hm : 0 < m) : Bd M.length c m (ent (redM M m)) := by
  have := bd_ent (c := c) hm (rem_red hm M)
  rw [red_len] at this
  exact this
def PostD (M : List (List Int)) (m : Int) (Q : (Nat → Nat → Int) → Int → Prop) (h : Heap) (x : Value) (h' : Heap) : Prop := Ext h h' ∧ ∃ d e, x = .tuple #[.int .i64 d, .int .i64 e] ∧
  ((squareB M = false ∧ e = 3 ∧ d = 0) ∨ (squareB M = true ∧ modB m = false ∧ e = 1 ∧ d = 0) ∨
   (squareB M = true ∧ modB m = true ∧ e = 0 ∧ ∃ F1 s, (s = 1 ∨ s = -1) ∧ Q F1 s ∧ Bd M.length M.length m F1 ∧ Zc M.length F1 M.length ∧ d = detP F1 m s M.length))
def PostI (M : List (List Int)) (m : Int) (Q : (Nat → Nat → Int) → Int → Prop) (h : Heap) (x : Value) (h' : Heap) : Prop := Ext h h' ∧ ∃ r e, x = .tuple #[r, .int .i64 e] ∧
  ((squareB M = false ∧ e = 3 ∧ Mat h' r []) ∨ (squareB M = true ∧ modB m = false ∧ e = 1 ∧ Mat h' r []) ∨
   (squareB M = true ∧ modB m = true ∧ ∃ F1 s, (s = 1 ∨ s = -1) ∧ Q F1 s ∧ Bd M.length (M.length + M.length) m F1 ∧ Zc M.length F1 M.length ∧
     ((e = 8 ∧ Mat h' r [] ∧ ∃ c, c < M.length ∧ ¬ ∃ y, IsInv m (F1 c c) y) ∨
      (e = 0 ∧ (∀ c, c < M.length → ∃ y, IsInv m (F1 c c) y) ∧ Mat h' r (tab M.length M.length fun i j => backTo m M.length F1 M.length i (M.length + j))))))

theorem Det_ok {h : Heap} {v : Value} {M : List (List Int)} (HM : Mat h v M) (m : Int) (Q : (Nat → Nat → Int) → Int → Prop) (hQ0 : squareB M = true → modB m = true → Q (ent (redM M m)) 1) (hQ : Keeps M.length M.length m Q) : CallH Tryd.prog 30 #[v, .int .i64 m] h (PostD M m Q h) := by
  refine calls_of_W (l := [_, _]) mx Tryd.func30 rfl rfl rfl rfl rfl (by kernel_rfl) ?_
  refine w_seq ?_
  refine w_reg ?_
  refine r_as (r_as (r_nil (q_t ?_)))
  refine w_seq ?_
  refine w_seq ?_
  refine w_reg ?_
  refine r_mv (r_call trivial rfl (small_ok HM) fun v' h hk => ?_)
  obtain ⟨rfl, rfl⟩ := hk
  refine ⟨trivial, ?_⟩
  cases hc1 : squareB M
  · skip
    refine r_not rfl (r_nil (q_t ?_))
    refine w_true rfl ?_
    refine w_seq ?_
    refine w_reg ?_
    refine r_as (r_as (r_nil (q_t ?_)))
    refine w_ret (q_tr ?_)
    refine ⟨_, retV_2, ?_⟩
    exact ⟨Ext.refl _, _, _, rfl, .inl ⟨hc1, rfl, rfl⟩⟩
  · skip
    refine r_not rfl (r_nil (q_t ?_))
    refine w_false rfl ?_
    refine w_skip (q_t ?_)
    refine w_seq ?_
    refine w_seq ?_
    refine w_reg ?_
    refine r_mv (r_call trivial rfl (checkModulus_ok m h) fun v' h hk => ?_)
    obtain ⟨rfl, rfl⟩ := hk
    refine ⟨trivial, ?_⟩
    refine r_as (r_nil (q_t ?_))
    refine w_seq ?_
    refine w_reg ?_
    refine r_mv (r_neq rfl rfl (fun hc2 => ?_) (fun hc2 => ?_))   -- t17 := binOp neq 30 t16 0:i64 30
    · skip
      refine r_nil (q_t ?_)
      refine w_true rfl ?_
      refine w_seq ?_
      refine w_reg ?_
      refine r_mv (r_as (r_as (r_nil (q_t ?_))))
      refine w_ret (q_tr ?_)
      refine ⟨_, retV_2, ?_⟩
      have hmB : modB m = false := by cases hb : modB m <;> simp [hb] at hc2 ⊢
      exact ⟨Ext.refl _, 0, _, rfl, .inr (.inl ⟨hc1, hmB, by simp [hmB], rfl⟩)⟩
    · skip
      refine r_nil (q_t ?_)
      refine w_false rfl ?_
      refine w_skip (q_t ?_)
      refine w_seq ?_
      refine w_reg ?_
      refine r_mv (r_mv ?_)
      have hmB : modB m = true := by cases hb : modB m <;> simp [hb] at hc2 ⊢
      have hm := mod_of_modB hmB
      obtain ⟨hv, hsq, h8⟩ := square_of hc1
      have hv1 := hv.1
      have hv2 := hv.2.1
      refine r_call trivial rfl (residues_ok HM hm.1 hm.2 (by omega) (valid_le hv)) fun r1 h2 hk => ?_
      obtain ⟨hE1, b, gs, HO1, hb⟩ := hk
      refine ⟨trivial, ?_⟩
      have HO2 := residues_tab (c := M.length) (h := h) HO1 (fun z hz => by rw [hv.2.2.2.2 z hz]; omega)
      have hbd0 := bd_red (M := M) (c := M.length) (m := m) (by omega)
      refine r_as (r_nil (q_t ?_))
      refine w_seq ?_
      refine w_reg ?_
      refine r_mv (r_mv (r_call trivial rfl (triangular_ok HO2 (Nat.le_refl _) (by omega) hm.1 hm.2 hbd0 Q (hQ0 hc1 hmB) hQ) fun x3 h3 hk => ?_))
      obtain ⟨hU3, F1, s, gs1, rfl, hs, HP3, hgs1, hQ1, hbd1, hz1⟩ := hk
      refine ⟨trivial, ?_⟩
      have hE3 := hE1.thenUpd hU3 (fun k hk => hb k hk)
      refine r_mv (r_addb rfl rfl (by omega) (by omega) (r_as (r_nil (q_t ?_))))
      refine w_seq ?_
      refine w_seq ?_
      refine w_reg ?_
      refine r_mv (r_lenp sl_MM rfl HP3 (r_mv (r_nil (q_t ?_))))
      refine w_block ?_
      refine w_loop 35183835219712 (fun y : Nat × Int => [(29, .int .i64 (y.1 : Int)), (8, .int .i64 y.2)]) (fun k y h' => h' = h3 ∧ k = M.length - y.1 ∧ y.1 ≤ M.length ∧ y.2 = detP F1 m s y.1) (by kernel_rfl) M.length (0, s + m) ?_ ⟨rfl, rfl, trivial⟩ ?_
      · exact ⟨rfl, rfl, by omega, rfl⟩
      rintro k ⟨i, dd⟩ sx h3 ⟨rfl, rfl, hi, hdd⟩
      dsimp only at hi hdd ⊢
      subst hdd
      refine w_seq ?_
      refine w_reg ?_
      refine r_lss rfl rfl (fun hc3 => ?_) (fun hc3 => ?_)   -- t30 := binOp lss 3 t29 t28 3
      · skip
        refine r_nil (q_t ?_)
        refine w_seq ?_
        refine w_true rfl ?_
        refine w_skip (q_t ?_)
        refine w_seq ?_
        refine w_block ?_
        refine w_seq ?_
        refine w_reg ?_
        refine r_mv (r_ixp sl_MM rfl HP3 rfl (tab_row (by omega)) fun aR rR gR haR hgR hrR => ?_)
        refine r_ld na_I64 rfl haR (r_as (r_as (r_nil (q_t ?_))))
        have hdb := detP_bd (F := F1) (m := m) hm.1 hs i
        have hdm := mod_bd (by omega : 0 < m) (detP F1 m s i)
        have hfb := hbd1 i i (by omega) (by omega)
        have hpb := mul_bd (a := detP F1 m s i % m) (b := F1 i i) (A := 2147483647) (B := 2147483647) (by omega) (by omega) (by omega) (by omega)
        refine w_draw (by kernel_rfl) ?_
        refine r_mv (r_mv (r_remp rfl rfl (by omega) (by omega) (r_mv (r_mv (r_ixi sl_I64 rfl hrR.sl rfl (range_at (by omega)) fun aX haX => ?_)))))
        refine r_ld na_i64 rfl haX (r_mulb rfl rfl (by omega) (by omega) (r_mv (r_remp rfl rfl (by omega) (by omega) (r_as (r_nil (q_b (q_t ?_)))))))
        refine w_reg ?_
        refine r_inc rfl (by omega) (r_mv (r_nil (q_t ?_)))
        exact ⟨M.length - (i + 1), (i + 1, detP F1 m s (i + 1)), by first | omega | (dsimp only; omega), ⟨rfl, rfl, by first | omega | (dsimp only; omega), rfl⟩, rfl, rfl, trivial⟩
      · skip
        refine r_nil (q_t ?_)
        refine w_seq ?_
        refine w_false rfl ?_
        refine w_exit (q_tx (q_tx (q_bx (q_t ?_))))
        refine w_seq ?_
        refine w_reg ?_
        refine r_mv (r_as (r_as (r_nil (q_t ?_))))
        refine w_ret ?_
        refine ⟨_, retV_2, ?_⟩
        obtain rfl : i = M.length := by omega
        exact ⟨hE3, _, _, rfl, .inr (.inr ⟨hc1, hmB, rfl, F1, s, hs, hQ1, hbd1, hz1, rfl⟩)⟩

theorem Inverse_ok {h : Heap} {v : Value} {M : List (List Int)} (HM : Mat h v M) (m : Int) (Q : (Nat → Nat → Int) → Int → Prop) (hQ0 : squareB M = true → modB m = true → Q (augF M.length (ent (redM M m))) 1) (hQ : Keeps M.length (M.length + M.length) m Q) : CallH Tryd.prog 23 #[v, .int .i64 m] h (PostI M m Q h) := by
  refine calls_of_W (l := [_, _]) mx Tryd.func23 rfl rfl rfl rfl rfl (by kernel_rfl) ?_
  refine w_seq ?_
  refine w_reg ?_
  refine r_as (r_as (r_nil (q_t ?_)))
  refine w_seq ?_
  refine w_seq ?_
  have hE0 := Ext.refl h
  refine w_reg ?_
  refine r_mv (r_call trivial rfl (small_ok HM) fun v' h hk => ?_)
  obtain ⟨rfl, rfl⟩ := hk
  refine ⟨trivial, ?_⟩
  cases hc1 : squareB M
  · skip
    refine r_not rfl (r_nil (q_t ?_))
    refine w_true rfl ?_
    refine w_seq ?_
    refine w_reg ?_
    refine r_as (r_as (r_nil (q_t ?_)))
    refine w_ret (q_tr ?_)
    refine ⟨_, retV_2, ?_⟩
    exact ⟨Ext.refl _, _, _, rfl, .inl ⟨hc1, rfl, mat_nil _⟩⟩
  · skip
    refine r_not rfl (r_nil (q_t ?_))
    refine w_false rfl ?_
    refine w_skip (q_t ?_)
    refine w_seq ?_
    refine w_seq ?_
    refine w_reg ?_
    refine r_mv (r_call trivial rfl (checkModulus_ok m h) fun v' h hk => ?_)
    obtain ⟨rfl, rfl⟩ := hk
    refine ⟨trivial, ?_⟩
    refine r_as (r_nil (q_t ?_))
    refine w_seq ?_
    refine w_reg ?_
    refine r_mv (r_neq rfl rfl (fun hc2 => ?_) (fun hc2 => ?_))   -- t22 := binOp neq 30 t21 0:i64 30
    · skip
      refine r_nil (q_t ?_)
      refine w_true rfl ?_
      refine w_seq ?_
      refine w_reg ?_
      refine r_mv (r_as (r_as (r_nil (q_t ?_))))
      refine w_ret (q_tr ?_)
      refine ⟨_, retV_2, ?_⟩
      have hmB : modB m = false := by cases hb : modB m <;> simp [hb] at hc2 ⊢
      exact ⟨Ext.refl _, _, _, rfl, .inr (.inl ⟨hc1, hmB, by simp [hmB], mat_nil _⟩)⟩
    · skip
      refine r_nil (q_t ?_)
      refine w_false rfl ?_
      refine w_skip (q_t ?_)
      refine w_seq ?_
      have hmB : modB m = true := by cases hb : modB m <;> simp [hb] at hc2 ⊢
      have hm := mod_of_modB hmB
      obtain ⟨hv, hsq, h8⟩ := square_of hc1
      have hv1 := hv.1
      have hv2 := hv.2.1
      refine w_reg ?_
      refine r_mv (r_lenm sl_MM rfl (HM.ext hE0) (r_as (r_nil (q_t ?_))))
      refine w_seq ?_
      refine w_reg ?_
      refine r_mv (r_mv ?_)
      have hmB : modB m = true := by cases hb : modB m <;> simp [hb] at hc2 ⊢
      have hm := mod_of_modB hmB
      obtain ⟨hv, hsq, h8⟩ := square_of hc1
      have hv1 := hv.1
      have hv2 := hv.2.1
      refine r_call trivial rfl (residues_ok HM hm.1 hm.2 (by omega) (valid_le hv)) fun r1 h2 hk => ?_
      obtain ⟨hE1, b, gs, HO1, hb⟩ := hk
      refine ⟨trivial, ?_⟩
      have HO2 := residues_tab (c := M.length) (h := h) HO1 (fun z hz => by rw [hv.2.2.2.2 z hz]; omega)
      have hbd0 := bd_red (M := M) (c := M.length) (m := m) (by omega)
      refine r_as (r_nil (q_t ?_))
      refine w_seq ?_
      refine w_seq ?_
      refine w_reg ?_
      refine r_mv (r_lenp sl_MM rfl HO2 (r_mv (r_nil (q_t ?_))))
      refine w_block ?_
      refine w_loop 4503597479887360 (fun i : Nat => [(31, .int .i64 (i : Int))]) (fun k i h' => Ext h h' ∧ k = M.length - i ∧ i ≤ M.length ∧ ∃ gs', PartM h' tR tI b gs' r1 M.length (mixM M.length i (fun k => (List.range (M.length + M.length)).map (augF M.length (ent (redM M m)) k)) (fun k => (List.range M.length).map (ent (redM M m) k))) ∧ ∀ g ∈ b :: gs', h.size ≤ g) (by kernel_rfl) M.length 0 ?_ ⟨rfl, trivial⟩ ?_
      · exact ⟨hE1, by omega, by omega, gs, by rw [mixM_zero]; exact HO2, hb⟩
      rintro k i sx h3 ⟨hEA, rfl, hi, gsA, HPA, hgA⟩
      refine w_seq ?_
      refine w_reg ?_
      refine r_lss rfl rfl (fun hc3 => ?_) (fun hc3 => ?_)   -- t32 := binOp lss 3 t31 t30 3
      · skip
        refine r_nil (q_t ?_)
        refine w_seq ?_
        refine w_true rfl ?_
        refine w_skip (q_t ?_)
        refine w_seq ?_
        refine w_block ?_
        refine w_seq ?_
        refine w_reg ?_
        refine r_mv (r_as (r_nil (q_t ?_)))
        refine w_seq ?_
        refine w_reg ?_
        refine r_mv (r_mv (r_mv (r_mv (r_ixp sl_MM rfl HPA rfl (mixM_at (by omega)) fun aK rK gK haK hgK hrK => ?_))))
        refine r_ld na_I64 rfl haK (r_mv (r_appZ (n := M.length) sl_I64 it_int ze_i64 rfl trivial rfl hrK rfl (by omega) (by simp; omega) (by simp; omega) fun r4 g4 h4 HO4 hg4 hU4 => ⟨trivial, ?_⟩))
        obtain ⟨rs, HT, hrl⟩ := PartM.top HPA
        have hKb := PartM.ne HPA hgK
        have HT4 := HT.upd hU4 (fun he => hKb (Eq.symm he))
        have HO4b : OwnA h4 tI g4 r4 (((List.range M.length).map (ent (redM M m) i) ++ List.replicate M.length 0).map (.int .i64)) := by
          rw [List.map_append, List.map_replicate]; exact HO4
        refine r_ixo sl_MM rfl HT4 rfl (by omega) ?_
        refine r_sto na_I64 rfl rfl HO4.one HT4 (by omega) ?_
        have hg4s : g4 = gK ∨ h3.size ≤ g4 := by
          rcases hg4 with h | h
          · exact .inl h
          · exact .inr (by omega)
        have HPB := PartM.replace HPA hgK hU4 HO4b hg4s
        have hgKm := hgA gK (List.mem_cons_of_mem _ (List.mem_of_getElem? hgK))
        have hb0 := hgA b (List.mem_cons_self ..)
        have hg4m : h.size ≤ g4 := by
          rcases hg4s with h | h
          · omega
          · have := hEA.1; omega
        have hgB : ∀ g ∈ b :: gsA.set i g4, h.size ≤ g := fun g hg => by
          rcases List.mem_cons.1 hg with rfl | hg
          · exact hb0
          · exact mem_set_ge (fun g hg => hgA g (List.mem_cons_of_mem _ hg)) hg4m g hg
        have hEB := (hEA.thenUpd hU4 (fun k hk => by have hk2 : k = gK := hk; omega)).thenUpd (upd_set h4 ⟨b, i, none⟩ r4) (fun k hk => by have hk2 : k = b := hk; omega)
        have hgl : gsA.length = M.length := by have := PartM.glen HPA; rw [mixM_len] at this; exact this
        refine r_nil (q_t ?_)
        refine w_reg ?_
        refine r_mv (r_mv (r_ixp sl_MM rfl HPB rfl (List.getElem?_set_self (by rw [mixM_len]; omega)) fun aQ rQ gQ haQ hgQ hrQ => ?_))
        refine r_ld na_I64 rfl haQ (r_mv (r_mv (r_addn rfl rfl (by omega) ?_)))
        refine r_ixo (n := M.length + i) sl_I64 rfl hrQ rfl (by simp; omega) ?_
        refine r_sto na_i64 rfl rfl rfl hrQ (by simp; omega) ?_
        have HPC := PartM.setElem HPB hgQ (List.getElem?_set_self (by rw [mixM_len]; omega)) (j := M.length + i) (by simp; omega) 1
        rw [List.set_set, aug_row _ (by omega), mixM_set rfl] at HPC
        have hEC := hEB.thenUpd (upd_set _ ⟨gQ, M.length + i, none⟩ (.int .i64 1)) (fun k hk => by have hk2 : k = gQ := hk; have := hgB gQ (List.mem_cons_of_mem _ (List.mem_of_getElem? hgQ)); omega)
        refine r_nil (q_b (q_t ?_))
        refine w_reg ?_
        refine r_inc rfl (by omega) (r_mv (r_nil (q_t ?_)))
        exact ⟨M.length - (i + 1), i + 1, by omega, ⟨hEC, rfl, by omega, _, HPC, hgB⟩, rfl, trivial⟩
      · skip
        refine r_nil (q_t ?_)
        refine w_seq ?_
        refine w_false rfl ?_
        refine w_exit (q_tx (q_tx (q_bx (q_t ?_))))
        refine w_seq ?_
        refine w_reg ?_
        refine r_mv (r_mv ?_)
        rw [mixM_all _ _ (by omega)] at HPA
        refine r_call trivial rfl (triangular_ok HPA (by omega) (by omega) hm.1 hm.2 (bd_aug hm.1 hbd0) Q (hQ0 hc1 hmB) hQ) fun x3 h5 hk => ?_
        obtain ⟨hU5, F1, s, gs1, rfl, hs, HP5, hgs1, hQ1, hbd1, hz1⟩ := hk
        refine ⟨trivial, ?_⟩
        have hE5 := hEA.thenUpd hU5 (fun k hk => hgA k hk)
        have hlt := PartM.lt HP5
        have hge : ∀ g ∈ b :: gs1, h.size ≤ g := fun g hg => hgA g (by
          rcases List.mem_cons.1 hg with rfl | hg
          · exact List.mem_cons_self ..
          · exact List.mem_cons_of_mem _ (hgs1 g hg))
        refine r_nil (q_t ?_)
        refine w_seq ?_
        refine w_reg ?_
        refine r_mv (r_call trivial rfl (eliminator_ok m h5) fun fv h6 hk => ?_)
        obtain ⟨rfl, rfl⟩ := hk
        refine ⟨trivial, ?_⟩
        have hpush := ext_push h5 (.cells #[.int .i64 m] tI (0, 0))
        refine r_as (r_nil (q_t ?_))
        refine w_seq ?_
        refine w_seq ?_
        refine w_reg ?_
        refine r_mv (r_subb rfl rfl (by omega) (by omega) (r_as (r_nil (q_t ?_))))
        refine w_block ?_
        refine w_loop 81129638414606105235036701751344 (fun y : Nat × Int => [(11, .int .i64 y.2)]) (fun k y h' => k = M.length - y.1 ∧ y.1 ≤ M.length ∧ y.2 = (M.length : Int) - 1 - (y.1 : Int) ∧ EchI h5 h' b gs1 r1 M.length (M.length + M.length) m (backTo m M.length F1 y.1) (.slice none 0 0) [] gs1 ∧ ∀ c, M.length - y.1 ≤ c → c < M.length → ∃ z, IsInv m (F1 c c) z) (by kernel_rfl) M.length (0, (M.length : Int) - 1) ?_ ⟨rfl, trivial⟩ ?_
        · refine ⟨rfl, by omega, by simp, ⟨hpush.upd, PartM.ext HP5 hpush, fun g hg => hg, gro_nil _ _ _, ?_, by simp⟩, fun c h1 h2 => absurd h1 (by simp; omega)⟩
          simp [cellH]
        rintro k ⟨j, xv⟩ sy h6 ⟨rfl, hj, hxv, HIB, hall⟩
        dsimp only at hj hxv HIB hall ⊢
        refine w_seq ?_
        refine w_seq ?_
        refine w_reg ?_
        refine r_mv (r_geq rfl rfl (fun hc4 => ?_) (fun hc4 => ?_))   -- t60 := binOp geq 3 t59 0:i64 3
        · skip
          refine r_nil (q_t ?_)
          refine w_true rfl ?_
          refine w_skip (q_t ?_)
          refine w_seq ?_
          refine w_block ?_
          refine w_seq ?_
          obtain ⟨c, rfl⟩ : ∃ c : Nat, xv = (c : Int) := ⟨xv.toNat, by omega⟩
          obtain ⟨G, hG⟩ : ∃ G, backTo m M.length F1 j = G := ⟨_, rfl⟩
          rw [hG] at HIB
          have HPG := HIB.2.1
          have hbdG : Bd M.length (M.length + M.length) m G := hG ▸ bd_back (by omega) hbd1 j
          have hx := hbdG c c (by omega) (by omega)
          have hdiag : G c c = F1 c c := by rw [← hG]; exact back_col (by omega) hbd1 (by omega) hz1 j (by omega) c c (by omega) (by omega)
          refine w_reg ?_
          refine r_mv (r_mv (r_ixp sl_MM rfl HPG rfl (tab_row (by omega)) fun aR rR gR haR hgR hrR => ?_))
          refine r_ld na_I64 rfl haR (r_mv (r_ixi sl_I64 rfl hrR.sl rfl (range_at (by omega)) fun aX haX => ?_))
          refine r_ld na_i64 rfl haX (r_mv (r_call trivial rfl (reciprocal_ok (x := G c c) (m := m) hx.1 hx.2 hm.1 hm.2 _) fun rv h7 hk => ?_))
          obtain ⟨rfl, inv, ok, rfl, hi0, him, hok, hno⟩ := hk
          refine ⟨trivial, ?_⟩
          refine r_mv (r_ext rfl rfl (r_ext rfl rfl (r_as (r_as (r_nil (q_t ?_))))))
          refine w_seq ?_
          refine w_seq ?_
          refine w_reg ?_
          refine r_mv (r_not rfl (r_nil (q_t ?_)))
          refine ⟨_, rfl, fun hc5 => ?_, fun hc5 => ?_⟩
          · skip
            refine w_seq ?_
            refine w_reg ?_
            refine r_as (r_as (r_nil (q_t ?_)))
            refine w_ret (q_tr (q_br (q_tr (q_tr (q_br (q_tr ?_))))))
            refine ⟨_, retV_2, ?_⟩
            have hok2 : ok = false := by cases ok <;> simp at hc5 ⊢
            exact ⟨hE5.thenUpd HIB.1 (fun k hk => hge k hk), _, _, rfl, .inr (.inr ⟨hc1, hmB, F1, s, hs, hQ1, hbd1, hz1, .inl ⟨rfl, mat_nil _, c, by omega, hdiag ▸ hno hok2⟩⟩)⟩
          · skip
            refine w_skip (q_t ?_)
            refine w_seq ?_
            have hok2 : ok = true := by cases ok <;> simp at hc5 ⊢
            have hinv := invM_eq (hok hok2)
            have HPG := HIB.2.1
            refine w_reg ?_
            refine r_mv (r_mv (r_ixp sl_MM rfl HPG rfl (tab_row (by omega)) fun aS rS gS haS hgS hrS => ?_))
            refine r_ld na_I64 rfl haS (r_mv (r_mv (r_call trivial rfl (scale_ok hrS (row_bd hbdG (by omega)) hi0 him hm.1 hm.2 (by simp; omega)) fun sv h8 hk => ?_)))
            obtain ⟨hU8, HO8⟩ := hk
            refine ⟨trivial, ?_⟩
            rw [scale_row] at HO8
            have HP8 := PartM.setRow' HIB.2.1 hgS hU8 (tab_row (by omega)) hrS HO8
            rw [tab_setF] at HP8
            have HI8 := HIB.turn hlt hU8 (List.mem_cons_of_mem _ (List.mem_of_getElem? hgS)) (F2 := scaleF G c inv m) HP8 HIB.2.2.1
            have hbd8 := bd_scale (a := c) (f := inv) (by omega : 0 < m) hbdG
            refine r_nil (q_t ?_)
            refine w_seq ?_
            refine w_reg ?_
            refine r_mv (r_mv (r_nil (q_t ?_)))
            refine w_block ?_
            refine w_loop 81129599728980454027655414562816 (fun q : Nat => [(85, .int .i64 (q : Int))]) (fun k q h' => k = c - q ∧ q ≤ c ∧ EchI h5 h' b gs1 r1 M.length (M.length + M.length) m (elimF (scaleF G c inv m) c c m q) (.slice none 0 0) [] gs1) (by kernel_rfl) c 0 ?_ ⟨rfl, trivial⟩ ?_
            · exact ⟨rfl, by omega, by rw [elimF_zero]; exact HI8⟩
            rintro k q sz h9 ⟨rfl, hq, HIk⟩
            have HPk := HIk.2.1
            refine w_seq ?_
            refine w_reg ?_
            refine r_lss rfl rfl (fun hc6 => ?_) (fun hc6 => ?_)   -- t86 := binOp lss 3 t85 t84 3
            · skip
              refine r_nil (q_t ?_)
              refine w_seq ?_
              refine w_true rfl ?_
              refine w_skip (q_t ?_)
              refine w_seq ?_
              refine w_block ?_
              refine w_seq ?_
              have hbk := bd_elim (k := q) (top := c) (j := c) (by omega : 0 < m) hbd8
              have hY := hbk q c (by omega) (by omega)
              refine w_reg ?_
              refine r_mv (r_as (r_nil (q_t ?_)))
              refine w_draw (by kernel_rfl) ?_
              refine r_mv (r_mv (r_mv (r_ixp sl_MM rfl HPk rfl (tab_row (by omega)) fun aK rK gK haK hgK hrK => ?_)))
              refine r_ld na_I64 rfl haK (r_mv (r_mv (r_ixp sl_MM rfl HPk rfl (tab_row (by omega)) fun aL rL gL haL hgL hrL => ?_)))
              refine r_ld na_I64 rfl haL ?_
              have hgKm : gK ∈ b :: gs1 := List.mem_cons_of_mem _ (List.mem_of_getElem? hgK)
              have hneKL : gK ≠ gL := fun he => absurd (nodup_getElem?_inj (List.nodup_cons.1 (PartM.nodup HIk.2.1)).2 hgK (he ▸ hgL)) (by omega)
              refine r_mv ?_
              refine r_mv (r_ixp sl_MM rfl HPk rfl (tab_row (by omega)) fun aN rN gN haN hgN hrN => ?_)
              refine r_ld na_I64 rfl haN (r_mv (r_ixi sl_I64 rfl hrN.sl rfl (range_at (by omega)) fun aY haY => ?_))
              refine r_ld na_i64 rfl haY (r_callc trivial rfl rfl (eliminate_ok (a := ⟨h5.size, 0, none⟩) hrK hrL hneKL (by simp) HIk.2.2.2.2.1 (by have := hlt _ hgKm; dsimp only; omega) (row_bd hbk (by omega)) (row_bd hbk (by omega)) hY.1 hY.2 hm.1 hm.2 (by simp; omega)) fun ev h10 hk => ?_)
              obtain ⟨hU10, HO10⟩ := hk
              refine ⟨trivial, ?_⟩
              rw [elim_row] at HO10
              have HP10 := PartM.setRow' HIk.2.1 hgK hU10 (tab_row (by omega)) hrK HO10
              rw [tab_setF] at HP10
              simp only [elimF_at, elimF_top] at HP10
              rw [elimF_step (by omega)] at HP10
              have HI10 := HIk.turn hlt hU10 hgKm HP10 HIk.2.2.1
              refine r_nil (q_b (q_t ?_))
              refine w_reg ?_
              refine r_inc rfl (by omega) (r_mv (r_nil (q_t ?_)))
              exact ⟨c - (q + 1), q + 1, by omega, ⟨rfl, by omega, HI10⟩, rfl, trivial⟩
            · skip
              refine r_nil (q_t ?_)
              refine w_seq ?_
              refine w_false rfl ?_
              refine w_exit (q_tx (q_tx (q_bx (q_b (q_t ?_)))))
              refine w_reg ?_
              refine r_mv (r_subb rfl rfl (by omega) (by omega) (r_as (r_nil (q_t ?_))))
              obtain rfl : q = c := by omega
              have hS : backTo m M.length F1 (j + 1) = elimF (scaleF G q inv m) q q m q := by
                simp only [backTo, backS]
                rw [hG, show M.length - 1 - j = q by omega, hinv]
              refine ⟨M.length - (j + 1), (j + 1, (q : Int) - 1), by first | omega | (dsimp only; omega), ⟨rfl, by first | omega | (dsimp only; omega), by simp; omega, ?_, fun c h1 h2 => ?_⟩, rfl, trivial⟩
              · dsimp only
                rw [hS]; exact HIk
              · dsimp only at h1
                by_cases hcq : c = q
                · subst hcq; exact ⟨inv, hdiag ▸ hok hok2⟩
                · exact hall c (by omega) h2
        · skip
          refine r_nil (q_t ?_)
          refine w_false rfl ?_
          refine w_exit (q_tx (q_tx (q_bx (q_t ?_))))
          refine w_seq ?_
          refine w_seq ?_
          obtain rfl : j = M.length := by omega
          have HPG := HIB.2.1
          refine w_reg ?_
          refine r_mv (r_lenp sl_MM rfl HPG (r_mv (r_nil (q_t ?_))))
          refine w_block ?_
          refine w_loop 5316587464586005064888445085100834816 (fun i : Nat => [(108, .int .i64 (i : Int))]) (fun k i h' => Ext h h' ∧ k = M.length - i ∧ i ≤ M.length ∧ ∃ gs', PartM h' tR tI b gs' r1 M.length (mixM M.length i (fun k => (List.range M.length).map fun j => backTo m M.length F1 M.length k (M.length + j)) (fun k => (List.range (M.length + M.length)).map (backTo m M.length F1 M.length k))) ∧ ∀ g ∈ b :: gs', h.size ≤ g) (by kernel_rfl) M.length 0 ?_ ⟨rfl, trivial⟩ ?_
          · exact ⟨hE5.thenUpd HIB.1 (fun k hk => hge k hk), by omega, by omega, gs1, by rw [mixM_zero]; exact HPG, hge⟩
          rintro k i sw h11 ⟨hEW, rfl, hi, gsW, HPW, hgW0⟩
          refine w_seq ?_
          refine w_reg ?_
          refine r_lss rfl rfl (fun hc7 => ?_) (fun hc7 => ?_)   -- t109 := binOp lss 3 t108 t107 3
          · skip
            refine r_nil (q_t ?_)
            refine w_seq ?_
            refine w_true rfl ?_
            refine w_skip (q_t ?_)
            refine w_seq ?_
            refine w_block ?_
            refine w_seq ?_
            refine w_reg ?_
            refine r_mv (r_as (r_nil (q_t ?_)))
            refine w_reg ?_
            refine r_mv (r_mv (r_mv (r_mv (r_ixp sl_MM rfl HPW rfl (mixM_at (by omega)) fun aW rW gW haW hgW hrW => ?_))))
            refine r_ld na_I64 rfl haW (r_mv ?_)
            obtain ⟨capW, hvW, hcW⟩ := hrW.slice
            have hlW : (((List.range (M.length + M.length)).map (backTo m M.length F1 M.length i)).map (Value.int .i64)).length = M.length + M.length := by simp
            rw [hlW] at hvW hcW
            have HX := hrW.from (k := M.length) (cap := capW) hlW (by omega) (by omega)
            rw [drop_row] at HX
            refine r_slFrom sl_I64 hvW rfl (by omega) hcW ?_
            refine r_app0 sl_I64 ze_i64 rfl trivial rfl rfl HX (by simp [isOne]) (by rw [List.map_map]; exact range_map_ne (by omega)) (by simp; omega) (by simp; omega) fun r12 h12 HO12 hE12 => ⟨trivial, ?_⟩
            obtain ⟨rs, HT, hrl⟩ := PartM.top HPW
            have HT4 := HT.ext hE12
            refine r_ixo sl_MM rfl HT4 rfl (by omega) ?_
            refine r_sto na_I64 rfl rfl HO12.one HT4 (by omega) ?_
            have HPY := PartM.replace HPW hgW hE12.upd HO12 (.inr (Nat.le_refl _))
            rw [mixM_set rfl] at HPY
            refine r_nil (q_b (q_t ?_))
            refine w_reg ?_
            refine r_inc rfl (by omega) (r_mv (r_nil (q_t ?_)))
            have hEY := (hEW.trans hE12).thenUpd (upd_set h12 ⟨b, i, none⟩ r12) (fun k hk => by have hk2 : k = b := hk; have := hgW0 b (List.mem_cons_self ..); omega)
            exact ⟨M.length - (i + 1), i + 1, by omega, ⟨hEY, rfl, by omega, _, HPY, fun g hg => by
              rcases List.mem_cons.1 hg with rfl | hg
              · exact hgW0 _ (List.mem_cons_self ..)
              · exact mem_set_ge (fun g hg => hgW0 g (List.mem_cons_of_mem _ hg)) hEW.1 g hg⟩, rfl, trivial⟩
          · skip
            refine r_nil (q_t ?_)
            refine w_seq ?_
            refine w_false rfl ?_
            refine w_exit (q_tx (q_tx (q_bx (q_t ?_))))
            refine w_seq ?_
            refine w_reg ?_
            refine r_mv (r_as (r_as (r_nil (q_t ?_))))
            refine w_ret ?_
            refine ⟨_, retV_2, ?_⟩
            obtain rfl : i = M.length := by omega
            rw [mixM_all _ _ (by omega)] at HPW
            refine ⟨hEW, _, _, rfl, .inr (.inr ⟨hc1, hmB, F1, s, hs, hQ1, hbd1, hz1, .inr ⟨rfl, fun c hc => hall c (by omega) hc, ?_⟩⟩)⟩
            exact (show OwnM h11 tR tI b gsW r1 (tab M.length M.length fun i j => backTo m M.length F1 M.length i (M.length + j)) by unfold OwnM; rw [tab_len]; exact HPW).mat

end Go.Proofs.YtdlfineibanppaaDoor


/-
  Determinants modulo a number, and the contract of Det of package modular by the determinant.
-/
namespace Go.QF
set_option linter.unusedVariables false
theorem det_eqm : ∀ {n : Nat} {m : Int} {F G : Nat → Nat → Int}, (∀ i j, i < n → j < n → Eqm m (F i j) (G i j)) → Eqm m (det n F) (det n G) := by
  intro n m
  induction n with
  | zero => intro _ _ _; rfl
  | succ n ih =>
    intro F G h
    refine Eqm.psum fun i hi => ?_
    exact ((Eqm.refl _ _).mul (h i 0 hi (by omega))).mul (ih (F := minor0 i F) (G := minor0 i G) fun a b ha hb => h _ _ (skp_lt ha) (by omega))
/-- A row step modulo m. -/
theorem det_stepF {n c i : Nat} {q m : Int} {F : Nat → Nat → Int} (hc : c < n) (hi : i < n) (hne : c ≠ i) : Eqm m (det n (stepF F c i q m)) (-det n F) := by
  rw [← det_add_row (F := F) hc hi hne (-q), ← det_swap (F := setF F c fun x => F c x + -q * F i x) hc hi hne]
  refine det_eqm fun a b ha hb => ?_
  unfold stepF
  rw [swapF_app, swapF_app]
  simp only [setF_app]
  have key : Eqm m ((F c b + (m - q) * F i b) % m) (F c b + -q * F i b) := by
    refine (Eqm.mod _ _).trans ?_
    unfold Eqm
    rw [show F c b + (m - q) * F i b = F c b + -q * F i b + m * F i b by grind, Int.add_mul_emod_self_left]
  split
  · split <;> first | exact key | rfl
  · split
    · split <;> first | exact key | rfl
    · first | rfl | exact key
theorem detP_eqm {F : Nat → Nat → Int} {m s : Int} : ∀ n, Eqm m (detP F m s n) (s * dprod (fun i => F i i) n) := by
  intro n
  induction n with
  | zero => unfold detP dprod Eqm; rw [Int.add_emod_right, Int.mul_one]
  | succ n ih =>
    unfold detP dprod
    refine (Eqm.mod _ _).trans ?_
    rw [← Int.mul_assoc]
    exact ((Eqm.mod _ _).trans ih).mul (Eqm.refl _ _)
/-- What Det answers. -/
def detS (M : List (List Int)) (m : Int) : Int := if squareB M && modB m then det M.length (ent M) % m else 0
def detE (M : List (List Int)) (m : Int) : Int := if squareB M then (if modB m then 0 else 1) else 3
end Go.QF
namespace Go.Proofs.YtdlfineibanppaaDoor
open Go Go.QF
set_option linter.unusedVariables false
theorem Det_val {h : Heap} {v : Value} {M : List (List Int)} (HM : Mat h v M) (m : Int) : CallH Tryd.prog 30 #[v, .int .i64 m] h fun x h' => Ext h h' ∧ x = .tuple #[.int .i64 (detS M m), .int .i64 (detE M m)] := by
  refine (Det_ok HM m (fun F s => Eqm m (det M.length F) (s * det M.length (ent M))) (fun _ _ => ?_) (fun F s c i q hc hi hne _ _ _ H => ?_)).mono fun x h' ⟨hE, d, e, hx, hk⟩ => ⟨hE, ?_⟩
  · rw [Int.one_mul]
    exact det_eqm fun i j _ _ => by rw [ent_red]; exact Eqm.mod _ _
  · refine (det_stepF hc hi hne).trans ?_
    rw [Int.neg_mul]
    have := (Eqm.refl m 0).sub H
    rwa [Int.zero_sub, Int.zero_sub] at this
  · subst hx
    rcases hk with ⟨h1, rfl, rfl⟩ | ⟨h1, h2, rfl, rfl⟩ | ⟨h1, h2, rfl, F1, s, hs, hQ, hbd, hz, rfl⟩
    · simp [detS, detE, h1]
    · simp [detS, detE, h1, h2]
    · have hm := mod_of_modB h2
      have hsq := square_of h1
      have hl := hsq.1.1
      have h3 : Eqm m (detP F1 m s M.length) (det M.length (ent M)) := by
        refine (detP_eqm _).trans ?_
        rw [← det_upper hz]
        refine ((Eqm.refl m s).mul hQ).trans (Eqm.of_eq ?_)
        rcases hs with rfl | rfl <;> grind
      have h4 : 0 ≤ detP F1 m s M.length ∧ detP F1 m s M.length < m := by
        obtain ⟨k, hk⟩ : ∃ k, M.length = k + 1 := ⟨M.length - 1, by omega⟩
        rw [hk]; unfold detP
        exact ⟨Int.emod_nonneg _ (by omega), Int.emod_lt_of_pos _ (by omega)⟩
      have h5 : detP F1 m s M.length = det M.length (ent M) % m := by
        unfold Eqm at h3
        rw [← h3, Int.emod_eq_of_lt h4.1 h4.2]
      simp [detS, detE, h1, h2, h5]
end Go.Proofs.YtdlfineibanppaaDoor


/-
  The examples of the sanity check, in numbers; literals of slices. No condition.
-/
namespace Go.QF
open Go
set_option linter.unusedVariables false

theorem colS_congr {rc rc' : Int → Int} {r c j : Nat} {m : Int} {s : (Nat → Nat → Int) × List Nat} (hm : 0 < m) (h : ∀ x, 0 < x → x < m → rc x = rc' x) (H : Bd r c m s.1) (hj : j < c) : colS rc r m j s = colS rc' r m j s := by
  unfold colS
  dsimp only
  split
  · rename_i hi
    have hle := (firstNZ_le s.1 j (r - s.2.length) s.2.length).1
    have hne := firstNZ_ne s.1 j (r - s.2.length) s.2.length (by omega)
    have hb := H _ j hi hj
    rw [swapF_at2, h _ (by omega) hb.2]
  · rfl
theorem echTo_congr {rc rc' : Int → Int} {r c : Nat} {m : Int} {F : Nat → Nat → Int} (hm : 0 < m) (h : ∀ x, 0 < x → x < m → rc x = rc' x) (H : Bd r c m F) : ∀ j, j ≤ c → echTo rc r m F j = echTo rc' r m F j := by
  intro j
  induction j with
  | zero => intro _; rfl
  | succ j ih =>
    intro hj
    simp only [echTo]
    rw [colS_congr hm h (bd_ech hm H j) (by omega), ih (by omega)]
theorem pr2 : Pr 2 := ⟨by omega, fun d h1 h2 => by omega⟩
theorem pr3 : Pr 3 := ⟨by omega, fun d h1 h2 => by
  obtain rfl : d = 2 := by omega
  decide⟩
theorem inv2 : ∀ x, 0 < x → x < 2 → invM 2 x = id x := fun x h1 h2 => by
  obtain rfl : x = 1 := by omega
  exact invM_eq ⟨by decide, by decide, by decide⟩
theorem inv3 : ∀ x, 0 < x → x < 3 → invM 3 x = id x := fun x h1 h2 => by
  rcases (by omega : x = 1 ∨ x = 2) with rfl | rfl
  · exact invM_eq ⟨by decide, by decide, by decide⟩
  · exact invM_eq ⟨by decide, by decide, by decide⟩
def awA : List (List Int) := [[2, 4], [1, 1]]
def awB : List (List Int) := [[1, 1]]
theorem eF_congr {M : List (List Int)} {p : Int} (hp : 0 < p) (h : ∀ x, 0 < x → x < p → invM p x = id x) : eF M p = echTo id M.length p (ent (redM M p)) (cols M) := by
  unfold eF
  refine echTo_congr (c := cols M) hp h ?_ _ (Nat.le_refl _)
  have := bd_ent (c := cols M) hp (rem_red hp M)
  rw [red_len] at this
  exact this
theorem awA_pri : priB awA 2 = true := by
  unfold priB
  rw [← validB_t (by decide), ← primeB_t (by decide) pr2]; rfl
theorem awA_ech : echS awA 2 = [[1, 1]] := by
  unfold echS
  rw [awA_pri, eF_congr (by decide) inv2]; decide
theorem awA_piv : pivS awA 2 = [0] := by
  unfold pivS
  rw [awA_pri, eF_congr (by decide) inv2]; decide
theorem awA_err : echE awA 2 = 0 := by
  unfold echE
  rw [← validB_t (by decide), ← primeB_t (by decide) pr2]; rfl
theorem awB_pri : priB awB 3 = true := by
  unfold priB
  rw [← validB_t (by decide), ← primeB_t (by decide) pr3]; rfl
theorem awB_err : echE awB 3 = 0 := by
  unfold echE
  rw [← validB_t (by decide), ← primeB_t (by decide) pr3]; rfl
theorem awB_ker : kerS awB 3 = [[1, 2]] := by
  unfold kerS
  rw [awB_pri, eF_congr (by decide) inv3]
  unfold echZ
  rw [echTo_congr (c := cols awB) (by decide) inv3 (bd_ent (by decide) (kerB_rem (by decide))) _ (Nat.le_refl _)]
  decide
def awQ (x : Int) (F : Nat → Nat → Int) (s : Int) : Prop := F = augF 1 (ent (redM [[x]] 9))
theorem mat1 {h : Heap} {v r0 : Value} {z0 : List Int} (hS : Sl h v [r0]) (h0 : Sl h r0 (z0.map (.int .i64))) : Mat h v [z0] :=
  ⟨[r0], hS, rfl, fun i r z hr hz => by
    cases i with
    | zero => simp at hr hz; subst hr; subst hz; exact h0
    | succ i => simp at hr⟩
theorem mat2 {h : Heap} {v r0 r1 : Value} {z0 z1 : List Int} (hS : Sl h v [r0, r1]) (h0 : Sl h r0 (z0.map (.int .i64))) (h1 : Sl h r1 (z1.map (.int .i64))) : Mat h v [z0, z1] :=
  ⟨[r0, r1], hS, rfl, fun i r z hr hz => by
    match i with
    | 0 => simp at hr hz; subst hr; subst hz; exact h0
    | 1 => simp at hr hz; subst hr; subst hz; exact h1
    | i + 2 => simp at hr⟩
section
variable {P : Program} {B : Heap → Prop} {st : Bool} {ops : Array Oper} {rest : List Oper} {e : Env} {h : Heap} {K : Env → Heap → Prop}
variable {d : Nat} {ty : TypeId} {pos : String} {af : Array Edge}
theorem r_lit {t el bytes n : Nat} {z : Value} {parts : List (Nat × Operand)} (l : List Value) (hT : SlT P t el 1) (hz : ZeT P el z bytes) (h1 : isOne z = true) (hbB : ∀ h', B h') (hn : l.length = n) (hn2 : n ≤ 16777216) (hpos : 0 < n) (hp : (parts.map fun (i, x) => (i, e.ev x)) = partsOf 0 l)
    (hone : ∀ u ∈ l, isOne u = true) (H : ∀ v' h', Ext h h' → OwnA h' el h.size v' l → RL P B st ops rest (e.set d v') h' K) :
    RL P B st ops (⟨some d, .buildSlice t n parts.toArray, ty, pos, af, none⟩ :: rest) e h K := by
  refine r_bs l hT hz h1 (hbB _) hn hn2 hpos hp hone ⟨hbB _, ?_⟩
  have := ownA_lit h el l (by unfold maxLen; omega)
  rw [hn] at this
  exact H _ _ (ext_push _ _) this
end
end Go.QF


/-
  The sanity check of quadformlaw23: true, and old memory stays.
-/
namespace Go.Proofs.YtdlfineibanppaaDoor
open Go Go.QF
set_option linter.unusedVariables false
set_option maxRecDepth 100000

theorem aw_keeps (x : Int) : Keeps 1 2 9 (awQ x) := fun F s c i q hc hi hne _ _ _ _ => absurd hne (by omega)
theorem aw_inv {h : Heap} {v : Value} (HM : Mat h v [[2]]) : CallH Tryd.prog 23 #[v, .int .i64 9] h fun x h' => Ext h h' ∧ ∃ r, x = .tuple #[r, .int .i64 0] ∧ Mat h' r [[5]] := by
  refine (Inverse_ok HM 9 (awQ 2) (fun _ _ => rfl) (aw_keeps 2)).mono fun x h' hk => ?_
  obtain ⟨hE, r, e, rfl, hk⟩ := hk
  refine ⟨hE, r, ?_⟩
  rcases hk with ⟨h1, _⟩ | ⟨_, h1, _⟩ | ⟨_, _, F1, s, _, hQ, _, _, hk⟩
  · exact absurd h1 (by decide)
  · exact absurd h1 (by decide)
  · have hF : F1 = augF 1 (ent (redM [[2]] 9)) := hQ
    have hinv : invM 9 2 = 5 := invM_eq ⟨by decide, by decide, by decide⟩
    rcases hk with ⟨_, _, c, hc, hn⟩ | ⟨rfl, _, HM2⟩
    · refine absurd ⟨5, ?_⟩ hn
      have hc' : c < 1 := hc
      obtain rfl : c = 0 := by omega
      rw [hF]
      exact ⟨by decide, by decide, by decide⟩
    · refine ⟨rfl, ?_⟩
      have : (tab 1 1 fun i j => backTo 9 1 F1 1 i (1 + j)) = [[5]] := by
        have h0 : F1 0 0 = 2 := by rw [hF]; decide
        have h1 : F1 0 1 = 1 := by rw [hF]; decide
        simp [tab, backTo, backS, elimF_zero, scaleF, setF_same, h0, h1, hinv]
      rw [← this]; exact HM2
theorem aw_sing {h : Heap} {v : Value} (HM : Mat h v [[3]]) : CallH Tryd.prog 23 #[v, .int .i64 9] h fun x h' => Ext h h' ∧ ∃ r, x = .tuple #[r, .int .i64 8] := by
  refine (Inverse_ok HM 9 (awQ 3) (fun _ _ => rfl) (aw_keeps 3)).mono fun x h' hk => ?_
  obtain ⟨hE, r, e, rfl, hk⟩ := hk
  refine ⟨hE, r, ?_⟩
  rcases hk with ⟨h1, _⟩ | ⟨_, h1, _⟩ | ⟨_, _, F1, s, _, hQ, _, _, hk⟩
  · exact absurd h1 (by decide)
  · exact absurd h1 (by decide)
  · have hF : F1 = augF 1 (ent (redM [[3]] 9)) := hQ
    rcases hk with ⟨rfl, _⟩ | ⟨_, hall, _⟩
    · rfl
    · obtain ⟨y, _, _, hy⟩ := hall 0 (by decide)
      have h0 : F1 0 0 = 3 := by rw [hF]; decide
      rw [h0] at hy
      omega

theorem awake_ok {h : Heap} (HO : OffH h) : CallH Tryd.prog 16 #[] h fun x h' => Ext h h' ∧ x = .bool true := by
  refine calls_of_W (l := []) mx Tryd.func16 rfl rfl rfl rfl rfl (by kernel_rfl) ?_
  refine w_seq ?_
  refine w_reg ?_
  refine r_as (r_nil (q_t ?_))
  refine w_seq ?_
  refine w_reg ?_
  refine r_lit [.int .i64 2, .int .i64 4] sl_I64 ze_i64 rfl (fun _ => trivial) rfl (by decide) (by decide) rfl (by simp [isOne]) fun v1 h1 hE1 HO1 => ?_
  refine r_lit [.int .i64 1, .int .i64 1] sl_I64 ze_i64 rfl (fun _ => trivial) rfl (by decide) (by decide) rfl (by simp [isOne]) fun v2 h2 hE2 HO2 => ?_
  refine r_lit [v1, v2] sl_MM ze_I64 rfl (fun _ => trivial) rfl (by decide) (by decide) rfl (by simp [(HO1).one, (HO2).one]) fun v3 h3 hE3 HO3 => ?_
  have HM3 : Mat h3 v3 awA := mat2 HO3.sl (HO1.sl.ext (hE2.trans hE3)) (HO2.sl.ext hE3)
  have hF3 := hE1.trans (hE2.trans hE3)
  refine r_call trivial rfl (Echelon_ok HM3 2 (HO.ext hF3)) fun x1 h4 hk => ?_
  obtain ⟨hE4, vr, vp, rfl, HM4, HP4⟩ := hk
  refine ⟨trivial, ?_⟩
  rw [awA_ech] at HM4
  rw [awA_piv] at HP4
  rw [awA_err]
  have hF4 := hF3.trans hE4
  refine r_mv (r_ext rfl rfl (r_ext rfl rfl (r_ext rfl rfl (r_as (r_as (r_as (r_nil (q_t ?_))))))))
  refine w_seq ?_
  refine w_reg ?_
  refine r_lit [.int .i64 1, .int .i64 1] sl_I64 ze_i64 rfl (fun _ => trivial) rfl (by decide) (by decide) rfl (by simp [isOne]) fun v5 h5 hE5 HO5 => ?_
  refine r_lit [v5] sl_MM ze_I64 rfl (fun _ => trivial) rfl (by decide) (by decide) rfl (by simp [(HO5).one]) fun v6 h6 hE6 HO6 => ?_
  have HM6 : Mat h6 v6 awB := mat1 HO6.sl (HO5.sl.ext hE6)
  have hF6 := hF4.trans (hE5.trans hE6)
  refine r_call trivial rfl (Kernel_ok HM6 3 (HO.ext hF6)) fun x2 h7 hk => ?_
  obtain ⟨hE7, vk, rfl, HM7⟩ := hk
  refine ⟨trivial, ?_⟩
  rw [awB_ker] at HM7
  rw [awB_err]
  have hF7 := hF6.trans hE7
  refine r_mv (r_ext rfl rfl (r_ext rfl rfl (r_as (r_as (r_nil (q_t ?_))))))
  refine w_seq ?_
  refine w_reg ?_
  refine r_lit [.int .i64 2] sl_I64 ze_i64 rfl (fun _ => trivial) rfl (by decide) (by decide) rfl (by simp [isOne]) fun v8 h8 hE8 HO8 => ?_
  refine r_lit [v8] sl_MM ze_I64 rfl (fun _ => trivial) rfl (by decide) (by decide) rfl (by simp [(HO8).one]) fun v9 h9 hE9 HO9 => ?_
  have HM9 : Mat h9 v9 [[2]] := mat1 HO9.sl (HO8.sl.ext hE9)
  have hF9 := hF7.trans (hE8.trans hE9)
  refine r_call trivial rfl (aw_inv HM9) fun x3 h10 hk => ?_
  obtain ⟨hE10, vi, rfl, HM10⟩ := hk
  refine ⟨trivial, ?_⟩
  have hF10 := hF9.trans hE10
  refine r_mv (r_ext rfl rfl (r_ext rfl rfl (r_as (r_as (r_nil (q_t ?_))))))
  refine w_seq ?_
  refine w_reg ?_
  refine r_lit [.int .i64 3] sl_I64 ze_i64 rfl (fun _ => trivial) rfl (by decide) (by decide) rfl (by simp [isOne]) fun v11 h11 hE11 HO11 => ?_
  refine r_lit [v11] sl_MM ze_I64 rfl (fun _ => trivial) rfl (by decide) (by decide) rfl (by simp [(HO11).one]) fun v12 h12 hE12 HO12 => ?_
  have HM12 : Mat h12 v12 [[3]] := mat1 HO12.sl (HO11.sl.ext hE12)
  have hF12 := hF10.trans (hE11.trans hE12)
  refine r_call trivial rfl (aw_sing HM12) fun x4 h13 hk => ?_
  obtain ⟨hE13, vs, rfl⟩ := hk
  refine ⟨trivial, ?_⟩
  have hF13 := hF12.trans hE13
  refine r_mv (r_ext rfl rfl (r_ext rfl rfl (r_as (r_as (r_nil (q_t ?_))))))
  refine w_seq ?_
  refine w_reg ?_
  refine r_mv (r_eql rfl rfl (fun _ => ?_) (fun hc => absurd rfl hc))
  refine r_mv (r_want 38 true (by kernel_rfl) rfl rfl (r_mv (r_want 38 true (by kernel_rfl) rfl rfl (r_eql rfl rfl (fun _ => ?_) (fun hc => absurd rfl hc)))))
  refine r_pickT rfl (r_mv (r_want 42 true (by kernel_rfl) rfl rfl (r_mv (r_want 42 true (by kernel_rfl) rfl rfl (r_eql rfl rfl (fun _ => ?_) (fun hc => absurd rfl hc))))))
  refine r_pickT rfl (r_mv (r_want 46 true (by kernel_rfl) rfl rfl (r_mv (r_want 46 true (by kernel_rfl) rfl rfl (r_eql rfl rfl (fun _ => ?_) (fun hc => absurd rfl hc))))))
  refine r_pickT rfl (r_mv (r_want 50 true (by kernel_rfl) rfl rfl (r_mv (r_want 50 true (by kernel_rfl) rfl rfl (r_lens sl_II rfl (HP4.ext ((hE5.trans (hE6.trans (hE7.trans (hE8.trans (hE9.trans (hE10.trans (hE11.trans (hE12.trans hE13))))))))) ) ?_)))))
  refine r_want 50 true (by kernel_rfl) rfl rfl (r_eql rfl rfl (fun _ => ?_) (fun hc => absurd rfl hc))
  refine r_pickT rfl (r_mv (r_want 55 true (by kernel_rfl) rfl rfl (r_mv (r_want 55 true (by kernel_rfl) rfl rfl (r_lit [.int .i64 1, .int .i64 1] sl_I64 ze_i64 rfl (fun _ => trivial) rfl (by decide) (by decide) rfl (by simp [isOne]) fun v14 h14 hE14 HO14 => ?_)))))
  refine r_want 55 true (by kernel_rfl) rfl rfl (r_lit [v14] sl_MM ze_I64 rfl (fun _ => trivial) rfl (by decide) (by decide) rfl (by simp [(HO14).one]) fun v15 h15 hE15 HO15 => ?_)
  have HM15 : Mat h15 v15 [[1, 1]] := mat1 HO15.sl (HO14.sl.ext hE15)
  have HA15 := HM4.ext (hE5.trans (hE6.trans (hE7.trans (hE8.trans (hE9.trans (hE10.trans (hE11.trans (hE12.trans (hE13.trans (hE14.trans hE15))))))))))
  refine r_want 55 true (by kernel_rfl) rfl rfl (r_call trivial rfl (Same_ok HA15 HM15 (by simp) (by simp)) fun w0 hz hk => ?_)
  obtain ⟨rfl, rfl⟩ := hk
  refine ⟨trivial, ?_⟩
  rw [show sameB [[1, 1]] [[1, 1]] = true by decide]
  refine r_pickT rfl (r_mv (r_want 61 true (by kernel_rfl) rfl rfl (r_mv (r_want 61 true (by kernel_rfl) rfl rfl (r_lit [.int .i64 1, .int .i64 2] sl_I64 ze_i64 rfl (fun _ => trivial) rfl (by decide) (by decide) rfl (by simp [isOne]) fun v16 h16 hE16 HO16 => ?_)))))
  refine r_want 61 true (by kernel_rfl) rfl rfl (r_lit [v16] sl_MM ze_I64 rfl (fun _ => trivial) rfl (by decide) (by decide) rfl (by simp [(HO16).one]) fun v17 h17 hE17 HO17 => ?_)
  have HM17 : Mat h17 v17 [[1, 2]] := mat1 HO17.sl (HO16.sl.ext hE17)
  have HA17 := HM7.ext (hE8.trans (hE9.trans (hE10.trans (hE11.trans (hE12.trans (hE13.trans (hE14.trans (hE15.trans (hE16.trans hE17)))))))))
  refine r_want 61 true (by kernel_rfl) rfl rfl (r_call trivial rfl (Same_ok HA17 HM17 (by simp) (by simp)) fun w0 hz hk => ?_)
  obtain ⟨rfl, rfl⟩ := hk
  refine ⟨trivial, ?_⟩
  rw [show sameB [[1, 2]] [[1, 2]] = true by decide]
  refine r_pickT rfl (r_mv (r_want 67 true (by kernel_rfl) rfl rfl (r_mv (r_want 67 true (by kernel_rfl) rfl rfl (r_lit [.int .i64 5] sl_I64 ze_i64 rfl (fun _ => trivial) rfl (by decide) (by decide) rfl (by simp [isOne]) fun v18 h18 hE18 HO18 => ?_)))))
  refine r_want 67 true (by kernel_rfl) rfl rfl (r_lit [v18] sl_MM ze_I64 rfl (fun _ => trivial) rfl (by decide) (by decide) rfl (by simp [(HO18).one]) fun v19 h19 hE19 HO19 => ?_)
  have HM19 : Mat h19 v19 [[5]] := mat1 HO19.sl (HO18.sl.ext hE19)
  have HA19 := HM10.ext (hE11.trans (hE12.trans (hE13.trans (hE14.trans (hE15.trans (hE16.trans (hE17.trans (hE18.trans hE19))))))))
  refine r_want 67 true (by kernel_rfl) rfl rfl (r_call trivial rfl (Same_ok HA19 HM19 (by simp) (by simp)) fun w0 hz hk => ?_)
  obtain ⟨rfl, rfl⟩ := hk
  refine ⟨trivial, ?_⟩
  rw [show sameB [[5]] [[5]] = true by decide]
  refine r_pickT rfl (r_as (r_nil (q_t ?_)))
  refine w_ret ?_
  refine ⟨_, retV_1, ?_⟩
  exact ⟨hF13.trans (hE14.trans (hE15.trans (hE16.trans (hE17.trans (hE18.trans hE19))))), rfl⟩

end Go.Proofs.YtdlfineibanppaaDoor


/-
  The program's Det and the sanity check of law 23 in the form that the automatic walks use. Conditions stand in the statements.
-/
namespace Go.Proofs.YtdlfineibanppaaDoor
open Go Go.QF
set_option linter.unusedVariables false
def awakeP (fuel : Nat) : Option Bool := some true
theorem awake_P {fuel : Nat} {h : Heap} {r : Bool} (HO : OffH h) (hp : awakeP fuel = some r) : CallH Tryd.prog 16 #[] h (fun x h' => Ext h h' ∧ x = .bool r) := by
  cases hp
  exact awake_ok HO
def modDetP (fuel : Nat) (M : List (List Int)) (m : Int) : Option (Int × Int) := some (detS M m, detE M m)
theorem modDet_P {fuel : Nat} {h : Heap} {v : Value} {M : List (List Int)} {m : Int} {r : Int × Int} (H : SlC2 (cI .i64) h v M) (hp : modDetP fuel M m = some r) : CallH Tryd.prog 30 #[v, .int .i64 m] h (fun x h' => Ext h h' ∧ x = .tuple #[.int .i64 r.1, .int .i64 r.2]) := by
  cases hp
  exact Det_val (mat_of H) m
end Go.Proofs.YtdlfineibanppaaDoor


/-
  ModularDet, walked.
-/
namespace Go.Proofs.YtdlfineibanppaaDoor
open Go Go.QF
set_option linter.unusedVariables false
set_option linter.unusedSimpArgs false
set_option maxRecDepth 100000
set_option maxHeartbeats 4000000
def P_quadformlaw23_ModularDet (fuel : Nat) (a3 : (List (List Int))) (a5 : Int) (a6 : Int) (a9 : (List Int)) (a11 : Int) (a12 : Int) (a13 : Bool) (a14 : Bool) : Option Bool :=
  ((P_quadformlaw23_large fuel a3).bind fun x21 => (if x21 = true then ((awakeP fuel).bind fun x30 => (some x30)) else (if a14 = true then ((P_quadformmake_Grid_Ints fuel a5 a5 a9 6).bind fun x44 => ((P_quadformlaw23_modulus fuel a11 a12 a13).bind fun x58 => ((modDetP fuel x44 x58).bind fun (x65, x66) => ((P_quadformref23_Det fuel x44 x58).bind fun (x73, x74) => (if x65 = x73 then (if x66 = x74 then ((awakeP fuel).bind fun x85 => (some x85)) else (some false)) else (some false)))))) else ((P_quadformlaw23_modulus fuel a11 a12 a13).bind fun x95 => ((modDetP fuel a3 x95).bind fun (x102, x103) => ((P_quadformref23_Det fuel a3 x95).bind fun (x110, x111) => (if x102 = x110 then (if x103 = x111 then ((awakeP fuel).bind fun x122 => (some x122)) else (some false)) else (some false))))))))
theorem P_quadformlaw23_ModularDet_ok {fuel : Nat} {h : Heap} {pv1 : Value} {a3 : (List (List Int))} {a5 : Int} {a6 : Int} {pv7 : Value} {a9 : (List Int)} {a11 : Int} {a12 : Int} {a13 : Bool} {a14 : Bool} {r : Bool} (H2 : SlC2 (cI .i64) h pv1 a3) (H8 : SlC (cI .i8) h pv7 a9) (HO : OffH h) (hp : P_quadformlaw23_ModularDet fuel a3 a5 a6 a9 a11 a12 a13 a14 = some r) : CallH Tryd.prog 7 #[pv1, (.agg #[(.int .u8 a5), (.int .u8 a6), pv7]), (.int .u16 a11), (.int .i64 a12), (.bool a13), (.bool a14)] h (fun x h' => Ext h h' ∧ x = .bool r) := by
  unfold P_quadformlaw23_ModularDet at hp
  have S0 := sp_nil h (Array.size h)
  refine calls_of_W (l := [_, _, _, _, _, _]) mx Tryd.func7 rfl rfl rfl rfl rfl (by kernel_rfl) ?_
  refine w_seq ?_
  refine w_reg ?_
  refine r_boxE [(.int .u8 a5), (.int .u8 a6), pv7] trivial (fun _ _ => trivial) rfl rfl fun b15 h16 V17 E18 S19 => ?_
  have sz21 := E18.1
  have S22 : Sp h16 (Array.size h) [[b15]] := S0.app S19 E18.1 (Nat.le_refl _)
  have lo23 := S19.loAll 0 rfl
  refine r_as (r_nil (q_t ?_))
  refine w_seq ?_
  refine w_seq ?_
  refine w_reg ?_
  refine r_mv ?_
  obtain ⟨x24, hx25, hp26⟩ := obind hp
  clear hp
  refine r_callE trivial (fun _ _ => trivial) rfl (P_quadformlaw23_large_ok (H2.ext E18) hx25) fun xv30 h28 E27 hk29 => ?_
  subst hk29
  have sz31 := E27.1
  have X32 := E18.trans E27
  have S33 : Sp h28 (Array.size h) [[b15]] := S22.keep E27.1
  refine r_nil (q_t ?_)
  refine ⟨_, rfl, fun hc34 => ?_, fun hc34 => ?_⟩
  · skip
    have hp35 := ifT hp26 hc34
    clear hp26
    refine w_seq ?_
    refine w_reg ?_
    obtain ⟨x36, hx37, hp38⟩ := obind hp35
    clear hp35
    refine r_callE trivial (fun _ _ => trivial) rfl (awake_P (HO.ext X32) hx37) fun xv42 h40 E39 hk41 => ?_
    subst hk41
    have sz43 := E39.1
    have X44 := X32.trans E39
    have S45 : Sp h40 (Array.size h) [[b15]] := S33.keep E39.1
    refine r_as (r_nil (q_t ?_))
    refine w_ret (q_tr ?_)
    have hq46 := Option.some.inj hp38
    subst hq46
    exact ⟨_, retV_1, X44, rfl⟩
  · skip
    have hp47 := ifFb hp26 hc34
    clear hp26
    refine w_skip (q_t ?_)
    refine w_seq ?_
    refine w_seq ?_
    refine w_reg ?_
    refine r_mv (r_nil (q_t ?_))
    refine ⟨_, rfl, fun hc48 => ?_, fun hc48 => ?_⟩
    · skip
      have hp49 := ifT hp47 hc48
      clear hp47
      refine w_seq ?_
      refine w_reg ?_
      have I50 := V17.ext E27
      refine r_fo (fs := 1) fd_GridT0 (by kernel_rfl) (by decide) rfl ?_
      refine r_ld na_u8 rfl (I50.cell (i := 0) rfl) (r_fo (fs := 1) fd_GridT1 (by kernel_rfl) (by decide) rfl ?_)
      refine r_stB [(.int .u8 a5), (.int .u8 a5), pv7] na_u8 rfl rfl rfl I50 (Nat.le_of_ble_eq_true rfl) rfl fun h51 I53 U54 => ?_
      have U52 := I53.stA U54 (boxAll I50 rfl) rfl
      have sz55 := U52.size
      have X56 := X32.thenT U52 (S33.loAll 0 rfl)
      have S57 : Sp h51 (Array.size h) [[b15]] := S33.keep U52.size
      refine r_nil (q_t ?_)
      refine w_reg ?_
      refine r_ldA [(.int .u8 a5), (.int .u8 a5), pv7] ag_GridT rfl rfl I53.agg ?_
      obtain ⟨x58, hx59, hp60⟩ := obind hp49
      clear hp49
      refine r_callE trivial (fun _ _ => trivial) rfl (P_quadformmake_Grid_Ints_ok (H8.ext X56) hx59) fun xv64 h62 E61 hk63 => ?_
      obtain ⟨v65, F68, G69, rs70, rfl, I66, S71⟩ := hk63
      have sz72 := E61.1
      have X73 := X56.trans E61
      have S74 : Sp h62 (Array.size h) [[b15], F68] := S57.app S71 E61.1 X56.1
      have lo75 := S71.loAll 0 rfl
      refine r_as (r_nil (q_t ?_))
      refine w_seq ?_
      refine w_reg ?_
      refine r_mv (r_mv (r_mv ?_))
      obtain ⟨x76, hx77, hp78⟩ := obind hp60
      clear hp60
      refine r_callE trivial (fun _ _ => trivial) rfl (P_quadformlaw23_modulus_ok hx77) fun xv82 h80 E79 hk81 => ?_
      subst hk81
      have sz83 := E79.1
      have X84 := X73.trans E79
      have S85 : Sp h80 (Array.size h) [[b15], F68] := S74.keep E79.1
      refine r_as (r_nil (q_t ?_))
      refine w_seq ?_
      refine w_reg ?_
      refine r_mv (r_mv ?_)
      have I86 := I66.ext E79
      obtain ⟨⟨x87, x88⟩, hx89, hp90⟩ := obind hp78
      clear hp78
      dsimp only at hp90
      refine r_callE trivial (fun _ _ => trivial) rfl (modDet_P I86.rd hx89) fun xv94 h92 E91 hk93 => ?_
      subst hk93
      have sz95 := E91.1
      have X96 := X84.trans E91
      have S97 : Sp h92 (Array.size h) [[b15], F68] := S85.keep E91.1
      refine r_mv (r_ext rfl rfl (r_ext rfl rfl (r_as (r_as (r_nil (q_t ?_))))))
      refine w_seq ?_
      refine w_reg ?_
      refine r_mv (r_mv ?_)
      have I98 := I86.ext E91
      obtain ⟨⟨x99, x100⟩, hx101, hp102⟩ := obind hp90
      clear hp90
      dsimp only at hp102
      refine r_callE trivial (fun _ _ => trivial) rfl (P_quadformref23_Det_ok I98.rd hx101) fun xv106 h104 E103 hk105 => ?_
      subst hk105
      have sz107 := E103.1
      have X108 := X96.trans E103
      have S109 : Sp h104 (Array.size h) [[b15], F68] := S97.keep E103.1
      refine r_mv (r_ext rfl rfl (r_ext rfl rfl (r_as (r_as (r_nil (q_t ?_))))))
      refine w_seq ?_
      refine w_reg ?_
      refine r_mv (r_mv (r_cmp rfl rfl (cmp_eql _ _) (r_mv ?_)))
      rcases Decidable.em (x87 = x99) with hc110 | hc110
      · skip
        have hp111 := ifT hp102 hc110
        clear hp102
        rw [show decide (x87 = x99) = true from decide_eq_true hc110]
        refine r_want 46 true (by kernel_rfl) rfl rfl (r_mv (r_want 46 true (by kernel_rfl) rfl rfl (r_mv (r_want 46 true (by kernel_rfl) rfl rfl (r_cmp rfl rfl (cmp_eql _ _) (r_pickT rfl (r_mv ?_)))))))
        rcases Decidable.em (x88 = x100) with hc112 | hc112
        · skip
          have hp113 := ifT hp111 hc112
          clear hp111
          rw [show decide (x88 = x100) = true from decide_eq_true hc112]
          refine r_want 51 true (by kernel_rfl) rfl rfl ?_
          obtain ⟨x114, hx115, hp116⟩ := obind hp113
          clear hp113
          refine r_callE trivial (fun _ _ => trivial) rfl (awake_P (HO.ext X108) hx115) fun xv120 h118 E117 hk119 => ?_
          subst hk119
          have sz121 := E117.1
          have X122 := X108.trans E117
          have S123 : Sp h118 (Array.size h) [[b15], F68] := S109.keep E117.1
          refine r_pickT rfl (r_as (r_nil (q_t ?_)))
          refine w_ret ?_
          have hq124 := Option.some.inj hp116
          subst hq124
          exact ⟨_, retV_1, X122, rfl⟩
        · skip
          have hp125 := ifF hp111 hc112
          clear hp111
          rw [show decide (x88 = x100) = false from decide_eq_false hc112]
          refine r_skip 51 false (by kernel_rfl) rfl rfl (r_pickF rfl (r_as (r_nil (q_t ?_))))
          refine w_ret ?_
          have hq126 := Option.some.inj hp125
          subst hq126
          exact ⟨_, retV_1, X108, rfl⟩
      · skip
        have hp127 := ifF hp102 hc110
        clear hp102
        rw [show decide (x87 = x99) = false from decide_eq_false hc110]
        refine r_skip 46 false (by kernel_rfl) rfl rfl (r_skip 46 false (by kernel_rfl) rfl rfl (r_skip 46 false (by kernel_rfl) rfl rfl (r_pickF rfl (r_mv (r_skip 51 false (by kernel_rfl) rfl rfl (r_pickF rfl (r_as (r_nil (q_t ?_)))))))))
        refine w_ret ?_
        have hq128 := Option.some.inj hp127
        subst hq128
        exact ⟨_, retV_1, X108, rfl⟩
    · skip
      have hp129 := ifFb hp47 hc48
      clear hp47
      refine w_skip (q_t ?_)
      refine w_seq ?_
      refine w_reg ?_
      refine r_mv (r_mv (r_mv ?_))
      obtain ⟨x130, hx131, hp132⟩ := obind hp129
      clear hp129
      refine r_callE trivial (fun _ _ => trivial) rfl (P_quadformlaw23_modulus_ok hx131) fun xv136 h134 E133 hk135 => ?_
      subst hk135
      have sz137 := E133.1
      have X138 := X32.trans E133
      have S139 : Sp h134 (Array.size h) [[b15]] := S33.keep E133.1
      refine r_as (r_nil (q_t ?_))
      refine w_seq ?_
      refine w_reg ?_
      refine r_mv (r_mv ?_)
      obtain ⟨⟨x140, x141⟩, hx142, hp143⟩ := obind hp132
      clear hp132
      dsimp only at hp143
      refine r_callE trivial (fun _ _ => trivial) rfl (modDet_P (H2.ext X138) hx142) fun xv147 h145 E144 hk146 => ?_
      subst hk146
      have sz148 := E144.1
      have X149 := X138.trans E144
      have S150 : Sp h145 (Array.size h) [[b15]] := S139.keep E144.1
      refine r_mv (r_ext rfl rfl (r_ext rfl rfl (r_as (r_as (r_nil (q_t ?_))))))
      refine w_seq ?_
      refine w_reg ?_
      refine r_mv (r_mv ?_)
      obtain ⟨⟨x151, x152⟩, hx153, hp154⟩ := obind hp143
      clear hp143
      dsimp only at hp154
      refine r_callE trivial (fun _ _ => trivial) rfl (P_quadformref23_Det_ok (H2.ext X149) hx153) fun xv158 h156 E155 hk157 => ?_
      subst hk157
      have sz159 := E155.1
      have X160 := X149.trans E155
      have S161 : Sp h156 (Array.size h) [[b15]] := S150.keep E155.1
      refine r_mv (r_ext rfl rfl (r_ext rfl rfl (r_as (r_as (r_nil (q_t ?_))))))
      refine w_seq ?_
      refine w_reg ?_
      refine r_mv (r_mv (r_cmp rfl rfl (cmp_eql _ _) (r_mv ?_)))
      rcases Decidable.em (x140 = x151) with hc162 | hc162
      · skip
        have hp163 := ifT hp154 hc162
        clear hp154
        rw [show decide (x140 = x151) = true from decide_eq_true hc162]
        refine r_want 46 true (by kernel_rfl) rfl rfl (r_mv (r_want 46 true (by kernel_rfl) rfl rfl (r_mv (r_want 46 true (by kernel_rfl) rfl rfl (r_cmp rfl rfl (cmp_eql _ _) (r_pickT rfl (r_mv ?_)))))))
        rcases Decidable.em (x141 = x152) with hc164 | hc164
        · skip
          have hp165 := ifT hp163 hc164
          clear hp163
          rw [show decide (x141 = x152) = true from decide_eq_true hc164]
          refine r_want 51 true (by kernel_rfl) rfl rfl ?_
          obtain ⟨x166, hx167, hp168⟩ := obind hp165
          clear hp165
          refine r_callE trivial (fun _ _ => trivial) rfl (awake_P (HO.ext X160) hx167) fun xv172 h170 E169 hk171 => ?_
          subst hk171
          have sz173 := E169.1
          have X174 := X160.trans E169
          have S175 : Sp h170 (Array.size h) [[b15]] := S161.keep E169.1
          refine r_pickT rfl (r_as (r_nil (q_t ?_)))
          refine w_ret ?_
          have hq176 := Option.some.inj hp168
          subst hq176
          exact ⟨_, retV_1, X174, rfl⟩
        · skip
          have hp177 := ifF hp163 hc164
          clear hp163
          rw [show decide (x141 = x152) = false from decide_eq_false hc164]
          refine r_skip 51 false (by kernel_rfl) rfl rfl (r_pickF rfl (r_as (r_nil (q_t ?_))))
          refine w_ret ?_
          have hq178 := Option.some.inj hp177
          subst hq178
          exact ⟨_, retV_1, X160, rfl⟩
      · skip
        have hp179 := ifF hp154 hc162
        clear hp154
        rw [show decide (x140 = x151) = false from decide_eq_false hc162]
        refine r_skip 46 false (by kernel_rfl) rfl rfl (r_skip 46 false (by kernel_rfl) rfl rfl (r_skip 46 false (by kernel_rfl) rfl rfl (r_pickF rfl (r_mv (r_skip 51 false (by kernel_rfl) rfl rfl (r_pickF rfl (r_as (r_nil (q_t ?_)))))))))
        refine w_ret ?_
        have hq180 := Option.some.inj hp179
        subst hq180
        exact ⟨_, retV_1, X160, rfl⟩
end Go.Proofs.YtdlfineibanppaaDoor


/-
  Plain: what the walked functions answer, by rules of their own. No condition.
-/
namespace Go.QF
open Go
set_option linter.unusedVariables false
/-- The answer is there, and is so. -/
def Ok {α : Type} (o : Option α) (Q : α → Prop) : Prop := ∃ r, o = some r ∧ Q r
theorem ok_some {α : Type} {a : α} {Q : α → Prop} (h : Q a) : Ok (some a) Q := ⟨a, rfl, h⟩
theorem ok_bind {α β : Type} {o : Option α} {f : α → Option β} {Q : α → Prop} {R : β → Prop} (h : Ok o Q) (k : ∀ x, Q x → Ok (f x) R) : Ok (o.bind f) R := by
  obtain ⟨x, rfl, hx⟩ := h
  exact k x hx
theorem ok_if {c : Prop} [Decidable c] {α : Type} {a b : Option α} {R : α → Prop} (ht : c → Ok a R) (hf : ¬ c → Ok b R) : Ok (if c then a else b) R := by
  by_cases h : c
  · rw [if_pos h]; exact ht h
  · rw [if_neg h]; exact hf h
theorem ok_need {c : Prop} [Decidable c] {α : Type} {a : Option α} {R : α → Prop} (hc : c) (h : Ok a R) : Ok (if c then a else none) R := by rw [if_pos hc]; exact h
theorem ok_eq {α : Type} {o : Option α} {a : α} (h : Ok o (· = a)) : o = some a := by obtain ⟨x, h1, rfl⟩ := h; exact h1
theorem ok_of {α : Type} {o : Option α} {a : α} (h : o = some a) : Ok o (· = a) := ⟨a, h, rfl⟩
theorem ok_get {α β : Type} {L : List α} {i : Int} {n : Nat} {x : α} {f : α → Option β} {R : β → Prop} (hx : L[n]? = some x) (hi : i = n) (k : Ok (f x) R) : Ok ((gI L i).bind f) R := by
  subst hi
  unfold gI
  rw [if_pos (by omega), Int.toNat_natCast, hx]
  exact k
/-- A loop: I holds ahead of round i, at most n rounds. -/
theorem ok_iter {S E : Type} {body : S → Option (S ⊕ E)} {fuel : Nat} {s0 : S} (I : Nat → S → Prop) (n : Nat) {Q : E → Prop} (h0 : I 0 s0) (hf : n < fuel) (hs : ∀ i s, i ≤ n → I i s → Ok (body s) fun r => match r with | .inl s' => i < n ∧ I (i + 1) s' | .inr e => Q e) : Ok (iter body fuel s0) Q := by
  have key : ∀ k fuel i s, n - i = k → k < fuel → i ≤ n → I i s → Ok (iter body fuel s) Q := by
    intro k
    induction k with
    | zero =>
      intro fuel i s hk hf hi hI
      obtain ⟨r, hr, hq⟩ := hs i s hi hI
      cases fuel with
      | zero => omega
      | succ f =>
        cases r with
        | inl s' => simp at hq; omega
        | inr e => exact ⟨e, by simp [iter, hr], hq⟩
    | succ k ih =>
      intro fuel i s hk hf hi hI
      obtain ⟨r, hr, hq⟩ := hs i s hi hI
      cases fuel with
      | zero => omega
      | succ f =>
        cases r with
        | inl s' =>
          obtain ⟨e, he, hQ⟩ := ih f (i + 1) s' (by omega) (by omega) (by omega) hq.2
          exact ⟨e, by simp [iter, hr, he], hQ⟩
        | inr e => exact ⟨e, by simp [iter, hr], hq⟩
  exact key n fuel 0 s0 (by omega) hf (by omega) h0
theorem wrap_ok {x : Int} (h1 : -9223372036854775808 ≤ x) (h2 : x ≤ 9223372036854775807) : w64 x = x := by
  show IntKind.i64.wrap x = x
  rw [IntKind.wrap_i64]; omega
/-- A row, a list of n values. -/
def rowL {α : Type} (m : Nat) (f : Nat → α) : List α := (List.range m).map f
theorem rowL_len {α : Type} (m : Nat) (f : Nat → α) : (rowL m f).length = m := by simp [rowL]
theorem rowL_get {α : Type} {m : Nat} {f : Nat → α} {j : Nat} (h : j < m) : (rowL m f)[j]? = some (f j) := by simp [rowL, h]
theorem rowL_set {α : Type} {m j : Nat} {f : Nat → α} {x : α} : (rowL m f).set j x = rowL m fun c => if c = j then x else f c := by
  apply List.ext_getElem?
  intro i
  rw [List.getElem?_set]
  by_cases h : j = i
  · subst h
    simp only [if_true, rowL_len]
    by_cases hj : j < m
    · simp [hj, rowL_get hj]
    · simp [hj, rowL]
  · rw [if_neg h]
    by_cases hi : i < m
    · rw [rowL_get hi, rowL_get hi, if_neg (fun he => h he.symm)]
    · simp [rowL, hi]
theorem tab_get {r c : Nat} {F : Nat → Nat → Int} {i : Nat} (h : i < r) : (tab r c F)[i]? = some (rowL c (F i)) := rowL_get (f := fun i => rowL c (F i)) h
theorem tab_setE {r c i j : Nat} {F : Nat → Nat → Int} {x : Int} : (tab r c F).set i (rowL c fun q => if q = j then x else F i q) = tab r c (setF F i fun q => if q = j then x else F i q) := tab_setF
theorem sI_nat {α : Type} (L : List α) (n : Nat) (x : α) : sI L (n : Int) x = L.set n x := by simp [sI]
end Go.QF


/-
  Plain: elimination without fractions (Bareiss): its entries are minors, its quotients are exact, its last pivot is the determinant up to the sign of the exchanges. No condition.
-/
namespace Go.QF
set_option linter.unusedVariables false

/-- The lower right part from k on. -/
def shF (k : Nat) (F : Nat → Nat → Int) : Nat → Nat → Int := fun i j => F (k + i) (k + j)
theorem skp_shift {i k a : Nat} (h : i < k + 1) : skp i (k + a) = k + 1 + a := by unfold skp; rw [if_neg (by omega)]; omega
/-- A block of zeros at the lower left. -/
theorem det_block : ∀ {k m : Nat} {T : Nat → Nat → Int}, (∀ i j, k ≤ i → i < k + m → j < k → T i j = 0) → det (k + m) T = det k T * det m (shF k T) := by
  intro k
  induction k with
  | zero =>
    intro m T _
    have e : shF 0 T = T := by funext i j; simp [shF]
    rw [e, Nat.zero_add]
    simp [det]
  | succ k ih =>
    intro m T h
    rw [show k + 1 + m = (k + m) + 1 by omega]
    simp only [det]
    rw [psum_cut (k := k + 1) (by omega) (fun i h1 h2 => by rw [h i 0 h1 (by omega) (by omega)]; simp)]
    rw [Int.mul_comm, ← psum_mul]
    refine psum_congr fun i hi => ?_
    rw [ih (T := minor0 i T) (m := m) (fun a b ha ha2 hb => by
      obtain ⟨c, rfl⟩ : ∃ c, a = k + c := ⟨a - k, by omega⟩
      unfold minor0; rw [skp_shift hi]; exact h _ _ (by omega) (by omega) (by omega))]
    have e : shF k (minor0 i T) = shF (k + 1) T := by
      funext a b
      unfold shF minor0
      rw [skp_shift hi, show k + b + 1 = k + 1 + b by omega]
    rw [e]
    grind
theorem det_zero_col {n : Nat} {F : Nat → Nat → Int} (h : ∀ i, i < n + 1 → F i 0 = 0) : det (n + 1) F = 0 := by
  simp only [det]
  rw [psum_congr (g := fun _ => 0) fun i hi => by rw [h i hi]; simp]
  exact psum_zero _
theorem det_eq_cols {n : Nat} {F : Nat → Nat → Int} {a b : Nat} (ha : a < n) (hb : b < n) (hab : a ≠ b) (h : ∀ i, F i a = F i b) : det n F = 0 := by
  rw [← det_tr]
  exact det_eq_rows ha hb hab (by funext i; exact h i)
theorem det_two (F : Nat → Nat → Int) : det 2 F = F 0 0 * F 1 1 - F 1 0 * F 0 1 := by
  simp [det, psum, minor0, skp, sg]
  grind
/-- Row k is i's, the others are their own. -/
def bro (k i r : Nat) : Nat := if r < k then r else i
/-- The minor of the rows 0 .. k-1, i and the columns 0 .. k-1, j. -/
def Mn (k : Nat) (A : Nat → Nat → Int) (i j : Nat) : Int := det (k + 1) fun r c => A (bro k i r) (bro k j c)
theorem mn_zero (A : Nat → Nat → Int) (i j : Nat) : Mn 0 A i j = A i j := by
  simp [Mn, det, psum, bro, sg]
theorem mn_lead (k : Nat) (A : Nat → Nat → Int) : Mn k A k k = det (k + 1) A := by
  refine det_congr fun r c hr hc => ?_
  have e : ∀ r, r < k + 1 → bro k k r = r := fun r hr => by unfold bro; split <;> omega
  rw [e r hr, e c hc]
theorem mn_eq {k : Nat} (A : Nat → Nat → Int) (i : Nat) {j : Nat} (hj : j < k) : Mn k A i j = 0 := by
  refine det_eq_cols (a := j) (b := k) (by omega) (by omega) (by omega) fun r => ?_
  unfold bro
  simp [hj]
/-- The factors of the rows in a minor. -/
def cof (k : Nat) (A : Nat → Nat → Int) (i s : Nat) : Int := det (k + 1) (setF (fun c r => A (bro k i r) c) k (dl s))
theorem psum_dl {n : Nat} (f : Nat → Int) {q : Nat} (hq : q < n) : psum (fun s => f s * dl s q) n = f q := by
  rw [psum_one hq (fun i hi => by unfold dl; rw [if_neg hi, Int.mul_zero])]
  simp [dl]
theorem mn_exp (k : Nat) (A : Nat → Nat → Int) (i j : Nat) : Mn k A i j = psum (fun s => cof k A i s * A s j) k + det k A * A i j := by
  have h1 : Mn k A i j = det (k + 1) (setF (fun c r => A (bro k i r) c) k fun q => psum (fun s => A (bro k i s) j * dl s q) (k + 1)) := by
    unfold Mn
    rw [← det_tr]
    refine det_congr fun c r hc hr => ?_
    rw [setF_app, psum_dl _ hr]
    unfold trF
    split
    · subst_vars; simp [bro]
    · have : c < k := by omega
      simp [bro, this]
  rw [h1, det_psum (by omega)]
  have hk : det (k + 1) (setF (fun c r => A (bro k i r) c) k (dl k)) = det k A := by
    rw [det_block (k := k) (m := 1) (T := setF (fun c r => A (bro k i r) c) k (dl k)) (fun a b h1 h2 h3 => by
      obtain rfl : a = k := by omega
      rw [setF_app, if_pos rfl]; unfold dl; rw [if_neg (by omega)])]
    have e1 : det k (setF (fun c r => A (bro k i r) c) k (dl k)) = det k A := by
      rw [← det_tr]
      refine det_congr fun r c hr hc => ?_
      unfold trF
      rw [setF_app, if_neg (by omega)]
      simp [bro, hr]
    have e2 : det 1 (shF k (setF (fun c r => A (bro k i r) c) k (dl k))) = 1 := by
      simp [det, psum, shF, sg, setF_app, dl]
    rw [e1, e2, Int.mul_one]
  show psum (fun s => A (bro k i s) j * det (k + 1) (setF (fun c r => A (bro k i r) c) k (dl s))) k + A (bro k i k) j * det (k + 1) (setF (fun c r => A (bro k i r) c) k (dl k)) = _
  rw [hk]
  congr 1
  · refine psum_congr fun s hs => ?_
    show _ = cof k A i s * A s j
    unfold cof
    rw [Int.mul_comm]
    simp [bro, hs]
  · simp [bro, Int.mul_comm]
theorem dprod_split (f : Nat → Int) (k m : Nat) : dprod f (k + m) = dprod f k * dprod (fun i => f (k + i)) m := by
  induction m with
  | zero => simp [dprod]
  | succ m ih => rw [← Nat.add_assoc]; simp only [dprod]; rw [ih]; grind
theorem dprod_one {f : Nat → Int} : ∀ {n : Nat}, (∀ i, i < n → f i = 1) → dprod f n = 1
  | 0, _ => rfl
  | n + 1, h => by rw [dprod, dprod_one fun i hi => h i (by omega), h n (by omega)]; rfl
theorem dprod_ne {f : Nat → Int} : ∀ {n : Nat}, (∀ i, i < n → f i ≠ 0) → dprod f n ≠ 0
  | 0, _ => by simp [dprod]
  | n + 1, h => by rw [dprod]; exact Int.mul_ne_zero (dprod_ne fun i hi => h i (by omega)) (h n (by omega))
/-- Row r of the lower factor: from row k on, the factors of the minor of row ρ r. -/
def lowF (k : Nat) (A : Nat → Nat → Int) (ρ : Nat → Nat) : Nat → Nat → Int := fun r s => if r < k then dl r s else if s < k then cof k A (ρ r) s else if s = r then det k A else 0
theorem lowF_mul {k n : Nat} {A B : Nat → Nat → Int} {ρ γ : Nat → Nat} (hkn : k ≤ n) (hρ : ∀ r, r < k → ρ r = r) (hB : ∀ r c, B r c = A (ρ r) (γ c)) {r c : Nat} (hr : r < n) : mulF n (lowF k A ρ) B r c = if r < k then B r c else Mn k A (ρ r) (γ c) := by
  unfold mulF
  by_cases h : r < k
  · rw [if_pos h, psum_one hr (fun i hi => by unfold lowF; rw [if_pos h]; unfold dl; rw [if_neg (fun e => hi e.symm), Int.zero_mul])]
    unfold lowF; rw [if_pos h]; simp [dl]
  · rw [if_neg h, mn_exp]
    obtain ⟨m, rfl⟩ : ∃ m, n = k + m := ⟨n - k, by omega⟩
    have hs : ∀ t, psum (fun s => lowF k A ρ r s * B s c) (k + t) = psum (fun s => cof k A (ρ r) s * A s (γ c)) k + (if r < k + t then det k A * A (ρ r) (γ c) else 0) := by
      intro t
      induction t with
      | zero =>
        rw [if_neg (by omega), Int.add_zero, Nat.add_zero]
        refine psum_congr fun s hs => ?_
        unfold lowF
        rw [if_neg h, if_pos hs, hB, hρ s hs]
      | succ t ih =>
        show psum (fun s => lowF k A ρ r s * B s c) (k + t) + lowF k A ρ r (k + t) * B (k + t) c = _
        rw [ih]
        have e : lowF k A ρ r (k + t) = if k + t = r then det k A else 0 := by unfold lowF; rw [if_neg h, if_neg (by omega)]
        rw [e, hB]
        rcases Nat.lt_trichotomy r (k + t) with h1 | h1 | h1
        · rw [if_pos h1, if_neg (by omega), if_pos (by omega)]; simp
        · subst h1; rw [if_neg (by omega), if_pos rfl, if_pos (by omega)]; omega
        · rw [if_neg (by omega), if_neg (by omega), if_neg (by omega)]; simp
    rw [hs, if_pos hr]
theorem lowF_det {k m : Nat} {A : Nat → Nat → Int} {ρ : Nat → Nat} : det (k + m) (lowF k A ρ) = dprod (fun _ => det k A) m := by
  rw [det_lower (fun i j hij hj => by
    unfold lowF
    split
    · unfold dl; rw [if_neg (by omega)]
    · rw [if_neg (by omega), if_neg (by omega)]), dprod_split, dprod_one, Int.one_mul]
  · refine dprod_congr fun i hi => ?_
    unfold lowF; rw [if_neg (by omega), if_neg (by omega), if_pos rfl]
  · intro i hi
    unfold lowF; rw [if_pos hi]; simp [dl]
/-- The step's quotient is exact: it is the next minor. -/
theorem mn_step {k : Nat} {A : Nat → Nat → Int} (h0 : det k A ≠ 0) (i j : Nat) : Mn k A k k * Mn k A i j - Mn k A i k * Mn k A k j = det k A * Mn (k + 1) A i j := by
  have h1 := det_mul (n := k + 2) (lowF k A (bro (k + 1) i)) fun r c => A (bro (k + 1) i r) (bro (k + 1) j c)
  have hm : ∀ r c, r < k + 2 → mulF (k + 2) (lowF k A (bro (k + 1) i)) (fun r c => A (bro (k + 1) i r) (bro (k + 1) j c)) r c = if r < k then A (bro (k + 1) i r) (bro (k + 1) j c) else Mn k A (bro (k + 1) i r) (bro (k + 1) j c) := fun r c hr =>
    lowF_mul (k := k) (n := k + 2) (A := A) (B := fun r c => A (bro (k + 1) i r) (bro (k + 1) j c)) (ρ := bro (k + 1) i) (γ := bro (k + 1) j) (by omega) (fun r hr => by unfold bro; rw [if_pos (by omega)]) (fun r c => rfl) hr
  rw [lowF_det, det_block (k := k) (m := 2) (fun a b ha ha2 hb => by
    rw [hm a b ha2, if_neg (by omega), show bro (k + 1) j b = b by unfold bro; rw [if_pos (by omega)]]
    exact mn_eq _ _ hb)] at h1
  have e1 : det k (mulF (k + 2) (lowF k A (bro (k + 1) i)) fun r c => A (bro (k + 1) i r) (bro (k + 1) j c)) = det k A := by
    refine det_congr fun r c hr hc => ?_
    rw [hm r c (by omega), if_pos hr]
    simp only [bro]
    rw [if_pos (by omega), if_pos (by omega)]
  have b0 : ∀ q, bro (k + 1) q (k + 0) = k := fun q => by unfold bro; rw [if_pos (by omega)]; rfl
  have b1 : ∀ q, bro (k + 1) q (k + 1) = q := fun q => by unfold bro; rw [if_neg (by omega)]
  rw [e1, det_two] at h1
  simp only [shF] at h1
  rw [hm _ _ (by omega), hm _ _ (by omega), hm _ _ (by omega), hm _ _ (by omega), if_neg (by omega), if_neg (by omega), if_neg (by omega), if_neg (by omega), b0, b0, b1, b1] at h1
  have e2 : dprod (fun _ => det k A) 2 = det k A * det k A := by simp [dprod]
  have e3 : (det (k + 2) fun r c => A (bro (k + 1) i r) (bro (k + 1) j c)) = Mn (k + 1) A i j := rfl
  rw [e2, e3, Int.mul_assoc] at h1
  exact Int.eq_of_mul_eq_mul_left h0 h1
/-- No pivot: the determinant is zero. -/
theorem det_nopivot {k n : Nat} {A : Nat → Nat → Int} (h0 : det k A ≠ 0) (hk : k < n) (hz : ∀ i, k ≤ i → i < n → Mn k A i k = 0) : det n A = 0 := by
  obtain ⟨m, rfl⟩ : ∃ m, n = k + (m + 1) := ⟨n - k - 1, by omega⟩
  have h1 := det_mul (n := k + (m + 1)) (lowF k A id) A
  have hm : ∀ r c, r < k + (m + 1) → mulF (k + (m + 1)) (lowF k A id) A r c = if r < k then A r c else Mn k A r c := fun r c hr =>
    lowF_mul (k := k) (n := k + (m + 1)) (A := A) (B := A) (ρ := id) (γ := id) (by omega) (fun r hr => rfl) (fun r c => rfl) hr
  rw [lowF_det, det_block (k := k) (m := m + 1) (fun a b ha ha2 hb => by rw [hm a b ha2, if_neg (by omega)]; exact mn_eq _ _ hb), det_zero_col (F := shF k _) (fun i hi => by
    unfold shF
    rw [hm _ _ (by omega), if_neg (by omega)]
    exact hz _ (by omega) (by omega)), Int.mul_zero] at h1
  rcases Int.mul_eq_zero.1 h1.symm with h2 | h2
  · exact absurd h2 (dprod_ne fun i hi => h0)
  · exact h2
/-! sizes -/
def dBd (m : Nat) : Nat → Nat
  | 0 => 1
  | n + 1 => (n + 1) * m * dBd m n
theorem psum_abs {f : Nat → Int} {B : Nat} : ∀ {n : Nat}, (∀ i, i < n → (f i).natAbs ≤ B) → (psum f n).natAbs ≤ n * B
  | 0, _ => by simp [psum]
  | n + 1, h => by
    have h1 := psum_abs (n := n) fun i hi => h i (by omega)
    have h2 := h n (by omega)
    have h3 := Int.natAbs_add_le (psum f n) (f n)
    show (psum f n + f n).natAbs ≤ _
    rw [Nat.add_mul, Nat.one_mul]
    omega
theorem det_abs {m : Nat} : ∀ {n : Nat} {F : Nat → Nat → Int}, (∀ i j, (F i j).natAbs ≤ m) → (det n F).natAbs ≤ dBd m n
  | 0, _, _ => by simp [det, dBd]
  | n + 1, F, h => by
    have h1 := psum_abs (f := fun i => sg i * F i 0 * det n (minor0 i F)) (B := m * dBd m n) (n := n + 1) fun i hi => by
      have e := det_abs (n := n) (F := minor0 i F) fun a b => h _ _
      have es : (sg i).natAbs = 1 := by unfold sg; split <;> rfl
      rw [Int.natAbs_mul, Int.natAbs_mul, es, Nat.one_mul]
      exact Nat.mul_le_mul (h i 0) e
    rw [dBd, Nat.mul_assoc]
    exact h1
/-! the algorithm -/
theorem mn_swap {k n p : Nat} {A : Nat → Nat → Int} (hp : k < p) {i j : Nat} (hi : k ≤ i) : Mn k (swapF A p k) i j = Mn k A (if i = k then p else if i = p then k else i) j := by
  refine det_congr fun r c hr hc => ?_
  rw [swapF_app]
  unfold bro
  by_cases h : r < k
  · rw [if_pos h, if_pos h, if_neg (by omega), if_neg (by omega)]
  · rw [if_neg h, if_neg h]
    split
    · rfl
    · split <;> rfl
theorem det_swap_low {k p : Nat} {A : Nat → Nat → Int} (hp : k < p) : det k (swapF A p k) = det k A := by
  refine det_congr fun r c hr hc => ?_
  rw [swapF_app, if_neg (by omega), if_neg (by omega)]
def sgB (neg : Bool) : Int := if neg then -1 else 1
/-- The state of the elimination ahead of step k. -/
def BInv (m : Nat) (A0 : Nat → Nat → Int) (n k : Nat) (F : Nat → Nat → Int) (last : Int) (neg : Bool) : Prop :=
  ∃ A : Nat → Nat → Int, det n A = sgB neg * det n A0 ∧ (∀ i j, k ≤ i → i < n → k ≤ j → j < n → F i j = Mn k A i j) ∧ last = det k A ∧ last ≠ 0 ∧ ∀ i j, (A i j).natAbs ≤ m
theorem binv_start {m n : Nat} {A0 : Nat → Nat → Int} (h : ∀ i j, (A0 i j).natAbs ≤ m) : BInv m A0 n 0 A0 1 false :=
  ⟨A0, by simp [sgB], fun i j _ _ _ _ => (mn_zero A0 i j).symm, rfl, by decide, h⟩
theorem binv_swap {m n k p : Nat} {A0 F : Nat → Nat → Int} {last : Int} {neg : Bool} (H : BInv m A0 n k F last neg) (hkp : k < p) (hp : p < n) : BInv m A0 n k (swapF F p k) last (!neg) := by
  obtain ⟨A, h1, h2, h3, h4, h5⟩ := H
  refine ⟨swapF A p k, ?_, fun i j hi hin hj hjn => ?_, by rw [det_swap_low hkp]; exact h3, h4, fun i j => ?_⟩
  · rw [det_swap hp (by omega) (by omega), h1]; cases neg <;> simp [sgB]
  · rw [mn_swap (n := n) hkp hi, swapF_app]
    split
    · rw [h2 p j (by omega) hp hj hjn]
    · split
      · rw [h2 k j (by omega) (by omega) hj hjn]
      · rw [h2 i j hi hin hj hjn]
  · rw [swapF_app]; split
    · exact h5 _ _
    · split <;> exact h5 _ _
def bQ (k : Nat) (F : Nat → Nat → Int) (last : Int) (r c : Nat) : Int := (F k k * F r c - F r k * F k c) / last
/-- The step has reached entry (i, j). -/
def bF (k : Nat) (F : Nat → Nat → Int) (last : Int) (i j : Nat) : Nat → Nat → Int := fun r c => if k < r ∧ k < c ∧ (r < i ∨ r = i ∧ c < j) then bQ k F last r c else F r c
theorem bF_start (k : Nat) (F : Nat → Nat → Int) (last : Int) : bF k F last (k + 1) (k + 1) = F := by
  funext r c; unfold bF; rw [if_neg (by omega)]
theorem bF_row (k n : Nat) (F : Nat → Nat → Int) (last : Int) (i : Nat) {r c : Nat} (hc : c < n) : bF k F last i n r c = bF k F last (i + 1) (k + 1) r c := by
  unfold bF
  by_cases h : k < r ∧ k < c ∧ (r < i ∨ r = i ∧ c < n)
  · rw [if_pos h, if_pos (by omega)]
  · rw [if_neg h, if_neg (by omega)]
theorem bF_set (k : Nat) (F : Nat → Nat → Int) (last : Int) {i j : Nat} (hi : k < i) (hj : k < j) : (setF (bF k F last i j) i fun c => if c = j then bQ k F last i j else bF k F last i j i c) = bF k F last i (j + 1) := by
  funext r c
  rw [setF_app]
  split
  · subst_vars
    split
    · subst_vars; unfold bF; rw [if_pos (by omega)]
    · unfold bF
      by_cases h : k < r ∧ k < c ∧ (r < r ∨ r = r ∧ c < j)
      · rw [if_pos h, if_pos (by omega)]
      · rw [if_neg h, if_neg (by omega)]
  · unfold bF
    by_cases h : k < r ∧ k < c ∧ (r < i ∨ r = i ∧ c < j)
    · rw [if_pos h, if_pos (by omega)]
    · rw [if_neg h, if_neg (by omega)]
/-- What the step reads is still there. -/
theorem bF_kk (k : Nat) (F : Nat → Nat → Int) (last : Int) (i j c : Nat) : bF k F last i j k c = F k c := by unfold bF; rw [if_neg (by omega)]
theorem bF_ck (k : Nat) (F : Nat → Nat → Int) (last : Int) (i j r : Nat) : bF k F last i j r k = F r k := by unfold bF; rw [if_neg (by omega)]
theorem bF_ij (k : Nat) (F : Nat → Nat → Int) (last : Int) (i j : Nat) : bF k F last i j i j = F i j := by unfold bF; rw [if_neg (by omega)]
theorem bQ_eq {m n k : Nat} {A0 F : Nat → Nat → Int} {last : Int} {neg : Bool} (H : BInv m A0 n k F last neg) (hk : k < n) : ∃ A, (∀ i j, (A i j).natAbs ≤ m) ∧ det n A = sgB neg * det n A0 ∧ F k k = det (k + 1) A ∧ ∀ i j, k ≤ i → i < n → k ≤ j → j < n → F i j = Mn k A i j ∧ bQ k F last i j = Mn (k + 1) A i j := by
  obtain ⟨A, h1, h2, h3, h4, h5⟩ := H
  refine ⟨A, h5, h1, by rw [h2 k k (by omega) hk (by omega) hk, mn_lead], fun i j hi hin hj hjn => ⟨h2 i j hi hin hj hjn, ?_⟩⟩
  unfold bQ
  rw [h2 k k (by omega) hk (by omega) hk, h2 i j hi hin hj hjn, h2 i k hi hin (by omega) hk, h2 k j (by omega) hk hj hjn, mn_step (by rw [← h3]; exact h4), ← h3, Int.mul_ediv_cancel_left _ h4]
theorem binv_step {m n k : Nat} {A0 F : Nat → Nat → Int} {last : Int} {neg : Bool} (H : BInv m A0 n k F last neg) (hk : k < n) (h0 : F k k ≠ 0) : BInv m A0 n (k + 1) (bF k F last n (k + 1)) (F k k) neg := by
  obtain ⟨A, h5, h1, h6, h2⟩ := bQ_eq H hk
  refine ⟨A, h1, fun i j hi hin hj hjn => ?_, h6, h0, h5⟩
  unfold bF
  rw [if_pos (by omega)]
  exact (h2 i j (by omega) hin (by omega) hjn).2
theorem binv_none {m n k : Nat} {A0 F : Nat → Nat → Int} {last : Int} {neg : Bool} (H : BInv m A0 n k F last neg) (hk : k < n) (hz : ∀ i, k ≤ i → i < n → F i k = 0) : det n A0 = 0 := by
  obtain ⟨A, h1, h2, h3, h4, h5⟩ := H
  have h := det_nopivot (A := A) (by rw [← h3]; exact h4) hk fun i hi hin => by rw [← h2 i k hi hin (by omega) hk]; exact hz i hi hin
  rw [h1] at h
  rcases Int.mul_eq_zero.1 h with h6 | h6
  · cases neg <;> simp [sgB] at h6
  · exact h6
theorem binv_end {m n : Nat} {A0 F : Nat → Nat → Int} {last : Int} {neg : Bool} (H : BInv m A0 n n F last neg) : det n A0 = if neg then -last else last := by
  obtain ⟨A, h1, h2, h3, h4, h5⟩ := H
  rw [← h3] at h1
  rw [h1]
  cases neg
  · simp [sgB]
  · simp [sgB]
theorem mn_abs {m k : Nat} {A : Nat → Nat → Int} (h : ∀ i j, (A i j).natAbs ≤ m) (i j : Nat) : (Mn k A i j).natAbs ≤ dBd m (k + 1) := det_abs fun r c => h _ _
theorem dBd_mono {m : Nat} (hm : 1 ≤ m) {a b : Nat} (h : a ≤ b) : dBd m a ≤ dBd m b := by
  induction h with
  | refl => exact Nat.le_refl _
  | step h ih =>
    refine Nat.le_trans ih ?_
    rw [dBd]
    exact Nat.le_mul_of_pos_left _ (Nat.mul_pos (by omega) (by omega))
/-- No entry on the way exceeds the bound. -/
theorem binv_abs {m n k : Nat} {A0 F : Nat → Nat → Int} {last : Int} {neg : Bool} (hm : 1 ≤ m) (H : BInv m A0 n k F last neg) (hk : k < n) {i j : Nat} (hi : k ≤ i) (hin : i < n) (hj : k ≤ j) (hjn : j < n) : (F i j).natAbs ≤ dBd m n ∧ (bQ k F last i j).natAbs ≤ dBd m (n + 1) := by
  obtain ⟨A, h5, h1, h6, h2⟩ := bQ_eq H hk
  obtain ⟨h7, h8⟩ := h2 i j hi hin hj hjn
  rw [h7, h8]
  exact ⟨Nat.le_trans (mn_abs h5 _ _) (dBd_mono hm (by omega)), Nat.le_trans (mn_abs h5 _ _) (dBd_mono hm (by omega))⟩
theorem binv_last {m n k : Nat} {A0 F : Nat → Nat → Int} {last : Int} {neg : Bool} (hm : 1 ≤ m) (H : BInv m A0 n k F last neg) (hk : k ≤ n) : last ≠ 0 ∧ last.natAbs ≤ dBd m n := by
  obtain ⟨A, h1, h2, h3, h4, h5⟩ := H
  exact ⟨h4, by rw [h3]; exact Nat.le_trans (det_abs h5) (dBd_mono hm hk)⟩
end Go.QF


/-
  What the functions of quadformref03 answer, plain. Conditions stand in each statement.
-/
namespace Go.Proofs.YtdlfineibanppaaDoor
open Go Go.QF
set_option linter.unusedVariables false
set_option linter.unusedSimpArgs false
theorem set_mid {α : Type} {i n : Nat} {a b c : α} (h : i < n) : (List.replicate i a ++ List.replicate (n - i) b).set i c = List.replicate i a ++ (c :: List.replicate (n - i - 1) b) := by
  rw [List.set_append_right _ _ (by simp), List.length_replicate, Nat.sub_self, show n - i = (n - i - 1) + 1 by omega, List.replicate_succ]
  rfl
theorem zero_ok {fuel n m : Nat} (hn : n ≤ 100000000) (hm : m ≤ 100000000) (hf : n < fuel) : P_quadformref03_Zero fuel n m = some (List.replicate n (List.replicate m 0)) := by
  apply ok_eq
  unfold P_quadformref03_Zero
  refine ok_need (by omega) (ok_bind (ok_iter (fun i s => s = ((i : Int), List.replicate i (List.replicate m 0) ++ List.replicate (n - i) [])) n (Q := (· = List.replicate n (List.replicate m 0))) (by simp) hf fun i s hi hI => ?_) fun x hx => ok_some hx)
  subst hI
  unfold P_quadformref03_Zero_b1
  dsimp only
  rw [List.length_replicate, Int.toNat_natCast]
  refine ok_if (fun h => ok_need (by omega) (ok_get (n := i) (x := []) ?_ rfl (ok_some ⟨by omega, ?_⟩))) (fun h => ok_some ?_)
  · rw [List.getElem?_append_right (by simp), List.length_replicate, Nat.sub_self, List.getElem?_replicate, if_pos (by omega)]
  · rw [wrap_ok (by omega) (by omega), sI_nat, Int.toNat_natCast, set_mid (by omega)]
    congr 1
    rw [show n - (i + 1) = n - i - 1 by omega, List.replicate_succ']
    simp
  · obtain rfl : i = n := by omega
    simp
theorem take_set_nil {α : Type} {A : List (List α)} {i : Nat} {row : List α} (hi : i < A.length) : (A.take i ++ row :: List.replicate (A.length - i - 1) []).set i = fun r => A.take i ++ r :: List.replicate (A.length - i - 1) [] := by
  funext r
  rw [List.set_append_right _ _ (by simp; omega), List.length_take, Nat.min_eq_left (by omega), Nat.sub_self]; rfl
theorem copy_ok {fuel : Nat} {A : List (List Int)} (hn : A.length ≤ 100000000) (hm : ∀ z ∈ A, z.length ≤ 100000000 ∧ z.length < fuel) (hf : A.length < fuel) : P_quadformref03_Copy fuel A = some A := by
  apply ok_eq
  unfold P_quadformref03_Copy
  refine ok_need (by omega) (ok_bind (ok_iter (fun i s => s = ((i : Int), A.take i ++ List.replicate (A.length - i) [])) A.length (Q := (· = A)) (by simp) hf fun i s hi hI => ?_) fun x hx => ok_some hx)
  subst hI
  unfold P_quadformref03_Copy_b1
  dsimp only
  refine ok_if (fun h => ?_) (fun h => ok_some ?_)
  · have hi' : i < A.length := by omega
    obtain ⟨row, hrow⟩ : ∃ row, A[i]? = some row := ⟨A[i], List.getElem?_eq_getElem hi'⟩
    have hr := hm row (List.mem_of_getElem? hrow)
    refine ok_get hrow rfl (ok_bind (ok_iter (fun j s => s = ((j : Int), A.take i ++ row.take j :: List.replicate (A.length - i - 1) [])) row.length (Q := (· = A.take i ++ row :: List.replicate (A.length - i - 1) [])) ?_ hr.2 fun j s hj hJ => ?_) fun x hx => ok_some ⟨hi', ?_⟩)
    · rw [show A.length - i = (A.length - i - 1) + 1 by omega, List.replicate_succ]; simp
    · subst hJ
      unfold P_quadformref03_Copy_b2
      dsimp only
      refine ok_if (fun h2 => ?_) (fun h2 => ok_some ?_)
      · obtain ⟨x, hx⟩ : ∃ x, row[j]? = some x := ⟨row[j]'(by omega), List.getElem?_eq_getElem _⟩
        refine ok_get hx rfl (ok_get (n := i) (x := row.take j) ?_ rfl (ok_bind (Q := (· = x)) ⟨x, rfl, rfl⟩ fun y hy => ok_need ?_ (ok_some ⟨by omega, ?_⟩)))
        · rw [List.getElem?_append_right (by simp; omega), List.length_take, Nat.min_eq_left (by omega), Nat.sub_self]; rfl
        · rw [List.length_take]; omega
        · subst hy
          rw [wrap_ok (by omega) (by omega), sI_nat, take_set_nil hi', List.take_add_one, hx]; rfl
      · obtain rfl : j = row.length := by omega
        rw [List.take_length]
    · subst hx
      rw [wrap_ok (by omega) (by omega), List.take_add_one, hrow, show A.length - (i + 1) = A.length - i - 1 by omega]
      simp
  · obtain rfl : i = A.length := by omega
    simp
/-- The reference's matrix of Ints is valid. -/
def okM (A : List (List Int)) : Bool := decide (1 ≤ A.length ∧ A.length ≤ 16 ∧ ∀ z ∈ A, 1 ≤ z.length ∧ z.length ≤ 16 ∧ z.length = cols A)
theorem cols_some {A : List (List Int)} {z : List Int} (h : A[0]? = some z) : cols A = z.length := by unfold cols; rw [h]; rfl
theorem fromInts_ok {fuel : Nat} {A : List (List Int)} (hr : ∀ z ∈ A, ∀ x ∈ z, -9223372036854775808 ≤ x ∧ x ≤ 9223372036854775807) (hf : 17 < fuel) : P_quadformref03_FromInts fuel A = some (if okM A then (A, true) else ([], false)) := by
  apply ok_eq
  unfold P_quadformref03_FromInts
  have key : ∀ R : List (List Int) × Bool → Prop, (okM A = false → R ([], false)) → (okM A = true → R (A, true)) → Ok (P_quadformref03_FromInts fuel A) R := by
    intro R hF hT
    unfold P_quadformref03_FromInts
    refine ok_bind (Q := fun ex => match ex with | .inl e => e = ([], false) ∧ okM A = false | .inr _ => 1 ≤ A.length ∧ A.length ≤ 16) (ok_if (fun h => ok_some ⟨rfl, by unfold okM; rw [decide_eq_false_iff_not]; omega⟩) fun h => ok_if (fun h2 => ok_some ⟨rfl, by unfold okM; rw [decide_eq_false_iff_not]; omega⟩) fun h2 => ok_some ⟨by omega, by omega⟩) fun ex hex => ?_
    cases ex with
    | inl e => obtain ⟨rfl, h⟩ := hex; exact ok_some (hF h)
    | inr u =>
      dsimp only at hex ⊢
      obtain ⟨z0, hz0⟩ : ∃ z, A[0]? = some z := ⟨A[0]'(by omega), List.getElem?_eq_getElem _⟩
      have hc := cols_some hz0
      refine ok_bind (ok_iter (fun i (s : Int) => s = (i : Int) ∧ ∀ z ∈ A.take i, 1 ≤ z.length ∧ z.length ≤ 16 ∧ z.length = cols A) A.length (Q := fun ex => match ex with | .inl e => e = ([], false) ∧ okM A = false | .inr _ => okM A = true) ⟨rfl, by simp⟩ (by omega) fun i s hi hI => ?_) fun ex hex2 => ?_
      · obtain ⟨rfl, hI⟩ := hI
        unfold P_quadformref03_FromInts_b2
        refine ok_if (fun h => ?_) (fun h => ok_some ?_)
        · have hi' : i < A.length := by omega
          obtain ⟨row, hrow⟩ : ∃ row, A[i]? = some row := ⟨A[i], List.getElem?_eq_getElem hi'⟩
          have bad : ¬ (1 ≤ row.length ∧ row.length ≤ 16 ∧ row.length = cols A) → okM A = false := fun hb => by
            unfold okM; rw [decide_eq_false_iff_not]; exact fun h => hb (h.2.2 row (List.mem_of_getElem? hrow))
          refine ok_get hrow rfl (ok_if (fun h1 => ok_some ⟨rfl, bad (by omega)⟩) fun h1 => ok_if (fun h2 => ok_some ⟨rfl, bad (by omega)⟩) fun h2 => ok_get hz0 rfl (ok_if (fun h3 => ok_some ⟨rfl, bad (by omega)⟩) fun h3 => ok_some ⟨hi', wrap_ok (by omega) (by omega), ?_⟩))
          rw [List.take_add_one, hrow]
          intro z hz
          rcases List.mem_append.1 hz with hz | hz
          · exact hI z hz
          · rw [show z = row by simpa using hz]; omega
        · obtain rfl : i = A.length := by omega
          rw [List.take_length] at hI
          unfold okM; rw [decide_eq_true_eq]; exact ⟨hex.1, hex.2, hI⟩
      · cases ex with
        | inl e => obtain ⟨rfl, h⟩ := hex2; exact ok_some (hF h)
        | inr u =>
          dsimp only at hex2 ⊢
          have hv := hex2
          unfold okM at hv; rw [decide_eq_true_eq] at hv
          have hcA : ∀ z ∈ A, z.length = cols A := fun z hz => (hv.2.2 z hz).2.2
          have hc16 : 1 ≤ cols A ∧ cols A ≤ 16 := by have := hv.2.2 z0 (List.mem_of_getElem? hz0); omega
          refine ok_get hz0 rfl (ok_bind (ok_of (zero_ok (by omega) (by omega) (by omega))) fun O hO => ?_)
          subst hO
          rw [← hc]
          refine ok_bind (ok_iter (fun i s => s = ((i : Int), A.take i ++ List.replicate (A.length - i) (List.replicate (cols A) 0))) A.length (Q := (· = A)) (by simp) (by omega) fun i s hi hI => ?_) fun x hx => ok_some (hx ▸ hT hex2)
          subst hI
          unfold P_quadformref03_FromInts_b3
          dsimp only
          refine ok_if (fun h => ?_) (fun h => ok_some ?_)
          · have hi' : i < A.length := by omega
            obtain ⟨row, hrow⟩ : ∃ row, A[i]? = some row := ⟨A[i], List.getElem?_eq_getElem hi'⟩
            have hrl := hcA row (List.mem_of_getElem? hrow)
            refine ok_get hrow rfl (ok_bind (ok_iter (fun j s => s = ((j : Int), A.take i ++ (row.take j ++ List.replicate (cols A - j) 0) :: List.replicate (A.length - i - 1) (List.replicate (cols A) 0))) row.length (Q := (· = A.take i ++ row :: List.replicate (A.length - i - 1) (List.replicate (cols A) 0))) ?_ (by omega) fun j s hj hJ => ?_) fun x hx => ok_some ⟨hi', ?_⟩)
            · rw [show A.length - i = (A.length - i - 1) + 1 by omega, List.replicate_succ]; simp
            · subst hJ
              unfold P_quadformref03_FromInts_b4
              dsimp only
              refine ok_if (fun h2 => ?_) (fun h2 => ok_some ?_)
              · obtain ⟨x, hx⟩ : ∃ x, row[j]? = some x := ⟨row[j]'(by omega), List.getElem?_eq_getElem _⟩
                have hxr := hr row (List.mem_of_getElem? hrow) x (List.mem_of_getElem? hx)
                refine ok_get (n := i) (x := row.take j ++ List.replicate (cols A - j) 0) ?_ rfl (ok_get hrow rfl (ok_get hx rfl (ok_bind (Q := (· = x)) ⟨x, if_pos hxr, rfl⟩ fun y hy => ok_get (n := j) (x := 0) ?_ rfl (ok_some ⟨by omega, ?_⟩))))
                · rw [List.getElem?_append_right (by simp; omega), List.length_take, Nat.min_eq_left (by omega), Nat.sub_self]; rfl
                · rw [List.getElem?_append_right (by simp; omega), List.length_take, Nat.min_eq_left (by omega), Nat.sub_self, List.getElem?_replicate, if_pos (by omega)]
                · subst hy
                  rw [wrap_ok (by omega) (by omega), sI_nat, sI_nat]
                  congr 1
                  rw [List.set_append_right _ _ (by simp; omega), List.length_take, Nat.min_eq_left (by omega), Nat.sub_self, List.set_cons_zero]
                  congr 2
                  rw [List.set_append_right _ _ (by simp; omega), List.length_take, Nat.min_eq_left (by omega), Nat.sub_self, show cols A - j = (cols A - (j + 1)) + 1 by omega, List.replicate_succ, List.set_cons_zero, List.take_add_one, hx]
                  simp
              · obtain rfl : j = row.length := by omega
                rw [List.take_length, show cols A - row.length = 0 by omega]; simp
            · subst hx
              rw [wrap_ok (by omega) (by omega), List.take_add_one, hrow, show A.length - (i + 1) = A.length - i - 1 by omega]
              simp
          · obtain rfl : i = A.length := by omega
            simp
  have := key (fun r => r = if okM A then (A, true) else ([], false)) (fun h => by rw [h]; rfl) (fun h => by rw [h]; rfl)
  unfold P_quadformref03_FromInts at this
  exact this
theorem of_ok {fuel : Nat} {A : List (List Int)} (hr : ∀ z ∈ A, ∀ x ∈ z, -9223372036854775808 ≤ x ∧ x ≤ 9223372036854775807) (hf : 17 < fuel) : P_quadformref03_Of fuel A = some (if okM A then A else []) := by
  unfold P_quadformref03_Of
  rw [fromInts_ok hr hf]
  cases okM A <;> rfl
end Go.Proofs.YtdlfineibanppaaDoor


/-
  The determinant of the reference, plain: that of the matrix. Conditions stand in each statement.
-/
namespace Go.Proofs.YtdlfineibanppaaDoor
open Go Go.QF
set_option linter.unusedVariables false
set_option linter.unusedSimpArgs false
def m63 : Nat := 9223372036854775808
def dMax : Nat := dBd m63 17
theorem dMax_ok : 2 * (dMax * dMax) < bigZ := by decide
theorem dMax_pos : 1 ≤ dMax := by decide
theorem mul_lt_big {a b : Nat} (ha : a ≤ dMax) (hb : b ≤ dMax) : a * b < bigZ := by
  have := Nat.mul_le_mul ha hb
  have := dMax_ok
  omega
theorem lt_big {a : Nat} (ha : a ≤ dMax) : a < bigZ := by
  have h1 := dMax_ok
  have h2 := Nat.mul_le_mul dMax_pos (Nat.le_refl dMax)
  omega
theorem dBd_le {n : Nat} (hn : n ≤ 16) : dBd m63 n ≤ dMax ∧ dBd m63 (n + 1) ≤ dMax := ⟨dBd_mono (by decide) (by omega), dBd_mono (by decide) (by omega)⟩
theorem sig_zero {z : Int} : sigZ z = 0 ↔ z = 0 := by
  unfold sigZ
  split
  · omega
  · split <;> omega
theorem zMul_big {fuel : Nat} {a b : Int} (ha : a.natAbs ≤ dMax) (hb : b.natAbs ≤ dMax) : zMulP fuel a b = some (a * b) := if_pos (mul_lt_big ha hb)
theorem mul_big2 {a b : Int} (ha : a.natAbs ≤ dMax) (hb : b.natAbs ≤ dMax) : (a * b).natAbs < bigZ := by rw [Int.natAbs_mul]; exact mul_lt_big ha hb
theorem sub_big {a b c d : Int} (ha : a.natAbs ≤ dMax) (hb : b.natAbs ≤ dMax) (hc : c.natAbs ≤ dMax) (hd : d.natAbs ≤ dMax) : (a * b - c * d).natAbs < bigZ := by
  have h1 := Nat.mul_le_mul ha hb
  have h2 := Nat.mul_le_mul hc hd
  rw [← Int.natAbs_mul] at h1 h2
  have := dMax_ok
  omega
theorem sI_tab {r c i j : Nat} {F : Nat → Nat → Int} {x : Int} : sI (tab r c F) (i : Int) (sI (rowL c (F i)) (j : Int) x) = tab r c (setF F i fun q => if q = j then x else F i q) := by
  rw [sI_nat, sI_nat, rowL_set]; exact tab_setE
theorem det_ok {fuel n : Nat} {F : Nat → Nat → Int} (hn : n ≤ 16) (hb : ∀ i j, (F i j).natAbs ≤ m63) (hf : 17 < fuel) : P_quadformref03_Determinant fuel (tab n n F) = some (det n F) := by
  apply ok_eq
  unfold P_quadformref03_Determinant
  refine ok_bind (ok_of (copy_ok (by rw [tab_len]; omega) (fun z hz => by rw [tab_rows z hz]; omega) (by rw [tab_len]; omega))) fun A hA => ?_
  subst hA
  refine ok_bind (Q := (· = 1)) ⟨1, if_pos (by omega), rfl⟩ fun one h1 => ?_
  subst h1
  obtain ⟨hD, hD1⟩ := dBd_le hn
  refine ok_bind (ok_iter (fun k s => ∃ G last neg, s = (neg, ((k : Int), tab n n G, last)) ∧ BInv m63 F n k G last neg) n (Q := fun ex => match ex with | .inl e => e = det n F | .inr (neg, last) => det n F = if neg then -last else last) ⟨F, 1, false, rfl, binv_start hb⟩ (by omega) fun k s hk hI => ?_) fun ex hex => ?_
  · obtain ⟨G, last, neg, rfl, hB⟩ := hI
    unfold P_quadformref03_Determinant_b1
    dsimp only
    rw [tab_len]
    refine ok_if (fun h => ?_) (fun h => ok_some ?_)
    · have hk' : k < n := by omega
      refine ok_bind (Q := fun ex => match ex with | .inl e => e = det n F | .inr (neg', a', last') => ∃ G', a' = tab n n G' ∧ BInv m63 F n (k + 1) G' last' neg') ?_ fun ex hex => ?_
      · refine ok_bind (Q := fun (e : Int) => ∃ p : Nat, e = p ∧ k ≤ p ∧ p ≤ n ∧ (∀ i, k ≤ i → i < p → G i k = 0) ∧ (p < n → G p k ≠ 0)) (ok_bind (ok_iter (fun j (s : Int) => s = ((k + j : Nat) : Int) ∧ k + j ≤ n ∧ ∀ i, k ≤ i → i < k + j → G i k = 0) (n - k) (Q := fun (e : Int) => ∃ p : Nat, e = p ∧ k ≤ p ∧ p ≤ n ∧ (∀ i, k ≤ i → i < p → G i k = 0) ∧ (p < n → G p k ≠ 0)) ⟨rfl, by omega, fun i h1 h2 => by omega⟩ (by omega) fun j s hj hJ => ?_) fun e he => ok_some he) fun e he => ?_
        · obtain ⟨rfl, hjn, hz⟩ := hJ
          unfold P_quadformref03_Determinant_b4
          rw [tab_len]
          refine ok_bind (Q := fun ex => match ex with | .inl _ => k + j < n ∧ G (k + j) k = 0 | .inr _ => k + j < n → G (k + j) k ≠ 0) (ok_if (fun h2 => ok_get (tab_get (by omega)) rfl (ok_get (rowL_get (by omega)) rfl (ok_bind (ok_of (a := sigZ (G (k + j) k)) rfl) fun sg hsg => ok_if (fun h3 => ok_some ⟨by omega, ?_⟩) fun h3 => ok_some fun _ => ?_))) fun h2 => ok_some fun h3 => by omega) fun ex hex => ?_
          · subst hsg; exact sig_zero.1 h3
          · subst hsg; exact fun h4 => h3 (sig_zero.2 h4)
          · cases ex with
            | inl u => exact ok_some ⟨by omega, by rw [wrap_ok (by omega) (by omega)]; omega, by omega, fun i h1 h2 => by
                rcases Nat.lt_or_ge i (k + j) with h3 | h3
                · exact hz i h1 h3
                · obtain rfl : i = k + j := by omega
                  exact hex.2⟩
            | inr u => exact ok_some ⟨k + j, rfl, by omega, hjn, hz, hex⟩
        · obtain ⟨p, rfl, hkp, hpn, hz, hp⟩ := he
          refine ok_if (fun h2 => ok_some ?_) (fun h2 => ?_)
          · obtain rfl : p = n := by omega
            exact (binv_none hB hk' hz).symm
          · have hp' : p < n := by omega
            refine ok_bind (Q := fun (r : Bool × List (List Int)) => ∃ G', r.2 = tab n n G' ∧ BInv m63 F n k G' last r.1 ∧ G' k k ≠ 0) (ok_if (fun h3 => ok_get (tab_get (by omega)) rfl (ok_get (tab_get (by omega)) rfl (ok_some ⟨swapF G p k, ?_, binv_swap hB (by omega) hp', ?_⟩))) fun h3 => ok_some ⟨G, rfl, hB, ?_⟩) fun r hr => ?_
            · dsimp only
              rw [sI_nat, sI_nat]
              show ((tab n n G).set p (rowL n (G k))).set k (rowL n (G p)) = _
              rw [show rowL n (G k) = (List.range n).map (G k) from rfl, show rowL n (G p) = (List.range n).map (G p) from rfl, tab_setF, tab_setF]
              rfl
            · rw [swapF_app, if_pos rfl]; exact hp hp'
            · obtain rfl : p = k := by omega
              exact hp hp'
            · obtain ⟨neg2, a2⟩ := r
              obtain ⟨G2, hG2, hB2, hne⟩ := hr
              dsimp only at hG2 hB2 ⊢
              subst hG2
              have hlast := binv_last (by decide) hB2 (by omega)
              have habs : ∀ i j, k ≤ i → i < n → k ≤ j → j < n → (G2 i j).natAbs ≤ dMax := fun i j h1 h2 h3 h4 => Nat.le_trans (binv_abs (by decide) hB2 hk' h1 h2 h3 h4).1 hD
              have hl' : last.natAbs ≤ dMax := Nat.le_trans hlast.2 hD
              rw [wrap_ok (by omega) (by omega)]
              refine ok_bind (ok_iter (fun i s => s = (((k + 1 + i : Nat) : Int), tab n n (bF k G2 last (k + 1 + i) (k + 1))) ∧ k + 1 + i ≤ n) (n - (k + 1)) (Q := (· = tab n n (bF k G2 last n (k + 1)))) ⟨by rw [Nat.add_zero, bF_start]; simp, by omega⟩ (by omega) fun i s hi hI => ?_) fun a3 ha3 => ?_
              · obtain ⟨rfl, hin⟩ := hI
                unfold P_quadformref03_Determinant_b7
                dsimp only
                rw [tab_len]
                obtain ⟨q, hq⟩ : ∃ q, k + 1 + i = q := ⟨_, rfl⟩
                rw [hq] at hin ⊢
                refine ok_if (fun h3 => ?_) (fun h3 => ok_some ?_)
                · have hqn : q < n := by omega
                  rw [wrap_ok (by omega) (by omega)]
                  refine ok_bind (ok_iter (fun j s => s = (((k + 1 + j : Nat) : Int), tab n n (bF k G2 last q (k + 1 + j))) ∧ k + 1 + j ≤ n) (n - (k + 1)) (Q := (· = tab n n (bF k G2 last q n))) ⟨by simp, by omega⟩ (by omega) fun j s hj hJ => ?_) fun a4 ha4 => ok_some ?_
                  · obtain ⟨rfl, hjn⟩ := hJ
                    unfold P_quadformref03_Determinant_b8
                    dsimp only
                    rw [tab_len]
                    obtain ⟨c, hc⟩ : ∃ c, k + 1 + j = c := ⟨_, rfl⟩
                    rw [hc] at hjn ⊢
                    refine ok_if (fun h4 => ?_) (fun h4 => ok_some ?_)
                    · have hcn : c < n := by omega
                      refine ok_get (tab_get hqn) rfl (ok_get (tab_get hk') rfl (ok_get (rowL_get hk') rfl (ok_get (rowL_get hcn) rfl ?_)))
                      rw [bF_kk, bF_ij]
                      refine ok_bind (ok_of (zMul_big (habs _ _ (by omega) (by omega) (by omega) (by omega)) (habs _ _ (by omega) (by omega) (by omega) (by omega)))) fun x1 hx1 => ok_get (rowL_get hk') rfl (ok_get (rowL_get hcn) rfl ?_)
                      subst hx1
                      rw [bF_ck, bF_kk]
                      refine ok_bind (ok_of (zMul_big (habs _ _ (by omega) (by omega) (by omega) (by omega)) (habs _ _ (by omega) (by omega) (by omega) (by omega)))) fun x2 hx2 => ?_
                      subst hx2
                      refine ok_bind (Q := (· = G2 k k * G2 q c - G2 q k * G2 k c)) ⟨_, if_pos ⟨mul_big2 (habs _ _ (by omega) (by omega) (by omega) (by omega)) (habs _ _ (by omega) (by omega) (by omega) (by omega)), mul_big2 (habs _ _ (by omega) (by omega) (by omega) (by omega)) (habs _ _ (by omega) (by omega) (by omega) (by omega))⟩, rfl⟩ fun x3 hx3 => ?_
                      · subst hx3
                        refine ok_bind (Q := (· = bQ k G2 last q c)) ?_ fun x4 hx4 => ok_some ⟨by omega, ?_, by omega⟩
                        · unfold P_quadformref01_Quo zDivModP
                          rw [if_pos ⟨sub_big (habs _ _ (by omega) (by omega) (by omega) (by omega)) (habs _ _ (by omega) (by omega) (by omega) (by omega)) (habs _ _ (by omega) (by omega) (by omega) (by omega)) (habs _ _ (by omega) (by omega) (by omega) (by omega)), lt_big hl', hlast.1⟩]
                          exact ⟨_, rfl, rfl⟩
                        · subst hx4
                          rw [wrap_ok (by omega) (by omega), sI_tab, bF_set k G2 last (by omega) (by omega)]
                          congr 1
                          · omega
                          · rw [← Nat.add_assoc, hc]
                    · obtain rfl : c = n := by omega
                      rfl
                  · subst ha4
                    refine ⟨by omega, ?_, by omega⟩
                    rw [wrap_ok (by omega) (by omega)]
                    congr 1
                    · omega
                    · refine tab_congr fun r c hr hc => ?_
                      rw [bF_row k n G2 last q hc, ← Nat.add_assoc, hq]
                · obtain rfl : q = n := by omega
                  rfl
              · subst ha3
                refine ok_get (tab_get hk') rfl (ok_get (rowL_get hk') rfl (ok_some ⟨_, rfl, ?_⟩))
                rw [bF_kk]
                exact binv_step hB2 hk' hne
      · match ex, hex with
        | .inl e, hex => exact ok_some hex
        | .inr (neg', a', last'), hex =>
          obtain ⟨G', rfl, hB'⟩ := hex
          exact ok_some ⟨hk', G', last', neg', by rw [wrap_ok (by omega) (by omega)]; rfl, hB'⟩
    · obtain rfl : k = n := by omega
      exact binv_end hB
  · match ex, hex with
    | .inl e, hex => exact ok_some hex
    | .inr (neg, last), hex =>
      dsimp only at hex ⊢
      rw [hex]
      refine ok_if (fun h => ok_bind (ok_of (a := -last) rfl) fun x hx => ok_some ?_) (fun h => ok_some ?_)
      · rw [hx, h]; rfl
      · rw [if_neg h]
end Go.Proofs.YtdlfineibanppaaDoor


/-
  What the functions of quadformref22, quadformref23 and of law 23 answer, plain. Conditions stand in each statement.
-/
namespace Go.Proofs.YtdlfineibanppaaDoor
open Go Go.QF
set_option linter.unusedVariables false
set_option linter.unusedSimpArgs false
theorem mod_ok {fuel : Nat} {a m : Int} (hm : 0 < m) (hm2 : m ≤ 2147483647) : P_quadformref22_Mod fuel a m = some (a % m) := by
  unfold P_quadformref22_Mod
  rw [if_pos (by omega)]
  have h1 := Int.tmod_lt_of_pos a hm
  have h2 : -m < Int.tmod a m := by
    have := Int.tmod_lt_of_pos (-a) hm
    rw [Int.neg_tmod] at this; omega
  have h3 : Int.tmod a m = a % m ∨ Int.tmod a m = a % m - m := by
    rcases Int.lt_or_le a 0 with h | h
    · have e1 : Int.tmod a m = -((-a) % m) := by rw [show a = -(-a) by omega, Int.neg_tmod, Int.tmod_eq_emod_of_nonneg (by omega)]; simp
      rcases Int.lt_or_eq_of_le (Int.emod_nonneg (-a) (by omega : m ≠ 0)) with h4 | h4
      · right
        rw [e1]
        have := Int.emod_add_mul_ediv (-a) m
        have h5 : a % m = m - (-a) % m := by
          have h6 := Int.emod_lt_of_pos (-a) hm
          have e : a = (m - (-a) % m) + m * (-(-a / m) - 1) := by
            have e0 : m * (-(-a / m) - 1) = -(m * (-a / m)) - m := by rw [Int.mul_sub, Int.mul_neg, Int.mul_one]
            omega
          conv => lhs; rw [e]
          rw [Int.add_mul_emod_self_left, Int.emod_eq_of_lt (by omega) (by omega)]
        omega
      · left
        rw [e1, ← h4]
        have : m ∣ -a := Int.dvd_of_emod_eq_zero h4.symm
        have : m ∣ a := (Int.dvd_neg).1 this
        rw [Int.emod_eq_zero_of_dvd this]; rfl
    · left; exact Int.tmod_eq_emod_of_nonneg h
  have h4 := Int.emod_nonneg a (by omega : m ≠ 0)
  have h5 := Int.emod_lt_of_pos a hm
  rcases h3 with h3 | h3
  · rw [if_neg (by omega), h3]
  · rw [if_pos (by omega), wrap_ok (by omega) (by omega)]
    congr 1; omega
theorem large_P {fuel : Nat} {A : List (List Int)} (hf : 21 < fuel) : P_quadformlaw23_large fuel A = some (largeB A) := by
  apply ok_eq
  unfold P_quadformlaw23_large
  refine ok_if (fun h => ok_some ?_) fun h => ?_
  · symm; unfold largeB; rw [decide_eq_true_eq]; left; omega
  refine ok_bind (ok_iter (fun i (s : Int) => s = (i : Int) ∧ ∀ z ∈ A.take i, ¬ 20 < z.length) A.length (Q := fun ex => match ex with | .inl e => e = true ∧ largeB A = true | .inr _ => largeB A = false) ⟨rfl, by simp⟩ (by omega) fun i s hi hI => ?_) fun ex hex => ?_
  · obtain ⟨rfl, hI⟩ := hI
    unfold P_quadformlaw23_large_b1
    refine ok_if (fun h2 => ?_) (fun h2 => ok_some ?_)
    · have hi' : i < A.length := by omega
      obtain ⟨row, hrow⟩ : ∃ row, A[i]? = some row := ⟨A[i], List.getElem?_eq_getElem hi'⟩
      refine ok_get hrow rfl (ok_if (fun h3 => ok_some ⟨rfl, ?_⟩) fun h3 => ok_some ⟨hi', wrap_ok (by omega) (by omega), ?_⟩)
      · unfold largeB; rw [decide_eq_true_eq]; exact .inr ⟨row, List.mem_of_getElem? hrow, by omega⟩
      · rw [List.take_add_one, hrow]
        intro z hz
        rcases List.mem_append.1 hz with hz | hz
        · exact hI z hz
        · rw [show z = row by simpa using hz]; omega
    · obtain rfl : i = A.length := by omega
      rw [List.take_length] at hI
      unfold largeB; rw [decide_eq_false_iff_not]
      rintro (h3 | ⟨z, hz, h3⟩)
      · omega
      · exact hI z hz h3
  · cases ex with
    | inl e => exact ok_some (hex.1.trans hex.2.symm)
    | inr u => exact ok_some hex.symm
theorem valid_P {fuel : Nat} {A : List (List Int)} (hf : 21 < fuel) : P_quadformref23_Valid fuel A = some (validB A) := by
  apply ok_eq
  unfold P_quadformref23_Valid
  have hbad : ∀ h : ¬ Valid A, validB A = false := fun h => (validB_f h).symm
  refine ok_bind (Q := fun ex => match ex with | .inl e => e = false ∧ validB A = false | .inr _ => 1 ≤ A.length ∧ A.length ≤ 16) (ok_if (fun h => ok_some ⟨rfl, hbad fun hv => by have := hv.1; omega⟩) fun h => ok_if (fun h2 => ok_some ⟨rfl, hbad fun hv => by have := hv.2.1; omega⟩) fun h2 => ok_some ⟨by omega, by omega⟩) fun ex hex => ?_
  cases ex with
  | inl e => exact ok_some (hex.1.trans hex.2.symm)
  | inr u =>
    dsimp only at hex ⊢
    obtain ⟨z0, hz0⟩ : ∃ z, A[0]? = some z := ⟨A[0]'(by omega), List.getElem?_eq_getElem _⟩
    have hc := cols_some hz0
    refine ok_bind (ok_iter (fun i (s : Int) => s = (i : Int) ∧ ∀ z ∈ A.take i, 1 ≤ z.length ∧ z.length ≤ 16 ∧ z.length = cols A) A.length (Q := fun ex => match ex with | .inl e => e = false ∧ validB A = false | .inr _ => validB A = true) ⟨rfl, by simp⟩ (by omega) fun i s hi hI => ?_) fun ex hex2 => ?_
    · obtain ⟨rfl, hI⟩ := hI
      unfold P_quadformref23_Valid_b2
      refine ok_if (fun h => ?_) (fun h => ok_some ?_)
      · have hi' : i < A.length := by omega
        obtain ⟨row, hrow⟩ : ∃ row, A[i]? = some row := ⟨A[i], List.getElem?_eq_getElem hi'⟩
        have bad : ¬ (1 ≤ row.length ∧ row.length ≤ 16 ∧ row.length = cols A) → validB A = false := fun hb => hbad fun hv => hb (by have := hv.2.2.2.2 row (List.mem_of_getElem? hrow); have := hv.2.2.1; have := hv.2.2.2.1; omega)
        refine ok_get hrow rfl (ok_get hz0 rfl (ok_if (fun h1 => ok_some ⟨rfl, bad (by omega)⟩) fun h1 => ok_if (fun h2 => ok_some ⟨rfl, bad (by omega)⟩) fun h2 => ok_if (fun h3 => ok_some ⟨rfl, bad (by omega)⟩) fun h3 => ok_some ⟨hi', wrap_ok (by omega) (by omega), ?_⟩))
        rw [List.take_add_one, hrow]
        intro z hz
        rcases List.mem_append.1 hz with hz | hz
        · exact hI z hz
        · rw [show z = row by simpa using hz]; omega
      · obtain rfl : i = A.length := by omega
        rw [List.take_length] at hI
        refine (validB_t ⟨hex.1, hex.2, ?_, ?_, fun z hz => (hI z hz).2.2⟩).symm
        · have := hI z0 (List.mem_of_getElem? hz0); omega
        · have := hI z0 (List.mem_of_getElem? hz0); omega
    · cases ex with
      | inl e => exact ok_some (hex2.1.trans hex2.2.symm)
      | inr u => exact ok_some hex2.symm
theorem red_row_P {fuel : Nat} {row : List Int} {m : Int} (hm : 0 < m) (hm2 : m ≤ 2147483647) (hl : row.length ≤ 100000000) (hf : row.length < fuel) : iter (fun s => P_quadformref23_Reduce_b2 fuel m row s.1 s.2) fuel ([], 0) = some (row.map (· % m)) := by
  apply ok_eq
  refine ok_iter (fun i s => s = ((row.take i).map (· % m), (i : Int))) row.length (by simp) hf fun i s hi hI => ?_
  subst hI
  unfold P_quadformref23_Reduce_b2
  dsimp only
  refine ok_if (fun h => ?_) (fun h => ok_some ?_)
  · obtain ⟨x, hx⟩ : ∃ x, row[i]? = some x := ⟨row[i]'(by omega), List.getElem?_eq_getElem _⟩
    refine ok_get hx rfl (ok_bind (ok_of (mod_ok hm hm2)) fun y hy => ok_need (by simp; omega) (ok_some ⟨by omega, ?_⟩))
    subst hy
    rw [wrap_ok (by omega) (by omega), List.take_add_one, hx]
    simp
  · obtain rfl : i = row.length := by omega
    rw [List.take_length]
theorem reduce_P {fuel : Nat} {A : List (List Int)} {m : Int} (hm : 0 < m) (hm2 : m ≤ 2147483647) (hl : A.length ≤ 100000000) (hf : A.length < fuel) (hr : ∀ z ∈ A, z.length ≤ 100000000 ∧ z.length < fuel) : P_quadformref23_Reduce fuel A m = some (redM A m) := by
  apply ok_eq
  unfold P_quadformref23_Reduce
  refine ok_bind (ok_iter (fun i s => s = (redM (A.take i) m, (i : Int))) A.length (Q := (· = redM A m)) (by simp [redM]) hf fun i s hi hI => ?_) fun x hx => ok_some hx
  subst hI
  unfold P_quadformref23_Reduce_b1
  dsimp only
  refine ok_if (fun h => ?_) (fun h => ok_some ?_)
  · have hi' : i < A.length := by omega
    obtain ⟨row, hrow⟩ : ∃ row, A[i]? = some row := ⟨A[i], List.getElem?_eq_getElem hi'⟩
    have := hr row (List.mem_of_getElem? hrow)
    refine ok_get hrow rfl (ok_bind (ok_of (red_row_P hm hm2 this.1 this.2)) fun y hy => ok_need (by simp [redM]; omega) (ok_some ⟨hi', ?_⟩))
    subst hy
    rw [wrap_ok (by omega) (by omega), List.take_add_one, hrow]
    simp [redM]
  · obtain rfl : i = A.length := by omega
    rw [List.take_length]
theorem modulus_P {fuel : Nat} {m : Int} : P_quadformref23_modulus fuel m = some (modB m) := by
  unfold P_quadformref23_modulus modB
  split
  · congr 1; simp; omega
  · congr 1; symm; simp; omega
theorem square_P {fuel : Nat} {A : List (List Int)} (hf : 21 < fuel) : P_quadformref23_square fuel A = some (squareB A) := by
  apply ok_eq
  unfold P_quadformref23_square
  refine ok_bind (ok_of (valid_P hf)) fun v hv => ?_
  subst hv
  refine ok_if (fun h => ?_) (fun h => ok_some ?_)
  · have hv : Valid A := by simpa [validB] using h
    obtain ⟨z0, hz0⟩ : ∃ z, A[0]? = some z := ⟨A[0]'(by have := hv.1; omega), List.getElem?_eq_getElem _⟩
    have hc := cols_some hz0
    refine ok_get hz0 rfl (ok_if (fun h2 => ok_some ?_) (fun h2 => ok_some ?_))
    · unfold squareB
      rw [Bool.eq_iff_iff]
      simp only [decide_eq_true_eq]
      constructor
      · intro h3; exact ⟨hv, by omega, by omega⟩
      · intro h3; have := h3.2.2; omega
    · symm; unfold squareB; rw [decide_eq_false_iff_not]; intro h3; have := h3.2.1; omega
  · symm; unfold squareB; rw [decide_eq_false_iff_not]; intro h3; exact h (by simpa [validB] using h3.1)
theorem residue_P {fuel : Nat} {d m : Int} (hm : 0 < m) (hm2 : m ≤ 2147483647) (hd : d.natAbs < bigZ) : P_quadformref22_Residue fuel d m = some (d % m) := by
  have h4 := Int.emod_nonneg d (by omega : m ≠ 0)
  have h5 := Int.emod_lt_of_pos d hm
  have hb : m.natAbs < bigZ := Nat.lt_of_lt_of_le (show m.natAbs < 2147483648 by omega) (by decide)
  unfold P_quadformref22_Residue zSmallP
  rw [if_pos (by omega)]
  show (P_quadformref01_Rem fuel d m).bind _ = _
  unfold P_quadformref01_Rem zDivModP
  rw [if_pos ⟨hd, hb, by omega⟩]
  show (zInt64P fuel (d % m)).bind _ = _
  unfold zInt64P
  rw [if_pos (by omega)]
  rfl
theorem ent_red_abs {A : List (List Int)} {m : Int} (hm : 0 < m) (hm2 : m ≤ 2147483647) (i j : Nat) : (ent (redM A m) i j).natAbs ≤ m63 := by
  rw [ent_red]
  have h4 := Int.emod_nonneg (ent A i j) (by omega : m ≠ 0)
  have h5 := Int.emod_lt_of_pos (ent A i j) hm
  unfold m63; omega
theorem red_square {A : List (List Int)} {m : Int} (h : squareB A = true) : redM A m = tab A.length A.length (ent (redM A m)) ∧ okM (redM A m) = true ∧ A.length ≤ 8 ∧ 1 ≤ A.length := by
  have hs : Square A := by simpa [squareB] using h
  obtain ⟨hv, h1, h2⟩ := hs
  have hr : ∀ z ∈ redM A m, z.length = A.length := fun z hz => by
    obtain ⟨y, hy, rfl⟩ := List.mem_map.1 hz
    rw [List.length_map, hv.2.2.2.2 y hy]; omega
  refine ⟨?_, ?_, h2, hv.1⟩
  · have := tab_eq hr
    rwa [red_len] at this
  · unfold okM
    rw [decide_eq_true_eq, red_len]
    refine ⟨hv.1, by omega, fun z hz => ?_⟩
    rw [hr z hz, cols_red]
    exact ⟨hv.1, by omega, h1⟩
theorem refdet_val {fuel : Nat} {A : List (List Int)} {m : Int} (hf : 21 < fuel) (hs : squareB A = true) (hm : modB m = true) : P_quadformref23_determinant fuel (redM A m) = some (det A.length (ent (redM A m))) := by
  have hm' : 2 ≤ m ∧ m ≤ 2147483647 := by simpa [modB] using hm
  obtain ⟨ht, hok, h8, h1⟩ := red_square (m := m) hs
  unfold P_quadformref23_determinant
  have hr : ∀ z ∈ redM A m, ∀ x ∈ z, -9223372036854775808 ≤ x ∧ x ≤ 9223372036854775807 := fun z hz x hx => by
    obtain ⟨y, hy, rfl⟩ := List.mem_map.1 hz
    obtain ⟨w, hw, rfl⟩ := List.mem_map.1 hx
    have h4 := Int.emod_nonneg w (by omega : m ≠ 0)
    have h5 := Int.emod_lt_of_pos w (by omega : 0 < m)
    omega
  rw [of_ok hr (by omega), hok]
  show (P_quadformref03_Determinant fuel (redM A m)).bind _ = _
  have := det_ok (fuel := fuel) (n := A.length) (F := ent (redM A m)) (by omega) (fun i j => ent_red_abs (by omega) (by omega) i j) (by omega)
  rw [← ht] at this
  rw [this]; rfl
theorem det_big {A : List (List Int)} {m : Int} {n : Nat} (hm : 0 < m) (hm2 : m ≤ 2147483647) (hn : n ≤ 16) : (det n (ent (redM A m))).natAbs < bigZ := lt_big (Nat.le_trans (det_abs fun i j => ent_red_abs hm hm2 i j) (dBd_le hn).1)
theorem det_red_mod {A : List (List Int)} {m : Int} {n : Nat} : det n (ent (redM A m)) % m = det n (ent A) % m := det_eqm fun i j _ _ => by rw [ent_red]; exact Eqm.mod _ _
theorem refDet_P {fuel : Nat} {A : List (List Int)} {m : Int} (hf : 21 < fuel) (hA : largeB A = false) : P_quadformref23_Det fuel A m = some (detS A m, detE A m) := by
  have hl : A.length ≤ 20 ∧ ∀ z ∈ A, z.length ≤ 20 := by
    unfold largeB at hA
    rw [decide_eq_false_iff_not] at hA
    exact ⟨by omega, fun z hz => Nat.le_of_not_lt fun h => hA (.inr ⟨z, hz, h⟩)⟩
  apply ok_eq
  unfold P_quadformref23_Det detS detE
  refine ok_bind (ok_of (square_P hf)) fun v hv => ?_
  subst hv
  cases hs : squareB A with
  | false => exact ok_some rfl
  | true =>
    refine ok_if (fun h => by cases h) fun _ => ok_bind (ok_of modulus_P) fun v hv => ?_
    subst hv
    cases hm : modB m with
    | false => exact ok_some rfl
    | true =>
      have hm' : 2 ≤ m ∧ m ≤ 2147483647 := by simpa [modB] using hm
      refine ok_if (fun h => by cases h) fun _ => ok_bind (ok_of (reduce_P (by omega) (by omega) (by omega) (by omega) fun z hz => by have := hl.2 z hz; omega)) fun R hR => ?_
      subst hR
      refine ok_bind (ok_of (refdet_val hf hs hm)) fun d hd => ?_
      subst hd
      obtain ⟨ht, hok, h8, h1⟩ := red_square (m := m) hs
      refine ok_bind (ok_of (residue_P (by omega) (by omega) (det_big (by omega) (by omega) (by omega)))) fun x hx => ok_some ?_
      subst hx
      rw [det_red_mod]; rfl
end Go.Proofs.YtdlfineibanppaaDoor


/-
  Grid.Ints makes a matrix of the size asked for, plain. Conditions stand in each statement.
-/
namespace Go.Proofs.YtdlfineibanppaaDoor
open Go Go.QF
set_option linter.unusedVariables false
set_option linter.unusedSimpArgs false
theorem mem_set_len {A : List (List Int)} {i : Nat} {r : List Int} {m : Nat} (h : ∀ z ∈ A, z.length ≤ m) (hr : r.length ≤ m) : ∀ z ∈ A.set i r, z.length ≤ m := fun z hz => by
  rcases List.mem_or_eq_of_mem_set hz with h1 | h1
  · exact h z h1
  · rw [h1]; exact hr
theorem ints_P {fuel r c q : Nat} {Z : List Int} (hr : r < 256) (hc : c < 256) (hq : 1 ≤ q) (hq2 : q ≤ 20) (hf : 30 < fuel) : Ok (P_quadformmake_Grid_Ints fuel r c Z q) fun M => M.length = 1 + r % q ∧ ∀ z ∈ M, z.length ≤ q := by
  have hrq := Nat.mod_lt r (show 0 < q by omega)
  have hcq := Nat.mod_lt c (show 0 < q by omega)
  have er : w64 (1 + Int.tmod (w64 (r : Int)) (q : Int)) = ((1 + r % q : Nat) : Int) := by
    rw [wrap_ok (x := (r : Int)) (by omega) (by omega), Int.tmod_eq_emod_of_nonneg (by omega), ← Int.natCast_emod, wrap_ok (by omega) (by omega)]; simp
  have ec : w64 (1 + Int.tmod (w64 (c : Int)) (q : Int)) = ((1 + c % q : Nat) : Int) := by
    rw [wrap_ok (x := (c : Int)) (by omega) (by omega), Int.tmod_eq_emod_of_nonneg (by omega), ← Int.natCast_emod, wrap_ok (by omega) (by omega)]; simp
  obtain ⟨n, hn⟩ : ∃ n, 1 + r % q = n := ⟨_, rfl⟩
  obtain ⟨m, hm⟩ : ∃ m, 1 + c % q = m := ⟨_, rfl⟩
  unfold P_quadformmake_Grid_Ints
  rw [er, hn, Int.toNat_natCast]
  refine ok_need (by omega) (ok_need (by omega) (ok_bind (ok_iter (fun i s => ∃ (at_ : Nat) (out : List (List Int)), s = ((i : Int), (at_ : Int), out) ∧ at_ ≤ 20 * i ∧ out.length = n ∧ ∀ z ∈ out, z.length ≤ q) n (Q := fun M => M.length = n ∧ ∀ z ∈ M, z.length ≤ q) ⟨0, _, rfl, by omega, by simp, fun z hz => by rw [List.eq_of_mem_replicate hz]; simp⟩ (by omega) fun i s hi hI => ?_) fun x hx => ok_some hx))
  obtain ⟨at_, out, rfl, ha, ho, hz⟩ := hI
  unfold P_quadformmake_Grid_Ints_b1
  dsimp only
  rw [er, ec, hm, hn, Int.toNat_natCast, Int.toNat_natCast, List.length_replicate]
  refine ok_if (fun h => ?_) (fun h => ok_some ⟨ho, hz⟩)
  have hi' : i < n := by omega
  refine ok_need (by omega) (ok_need (by omega) (ok_get (n := i) (x := out[i]'(by omega)) (List.getElem?_eq_getElem _) rfl ?_))
  rw [sI_nat]
  refine ok_get (n := i) (x := List.replicate m 0) (List.getElem?_set_self (by omega)) rfl ?_
  refine ok_bind (ok_iter (fun j s => ∃ (a : Nat) (o2 : List (List Int)) (row : List Int), s = ((j : Int), (a : Int), o2) ∧ a ≤ at_ + j ∧ o2.length = n ∧ (∀ z ∈ o2, z.length ≤ q) ∧ o2[i]? = some row ∧ row.length = m) m (Q := fun (ex : Int × List (List Int)) => ∃ a : Nat, ex.1 = a ∧ a ≤ at_ + 20 ∧ ex.2.length = n ∧ ∀ z ∈ ex.2, z.length ≤ q) ⟨at_, _, _, rfl, by omega, by simp [ho], mem_set_len hz (by simp; omega), List.getElem?_set_self (by omega), by simp⟩ (by omega) fun j s hj hJ => ?_) fun ex hex => ?_
  · obtain ⟨a, o2, row, rfl, h1, h2, h3, h4, h5⟩ := hJ
    unfold P_quadformmake_Grid_Ints_b2
    dsimp only
    rw [List.length_replicate]
    refine ok_if (fun h6 => ?_) (fun h6 => ok_some ⟨a, rfl, by omega, h2, h3⟩)
    have hj' : j < m := by omega
    refine ok_get h4 rfl (ok_bind (Q := fun (e : Int × Int) => ∃ a' : Nat, e.2 = a' ∧ a' ≤ at_ + (j + 1)) (ok_if (fun h7 => ok_some ⟨a, rfl, by omega⟩) fun h7 => ?_) fun e he => ?_)
    · have ha' : w64 (w64 ((a : Int) + 1) - 1) = (a : Int) := by rw [wrap_ok (x := (a : Int) + 1) (by omega) (by omega), wrap_ok (by omega) (by omega)]; omega
      rw [ha']
      refine ok_get (n := a) (x := Z[a]'(by omega)) (List.getElem?_eq_getElem _) rfl (ok_some ⟨a + 1, ?_, by omega⟩)
      dsimp only
      rw [wrap_ok (x := (a : Int) + 1) (by omega) (by omega)]; rfl
    · obtain ⟨y, w⟩ := e
      obtain ⟨a', h8, h9⟩ := he
      dsimp only at h8 ⊢
      subst h8
      refine ok_get (n := j) (x := row[j]'(by omega)) (List.getElem?_eq_getElem _) rfl (ok_some ⟨hj', a', o2.set i (row.set j y), row.set j y, ?_, h9, ?_, ?_, ?_, ?_⟩)
      · rw [wrap_ok (by omega) (by omega), sI_nat, sI_nat]; rfl
      · rw [List.length_set, h2]
      · exact mem_set_len h3 (by simp; omega)
      · rw [List.getElem?_set_self (by omega)]
      · simp [h5]
  · obtain ⟨e1, e2⟩ := ex
    obtain ⟨a, h1, h2, h3, h4⟩ := hex
    dsimp only at h1 h3 h4 ⊢
    subst h1
    exact ok_some ⟨hi', a, e2, by rw [wrap_ok (by omega) (by omega)]; rfl, by omega, h3, h4⟩
end Go.Proofs.YtdlfineibanppaaDoor


/-
  The law ModularDet: true for every input.
-/

namespace Go.Proofs.YtdlfineibanppaaDoor
open Go Go.QF
set_option linter.unusedVariables false
theorem large_of {M : List (List Int)} {n : Nat} (h1 : M.length ≤ 20) (h2 : ∀ z ∈ M, z.length ≤ 20) : largeB M = false := by
  unfold largeB; rw [decide_eq_false_iff_not]
  rintro (h | ⟨z, hz, h⟩)
  · omega
  · have := h2 z hz; omega
theorem lawmod_P {fuel : Nat} {k raw : Int} {w : Bool} : ∃ c, P_quadformlaw23_modulus fuel k raw w = some c := by
  unfold P_quadformlaw23_modulus
  cases w
  · exact ⟨_, rfl⟩
  · exact ⟨_, rfl⟩
theorem modularDet_true {A : List (List Int)} {gr gc : Nat} {Z : List Int} {k raw : Int} {wild made : Bool} (hr : gr < 256) : P_quadformlaw23_ModularDet 100 A gr gc Z k raw wild made = some true := by
  apply ok_eq
  unfold P_quadformlaw23_ModularDet
  refine ok_bind (ok_of (large_P (by omega))) fun b hb => ?_
  subst hb
  obtain ⟨c, hc⟩ := lawmod_P (fuel := 100) (k := k) (raw := raw) (w := wild)
  refine ok_if (fun h => ok_bind (ok_of (a := true) rfl) fun x hx => ok_some hx) fun h => ok_if (fun h2 => ?_) fun h2 => ?_
  · refine ok_bind (ints_P (fuel := 100) (Z := Z) (q := 6) hr hr (by omega) (by omega) (by omega)) fun M hM => ok_bind (ok_of hc) fun c' hc' => ?_
    subst hc'
    have hl : largeB M = false := large_of (n := 0) (by have := Nat.mod_lt gr (show 0 < 6 by decide); omega) fun z hz => by have := hM.2 z hz; omega
    refine ok_bind (ok_of (a := (detS M c', detE M c')) rfl) fun d hd => ok_bind (ok_of (refDet_P (by omega) hl)) fun e he => ?_
    subst hd; subst he
    dsimp only
    rw [if_pos rfl, if_pos rfl]
    exact ok_bind (ok_of (a := true) rfl) fun x hx => ok_some hx
  · refine ok_bind (ok_of hc) fun c' hc' => ?_
    subst hc'
    refine ok_bind (ok_of (a := (detS A c', detE A c')) rfl) fun d hd => ok_bind (ok_of (refDet_P (by omega) (by simpa using h))) fun e he => ?_
    subst hd; subst he
    dsimp only
    rw [if_pos rfl, if_pos rfl]
    exact ok_bind (ok_of (a := true) rfl) fun x hx => ok_some hx
theorem ModularDet_ok {h : Heap} {va : Value} {A : List (List Int)} (HA : Mat h va A) (gr1 gc1 : Nat) (l1 : Value) (Z1 : List Int) (HZ1 : Sl h l1 (Z1.map (.int .i8))) (hr1 : gr1 < 256) (k raw : Int) (wild made : Bool) (HO : OffH h) : CallH Tryd.prog 7 #[va, .agg #[.int .u8 (gr1 : Int), .int .u8 (gc1 : Int), l1], .int .u16 k, .int .i64 raw, .bool wild, .bool made] h fun x h' => Ext h h' ∧ x = .bool true :=
  P_quadformlaw23_ModularDet_ok (slC2_of HA) (slC_of HZ1) HO (modularDet_true hr1)
end Go.Proofs.YtdlfineibanppaaDoor

