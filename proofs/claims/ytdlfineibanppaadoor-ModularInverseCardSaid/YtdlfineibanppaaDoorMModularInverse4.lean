/-
  Texts of the proof of ModularInverse, joined: A23, Cv, RefS, Lin, Rref, Solve, Uniq, Uni, Det, Mul, Row, Ech2, Ker, Tri, Inv, DetM, AwS, Awake, A23w, InvM, Adj, A23v, A23i, Ok. Conditions stand in each statement.
-/
import Derived.Test.YtdlfineibanppaaDoorMModularInverse3
/-
  quadformref22, quadformref23, quadformmake.Grid, walked.
-/
namespace Go.Proofs.YtdlfineibanppaaDoor
open Go Go.QF
set_option linter.unusedVariables false
set_option linter.unusedSimpArgs false
set_option maxRecDepth 100000
set_option maxHeartbeats 4000000
def P_quadformref22_Mod (fuel : Nat) (a1 : Int) (a2 : Int) : Option Int :=
  (if a2 ≠ 0 then (if (Int.tmod a1 a2) < 0 then (some (w64 ((Int.tmod a1 a2) + a2))) else (some (Int.tmod a1 a2))) else none)
theorem P_quadformref22_Mod_ok {fuel : Nat} {h : Heap} {a1 : Int} {a2 : Int} {r : Int}  (hp : P_quadformref22_Mod fuel a1 a2 = some r) : CallH Tryd.prog 36 #[(.int .i64 a1), (.int .i64 a2)] h (fun x h' => Ext h h' ∧ x = .int .i64 r) := by
  unfold P_quadformref22_Mod at hp
  have S0 := sp_nil h (Array.size h)
  refine calls_of_W (l := [_, _]) mx Tryd.func36 rfl rfl rfl rfl rfl (by kernel_rfl) ?_
  refine w_seq ?_
  refine w_reg ?_
  refine r_as (r_nil (q_t ?_))
  refine w_seq ?_
  refine w_reg ?_
  refine r_mv (r_mv ?_)
  obtain ⟨hn3, hp4⟩ := ifN hp
  clear hp
  refine r_rem rfl rfl hn3 (r_as (r_nil (q_t ?_)))
  refine w_seq ?_
  refine w_seq ?_
  refine w_reg ?_
  refine r_mv (r_cmp rfl rfl (cmp_lss _ _) (r_nil (q_t ?_)))
  refine ⟨_, rfl, fun hc5 => ?_, fun hc5 => ?_⟩
  · skip
    have hp6 := ifTd hp4 hc5
    clear hp4
    refine w_reg ?_
    refine r_mv (r_mv (r_add rfl rfl (r_as (r_nil (q_t ?_)))))
    refine w_seq ?_
    refine w_reg ?_
    refine r_mv (r_as (r_nil (q_t ?_)))
    refine w_ret ?_
    have hq7 := Option.some.inj hp6
    subst hq7
    exact ⟨_, retV_1, (Ext.refl _), rfl⟩
  · skip
    have hp8 := ifFd hp4 hc5
    clear hp4
    refine w_skip (q_t ?_)
    refine w_seq ?_
    refine w_reg ?_
    refine r_mv (r_as (r_nil (q_t ?_)))
    refine w_ret ?_
    have hq9 := Option.some.inj hp8
    subst hq9
    exact ⟨_, retV_1, (Ext.refl _), rfl⟩

def P_quadformref22_Residue (fuel : Nat) (a1 : Int) (a5 : Int) : Option Int :=
  ((zSmallP fuel a5).bind fun x13 => ((P_quadformref01_Rem fuel a1 x13).bind fun x24 => ((zInt64P fuel x24).bind fun (x35, x36) => (some x35))))
theorem P_quadformref22_Residue_ok {fuel : Nat} {h : Heap} {pv2 : Value} {a1 : Int} {a5 : Int} {r : Int} (H3 : ZZ h pv2 a1) (hp : P_quadformref22_Residue fuel a1 a5 = some r) : CallH Tryd.prog 55 #[pv2, (.int .i64 a5)] h (fun x h' => Ext h h' ∧ x = .int .i64 r) := by
  unfold P_quadformref22_Residue at hp
  obtain ⟨cs4, rfl, H3z⟩ := H3.cs
  have S0 := sp_nil h (Array.size h)
  refine calls_of_W (l := [_, _]) mx Tryd.func55 rfl rfl rfl rfl rfl (by kernel_rfl) ?_
  refine w_seq ?_
  refine w_reg ?_
  refine r_boxE cs4 trivial (fun _ _ => trivial) rfl rfl fun b6 h7 V8 E9 S10 => ?_
  have sz12 := E9.1
  have S13 : Sp h7 (Array.size h) [[b6]] := S0.app S10 E9.1 (Nat.le_refl _)
  have lo14 := S10.loAll 0 rfl
  refine r_as (r_nil (q_t ?_))
  refine w_seq ?_
  refine w_drawB (fun h' => UpT [] h7 h') (by kernel_rfl) ?_
  have hB15 : UpT [] h7 h7 := UpT.start all_nil
  have Z16 := cZ.upT H3z E9.upT
  refine r_ldAB cs4 ag_Z (cZ.klen Z16) rfl hB15 (fun h' hb => (V8.ext hb.ext).agg) (r_mv ?_)
  obtain ⟨x17, hx18, hp19⟩ := obind hp
  clear hp
  refine r_callE hB15 (fun _ E => hB15.thenE E) rfl (zSmall_P hx18) fun xv23 h21 E20 hk22 => ?_
  obtain ⟨x24, rfl, Z25⟩ := hk22
  have sz27 := E20.1
  have X28 := E9.trans E20
  have hB29 := hB15.thenE E20
  obtain ⟨cs26, rfl, Z30⟩ := Z25.cs
  have S31 : Sp h21 (Array.size h) [[b6]] := S13.keep E20.1
  have Z32 := cZ.upT Z16 E20.upT
  obtain ⟨x33, hx34, hp35⟩ := obind hp19
  clear hp19
  refine r_callE hB29 (fun _ E => hB29.thenE E) rfl (P_quadformref01_Rem_ok Z32.2 Z30.2 hx34) fun xv39 h37 E36 hk38 => ?_
  obtain ⟨x40, rfl, Z41⟩ := hk38
  have sz43 := E36.1
  have X44 := X28.trans E36
  have hB45 := hB29.thenE E36
  obtain ⟨cs42, rfl, Z46⟩ := Z41.cs
  have S47 : Sp h37 (Array.size h) [[b6]] := S31.keep E36.1
  obtain ⟨⟨x48, x49⟩, hx50, hp51⟩ := obind hp35
  clear hp35
  dsimp only at hp51
  refine r_callE hB45 (fun _ E => hB45.thenE E) rfl (zInt64_P Z46.2 hx50) fun xv55 h53 E52 hk54 => ?_
  subst hk54
  have sz56 := E52.1
  have X57 := X44.trans E52
  have hB58 := hB45.thenE E52
  have S59 : Sp h53 (Array.size h) [[b6]] := S47.keep E52.1
  refine r_mv (r_ext rfl rfl (r_ext rfl rfl (r_as (r_as (r_nil (q_t ?_))))))
  refine w_seq ?_
  refine w_reg ?_
  refine r_mv (r_as (r_nil (q_t ?_)))
  refine w_ret ?_
  have hq60 := Option.some.inj hp51
  subst hq60
  exact ⟨_, retV_1, X57, rfl⟩

def P_quadformref23_Valid_b2 (fuel : Nat) (a3 : (List (List Int))) (s45 : Int) : Option ((Int) ⊕ ((Bool) ⊕ (Unit))) :=
  (if s45 < (a3.length : Int) then ((gI a3 s45).bind fun x48 => ((gI a3 0).bind fun x55 => (if ¬ (x48.length : Int) = (x55.length : Int) then (some (Sum.inr<| Sum.inl <| false)) else (if (x48.length : Int) < 1 then (some (Sum.inr<| Sum.inl <| false)) else (if 16 < (x48.length : Int) then (some (Sum.inr<| Sum.inl <| false)) else (some (Sum.inl (w64 (s45 + 1))))))))) else (some (Sum.inr<| Sum.inr <|  ())))
def P_quadformref23_Valid (fuel : Nat) (a3 : (List (List Int))) : Option Bool :=
  (((if (a3.length : Int) < 1 then (some (Sum.inl <| false)) else (if 16 < (a3.length : Int) then (some (Sum.inl <| false)) else (some (Sum.inr <|  ())))) : Option ((Bool) ⊕ (Unit))).bind (fun ex => match ex with | Sum.inl e17 => (some e17) | Sum.inr (_) => ((iter (fun s => P_quadformref23_Valid_b2 fuel a3 s) fuel 0).bind (fun ex => match ex with | Sum.inl e72 => (some e72) | Sum.inr (_) => (some true)))))
theorem P_quadformref23_Valid_ok {fuel : Nat} {h : Heap} {pv1 : Value} {a3 : (List (List Int))} {r : Bool} (H2 : SlC2 (cI .i64) h pv1 a3) (hp : P_quadformref23_Valid fuel a3 = some r) : CallH Tryd.prog 59 #[pv1] h (fun x h' => Ext h h' ∧ x = .bool r) := by
  unfold P_quadformref23_Valid at hp
  have S0 := sp_nil h (Array.size h)
  refine calls_of_W (l := [_]) mx Tryd.func59 rfl rfl rfl rfl rfl (by kernel_rfl) ?_
  refine w_seq ?_
  refine w_reg ?_
  refine r_as (r_nil (q_t ?_))
  obtain ⟨ex5, hj6, hp7⟩ := obind hp
  clear hp
  refine w_join 8164 (fun x : Unit => []) (fun (x : Unit) (h' : Heap) => (Sum.inr <|  ()) = ex5 ∧ UpT [] h h' ∧ Sp h' (Array.size h) []) (by kernel_rfl) ?_ ?_
  · skip
    refine w_seq ?_
    refine w_reg ?_
    refine r_mv ?_
    refine r_lenR sl_MM rfl H2 (r_cmp rfl rfl (cmp_lss _ _) (r_mv ?_))
    rcases Decidable.em ((a3.length : Int) < 1) with hc8 | hc8
    · skip
      have hp9 := ifT hj6 hc8
      clear hj6
      rw [show decide ((a3.length : Int) < 1) = true from decide_eq_true hc8]
      refine r_skip 8 true (by kernel_rfl) rfl rfl (r_skip 8 true (by kernel_rfl) rfl rfl (r_skip 8 true (by kernel_rfl) rfl rfl (r_pickT rfl (r_nil (q_t ?_)))))
      refine w_true rfl ?_
      refine w_seq ?_
      refine w_reg ?_
      refine r_as (r_nil (q_t ?_))
      have hq10 := Option.some.inj hp9
      subst hq10
      have hp12 := hp7
      try dsimp only at hp12
      refine w_ret (q_tr ?_)
      have hq13 := Option.some.inj hp12
      subst hq13
      exact ⟨_, retV_1, (Ext.refl _), rfl⟩
    · skip
      have hp14 := ifF hj6 hc8
      clear hj6
      rw [show decide ((a3.length : Int) < 1) = false from decide_eq_false hc8]
      refine r_want 8 false (by kernel_rfl) rfl rfl (r_mv (r_want 8 false (by kernel_rfl) rfl rfl ?_))
      refine r_lenR sl_MM rfl H2 (r_want 8 false (by kernel_rfl) rfl rfl (r_cmp rfl rfl (cmp_gtr _ _) (r_pickF rfl (r_nil (q_t ?_)))))
      refine ⟨_, rfl, fun hc15 => ?_, fun hc15 => ?_⟩
      · skip
        have hp16 := ifTd hp14 hc15
        clear hp14
        refine w_seq ?_
        refine w_reg ?_
        refine r_as (r_nil (q_t ?_))
        have hq17 := Option.some.inj hp16
        subst hq17
        have hp19 := hp7
        try dsimp only at hp19
        refine w_ret (q_tr ?_)
        have hq20 := Option.some.inj hp19
        subst hq20
        exact ⟨_, retV_1, (Ext.refl _), rfl⟩
      · skip
        have hp21 := ifFd hp14 hc15
        clear hp14
        refine w_skip (q_t ?_)
        have T23 : UpT [] h h := UpT.start all_nil
        exact ⟨(() : Unit), ⟨Option.some.inj hp21, T23, S0⟩, trivial⟩
  rintro ⟨⟩ sv26 h25 ⟨hk24, T27, S28⟩
  replace S28 : Sp h25 (Array.size h) [] := S28
  refine (show W _ _ _ (setL [] (mix _ sv26 _)) h25 from ?_)
  have sz29 := T27.size
  have X30 := (Ext.refl _).thenT T27 all_nil
  subst hk24
  have hp31 := hp7
  try dsimp only at hp31
  refine w_seq ?_
  refine w_seq ?_
  refine w_reg ?_
  refine r_mv ?_
  refine r_lenR sl_MM rfl H2 (r_mv (r_nil (q_t ?_)))
  refine w_block ?_
  obtain ⟨ex32, hL33, hp34⟩ := obind hp31
  clear hp31
  obtain ⟨bd35, hbd36, hL37⟩ := iter_gen hL33
  clear hL33
  refine w_loop 137438920724 (fun x : (Int) => [(15, (.int .i64 x))]) (fun (k : Nat) (x : (Int)) (h' : Heap) => iter bd35 k x = some ex32 ∧ UpT [] h25 h' ∧ Sp h' (Array.size h) []) (by kernel_rfl) fuel (0 : (Int)) ?_ ⟨rfl, trivial⟩ ?_
  · exact ⟨hL37, UpT.start all_nil, S28⟩
  rintro k38 u44 sv41 h40 ⟨hk39, T42, S43⟩
  replace S43 : Sp h40 (Array.size h) [] := S43
  refine (show W _ _ _ (setL [(15, (.int .i64 u44))] (mix _ sv41 _)) h40 from ?_)
  have sz45 := T42.size
  have X46 := X30.thenT T42 all_nil
  obtain ⟨k47, rr48, rfl, hb49, hr50⟩ := iter_step hk39
  clear hk39
  rw [hbd36] at hb49
  dsimp only at hb49
  unfold P_quadformref23_Valid_b2 at hb49
  refine w_seq ?_
  refine w_reg ?_
  refine r_cmp rfl rfl (cmp_lss _ _) (r_nil (q_t ?_))
  refine w_seq ?_
  refine ⟨_, rfl, fun hc51 => ?_, fun hc51 => ?_⟩
  · skip
    have hp52 := ifTd hb49 hc51
    clear hb49
    refine w_skip (q_t ?_)
    refine w_seq ?_
    refine w_block ?_
    refine w_seq ?_
    refine w_reg ?_
    obtain ⟨x53, hx54, hp55⟩ := obind hp52
    clear hp52
    refine r_ixR sl_MM rfl H2 rfl hx54 fun b56 o57 r58 hc59 H60 => ?_
    refine r_ld na_I64 rfl (cellH_ext hc59 X46) (r_as (r_nil (q_t ?_)))
    refine w_seq ?_
    refine w_reg ?_
    refine r_mv ?_
    refine r_lenC sl_I64 rfl H60 (r_mv ?_)
    obtain ⟨x62, hx63, hp64⟩ := obind hp55
    clear hp55
    refine r_ixR sl_MM rfl H2 rfl hx63 fun b65 o66 r67 hc68 H69 => ?_
    refine r_ld na_I64 rfl (cellH_ext hc68 X46) ?_
    refine r_lenC sl_I64 rfl H69 (r_cmp rfl rfl (cmp_neq _ _) (r_mv ?_))
    rcases Decidable.em (¬ (x53.length : Int) = (x62.length : Int)) with hc71 | hc71
    · skip
      have hp72 := ifT hp64 hc71
      clear hp64
      rw [show decide (¬ (x53.length : Int) = (x62.length : Int)) = true from decide_eq_true hc71]
      refine r_skip 26 true (by kernel_rfl) rfl rfl (r_skip 26 true (by kernel_rfl) rfl rfl (r_skip 26 true (by kernel_rfl) rfl rfl (r_pickT rfl (r_mv (r_skip 31 true (by kernel_rfl) rfl rfl (r_skip 31 true (by kernel_rfl) rfl rfl (r_skip 31 true (by kernel_rfl) rfl rfl (r_pickT rfl (r_nil (q_t ?_))))))))))
      refine w_true rfl ?_
      refine w_seq ?_
      refine w_reg ?_
      refine r_as (r_nil (q_t ?_))
      have hq73 := Option.some.inj hp72
      subst hq73
      have hp74 := hr50
      change _ = ex32 at hp74
      subst hp74
      have hp75 := hp34
      try dsimp only at hp75
      refine w_ret (q_br (q_tr (q_tr (q_br (q_tr ?_)))))
      have hq76 := Option.some.inj hp75
      subst hq76
      exact ⟨_, retV_1, X46, rfl⟩
    · skip
      have hp77 := ifF hp64 hc71
      clear hp64
      rw [show decide (¬ (x53.length : Int) = (x62.length : Int)) = false from decide_eq_false hc71]
      refine r_want 26 false (by kernel_rfl) rfl rfl (r_mv (r_want 26 false (by kernel_rfl) rfl rfl ?_))
      refine r_lenC sl_I64 rfl H60 (r_want 26 false (by kernel_rfl) rfl rfl (r_cmp rfl rfl (cmp_lss _ _) (r_pickF rfl (r_mv ?_))))
      rcases Decidable.em ((x53.length : Int) < 1) with hc78 | hc78
      · skip
        have hp79 := ifT hp77 hc78
        clear hp77
        rw [show decide ((x53.length : Int) < 1) = true from decide_eq_true hc78]
        refine r_skip 31 true (by kernel_rfl) rfl rfl (r_skip 31 true (by kernel_rfl) rfl rfl (r_skip 31 true (by kernel_rfl) rfl rfl (r_pickT rfl (r_nil (q_t ?_)))))
        refine w_true rfl ?_
        refine w_seq ?_
        refine w_reg ?_
        refine r_as (r_nil (q_t ?_))
        have hq80 := Option.some.inj hp79
        subst hq80
        have hp81 := hr50
        change _ = ex32 at hp81
        subst hp81
        have hp82 := hp34
        try dsimp only at hp82
        refine w_ret (q_br (q_tr (q_tr (q_br (q_tr ?_)))))
        have hq83 := Option.some.inj hp82
        subst hq83
        exact ⟨_, retV_1, X46, rfl⟩
      · skip
        have hp84 := ifF hp77 hc78
        clear hp77
        rw [show decide ((x53.length : Int) < 1) = false from decide_eq_false hc78]
        refine r_want 31 false (by kernel_rfl) rfl rfl (r_mv (r_want 31 false (by kernel_rfl) rfl rfl ?_))
        refine r_lenC sl_I64 rfl H60 (r_want 31 false (by kernel_rfl) rfl rfl (r_cmp rfl rfl (cmp_gtr _ _) (r_pickF rfl (r_nil (q_t ?_)))))
        refine ⟨_, rfl, fun hc85 => ?_, fun hc85 => ?_⟩
        · skip
          have hp86 := ifTd hp84 hc85
          clear hp84
          refine w_seq ?_
          refine w_reg ?_
          refine r_as (r_nil (q_t ?_))
          have hq87 := Option.some.inj hp86
          subst hq87
          have hp88 := hr50
          change _ = ex32 at hp88
          subst hp88
          have hp89 := hp34
          try dsimp only at hp89
          refine w_ret (q_br (q_tr (q_tr (q_br (q_tr ?_)))))
          have hq90 := Option.some.inj hp89
          subst hq90
          exact ⟨_, retV_1, X46, rfl⟩
        · skip
          have hp91 := ifFd hp84 hc85
          clear hp84
          refine w_skip (q_b (q_t ?_))
          refine w_reg ?_
          refine r_add rfl rfl (r_mv (r_nil (q_t ?_)))
          have hq92 := Option.some.inj hp91
          subst hq92
          exact ⟨k47, ((w64 (u44 + 1)) : (Int)), Nat.lt_succ_self _, ⟨hr50, T42, S43⟩, rfl, trivial⟩
  · skip
    have hp93 := ifFd hb49 hc51
    clear hb49
    have hq94 := Option.some.inj hp93
    subst hq94
    have hp95 := hr50
    change _ = ex32 at hp95
    subst hp95
    have hp96 := hp34
    try dsimp only at hp96
    refine w_exit (q_tx (q_tx (q_bx (q_t ?_))))
    refine w_seq ?_
    refine w_reg ?_
    refine r_as (r_nil (q_t ?_))
    refine w_ret ?_
    have hq97 := Option.some.inj hp96
    subst hq97
    exact ⟨_, retV_1, X46, rfl⟩

def P_quadformref23_modulus (fuel : Nat) (a1 : Int) : Option Bool :=
  (if 2 ≤ a1 then (some (decide (a1 ≤ 2147483647))) else (some false))
theorem P_quadformref23_modulus_ok {fuel : Nat} {h : Heap} {a1 : Int} {r : Bool}  (hp : P_quadformref23_modulus fuel a1 = some r) : CallH Tryd.prog 62 #[(.int .i64 a1)] h (fun x h' => Ext h h' ∧ x = .bool r) := by
  unfold P_quadformref23_modulus at hp
  have S0 := sp_nil h (Array.size h)
  refine calls_of_W (l := [_]) mx Tryd.func62 rfl rfl rfl rfl rfl (by kernel_rfl) ?_
  refine w_seq ?_
  refine w_reg ?_
  refine r_as (r_nil (q_t ?_))
  refine w_seq ?_
  refine w_reg ?_
  refine r_mv (r_cmp rfl rfl (cmp_geq _ _) (r_mv ?_))
  rcases Decidable.em (2 ≤ a1) with hc2 | hc2
  · skip
    have hp3 := ifT hp hc2
    clear hp
    rw [show decide (2 ≤ a1) = true from decide_eq_true hc2]
    refine r_want 5 true (by kernel_rfl) rfl rfl (r_mv (r_want 5 true (by kernel_rfl) rfl rfl (r_cmp rfl rfl (cmp_leq _ _) (r_pickT rfl (r_as (r_nil (q_t ?_)))))))
    refine w_ret ?_
    have hq4 := Option.some.inj hp3
    subst hq4
    exact ⟨_, retV_1, (Ext.refl _), rfl⟩
  · skip
    have hp5 := ifF hp hc2
    clear hp
    rw [show decide (2 ≤ a1) = false from decide_eq_false hc2]
    refine r_skip 5 false (by kernel_rfl) rfl rfl (r_skip 5 false (by kernel_rfl) rfl rfl (r_pickF rfl (r_as (r_nil (q_t ?_)))))
    refine w_ret ?_
    have hq6 := Option.some.inj hp5
    subst hq6
    exact ⟨_, retV_1, (Ext.refl _), rfl⟩

def P_quadformref23_Reduce_b2 (fuel : Nat) (a5 : Int) (x106 : (List Int)) (s144 : (List Int)) (s147 : Int) : Option (((List Int) × Int) ⊕ (((List Int)))) :=
  (if s147 < (x106.length : Int) then ((gI x106 s147).bind fun x151 => ((P_quadformref22_Mod fuel x151 a5).bind fun x157 => (if s144.length ≤ 100000000 then (some (Sum.inl ((s144 ++ [x157]), (w64 (s147 + 1))))) else none))) else (some (Sum.inr<|  s144)))
def P_quadformref23_Reduce_b1 (fuel : Nat) (a3 : (List (List Int))) (a5 : Int) (s97 : (List (List Int))) (s102 : Int) : Option (((List (List Int)) × Int) ⊕ (((List (List Int))))) :=
  (if s102 < (a3.length : Int) then ((gI a3 s102).bind fun x106 => ((iter (fun s => P_quadformref23_Reduce_b2 fuel a5 x106 s.1 s.2) fuel ([], 0)).bind (fun (e173 : (List Int)) => (if s97.length ≤ 100000000 then (some (Sum.inl ((s97 ++ [e173]), (w64 (s102 + 1))))) else none)))) else (some (Sum.inr<|  s97)))
def P_quadformref23_Reduce (fuel : Nat) (a3 : (List (List Int))) (a5 : Int) : Option (List (List Int)) :=
  ((iter (fun s => P_quadformref23_Reduce_b1 fuel a3 a5 s.1 s.2) fuel ([], 0)).bind (fun (e186 : (List (List Int))) => (some e186)))
theorem P_quadformref23_Reduce_ok {fuel : Nat} {h : Heap} {pv1 : Value} {a3 : (List (List Int))} {a5 : Int} {r : (List (List Int))} (H2 : SlC2 (cI .i64) h pv1 a3) (hp : P_quadformref23_Reduce fuel a3 a5 = some r) : CallH Tryd.prog 54 #[pv1, (.int .i64 a5)] h (fun x h' => Ext h h' ∧ ∃ (x0 : Value) (F0 : List Nat) (Gs0 : List (List Nat)) (rs0 : List Value), x = x0 ∧ OwC2 (cI .i64) 46 2 h' F0 Gs0 rs0 x0 r ∧ Sp h' (Array.size h) [F0]) := by
  unfold P_quadformref23_Reduce at hp
  have S0 := sp_nil h (Array.size h)
  refine calls_of_W (l := [_, _]) mx Tryd.func54 rfl rfl rfl rfl rfl (by kernel_rfl) ?_
  refine w_seq ?_
  refine w_reg ?_
  refine r_as (r_nil (q_t ?_))
  refine w_seq ?_
  refine w_reg ?_
  refine r_as (r_nil (q_t ?_))
  refine w_seq ?_
  refine w_seq ?_
  refine w_reg ?_
  refine r_mv ?_
  refine r_lenR sl_MM rfl H2 (r_mv (r_nil (q_t ?_)))
  refine w_block ?_
  have I7 := owC2_nil (cI .i64) 46 2 h
  have S8 : Sp h (Array.size h) [[]] := S0.addnil
  obtain ⟨ex9, hL10, hp11⟩ := obind hp
  clear hp
  obtain ⟨bd12, hbd13, hL14⟩ := iter_gen hL10
  clear hL10
  refine w_loop 34359731616 (fun x : ((List (List Int))) × (Value) × (List Nat) × (List (List Nat)) × (List Value) × (Int) => [(5, x.2.1), (13, (.int .i64 x.2.2.2.2.2))]) (fun (k : Nat) (x : ((List (List Int))) × (Value) × (List Nat) × (List (List Nat)) × (List Value) × (Int)) (h' : Heap) => iter bd12 k (x.1, x.2.2.2.2.2) = some ex9 ∧ UpT ([] ++ []) h h' ∧ Sp h' (Array.size h) [x.2.2.1] ∧ OwC2 (cI .i64) 46 2 h' x.2.2.1 x.2.2.2.1 x.2.2.2.2.1 x.2.1 x.1 ∧ (∀ z ∈ x.2.2.1, z ∈ ([] ++ []) ∨ Array.size h ≤ z)) (by kernel_rfl) fuel (([], (.slice none 0 0), [], [], [], 0) : ((List (List Int))) × (Value) × (List Nat) × (List (List Nat)) × (List Value) × (Int)) ?_ ⟨rfl, rfl, trivial⟩ ?_
  · exact ⟨hL14, UpT.start (all_app I7.notD all_nil), S8, I7, (fr_in rfl)⟩
  rintro k16 ⟨u22, q23, q24, q25, q26, u27⟩ sv19 h18 ⟨hk17, T20, S21, I28, fr29⟩
  replace I28 : OwC2 (cI .i64) 46 2 h18 q24 q25 q26 q23 u22 := I28
  replace fr29 : ∀ z ∈ q24, z ∈ ([] ++ []) ∨ Array.size h ≤ z := fr29
  replace S21 : Sp h18 (Array.size h) [q24] := S21
  refine (show W _ _ _ (setL [(5, q23), (13, (.int .i64 u27))] (mix _ sv19 _)) h18 from ?_)
  have sz30 := T20.size
  have X31 := (Ext.refl _).thenT T20 (all_app (S8.loAll 0 rfl) all_nil)
  obtain ⟨k32, rr33, rfl, hb34, hr35⟩ := iter_step hk17
  clear hk17
  rw [hbd13] at hb34
  dsimp only at hb34
  unfold P_quadformref23_Reduce_b1 at hb34
  refine w_seq ?_
  refine w_reg ?_
  refine r_cmp rfl rfl (cmp_lss _ _) (r_nil (q_t ?_))
  refine w_seq ?_
  refine ⟨_, rfl, fun hc36 => ?_, fun hc36 => ?_⟩
  · skip
    have hp37 := ifTd hb34 hc36
    clear hb34
    refine w_skip (q_t ?_)
    refine w_seq ?_
    refine w_block ?_
    refine w_seq ?_
    refine w_reg ?_
    obtain ⟨x38, hx39, hp40⟩ := obind hp37
    clear hp37
    refine r_ixR sl_MM rfl H2 rfl hx39 fun b41 o42 r43 hc44 H45 => ?_
    refine r_ld na_I64 rfl (cellH_ext hc44 X31) (r_as (r_nil (q_t ?_)))
    refine w_seq ?_
    refine w_reg ?_
    refine r_as (r_nil (q_t ?_))
    refine w_seq ?_
    refine w_seq ?_
    refine w_reg ?_
    refine r_mv ?_
    refine r_lenC sl_I64 rfl H45 (r_mv (r_nil (q_t ?_)))
    refine w_block ?_
    have I48 := owC_nil (cI .i64) 2 h18
    have S49 : Sp h18 (Array.size h) [q24, []] := S21.addnil
    obtain ⟨ex50, hL51, hp52⟩ := obind hp40
    clear hp40
    obtain ⟨bd53, hbd54, hL55⟩ := iter_gen hL51
    clear hL51
    refine w_loop 1073218816 (fun x : ((List Int)) × (Value) × (List Nat) × (Int) => [(8, x.2.1), (19, (.int .i64 x.2.2.2))]) (fun (k : Nat) (x : ((List Int)) × (Value) × (List Nat) × (Int)) (h' : Heap) => iter bd53 k (x.1, x.2.2.2) = some ex50 ∧ UpT ([] ++ []) h18 h' ∧ Sp h' (Array.size h) [q24, x.2.2.1] ∧ OwC (cI .i64) 2 h' x.2.2.1 x.2.1 x.1 ∧ (∀ z ∈ x.2.2.1, z ∈ ([] ++ []) ∨ Array.size h18 ≤ z)) (by kernel_rfl) fuel (([], (.slice none 0 0), [], 0) : ((List Int)) × (Value) × (List Nat) × (Int)) ?_ ⟨rfl, rfl, trivial⟩ ?_
    · exact ⟨hL55, UpT.start (all_app I48.notD all_nil), S49, I48, (fr_in rfl)⟩
    rintro k57 ⟨u63, q64, q65, u66⟩ sv60 h59 ⟨hk58, T61, S62, I67, fr68⟩
    replace I67 : OwC (cI .i64) 2 h59 q65 q64 u63 := I67
    replace fr68 : ∀ z ∈ q65, z ∈ ([] ++ []) ∨ Array.size h18 ≤ z := fr68
    replace S62 : Sp h59 (Array.size h) [q24, q65] := S62
    refine (show W _ _ _ (setL [(8, q64), (19, (.int .i64 u66))] (mix _ sv60 _)) h59 from ?_)
    have sz69 := T61.size
    have X70 := X31.thenT T61 (all_app (S49.loAll 1 rfl) all_nil)
    obtain ⟨k71, rr72, rfl, hb73, hr74⟩ := iter_step hk58
    clear hk58
    rw [hbd54] at hb73
    dsimp only at hb73
    unfold P_quadformref23_Reduce_b2 at hb73
    refine w_seq ?_
    refine w_reg ?_
    refine r_cmp rfl rfl (cmp_lss _ _) (r_nil (q_t ?_))
    refine w_seq ?_
    refine ⟨_, rfl, fun hc75 => ?_, fun hc75 => ?_⟩
    · skip
      have hp76 := ifTd hb73 hc75
      clear hb73
      refine w_skip (q_t ?_)
      refine w_seq ?_
      refine w_block ?_
      refine w_seq ?_
      refine w_reg ?_
      obtain ⟨x77, hx78, hp79⟩ := obind hp76
      clear hp76
      refine r_ixC (c := (cI .i64)) sl_I64 rfl H45 rfl hx78 fun b80 o81 cs82 hr83 hc84 => ?_
      obtain rfl := hr83
      refine r_ld na_i64 rfl (cellH_ext (hc84 0 _ rfl) X70) (r_as (r_nil (q_t ?_)))
      refine w_reg ?_
      refine r_mv (r_mv (r_mv ?_))
      obtain ⟨x85, hx86, hp87⟩ := obind hp79
      clear hp79
      refine r_callE trivial (fun _ _ => trivial) rfl (P_quadformref22_Mod_ok hx86) fun xv91 h89 E88 hk90 => ?_
      subst hk90
      have sz92 := E88.1
      have X93 := X70.trans E88
      have S94 : Sp h89 (Array.size h) [q24, q65] := S62.keep E88.1
      obtain ⟨hn95, hp96⟩ := ifN hp87
      clear hp87
      have I104 := I67.ext E88
      refine r_pushC sl_I64 ze_i64 rfl rfl trivial (fun _ _ => trivial) (fun _ => rfl) rfl (show ((cI .i64)).rep _ x85 [(.int .i64 x85)] from rfl) I104 (by decide) hn95 fun pp97 F98 v99 h100 I101 U102 hs103 => ?_
      have sz106 := U102.size
      have X107 := X93.thenT U102 (S94.loAll 1 rfl)
      have S108 : Sp h100 (Array.size h) [q24, F98] := S94.put 1 rfl I101.nodup U102.size X93.1 I101.lt hs103
      refine r_as (r_nil (q_b (q_t ?_)))
      refine w_reg ?_
      refine r_add rfl rfl (r_mv (r_nil (q_t ?_)))
      have T109 := T61.thenE E88
      have T110 := T109.then U102 (fr_hyp fr68 (all_app (fr_in rfl) all_nil) (by omega))
      have hq111 := Option.some.inj hp96
      subst hq111
      exact ⟨k71, (((u63 ++ [x85]), v99, F98, (w64 (u66 + 1))) : ((List Int)) × (Value) × (List Nat) × (Int)), Nat.lt_succ_self _, ⟨hr74, T110, S108, I101, (fr_hyp hs103 (fr_hyp fr68 (all_app (fr_in rfl) all_nil) (by omega)) (by omega))⟩, rfl, rfl, trivial⟩
    · skip
      have hp112 := ifFd hb73 hc75
      clear hb73
      have hq113 := Option.some.inj hp112
      subst hq113
      have hp114 := hr74
      change _ = ex50 at hp114
      subst hp114
      have hp115 := hp52
      try dsimp only at hp115
      refine w_exit (q_tx (q_tx (q_bx (q_t ?_))))
      refine w_reg ?_
      refine r_mv (r_mv ?_)
      obtain ⟨hn116, hp117⟩ := ifN hp115
      clear hp115
      have I125 := I28.upT T61 (dj_app (S49.dj 0 1 rfl rfl (by decide)) dj_nil)
      refine r_pushR sl_MM ze_I64 rfl rfl trivial (fun _ _ => trivial) (fun _ => rfl) rfl I67 I125 (S62.dj 1 0 rfl rfl (by decide)) (by decide) hn116 fun pp118 F119 v120 h121 I122 U123 hs124 => ?_
      have S126 : Sp h59 (Array.size h) [q24, q65] := (S62.sel [0, 1] (by decide))
      have S127 := S126.mrg
      have hs128 : ∀ z ∈ F119, z ∈ q24 ++ q65 ∨ Array.size h59 ≤ z := hs124
      have sz129 := U123.size
      have X130 := X70.thenT U123 (S62.loAll 0 rfl)
      have S132 : Sp h121 (Array.size h) [F119] := S127.put 0 rfl I122.nodup U123.size X70.1 I122.lt hs128
      refine r_as (r_nil (q_b (q_t ?_)))
      refine w_reg ?_
      refine r_add rfl rfl (r_mv (r_nil (q_t ?_)))
      have T133 := T20.then T61 (all_app (fr_in rfl) all_nil)
      have T134 := T133.then U123 (fr_hyp fr29 (all_app (fr_in rfl) all_nil) (by omega))
      have hq135 := Option.some.inj hp117
      subst hq135
      exact ⟨k32, (((u22 ++ [u63]), v120, F119, (q25 ++ [q65]), (q26 ++ [q64]), (w64 (u27 + 1))) : ((List (List Int))) × (Value) × (List Nat) × (List (List Nat)) × (List Value) × (Int)), Nat.lt_succ_self _, ⟨hr35, T134, S132, I122, (fr_hyp hs128 (all_app (fr_hyp fr29 (all_app (fr_in rfl) all_nil) (by omega)) (fr_hyp fr68 (all_app (fr_in rfl) all_nil) (by omega))) (by omega))⟩, rfl, rfl, trivial⟩
  · skip
    have hp136 := ifFd hb34 hc36
    clear hb34
    have hq137 := Option.some.inj hp136
    subst hq137
    have hp138 := hr35
    change _ = ex9 at hp138
    subst hp138
    have hp139 := hp11
    try dsimp only at hp139
    refine w_exit (q_tx (q_tx (q_bx (q_t ?_))))
    refine w_seq ?_
    refine w_reg ?_
    refine r_mv (r_as (r_nil (q_t ?_)))
    refine w_ret ?_
    have hq140 := Option.some.inj hp139
    subst hq140
    exact ⟨_, retV_1, X31, _, _, _, _, rfl, I28, S21⟩

def P_quadformref23_square (fuel : Nat) (a3 : (List (List Int))) : Option Bool :=
  ((P_quadformref23_Valid fuel a3).bind fun x5 => (if x5 = true then ((gI a3 0).bind fun x15 => (if (a3.length : Int) = (x15.length : Int) then (some (decide ((a3.length : Int) ≤ 8))) else (some false))) else (some false)))
theorem P_quadformref23_square_ok {fuel : Nat} {h : Heap} {pv1 : Value} {a3 : (List (List Int))} {r : Bool} (H2 : SlC2 (cI .i64) h pv1 a3) (hp : P_quadformref23_square fuel a3 = some r) : CallH Tryd.prog 63 #[pv1] h (fun x h' => Ext h h' ∧ x = .bool r) := by
  unfold P_quadformref23_square at hp
  have S0 := sp_nil h (Array.size h)
  refine calls_of_W (l := [_]) mx Tryd.func63 rfl rfl rfl rfl rfl (by kernel_rfl) ?_
  refine w_seq ?_
  refine w_reg ?_
  refine r_as (r_nil (q_t ?_))
  refine w_seq ?_
  refine w_reg ?_
  refine r_mv ?_
  obtain ⟨x5, hx6, hp7⟩ := obind hp
  clear hp
  refine r_callE trivial (fun _ _ => trivial) rfl (P_quadformref23_Valid_ok H2 hx6) fun xv11 h9 E8 hk10 => ?_
  subst hk10
  have sz12 := E8.1
  have S13 : Sp h9 (Array.size h) [] := S0.keep E8.1
  refine r_mv ?_
  cases hc14 : x5
  · skip
    have hp15 := ifFb hp7 hc14
    refine r_skip 5 false (by kernel_rfl) rfl rfl (r_skip 5 false (by kernel_rfl) rfl rfl (r_skip 5 false (by kernel_rfl) rfl rfl (r_skip 5 false (by kernel_rfl) rfl rfl (r_skip 5 false (by kernel_rfl) rfl rfl (r_skip 5 false (by kernel_rfl) rfl rfl (r_skip 5 false (by kernel_rfl) rfl rfl (r_pickF rfl (r_mv (r_skip 14 false (by kernel_rfl) rfl rfl (r_skip 14 false (by kernel_rfl) rfl rfl (r_skip 14 false (by kernel_rfl) rfl rfl (r_pickF rfl (r_as (r_nil (q_t ?_)))))))))))))))
    refine w_ret ?_
    have hq16 := Option.some.inj hp15
    subst hq16
    exact ⟨_, retV_1, E8, rfl⟩
  · skip
    have hp17 := ifT hp7 hc14
    refine r_want 5 true (by kernel_rfl) rfl rfl (r_mv (r_want 5 true (by kernel_rfl) rfl rfl ?_))
    refine r_lenR sl_MM rfl H2 (r_want 5 true (by kernel_rfl) rfl rfl (r_mv (r_want 5 true (by kernel_rfl) rfl rfl ?_)))
    obtain ⟨x18, hx19, hp20⟩ := obind hp17
    clear hp17
    refine r_ixR sl_MM rfl H2 rfl hx19 fun b21 o22 r23 hc24 H25 => ?_
    refine r_want 5 true (by kernel_rfl) rfl rfl (r_ld na_I64 rfl (cellH_ext hc24 E8) (r_want 5 true (by kernel_rfl) rfl rfl ?_))
    refine r_lenC sl_I64 rfl H25 (r_want 5 true (by kernel_rfl) rfl rfl (r_cmp rfl rfl (cmp_eql _ _) (r_pickT rfl (r_mv ?_))))
    rcases Decidable.em ((a3.length : Int) = (x18.length : Int)) with hc27 | hc27
    · skip
      have hp28 := ifT hp20 hc27
      clear hp20
      rw [show decide ((a3.length : Int) = (x18.length : Int)) = true from decide_eq_true hc27]
      refine r_want 14 true (by kernel_rfl) rfl rfl (r_mv (r_want 14 true (by kernel_rfl) rfl rfl ?_))
      refine r_lenR sl_MM rfl H2 (r_want 14 true (by kernel_rfl) rfl rfl (r_cmp rfl rfl (cmp_leq _ _) (r_pickT rfl (r_as (r_nil (q_t ?_))))))
      refine w_ret ?_
      have hq29 := Option.some.inj hp28
      subst hq29
      exact ⟨_, retV_1, E8, rfl⟩
    · skip
      have hp30 := ifF hp20 hc27
      clear hp20
      rw [show decide ((a3.length : Int) = (x18.length : Int)) = false from decide_eq_false hc27]
      refine r_skip 14 false (by kernel_rfl) rfl rfl (r_skip 14 false (by kernel_rfl) rfl rfl (r_skip 14 false (by kernel_rfl) rfl rfl (r_pickF rfl (r_as (r_nil (q_t ?_))))))
      refine w_ret ?_
      have hq31 := Option.some.inj hp30
      subst hq31
      exact ⟨_, retV_1, E8, rfl⟩

def P_quadformref23_determinant (fuel : Nat) (a3 : (List (List Int))) : Option Int :=
  ((P_quadformref03_Of fuel a3).bind fun x12 => ((P_quadformref03_Determinant fuel x12).bind fun x26 => (some x26)))
theorem P_quadformref23_determinant_ok {fuel : Nat} {h : Heap} {pv1 : Value} {a3 : (List (List Int))} {r : Int} (H2 : SlC2 (cI .i64) h pv1 a3) (hp : P_quadformref23_determinant fuel a3 = some r) : CallH Tryd.prog 64 #[pv1] h (fun x h' => Ext h h' ∧ ∃ (x0 : Value), x = x0 ∧ ZZ h' x0 r) := by
  unfold P_quadformref23_determinant at hp
  have S0 := sp_nil h (Array.size h)
  refine calls_of_W (l := [_]) mx Tryd.func64 rfl rfl rfl rfl rfl (by kernel_rfl) ?_
  refine w_seq ?_
  refine w_reg ?_
  have Z11 := rep_nilZ h
  refine r_allocE [.bool false, .slice none 0 0] ze_Z rfl trivial (fun _ _ => trivial) fun b5 h6 V7 E8 S9 => ?_
  have sz12 := E8.1
  have S13 : Sp h6 (Array.size h) [[b5]] := S0.app S9 E8.1 (Nat.le_refl _)
  have lo14 := S9.loAll 0 rfl
  refine r_nil (q_t ?_)
  refine w_seq ?_
  refine w_reg ?_
  refine r_mv ?_
  obtain ⟨x15, hx16, hp17⟩ := obind hp
  clear hp
  refine r_callE trivial (fun _ _ => trivial) rfl (P_quadformref03_Of_ok (H2.ext E8) hx16) fun xv21 h19 E18 hk20 => ?_
  obtain ⟨v22, F25, G26, rs27, rfl, I23, S28⟩ := hk20
  have sz29 := E18.1
  have X30 := E8.trans E18
  have S31 : Sp h19 (Array.size h) [[b5], F25] := S13.app S28 E18.1 E8.1
  have lo32 := S28.loAll 0 rfl
  obtain ⟨x33, hx34, hp35⟩ := obind hp17
  clear hp17
  refine r_callE trivial (fun _ _ => trivial) rfl (P_quadformref03_Determinant_ok I23.rd hx34) fun xv39 h37 E36 hk38 => ?_
  obtain ⟨x40, rfl, Z41⟩ := hk38
  have sz43 := E36.1
  have X44 := X30.trans E36
  obtain ⟨cs42, rfl, Z45⟩ := Z41.cs
  have S46 : Sp h37 (Array.size h) [[b5], F25] := S31.keep E36.1
  have I50 := V7.ext E18
  have I51 := I50.ext E36
  have Z53 := cZ.upT Z11 E8.upT
  have Z54 := cZ.upT Z53 E18.upT
  have Z55 := cZ.upT Z54 E36.upT
  refine r_stA cs42 ag_Z (cZ.klen Z45) (cZ.klen Z55) rfl rfl (cZ.one Z45) I51 fun h47 I49 U52 => ?_
  have U48 := I49.stA U52 (boxAll I51 rfl) rfl
  have sz56 := U48.size
  have X57 := X44.thenT U48 (S46.loAll 0 rfl)
  have S58 : Sp h47 (Array.size h) [[b5], F25] := S46.keep U48.size
  refine r_nil (q_t ?_)
  refine w_ret ?_
  have hq59 := Option.some.inj hp35
  subst hq59
  have Z60 := cZ.upT Z45 U48
  exact ⟨_, retV_c ag_Z (cZ.klen Z60) rfl I49, X57, _, rfl, Z60.2⟩

def P_quadformref23_Det (fuel : Nat) (a3 : (List (List Int))) (a5 : Int) : Option (Int × Int) :=
  ((P_quadformref23_square fuel a3).bind fun x6 => (if (!x6) = true then (some (0, 3)) else ((P_quadformref23_modulus fuel a5).bind fun x16 => (if (!x16) = true then (some (0, 1)) else ((P_quadformref23_Reduce fuel a3 a5).bind fun x26 => ((P_quadformref23_determinant fuel x26).bind fun x40 => ((P_quadformref22_Residue fuel x40 a5).bind fun x51 => (some (x51, 0)))))))))
theorem P_quadformref23_Det_ok {fuel : Nat} {h : Heap} {pv1 : Value} {a3 : (List (List Int))} {a5 : Int} {r : (Int × Int)} (H2 : SlC2 (cI .i64) h pv1 a3) (hp : P_quadformref23_Det fuel a3 a5 = some r) : CallH Tryd.prog 31 #[pv1, (.int .i64 a5)] h (fun x h' => Ext h h' ∧ x = .tuple #[.int .i64 r.1, .int .i64 r.2]) := by
  unfold P_quadformref23_Det at hp
  have S0 := sp_nil h (Array.size h)
  refine calls_of_W (l := [_, _]) mx Tryd.func31 rfl rfl rfl rfl rfl (by kernel_rfl) ?_
  refine w_seq ?_
  refine w_reg ?_
  refine r_as (r_as (r_nil (q_t ?_)))
  refine w_seq ?_
  refine w_seq ?_
  refine w_reg ?_
  refine r_mv ?_
  obtain ⟨x6, hx7, hp8⟩ := obind hp
  clear hp
  refine r_callE trivial (fun _ _ => trivial) rfl (P_quadformref23_square_ok H2 hx7) fun xv12 h10 E9 hk11 => ?_
  subst hk11
  have sz13 := E9.1
  have S14 : Sp h10 (Array.size h) [] := S0.keep E9.1
  refine r_not rfl (r_nil (q_t ?_))
  refine ⟨_, rfl, fun hc15 => ?_, fun hc15 => ?_⟩
  · skip
    have hp16 := ifT hp8 hc15
    clear hp8
    refine w_seq ?_
    refine w_reg ?_
    refine r_as (r_as (r_nil (q_t ?_)))
    refine w_ret (q_tr ?_)
    have hq17 := Option.some.inj hp16
    subst hq17
    exact ⟨_, retV_2, E9, rfl⟩
  · skip
    have hp18 := ifFb hp8 hc15
    clear hp8
    refine w_skip (q_t ?_)
    refine w_seq ?_
    refine w_seq ?_
    refine w_reg ?_
    refine r_mv ?_
    obtain ⟨x19, hx20, hp21⟩ := obind hp18
    clear hp18
    refine r_callE trivial (fun _ _ => trivial) rfl (P_quadformref23_modulus_ok hx20) fun xv25 h23 E22 hk24 => ?_
    subst hk24
    have sz26 := E22.1
    have X27 := E9.trans E22
    have S28 : Sp h23 (Array.size h) [] := S14.keep E22.1
    refine r_not rfl (r_nil (q_t ?_))
    refine ⟨_, rfl, fun hc29 => ?_, fun hc29 => ?_⟩
    · skip
      have hp30 := ifT hp21 hc29
      clear hp21
      refine w_seq ?_
      refine w_reg ?_
      refine r_as (r_as (r_nil (q_t ?_)))
      refine w_ret (q_tr ?_)
      have hq31 := Option.some.inj hp30
      subst hq31
      exact ⟨_, retV_2, X27, rfl⟩
    · skip
      have hp32 := ifFb hp21 hc29
      clear hp21
      refine w_skip (q_t ?_)
      refine w_seq ?_
      refine w_reg ?_
      refine r_mv (r_mv ?_)
      obtain ⟨x33, hx34, hp35⟩ := obind hp32
      clear hp32
      refine r_callE trivial (fun _ _ => trivial) rfl (P_quadformref23_Reduce_ok (H2.ext X27) hx34) fun xv39 h37 E36 hk38 => ?_
      obtain ⟨v40, F43, G44, rs45, rfl, I41, S46⟩ := hk38
      have sz47 := E36.1
      have X48 := X27.trans E36
      have S49 : Sp h37 (Array.size h) [F43] := S28.app S46 E36.1 X27.1
      have lo50 := S46.loAll 0 rfl
      obtain ⟨x51, hx52, hp53⟩ := obind hp35
      clear hp35
      refine r_callE trivial (fun _ _ => trivial) rfl (P_quadformref23_determinant_ok I41.rd hx52) fun xv57 h55 E54 hk56 => ?_
      obtain ⟨x58, rfl, Z59⟩ := hk56
      have sz61 := E54.1
      have X62 := X48.trans E54
      obtain ⟨cs60, rfl, Z63⟩ := Z59.cs
      have S64 : Sp h55 (Array.size h) [F43] := S49.keep E54.1
      refine r_mv ?_
      obtain ⟨x65, hx66, hp67⟩ := obind hp53
      clear hp53
      refine r_callE trivial (fun _ _ => trivial) rfl (P_quadformref22_Residue_ok Z63.2 hx66) fun xv71 h69 E68 hk70 => ?_
      subst hk70
      have sz72 := E68.1
      have X73 := X62.trans E68
      have S74 : Sp h69 (Array.size h) [F43] := S64.keep E68.1
      refine r_as (r_as (r_nil (q_t ?_)))
      refine w_ret ?_
      have hq75 := Option.some.inj hp67
      subst hq75
      exact ⟨_, retV_2, X73, rfl⟩

def P_quadformref23_gcd_b1 (fuel : Nat) (s8 : Int) (s9 : Int) : Option ((Int × Int) ⊕ ((Int))) :=
  (if ¬ s9 = 0 then (if s9 ≠ 0 then (some (Sum.inl (s9, (Int.tmod s8 s9)))) else none) else (some (Sum.inr<|  s8)))
def P_quadformref23_gcd (fuel : Nat) (a1 : Int) (a2 : Int) : Option Int :=
  ((iter (fun s => P_quadformref23_gcd_b1 fuel s.1 s.2) fuel (a1, a2)).bind (fun (e13 : Int) => (some e13)))
theorem P_quadformref23_gcd_ok {fuel : Nat} {h : Heap} {a1 : Int} {a2 : Int} {r : Int}  (hp : P_quadformref23_gcd fuel a1 a2 = some r) : CallH Tryd.prog 71 #[(.int .i64 a1), (.int .i64 a2)] h (fun x h' => Ext h h' ∧ x = .int .i64 r) := by
  unfold P_quadformref23_gcd at hp
  have S0 := sp_nil h (Array.size h)
  refine calls_of_W (l := [_, _]) mx Tryd.func71 rfl rfl rfl rfl rfl (by kernel_rfl) ?_
  refine w_seq ?_
  refine w_reg ?_
  refine r_as (r_nil (q_t ?_))
  refine w_seq ?_
  refine w_block ?_
  obtain ⟨ex3, hL4, hp5⟩ := obind hp
  clear hp
  obtain ⟨bd6, hbd7, hL8⟩ := iter_gen hL4
  clear hL4
  refine w_loop 2019 (fun x : (Int) × (Int) => [(0, (.int .i64 x.1)), (1, (.int .i64 x.2))]) (fun (k : Nat) (x : (Int) × (Int)) (h' : Heap) => iter bd6 k (x.1, x.2) = some ex3 ∧ UpT [] h h' ∧ Sp h' (Array.size h) []) (by kernel_rfl) fuel ((a1, a2) : (Int) × (Int)) ?_ ⟨rfl, rfl, trivial⟩ ?_
  · exact ⟨hL8, UpT.start all_nil, S0⟩
  rintro k9 ⟨u15, u16⟩ sv12 h11 ⟨hk10, T13, S14⟩
  replace S14 : Sp h11 (Array.size h) [] := S14
  refine (show W _ _ _ (setL [(0, (.int .i64 u15)), (1, (.int .i64 u16))] (mix _ sv12 _)) h11 from ?_)
  have sz17 := T13.size
  have X18 := (Ext.refl _).thenT T13 all_nil
  obtain ⟨k19, rr20, rfl, hb21, hr22⟩ := iter_step hk10
  clear hk10
  rw [hbd7] at hb21
  dsimp only at hb21
  unfold P_quadformref23_gcd_b1 at hb21
  refine w_seq ?_
  refine w_seq ?_
  refine w_reg ?_
  refine r_mv (r_cmp rfl rfl (cmp_neq _ _) (r_nil (q_t ?_)))
  refine ⟨_, rfl, fun hc23 => ?_, fun hc23 => ?_⟩
  · skip
    have hp24 := ifTd hb21 hc23
    clear hb21
    refine w_skip (q_t ?_)
    refine w_block ?_
    refine w_draw (by kernel_rfl) ?_
    refine r_mv (r_mv (r_mv ?_))
    obtain ⟨hn25, hp26⟩ := ifN hp24
    clear hp24
    refine r_rem rfl rfl hn25 (r_as (r_as (r_nil (q_b (q_t ?_)))))
    have hq27 := Option.some.inj hp26
    subst hq27
    exact ⟨k19, ((u16, (Int.tmod u15 u16)) : (Int) × (Int)), Nat.lt_succ_self _, ⟨hr22, T13, S14⟩, rfl, rfl, trivial⟩
  · skip
    have hp28 := ifFd hb21 hc23
    clear hb21
    have hq29 := Option.some.inj hp28
    subst hq29
    have hp30 := hr22
    change _ = ex3 at hp30
    subst hp30
    have hp31 := hp5
    try dsimp only at hp31
    refine w_exit (q_tx (q_tx (q_bx (q_t ?_))))
    refine w_seq ?_
    refine w_reg ?_
    refine r_mv (r_as (r_nil (q_t ?_)))
    refine w_ret ?_
    have hq32 := Option.some.inj hp31
    subst hq32
    exact ⟨_, retV_1, X18, rfl⟩

def P_quadformref23_Reciprocal_b1 (fuel : Nat) (s20 : Int) (s21 : Int) (s22 : Int) (s23 : Int) : Option ((Int × Int × Int × Int) ⊕ ((Int))) :=
  (if ¬ s21 = 0 then (if s21 ≠ 0 then (some (Sum.inl (s21, (w64 (s20 - (w64 ((w64 (Int.tdiv s20 s21)) * s21)))), s23, (w64 (s22 - (w64 ((w64 (Int.tdiv s20 s21)) * s23))))))) else none) else (some (Sum.inr<|  s22)))
def P_quadformref23_Reciprocal (fuel : Nat) (a1 : Int) (a2 : Int) : Option (Int × Bool) :=
  ((P_quadformref23_gcd fuel a1 a2).bind fun x3 => (if ¬ x3 = 1 then (some (0, false)) else ((iter (fun s => P_quadformref23_Reciprocal_b1 fuel s.1 s.2.1 s.2.2.1 s.2.2.2) fuel (a1, a2, 1, 0)).bind (fun (e27 : Int) => ((P_quadformref22_Mod fuel e27 a2).bind fun x28 => (some (x28, true)))))))
theorem P_quadformref23_Reciprocal_ok {fuel : Nat} {h : Heap} {a1 : Int} {a2 : Int} {r : (Int × Bool)}  (hp : P_quadformref23_Reciprocal fuel a1 a2 = some r) : CallH Tryd.prog 51 #[(.int .i64 a1), (.int .i64 a2)] h (fun x h' => Ext h h' ∧ x = .tuple #[.int .i64 r.1, .bool r.2]) := by
  unfold P_quadformref23_Reciprocal at hp
  have S0 := sp_nil h (Array.size h)
  refine calls_of_W (l := [_, _]) mx Tryd.func51 rfl rfl rfl rfl rfl (by kernel_rfl) ?_
  refine w_seq ?_
  refine w_reg ?_
  refine r_as (r_as (r_nil (q_t ?_)))
  refine w_seq ?_
  refine w_seq ?_
  refine w_reg ?_
  refine r_mv (r_mv ?_)
  obtain ⟨x3, hx4, hp5⟩ := obind hp
  clear hp
  refine r_callE trivial (fun _ _ => trivial) rfl (P_quadformref23_gcd_ok hx4) fun xv9 h7 E6 hk8 => ?_
  subst hk8
  have sz10 := E6.1
  have S11 : Sp h7 (Array.size h) [] := S0.keep E6.1
  refine r_cmp rfl rfl (cmp_neq _ _) (r_nil (q_t ?_))
  refine ⟨_, rfl, fun hc12 => ?_, fun hc12 => ?_⟩
  · skip
    have hp13 := ifTd hp5 hc12
    clear hp5
    refine w_seq ?_
    refine w_reg ?_
    refine r_as (r_as (r_nil (q_t ?_)))
    refine w_ret (q_tr ?_)
    have hq14 := Option.some.inj hp13
    subst hq14
    exact ⟨_, retV_2, E6, rfl⟩
  · skip
    have hp15 := ifFd hp5 hc12
    clear hp5
    refine w_skip (q_t ?_)
    refine w_seq ?_
    refine w_reg ?_
    refine r_mv (r_mv (r_as (r_as (r_as (r_as (r_nil (q_t ?_)))))))
    refine w_seq ?_
    refine w_block ?_
    obtain ⟨ex16, hL17, hp18⟩ := obind hp15
    clear hp15
    obtain ⟨bd19, hbd20, hL21⟩ := iter_gen hL17
    clear hL17
    refine w_loop 17179740096 (fun x : (Int) × (Int) × (Int) × (Int) => [(6, (.int .i64 x.1)), (7, (.int .i64 x.2.1)), (8, (.int .i64 x.2.2.1)), (9, (.int .i64 x.2.2.2))]) (fun (k : Nat) (x : (Int) × (Int) × (Int) × (Int)) (h' : Heap) => iter bd19 k (x.1, x.2.1, x.2.2.1, x.2.2.2) = some ex16 ∧ UpT [] h7 h' ∧ Sp h' (Array.size h) []) (by kernel_rfl) fuel ((a1, a2, 1, 0) : (Int) × (Int) × (Int) × (Int)) ?_ ⟨rfl, rfl, rfl, rfl, trivial⟩ ?_
    · exact ⟨hL21, UpT.start all_nil, S11⟩
    rintro k22 ⟨u28, u29, u30, u31⟩ sv25 h24 ⟨hk23, T26, S27⟩
    replace S27 : Sp h24 (Array.size h) [] := S27
    refine (show W _ _ _ (setL [(6, (.int .i64 u28)), (7, (.int .i64 u29)), (8, (.int .i64 u30)), (9, (.int .i64 u31))] (mix _ sv25 _)) h24 from ?_)
    have sz32 := T26.size
    have X33 := E6.thenT T26 all_nil
    obtain ⟨k34, rr35, rfl, hb36, hr37⟩ := iter_step hk23
    clear hk23
    rw [hbd20] at hb36
    dsimp only at hb36
    unfold P_quadformref23_Reciprocal_b1 at hb36
    refine w_seq ?_
    refine w_seq ?_
    refine w_reg ?_
    refine r_mv (r_cmp rfl rfl (cmp_neq _ _) (r_nil (q_t ?_)))
    refine ⟨_, rfl, fun hc38 => ?_, fun hc38 => ?_⟩
    · skip
      have hp39 := ifTd hb36 hc38
      clear hb36
      refine w_skip (q_t ?_)
      refine w_block ?_
      refine w_seq ?_
      refine w_reg ?_
      refine r_mv (r_mv ?_)
      obtain ⟨hn40, hp41⟩ := ifN hp39
      clear hp39
      refine r_quo rfl rfl hn40 (r_as (r_nil (q_t ?_)))
      refine w_seq ?_
      refine w_reg ?_
      refine r_mv (r_mv (r_mv (r_mv (r_mul rfl rfl (r_sub rfl rfl (r_as (r_as (r_nil (q_t ?_)))))))))
      refine w_reg ?_
      refine r_mv (r_mv (r_mv (r_mv (r_mul rfl rfl (r_sub rfl rfl (r_as (r_as (r_nil (q_b (q_t ?_))))))))))
      have hq42 := Option.some.inj hp41
      subst hq42
      exact ⟨k34, ((u29, (w64 (u28 - (w64 ((w64 (Int.tdiv u28 u29)) * u29)))), u31, (w64 (u30 - (w64 ((w64 (Int.tdiv u28 u29)) * u31))))) : (Int) × (Int) × (Int) × (Int)), Nat.lt_succ_self _, ⟨hr37, T26, S27⟩, rfl, rfl, rfl, rfl, trivial⟩
    · skip
      have hp43 := ifFd hb36 hc38
      clear hb36
      have hq44 := Option.some.inj hp43
      subst hq44
      have hp45 := hr37
      change _ = ex16 at hp45
      subst hp45
      have hp46 := hp18
      try dsimp only at hp46
      refine w_exit (q_tx (q_tx (q_bx (q_t ?_))))
      refine w_seq ?_
      refine w_reg ?_
      refine r_mv (r_mv ?_)
      obtain ⟨x47, hx48, hp49⟩ := obind hp46
      clear hp46
      refine r_callE trivial (fun _ _ => trivial) rfl (P_quadformref22_Mod_ok hx48) fun xv53 h51 E50 hk52 => ?_
      subst hk52
      have sz54 := E50.1
      have X55 := X33.trans E50
      have S56 : Sp h51 (Array.size h) [] := S27.keep E50.1
      refine r_as (r_as (r_nil (q_t ?_)))
      refine w_ret ?_
      have hq57 := Option.some.inj hp49
      subst hq57
      exact ⟨_, retV_2, X55, rfl⟩

def P_quadformref23_Inverse_b2 (fuel : Nat) (a5 : Int) (x19 : Int) (x60 : (List (List Int))) (s241 : Int) (x245 : (List Int)) (s318 : (List Int)) (s321 : Int) : Option (((List Int) × Int) ⊕ (((List Int)))) :=
  (if s321 < (x245.length : Int) then ((gI x60 s241).bind fun x325 => ((gI x325 s321).bind fun x326 => ((zSmallP fuel x19).bind fun x344 => ((zMulP fuel x326 x344).bind fun x355 => ((P_quadformref22_Residue fuel x355 a5).bind fun x366 => (if s318.length ≤ 100000000 then (some (Sum.inl ((s318 ++ [x366]), (w64 (s321 + 1))))) else none)))))) else (some (Sum.inr<|  s318)))
def P_quadformref23_Inverse_b1 (fuel : Nat) (a5 : Int) (x19 : Int) (x60 : (List (List Int))) (s236 : (List (List Int))) (s241 : Int) : Option (((List (List Int)) × Int) ⊕ (((List (List Int))))) :=
  (if s241 < (x60.length : Int) then ((gI x60 s241).bind fun x245 => ((iter (fun s => P_quadformref23_Inverse_b2 fuel a5 x19 x60 s241 x245 s.1 s.2) fuel ([], 0)).bind (fun (e382 : (List Int)) => (if s236.length ≤ 100000000 then (some (Sum.inl ((s236 ++ [e382]), (w64 (s241 + 1))))) else none)))) else (some (Sum.inr<|  s236)))
def P_quadformref23_Inverse (fuel : Nat) (a3 : (List (List Int))) (a5 : Int) : Option ((List (List Int)) × Int) :=
  ((P_quadformref23_Det fuel a3 a5).bind fun (x6, x7) => (if ¬ x7 = 0 then (some ([], x7)) else ((P_quadformref23_Reciprocal fuel x6 a5).bind fun (x19, x20) => (if (!x20) = true then (some ([], 8)) else ((P_quadformref23_Reduce fuel a3 a5).bind fun x32 => ((P_quadformref03_Of fuel x32).bind fun x46 => ((P_quadformref03_Adjugate fuel x46).bind fun (x60, x61) => ((iter (fun s => P_quadformref23_Inverse_b1 fuel a5 x19 x60 s.1 s.2) fuel ([], 0)).bind (fun (e395 : (List (List Int))) => (some (e395, 0)))))))))))
theorem P_quadformref23_Inverse_ok {fuel : Nat} {h : Heap} {pv1 : Value} {a3 : (List (List Int))} {a5 : Int} {r : ((List (List Int)) × Int)} (H2 : SlC2 (cI .i64) h pv1 a3) (hp : P_quadformref23_Inverse fuel a3 a5 = some r) : CallH Tryd.prog 24 #[pv1, (.int .i64 a5)] h (fun x h' => Ext h h' ∧ ∃ (x0 : Value) (F0 : List Nat) (Gs0 : List (List Nat)) (rs0 : List Value), x = .tuple #[x0, .int .i64 r.2] ∧ OwC2 (cI .i64) 46 2 h' F0 Gs0 rs0 x0 r.1 ∧ Sp h' (Array.size h) [F0]) := by
  unfold P_quadformref23_Inverse at hp
  have S0 := sp_nil h (Array.size h)
  refine calls_of_W (l := [_, _]) mx Tryd.func24 rfl rfl rfl rfl rfl (by kernel_rfl) ?_
  refine w_seq ?_
  refine w_reg ?_
  refine r_as (r_as (r_nil (q_t ?_)))
  refine w_seq ?_
  refine w_reg ?_
  refine r_mv (r_mv ?_)
  obtain ⟨⟨x6, x7⟩, hx8, hp9⟩ := obind hp
  clear hp
  dsimp only at hp9
  refine r_callE trivial (fun _ _ => trivial) rfl (P_quadformref23_Det_ok H2 hx8) fun xv13 h11 E10 hk12 => ?_
  subst hk12
  have sz14 := E10.1
  have S15 : Sp h11 (Array.size h) [] := S0.keep E10.1
  refine r_mv (r_ext rfl rfl (r_ext rfl rfl (r_as (r_as (r_nil (q_t ?_))))))
  refine w_seq ?_
  refine w_seq ?_
  refine w_reg ?_
  refine r_mv (r_cmp rfl rfl (cmp_neq _ _) (r_nil (q_t ?_)))
  refine ⟨_, rfl, fun hc16 => ?_, fun hc16 => ?_⟩
  · skip
    have hp17 := ifTd hp9 hc16
    clear hp9
    refine w_seq ?_
    refine w_reg ?_
    refine r_mv (r_as (r_as (r_nil (q_t ?_))))
    refine w_ret (q_tr ?_)
    have I20 := owC2_nil (cI .i64) 46 2 h11
    have S21 : Sp h11 (Array.size h) [[]] := S15.addnil
    have hq18 := Option.some.inj hp17
    subst hq18
    exact ⟨_, retV_2, E10, _, _, _, _, rfl, I20, S21⟩
  · skip
    have hp22 := ifFd hp9 hc16
    clear hp9
    refine w_skip (q_t ?_)
    refine w_seq ?_
    refine w_reg ?_
    refine r_mv (r_mv ?_)
    obtain ⟨⟨x23, x24⟩, hx25, hp26⟩ := obind hp22
    clear hp22
    dsimp only at hp26
    refine r_callE trivial (fun _ _ => trivial) rfl (P_quadformref23_Reciprocal_ok hx25) fun xv30 h28 E27 hk29 => ?_
    subst hk29
    have sz31 := E27.1
    have X32 := E10.trans E27
    have S33 : Sp h28 (Array.size h) [] := S15.keep E27.1
    refine r_mv (r_ext rfl rfl (r_ext rfl rfl (r_as (r_as (r_nil (q_t ?_))))))
    refine w_seq ?_
    refine w_seq ?_
    refine w_reg ?_
    refine r_mv (r_not rfl (r_nil (q_t ?_)))
    refine ⟨_, rfl, fun hc34 => ?_, fun hc34 => ?_⟩
    · skip
      have hp35 := ifT hp26 hc34
      clear hp26
      refine w_seq ?_
      refine w_reg ?_
      refine r_as (r_as (r_nil (q_t ?_)))
      refine w_ret (q_tr ?_)
      have I38 := owC2_nil (cI .i64) 46 2 h28
      have S39 : Sp h28 (Array.size h) [[]] := S33.addnil
      have hq36 := Option.some.inj hp35
      subst hq36
      exact ⟨_, retV_2, X32, _, _, _, _, rfl, I38, S39⟩
    · skip
      have hp40 := ifFb hp26 hc34
      clear hp26
      refine w_skip (q_t ?_)
      refine w_seq ?_
      refine w_reg ?_
      refine r_mv (r_mv ?_)
      obtain ⟨x41, hx42, hp43⟩ := obind hp40
      clear hp40
      refine r_callE trivial (fun _ _ => trivial) rfl (P_quadformref23_Reduce_ok (H2.ext X32) hx42) fun xv47 h45 E44 hk46 => ?_
      obtain ⟨v48, F51, G52, rs53, rfl, I49, S54⟩ := hk46
      have sz55 := E44.1
      have X56 := X32.trans E44
      have S57 : Sp h45 (Array.size h) [F51] := S33.app S54 E44.1 X32.1
      have lo58 := S54.loAll 0 rfl
      obtain ⟨x59, hx60, hp61⟩ := obind hp43
      clear hp43
      refine r_callE trivial (fun _ _ => trivial) rfl (P_quadformref03_Of_ok I49.rd hx60) fun xv65 h63 E62 hk64 => ?_
      obtain ⟨v66, F69, G70, rs71, rfl, I67, S72⟩ := hk64
      have sz73 := E62.1
      have X74 := X56.trans E62
      have S75 : Sp h63 (Array.size h) [F51, F69] := S57.app S72 E62.1 X56.1
      have lo76 := S72.loAll 0 rfl
      obtain ⟨⟨x77, x78⟩, hx79, hp80⟩ := obind hp61
      clear hp61
      dsimp only at hp80
      refine r_callE trivial (fun _ _ => trivial) rfl (P_quadformref03_Adjugate_ok I67.rd hx79) fun xv84 h82 E81 hk83 => ?_
      obtain ⟨v85, F88, G89, rs90, rfl, I86, S91⟩ := hk83
      have sz92 := E81.1
      have X93 := X74.trans E81
      have S94 : Sp h82 (Array.size h) [F51, F69, F88] := S75.app S91 E81.1 X74.1
      have lo95 := S91.loAll 0 rfl
      refine r_mv (r_ext rfl rfl (r_ext rfl rfl (r_as (r_as (r_nil (q_t ?_))))))
      refine w_seq ?_
      refine w_reg ?_
      refine r_as (r_nil (q_t ?_))
      refine w_seq ?_
      refine w_seq ?_
      refine w_reg ?_
      refine r_mv ?_
      refine r_lenR sl_ZZ rfl I86.rd (r_mv (r_nil (q_t ?_)))
      refine w_block ?_
      have I97 := owC2_nil (cI .i64) 46 2 h82
      have S98 : Sp h82 (Array.size h) [F51, F69, F88, []] := S94.addnil
      obtain ⟨ex99, hL100, hp101⟩ := obind hp80
      clear hp80
      obtain ⟨bd102, hbd103, hL104⟩ := iter_gen hL100
      clear hL100
      have S105 : Sp h82 (Array.size h) [F88, []] := S98.sel [2, 3] (by decide)
      refine w_loop 1180591585533039398912 (fun x : ((List (List Int))) × (Value) × (List Nat) × (List (List Nat)) × (List Value) × (Int) => [(12, x.2.1), (45, (.int .i64 x.2.2.2.2.2))]) (fun (k : Nat) (x : ((List (List Int))) × (Value) × (List Nat) × (List (List Nat)) × (List Value) × (Int)) (h' : Heap) => iter bd102 k (x.1, x.2.2.2.2.2) = some ex99 ∧ UpT ([] ++ []) h82 h' ∧ Sp h' (Array.size h) [F88, x.2.2.1] ∧ OwC2 (cI .i64) 46 2 h' x.2.2.1 x.2.2.2.1 x.2.2.2.2.1 x.2.1 x.1 ∧ (∀ z ∈ x.2.2.1, z ∈ ([] ++ []) ∨ Array.size h82 ≤ z)) (by kernel_rfl) fuel (([], (.slice none 0 0), [], [], [], 0) : ((List (List Int))) × (Value) × (List Nat) × (List (List Nat)) × (List Value) × (Int)) ?_ ⟨rfl, rfl, trivial⟩ ?_
      · exact ⟨hL104, UpT.start (all_app I97.notD all_nil), S105, I97, (fr_in rfl)⟩
      rintro k107 ⟨u113, q114, q115, q116, q117, u118⟩ sv110 h109 ⟨hk108, T111, S112, I119, fr120⟩
      replace I119 : OwC2 (cI .i64) 46 2 h109 q115 q116 q117 q114 u113 := I119
      replace fr120 : ∀ z ∈ q115, z ∈ ([] ++ []) ∨ Array.size h82 ≤ z := fr120
      replace S112 : Sp h109 (Array.size h) [F88, q115] := S112
      refine (show W _ _ _ (setL [(12, q114), (45, (.int .i64 u118))] (mix _ sv110 _)) h109 from ?_)
      have sz121 := T111.size
      have X122 := X93.thenT T111 (all_app (S105.loAll 1 rfl) all_nil)
      obtain ⟨k123, rr124, rfl, hb125, hr126⟩ := iter_step hk108
      clear hk108
      rw [hbd103] at hb125
      dsimp only at hb125
      unfold P_quadformref23_Inverse_b1 at hb125
      refine w_seq ?_
      refine w_reg ?_
      refine r_cmp rfl rfl (cmp_lss _ _) (r_nil (q_t ?_))
      refine w_seq ?_
      refine ⟨_, rfl, fun hc127 => ?_, fun hc127 => ?_⟩
      · skip
        have hp128 := ifTd hb125 hc127
        clear hb125
        refine w_skip (q_t ?_)
        refine w_seq ?_
        refine w_block ?_
        refine w_seq ?_
        refine w_reg ?_
        obtain ⟨x129, hx130, hp131⟩ := obind hp128
        clear hp128
        have I137 := I86.upT T111 (dj_app (S105.dj 0 1 rfl rfl (by decide)) dj_nil)
        refine r_ixR2 sl_ZZ rfl I137 rfl hx130 fun b132 r133 hF134 hr135 hc136 => ?_
        refine r_ld na_ZS rfl hc136 (r_as (r_nil (q_t ?_)))
        refine w_seq ?_
        refine w_reg ?_
        refine r_as (r_nil (q_t ?_))
        refine w_seq ?_
        refine w_seq ?_
        refine w_reg ?_
        refine r_mv ?_
        refine r_lenC sl_ZS rfl (I137.rowI hr135 hx130) (r_mv (r_nil (q_t ?_)))
        refine w_block ?_
        have I140 := owC_nil (cI .i64) 2 h109
        have S141 : Sp h109 (Array.size h) [F88, q115, []] := S112.addnil
        obtain ⟨ex142, hL143, hp144⟩ := obind hp131
        clear hp131
        obtain ⟨bd145, hbd146, hL147⟩ := iter_gen hL143
        clear hL143
        refine w_loop 36891236347605581824 (fun x : ((List Int)) × (Value) × (List Nat) × (Int) => [(15, x.2.1), (51, (.int .i64 x.2.2.2))]) (fun (k : Nat) (x : ((List Int)) × (Value) × (List Nat) × (Int)) (h' : Heap) => iter bd145 k (x.1, x.2.2.2) = some ex142 ∧ UpT ([] ++ []) h109 h' ∧ Sp h' (Array.size h) [F88, q115, x.2.2.1] ∧ OwC (cI .i64) 2 h' x.2.2.1 x.2.1 x.1 ∧ (∀ z ∈ x.2.2.1, z ∈ ([] ++ []) ∨ Array.size h109 ≤ z)) (by kernel_rfl) fuel (([], (.slice none 0 0), [], 0) : ((List Int)) × (Value) × (List Nat) × (Int)) ?_ ⟨rfl, rfl, trivial⟩ ?_
        · exact ⟨hL147, UpT.start (all_app I140.notD all_nil), S141, I140, (fr_in rfl)⟩
        rintro k149 ⟨u155, q156, q157, u158⟩ sv152 h151 ⟨hk150, T153, S154, I159, fr160⟩
        replace I159 : OwC (cI .i64) 2 h151 q157 q156 u155 := I159
        replace fr160 : ∀ z ∈ q157, z ∈ ([] ++ []) ∨ Array.size h109 ≤ z := fr160
        replace S154 : Sp h151 (Array.size h) [F88, q115, q157] := S154
        refine (show W _ _ _ (setL [(15, q156), (51, (.int .i64 u158))] (mix _ sv152 _)) h151 from ?_)
        have sz161 := T153.size
        have X162 := X122.thenT T153 (all_app (S141.loAll 2 rfl) all_nil)
        obtain ⟨k163, rr164, rfl, hb165, hr166⟩ := iter_step hk150
        clear hk150
        rw [hbd146] at hb165
        dsimp only at hb165
        unfold P_quadformref23_Inverse_b2 at hb165
        refine w_seq ?_
        refine w_reg ?_
        refine r_cmp rfl rfl (cmp_lss _ _) (r_nil (q_t ?_))
        refine w_seq ?_
        refine ⟨_, rfl, fun hc167 => ?_, fun hc167 => ?_⟩
        · skip
          have hp168 := ifTd hb165 hc167
          clear hb165
          refine w_skip (q_t ?_)
          refine w_seq ?_
          refine w_block ?_
          refine w_seq ?_
          refine w_reg ?_
          obtain ⟨x169, hx170, hp171⟩ := obind hp168
          clear hp168
          obtain ⟨x172, hx173, hp174⟩ := obind hp171
          clear hp171
          have I177 := I137.upT T153 (dj_app (S141.dj 0 2 rfl rfl (by decide)) dj_nil)
          refine r_ixO2 (m := u118) sl_ZS rfl I177 hr135 hx170 rfl hx173 fun g175 hG176 => ?_
          obtain ⟨cs178, hr179, hc180⟩ := I177.cells hG176 hx170 hx173
          have Z181 := hr179
          refine r_ldC (c := cZ) ag_Z rfl Z181 (fun j u hu => (hc180 j u hu)) ?_
          have Z188 := rep_nilZ h151
          refine r_allocE [.bool false, .slice none 0 0] ze_Z rfl trivial (fun _ _ => trivial) fun b182 h183 V184 E185 S186 => ?_
          have sz189 := E185.1
          have X190 := X162.trans E185
          have S191 : Sp h183 (Array.size h) [F88, q115, q157, [b182]] := S154.app S186 E185.1 X162.1
          have lo192 := S186.loAll 0 rfl
          have Z197 := cZ.upT Z181 E185.upT
          have Z198 := cZ.upT Z188 E185.upT
          refine r_stA cs178 ag_Z (cZ.klen Z197) (cZ.klen Z198) rfl rfl (cZ.one Z197) V184 fun h193 I195 U196 => ?_
          have U194 := I195.stA U196 (boxAll V184 rfl) rfl
          have sz199 := U194.size
          have X200 := X190.thenT U194 (S191.loAll 3 rfl)
          have S201 : Sp h193 (Array.size h) [F88, q115, q157, [b182]] := S191.keep U194.size
          refine r_nil (q_t ?_)
          have I202 := I159.ext E185
          have I203 := I202.upT U194 (S191.dj 2 3 rfl rfl (by decide))
          refine w_drawB (fun h' => UpT (q157 ++ []) h193 h') (by kernel_rfl) ?_
          have hB204 : UpT (q157 ++ []) h193 h193 := UpT.start (all_app I203.notD all_nil)
          have Z205 := cZ.upT Z197 U194
          refine r_mv ?_
          refine r_ldAB cs178 ag_Z (cZ.klen Z205) rfl hB204 (fun h' hb => (I195.upT hb (dj_app (S201.dj 3 2 rfl rfl (by decide)) dj_nil)).agg) (r_mv ?_)
          obtain ⟨x206, hx207, hp208⟩ := obind hp174
          clear hp174
          refine r_callE hB204 (fun _ E => hB204.thenE E) rfl (zSmall_P hx207) fun xv212 h210 E209 hk211 => ?_
          obtain ⟨x213, rfl, Z214⟩ := hk211
          have sz216 := E209.1
          have X217 := X200.trans E209
          have hB218 := hB204.thenE E209
          obtain ⟨cs215, rfl, Z219⟩ := Z214.cs
          have S220 : Sp h210 (Array.size h) [F88, q115, q157, [b182]] := S201.keep E209.1
          have Z221 := cZ.upT Z205 E209.upT
          obtain ⟨x222, hx223, hp224⟩ := obind hp208
          clear hp208
          refine r_callE hB218 (fun _ E => hB218.thenE E) rfl (zMul_P Z221.2 Z219.2 hx223) fun xv228 h226 E225 hk227 => ?_
          obtain ⟨x229, rfl, Z230⟩ := hk227
          have sz232 := E225.1
          have X233 := X217.trans E225
          have hB234 := hB218.thenE E225
          obtain ⟨cs231, rfl, Z235⟩ := Z230.cs
          have S236 : Sp h226 (Array.size h) [F88, q115, q157, [b182]] := S220.keep E225.1
          refine r_mv ?_
          obtain ⟨x237, hx238, hp239⟩ := obind hp224
          clear hp224
          refine r_callE hB234 (fun _ E => hB234.thenE E) rfl (P_quadformref22_Residue_ok Z235.2 hx238) fun xv243 h241 E240 hk242 => ?_
          subst hk242
          have sz244 := E240.1
          have X245 := X233.trans E240
          have hB246 := hB234.thenE E240
          have S247 : Sp h241 (Array.size h) [F88, q115, q157, [b182]] := S236.keep E240.1
          obtain ⟨hn248, hp249⟩ := ifN hp239
          clear hp239
          have I257 := I203.ext E209
          have I258 := I257.ext E225
          have I259 := I258.ext E240
          refine r_pushC sl_I64 ze_i64 rfl rfl hB246 (fun _ U => hB246.then U (fr_in rfl)) (fun _ => rfl) rfl (show ((cI .i64)).rep _ x237 [(.int .i64 x237)] from rfl) I259 (by decide) hn248 fun pp250 F251 v252 h253 I254 U255 hs256 => ?_
          have sz261 := U255.size
          have X262 := X245.thenT U255 (S247.loAll 2 rfl)
          have hB263 := hB246.then U255 (fr_in rfl)
          have S264 : Sp h253 (Array.size h) [F88, q115, F251, [b182]] := S247.put 2 rfl I254.nodup U255.size X245.1 I254.lt hs256
          refine r_as (r_nil (q_b (q_t ?_)))
          refine w_reg ?_
          refine r_add rfl rfl (r_mv (r_nil (q_t ?_)))
          have T265 := T153.thenE E185
          have T266 := T265.then U194 (fr_new lo192 (by omega))
          have T267 := T266.thenE E209
          have T268 := T267.thenE E225
          have T269 := T268.thenE E240
          have T270 := T269.then U255 (fr_hyp fr160 (all_app (fr_in rfl) all_nil) (by omega))
          have hq271 := Option.some.inj hp249
          subst hq271
          exact ⟨k163, (((u155 ++ [x237]), v252, F251, (w64 (u158 + 1))) : ((List Int)) × (Value) × (List Nat) × (Int)), Nat.lt_succ_self _, ⟨hr166, T270, (S264.sel [0, 1, 2] (by decide)), I254, (fr_hyp hs256 (fr_hyp fr160 (all_app (fr_in rfl) all_nil) (by omega)) (by omega))⟩, rfl, rfl, trivial⟩
        · skip
          have hp272 := ifFd hb165 hc167
          clear hb165
          have hq273 := Option.some.inj hp272
          subst hq273
          have hp274 := hr166
          change _ = ex142 at hp274
          subst hp274
          have hp275 := hp144
          try dsimp only at hp275
          refine w_exit (q_tx (q_tx (q_bx (q_t ?_))))
          refine w_reg ?_
          refine r_mv (r_mv ?_)
          obtain ⟨hn276, hp277⟩ := ifN hp275
          clear hp275
          have I285 := I119.upT T153 (dj_app (S141.dj 1 2 rfl rfl (by decide)) dj_nil)
          refine r_pushR sl_MM ze_I64 rfl rfl trivial (fun _ _ => trivial) (fun _ => rfl) rfl I159 I285 (S154.dj 2 1 rfl rfl (by decide)) (by decide) hn276 fun pp278 F279 v280 h281 I282 U283 hs284 => ?_
          have S286 : Sp h151 (Array.size h) [q115, q157, F88] := (S154.sel [1, 2, 0] (by decide))
          have S287 := S286.mrg
          have hs288 : ∀ z ∈ F279, z ∈ q115 ++ q157 ∨ Array.size h151 ≤ z := hs284
          have sz289 := U283.size
          have X290 := X162.thenT U283 (S154.loAll 1 rfl)
          have S292 : Sp h281 (Array.size h) [F279, F88] := S287.put 0 rfl I282.nodup U283.size X162.1 I282.lt hs288
          refine r_as (r_nil (q_b (q_t ?_)))
          refine w_reg ?_
          refine r_add rfl rfl (r_mv (r_nil (q_t ?_)))
          have T293 := T111.then T153 (all_app (fr_in rfl) all_nil)
          have T294 := T293.then U283 (fr_hyp fr120 (all_app (fr_in rfl) all_nil) (by omega))
          have hq295 := Option.some.inj hp277
          subst hq295
          exact ⟨k123, (((u113 ++ [u155]), v280, F279, (q116 ++ [q157]), (q117 ++ [q156]), (w64 (u118 + 1))) : ((List (List Int))) × (Value) × (List Nat) × (List (List Nat)) × (List Value) × (Int)), Nat.lt_succ_self _, ⟨hr126, T294, (S292.sel [1, 0] (by decide)), I282, (fr_hyp hs288 (all_app (fr_hyp fr120 (all_app (fr_in rfl) all_nil) (by omega)) (fr_hyp fr160 (all_app (fr_in rfl) all_nil) (by omega))) (by omega))⟩, rfl, rfl, trivial⟩
      · skip
        have hp296 := ifFd hb125 hc127
        clear hb125
        have hq297 := Option.some.inj hp296
        subst hq297
        have hp298 := hr126
        change _ = ex99 at hp298
        subst hp298
        have hp299 := hp101
        try dsimp only at hp299
        refine w_exit (q_tx (q_tx (q_bx (q_t ?_))))
        refine w_seq ?_
        refine w_reg ?_
        refine r_mv (r_as (r_as (r_nil (q_t ?_))))
        refine w_ret ?_
        have hq300 := Option.some.inj hp299
        subst hq300
        exact ⟨_, retV_2, X122, _, _, _, _, rfl, I119, S112.sel [1] (by decide)⟩

def P_quadformref23_Same_b2 (fuel : Nat) (a3 : (List (List Int))) (a7 : (List (List Int))) (s106 : Int) (x109 : (List Int)) (s165 : Int) : Option ((Int) ⊕ ((Bool) ⊕ (Unit))) :=
  (if s165 < (x109.length : Int) then ((gI a3 s106).bind fun x168 => ((gI x168 s165).bind fun x175 => ((gI a7 s106).bind fun x181 => ((gI x181 s165).bind fun x188 => (if ¬ x175 = x188 then (some (Sum.inr<| Sum.inl <| false)) else (some (Sum.inl (w64 (s165 + 1))))))))) else (some (Sum.inr<| Sum.inr <|  ())))
def P_quadformref23_Same_b1 (fuel : Nat) (a3 : (List (List Int))) (a7 : (List (List Int))) (s106 : Int) : Option ((Int) ⊕ ((Bool) ⊕ (Unit))) :=
  (if s106 < (a3.length : Int) then ((gI a3 s106).bind fun x109 => ((gI a7 s106).bind fun x116 => (if ¬ (x109.length : Int) = (x116.length : Int) then (some (Sum.inr<| Sum.inl <| false)) else ((iter (fun s => P_quadformref23_Same_b2 fuel a3 a7 s106 x109 s) fuel 0).bind (fun ex => match ex with | Sum.inl e198 => (some (Sum.inr<| Sum.inl <| e198)) | Sum.inr (_) => (some (Sum.inl (w64 (s106 + 1))))))))) else (some (Sum.inr<| Sum.inr <|  ())))
def P_quadformref23_Same (fuel : Nat) (a3 : (List (List Int))) (a7 : (List (List Int))) : Option Bool :=
  (if ¬ (a3.length : Int) = (a7.length : Int) then (some false) else ((iter (fun s => P_quadformref23_Same_b1 fuel a3 a7 s) fuel 0).bind (fun ex => match ex with | Sum.inl e200 => (some e200) | Sum.inr (_) => (some true))))
theorem P_quadformref23_Same_ok {fuel : Nat} {h : Heap} {pv1 : Value} {a3 : (List (List Int))} {pv5 : Value} {a7 : (List (List Int))} {r : Bool} (H2 : SlC2 (cI .i64) h pv1 a3) (H6 : SlC2 (cI .i64) h pv5 a7) (hp : P_quadformref23_Same fuel a3 a7 = some r) : CallH Tryd.prog 21 #[pv1, pv5] h (fun x h' => Ext h h' ∧ x = .bool r) := by
  unfold P_quadformref23_Same at hp
  have S0 := sp_nil h (Array.size h)
  refine calls_of_W (l := [_, _]) mx Tryd.func21 rfl rfl rfl rfl rfl (by kernel_rfl) ?_
  refine w_seq ?_
  refine w_reg ?_
  refine r_as (r_nil (q_t ?_))
  refine w_seq ?_
  refine w_seq ?_
  refine w_reg ?_
  refine r_mv ?_
  refine r_lenR sl_MM rfl H2 (r_mv ?_)
  refine r_lenR sl_MM rfl H6 (r_cmp rfl rfl (cmp_neq _ _) (r_nil (q_t ?_)))
  refine ⟨_, rfl, fun hc9 => ?_, fun hc9 => ?_⟩
  · skip
    have hp10 := ifTd hp hc9
    clear hp
    refine w_seq ?_
    refine w_reg ?_
    refine r_as (r_nil (q_t ?_))
    refine w_ret (q_tr ?_)
    have hq11 := Option.some.inj hp10
    subst hq11
    exact ⟨_, retV_1, (Ext.refl _), rfl⟩
  · skip
    have hp12 := ifFd hp hc9
    clear hp
    refine w_skip (q_t ?_)
    refine w_seq ?_
    refine w_seq ?_
    refine w_reg ?_
    refine r_mv ?_
    refine r_lenR sl_MM rfl H2 (r_mv (r_nil (q_t ?_)))
    refine w_block ?_
    obtain ⟨ex13, hL14, hp15⟩ := obind hp12
    clear hp12
    obtain ⟨bd16, hbd17, hL18⟩ := iter_gen hL14
    clear hL14
    refine w_loop 9007199254724720 (fun x : (Int) => [(14, (.int .i64 x))]) (fun (k : Nat) (x : (Int)) (h' : Heap) => iter bd16 k x = some ex13 ∧ UpT [] h h' ∧ Sp h' (Array.size h) []) (by kernel_rfl) fuel (0 : (Int)) ?_ ⟨rfl, trivial⟩ ?_
    · exact ⟨hL18, UpT.start all_nil, S0⟩
    rintro k19 u25 sv22 h21 ⟨hk20, T23, S24⟩
    replace S24 : Sp h21 (Array.size h) [] := S24
    refine (show W _ _ _ (setL [(14, (.int .i64 u25))] (mix _ sv22 _)) h21 from ?_)
    have sz26 := T23.size
    have X27 := (Ext.refl _).thenT T23 all_nil
    obtain ⟨k28, rr29, rfl, hb30, hr31⟩ := iter_step hk20
    clear hk20
    rw [hbd17] at hb30
    dsimp only at hb30
    unfold P_quadformref23_Same_b1 at hb30
    refine w_seq ?_
    refine w_reg ?_
    refine r_cmp rfl rfl (cmp_lss _ _) (r_nil (q_t ?_))
    refine w_seq ?_
    refine ⟨_, rfl, fun hc32 => ?_, fun hc32 => ?_⟩
    · skip
      have hp33 := ifTd hb30 hc32
      clear hb30
      refine w_skip (q_t ?_)
      refine w_seq ?_
      refine w_block ?_
      refine w_seq ?_
      refine w_reg ?_
      refine r_mv (r_as (r_nil (q_t ?_)))
      refine w_seq ?_
      refine w_seq ?_
      refine w_draw (by kernel_rfl) ?_
      refine r_mv (r_mv ?_)
      obtain ⟨x34, hx35, hp36⟩ := obind hp33
      clear hp33
      refine r_ixR sl_MM rfl H2 rfl hx35 fun b37 o38 r39 hc40 H41 => ?_
      refine r_ld na_I64 rfl (cellH_ext hc40 X27) ?_
      refine r_lenC sl_I64 rfl H41 (r_mv (r_mv ?_))
      obtain ⟨x43, hx44, hp45⟩ := obind hp36
      clear hp36
      refine r_ixR sl_MM rfl H6 rfl hx44 fun b46 o47 r48 hc49 H50 => ?_
      refine r_ld na_I64 rfl (cellH_ext hc49 X27) ?_
      refine r_lenC sl_I64 rfl H50 (r_cmp rfl rfl (cmp_neq _ _) (r_nil (q_t ?_)))
      refine ⟨_, rfl, fun hc52 => ?_, fun hc52 => ?_⟩
      · skip
        have hp53 := ifTd hp45 hc52
        clear hp45
        refine w_seq ?_
        refine w_reg ?_
        refine r_as (r_nil (q_t ?_))
        have hq54 := Option.some.inj hp53
        subst hq54
        have hp55 := hr31
        change _ = ex13 at hp55
        subst hp55
        have hp56 := hp15
        try dsimp only at hp56
        refine w_ret (q_tr (q_br (q_tr (q_tr (q_br (q_tr ?_))))))
        have hq57 := Option.some.inj hp56
        subst hq57
        exact ⟨_, retV_1, X27, rfl⟩
      · skip
        have hp58 := ifFd hp45 hc52
        clear hp45
        refine w_skip (q_t ?_)
        refine w_seq ?_
        refine w_reg ?_
        refine r_mv (r_mv (r_ixR sl_MM rfl H2 rfl hx35 fun b59 o60 r61 hc62 H63 => ?_))
        refine r_ld na_I64 rfl (cellH_ext hc62 X27) ?_
        refine r_lenC sl_I64 rfl H63 (r_mv (r_nil (q_t ?_)))
        refine w_block ?_
        obtain ⟨ex65, hL66, hp67⟩ := obind hp58
        clear hp58
        obtain ⟨bd68, hbd69, hL70⟩ := iter_gen hL66
        clear hL66
        refine w_loop 4503591037435984 (fun x : (Int) => [(33, (.int .i64 x))]) (fun (k : Nat) (x : (Int)) (h' : Heap) => iter bd68 k x = some ex65 ∧ UpT [] h21 h' ∧ Sp h' (Array.size h) []) (by kernel_rfl) fuel (0 : (Int)) ?_ ⟨rfl, trivial⟩ ?_
        · exact ⟨hL70, UpT.start all_nil, S24⟩
        rintro k71 u77 sv74 h73 ⟨hk72, T75, S76⟩
        replace S76 : Sp h73 (Array.size h) [] := S76
        refine (show W _ _ _ (setL [(33, (.int .i64 u77))] (mix _ sv74 _)) h73 from ?_)
        have sz78 := T75.size
        have X79 := X27.thenT T75 all_nil
        obtain ⟨k80, rr81, rfl, hb82, hr83⟩ := iter_step hk72
        clear hk72
        rw [hbd69] at hb82
        dsimp only at hb82
        unfold P_quadformref23_Same_b2 at hb82
        refine w_seq ?_
        refine w_reg ?_
        refine r_cmp rfl rfl (cmp_lss _ _) (r_nil (q_t ?_))
        refine w_seq ?_
        refine ⟨_, rfl, fun hc84 => ?_, fun hc84 => ?_⟩
        · skip
          have hp85 := ifTd hb82 hc84
          clear hb82
          refine w_skip (q_t ?_)
          refine w_seq ?_
          refine w_block ?_
          refine w_seq ?_
          refine w_reg ?_
          refine r_mv (r_as (r_nil (q_t ?_)))
          refine w_seq ?_
          refine w_draw (by kernel_rfl) ?_
          refine r_mv (r_mv ?_)
          obtain ⟨x86, hx87, hp88⟩ := obind hp85
          clear hp85
          refine r_ixR sl_MM rfl H2 rfl hx87 fun b89 o90 r91 hc92 H93 => ?_
          refine r_ld na_I64 rfl (cellH_ext hc92 X79) (r_mv ?_)
          obtain ⟨x95, hx96, hp97⟩ := obind hp88
          clear hp88
          refine r_ixC (c := (cI .i64)) sl_I64 rfl H93 rfl hx96 fun b98 o99 cs100 hr101 hc102 => ?_
          obtain rfl := hr101
          refine r_ld na_i64 rfl (cellH_ext (hc102 0 _ rfl) X79) (r_mv (r_mv ?_))
          obtain ⟨x103, hx104, hp105⟩ := obind hp97
          clear hp97
          refine r_ixR sl_MM rfl H6 rfl hx104 fun b106 o107 r108 hc109 H110 => ?_
          refine r_ld na_I64 rfl (cellH_ext hc109 X79) (r_mv ?_)
          obtain ⟨x112, hx113, hp114⟩ := obind hp105
          clear hp105
          refine r_ixC (c := (cI .i64)) sl_I64 rfl H110 rfl hx113 fun b115 o116 cs117 hr118 hc119 => ?_
          obtain rfl := hr118
          refine r_ld na_i64 rfl (cellH_ext (hc119 0 _ rfl) X79) (r_cmp rfl rfl (cmp_neq _ _) (r_nil (q_t ?_)))
          refine ⟨_, rfl, fun hc120 => ?_, fun hc120 => ?_⟩
          · skip
            have hp121 := ifTd hp114 hc120
            clear hp114
            refine w_seq ?_
            refine w_reg ?_
            refine r_as (r_nil (q_t ?_))
            have hq122 := Option.some.inj hp121
            subst hq122
            have hp123 := hr83
            change _ = ex65 at hp123
            subst hp123
            have hp124 := hp67
            try dsimp only at hp124
            have hq125 := Option.some.inj hp124
            subst hq125
            have hp126 := hr31
            change _ = ex13 at hp126
            subst hp126
            have hp127 := hp15
            try dsimp only at hp127
            refine w_ret (q_br (q_tr (q_tr (q_br (q_br (q_tr (q_tr (q_br (q_tr ?_)))))))))
            have hq128 := Option.some.inj hp127
            subst hq128
            exact ⟨_, retV_1, X79, rfl⟩
          · skip
            have hp129 := ifFd hp114 hc120
            clear hp114
            refine w_skip (q_b (q_t ?_))
            refine w_reg ?_
            refine r_add rfl rfl (r_mv (r_nil (q_t ?_)))
            have hq130 := Option.some.inj hp129
            subst hq130
            exact ⟨k80, ((w64 (u77 + 1)) : (Int)), Nat.lt_succ_self _, ⟨hr83, T75, S76⟩, rfl, trivial⟩
        · skip
          have hp131 := ifFd hb82 hc84
          clear hb82
          have hq132 := Option.some.inj hp131
          subst hq132
          have hp133 := hr83
          change _ = ex65 at hp133
          subst hp133
          have hp134 := hp67
          try dsimp only at hp134
          refine w_exit (q_tx (q_tx (q_bx (q_b (q_t ?_)))))
          refine w_reg ?_
          refine r_add rfl rfl (r_mv (r_nil (q_t ?_)))
          have T135 := T23.then T75 all_nil
          have hq136 := Option.some.inj hp134
          subst hq136
          exact ⟨k28, ((w64 (u25 + 1)) : (Int)), Nat.lt_succ_self _, ⟨hr31, T135, S76⟩, rfl, trivial⟩
    · skip
      have hp137 := ifFd hb30 hc32
      clear hb30
      have hq138 := Option.some.inj hp137
      subst hq138
      have hp139 := hr31
      change _ = ex13 at hp139
      subst hp139
      have hp140 := hp15
      try dsimp only at hp140
      refine w_exit (q_tx (q_tx (q_bx (q_t ?_))))
      refine w_seq ?_
      refine w_reg ?_
      refine r_as (r_nil (q_t ?_))
      refine w_ret ?_
      have hq141 := Option.some.inj hp140
      subst hq141
      exact ⟨_, retV_1, X27, rfl⟩

def P_quadformmake_Grid_Ints_b2 (fuel : Nat) (a5 : (List Int)) (s410 : Int) (x439 : (List Int)) (s544 : Int) (s545 : Int) (s546 : (List (List Int))) : Option ((Int × Int × (List (List Int))) ⊕ ((Int × (List (List Int))))) :=
  (if s544 < (x439.length : Int) then ((gI s546 s410).bind fun x554 => (((if (a5.length : Int) ≤ s545 then (some ( (0, s545))) else ((gI a5 (w64 ((w64 (s545 + 1)) - 1))).bind fun x581 => (some ( ((w64 x581), (w64 (s545 + 1))))))) : Option (Int × Int)).bind fun (e587, e588) => ((gI x554 s544).bind fun x589 => (some (Sum.inl ((w64 (s544 + 1)), e588, (sI s546 s410 (sI x554 s544 e587)))))))) else (some (Sum.inr<|  (s545, s546))))
def P_quadformmake_Grid_Ints_b1 (fuel : Nat) (a1 : Int) (a2 : Int) (a5 : (List Int)) (a7 : Int) (s410 : Int) (s411 : Int) (s412 : (List (List Int))) : Option ((Int × Int × (List (List Int))) ⊕ (((List (List Int))))) :=
  (if s410 < ((List.replicate (Int.toNat (w64 (1 + (Int.tmod (w64 a1) a7)))) ([] : List Int)).length : Int) then (if a7 ≠ 0 then (if 0 ≤ (w64 (1 + (Int.tmod (w64 a2) a7))) ∧ (w64 (1 + (Int.tmod (w64 a2) a7))) ≤ 100000000 then ((gI s412 s410).bind fun x428 => ((gI (sI s412 s410 (List.replicate (Int.toNat (w64 (1 + (Int.tmod (w64 a2) a7)))) (0 : Int))) s410).bind fun x439 => ((iter (fun s => P_quadformmake_Grid_Ints_b2 fuel a5 s410 x439 s.1 s.2.1 s.2.2) fuel (0, s411, (sI s412 s410 (List.replicate (Int.toNat (w64 (1 + (Int.tmod (w64 a2) a7)))) (0 : Int))))).bind (fun ((e596, e597) : Int × (List (List Int))) => (some (Sum.inl ((w64 (s410 + 1)), e596, e597))))))) else none) else none) else (some (Sum.inr<|  s412)))
def P_quadformmake_Grid_Ints (fuel : Nat) (a1 : Int) (a2 : Int) (a5 : (List Int)) (a7 : Int) : Option (List (List Int)) :=
  (if a7 ≠ 0 then (if 0 ≤ (w64 (1 + (Int.tmod (w64 a1) a7))) ∧ (w64 (1 + (Int.tmod (w64 a1) a7))) ≤ 100000000 then ((iter (fun s => P_quadformmake_Grid_Ints_b1 fuel a1 a2 a5 a7 s.1 s.2.1 s.2.2) fuel (0, 0, (List.replicate (Int.toNat (w64 (1 + (Int.tmod (w64 a1) a7)))) ([] : List Int)))).bind (fun (e603 : (List (List Int))) => (some e603))) else none) else none)
theorem P_quadformmake_Grid_Ints_ok {fuel : Nat} {h : Heap} {a1 : Int} {a2 : Int} {pv3 : Value} {a5 : (List Int)} {a7 : Int} {r : (List (List Int))} (H4 : SlC (cI .i8) h pv3 a5) (hp : P_quadformmake_Grid_Ints fuel a1 a2 a5 a7 = some r) : CallH Tryd.prog 17 #[(.agg #[(.int .u8 a1), (.int .u8 a2), pv3]), (.int .i64 a7)] h (fun x h' => Ext h h' ∧ ∃ (x0 : Value) (F0 : List Nat) (Gs0 : List (List Nat)) (rs0 : List Value), x = x0 ∧ OwC2 (cI .i64) 46 2 h' F0 Gs0 rs0 x0 r ∧ Sp h' (Array.size h) [F0]) := by
  unfold P_quadformmake_Grid_Ints at hp
  have S0 := sp_nil h (Array.size h)
  refine calls_of_W (l := [_, _]) mx Tryd.func17 rfl rfl rfl rfl rfl (by kernel_rfl) ?_
  refine w_seq ?_
  refine w_reg ?_
  refine r_boxE [(.int .u8 a1), (.int .u8 a2), pv3] trivial (fun _ _ => trivial) rfl rfl fun b8 h9 V10 E11 S12 => ?_
  have sz14 := E11.1
  have S15 : Sp h9 (Array.size h) [[b8]] := S0.app S12 E11.1 (Nat.le_refl _)
  have lo16 := S12.loAll 0 rfl
  refine r_as (r_nil (q_t ?_))
  refine w_seq ?_
  refine w_reg ?_
  refine r_fo (fs := 1) fd_GridT2 (by kernel_rfl) (by decide) rfl ?_
  refine r_ld na_I8 rfl (V10.cell (i := 2) rfl) ?_
  obtain ⟨_, _, _, hv17⟩ := (H4.ext E11).shape
  refine r_build (v := (.agg #[pv3, (.int .i64 0)])) (fun _ => by subst hv17; kernel_rfl) ?_
  refine r_boxE [pv3, (.int .i64 0)] trivial (fun _ _ => trivial) rfl rfl fun b18 h19 V20 E21 S22 => ?_
  have sz24 := E21.1
  have X25 := E11.trans E21
  have S26 : Sp h19 (Array.size h) [[b8], [b18]] := S15.app S22 E21.1 E11.1
  have lo27 := S22.loAll 0 rfl
  refine r_as (r_nil (q_t ?_))
  refine w_seq ?_
  refine w_reg ?_
  have I28 := V10.ext E21
  refine r_fo (fs := 1) fd_GridT0 (by kernel_rfl) (by decide) rfl ?_
  refine r_ld na_u8 rfl (I28.cell (i := 0) rfl) (r_cv it_u8 it_int rfl (r_mv ?_))
  obtain ⟨hn29, hp30⟩ := ifN hp
  clear hp
  refine r_rem rfl rfl hn29 (r_add rfl rfl ?_)
  obtain ⟨hn31, hp32⟩ := ifN hp30
  clear hp30
  refine r_mkR (cI .i64) 2 sl_MM ze_I64 rfl trivial (fun _ _ => trivial) rfl rfl (by decide) hn31 fun F38 G39 rs40 v37 h35 I36 E33 S34 => ?_
  have sz42 := E33.1
  have X43 := X25.trans E33
  have S44 : Sp h35 (Array.size h) [[b8], [b18], F38] := S26.app S34 E33.1 X25.1
  have lo45 := S34.loAll 0 rfl
  refine r_as (r_nil (q_t ?_))
  refine w_seq ?_
  refine w_seq ?_
  refine w_reg ?_
  refine r_mv ?_
  refine r_lenR sl_MM rfl I36.rd (r_mv (r_nil (q_t ?_)))
  refine w_block ?_
  obtain ⟨ex46, hL47, hp48⟩ := obind hp32
  clear hp32
  obtain ⟨bd49, hbd50, hL51⟩ := iter_gen hL47
  clear hL47
  have I52 := V20.ext E33
  refine w_loop 9007199250547072 (fun x : (Int) × (Int) × ((List (List Int))) × (List Nat) × (List (List Nat)) × (List Value) => [(22, (.int .i64 x.1))]) (fun (k : Nat) (x : (Int) × (Int) × ((List (List Int))) × (List Nat) × (List (List Nat)) × (List Value)) (h' : Heap) => iter bd49 k (x.1, x.2.1, x.2.2.1) = some ex46 ∧ UpT (F38 ++ ([b18] ++ [])) h35 h' ∧ Sp h' (Array.size h) [[b8], [b18], x.2.2.2.1] ∧ OwC2 (cI .i64) 46 2 h' x.2.2.2.1 x.2.2.2.2.1 x.2.2.2.2.2 v37 x.2.2.1 ∧ (∀ z ∈ x.2.2.2.1, z ∈ (F38 ++ ([b18] ++ [])) ∨ Array.size h35 ≤ z) ∧ BoxH 59 h' b18 [pv3, (.int .i64 x.2.1)]) (by kernel_rfl) fuel ((0, 0, (List.replicate (Int.toNat (w64 (1 + (Int.tmod (w64 a1) a7)))) ([] : List Int)), F38, G39, rs40) : (Int) × (Int) × ((List (List Int))) × (List Nat) × (List (List Nat)) × (List Value)) ?_ ⟨rfl, trivial⟩ ?_
  · exact ⟨hL51, UpT.start (all_app I36.notD (all_app (boxAll I52 rfl) all_nil)), S44, I36, (fr_in rfl), I52⟩
  rintro k54 ⟨u60, u61, u62, q63, q64, q65⟩ sv57 h56 ⟨hk55, T58, S59, I66, fr67, V68⟩
  replace I66 : OwC2 (cI .i64) 46 2 h56 q63 q64 q65 v37 u62 := I66
  replace fr67 : ∀ z ∈ q63, z ∈ (F38 ++ ([b18] ++ [])) ∨ Array.size h35 ≤ z := fr67
  replace V68 : BoxH 59 h56 b18 [pv3, (.int .i64 u61)] := V68
  replace S59 : Sp h56 (Array.size h) [[b8], [b18], q63] := S59
  refine (show W _ _ _ (setL [(22, (.int .i64 u60))] (mix _ sv57 _)) h56 from ?_)
  have sz69 := T58.size
  have X70 := X43.thenT T58 (all_app (S44.loAll 2 rfl) (all_app (S44.loAll 1 rfl) all_nil))
  obtain ⟨k71, rr72, rfl, hb73, hr74⟩ := iter_step hk55
  clear hk55
  rw [hbd50] at hb73
  dsimp only at hb73
  unfold P_quadformmake_Grid_Ints_b1 at hb73
  refine w_seq ?_
  refine w_reg ?_
  refine r_cmp rfl rfl (cmp_lss _ _) (r_nil (q_t ?_))
  refine w_seq ?_
  refine ⟨_, rfl, fun hc75 => ?_, fun hc75 => ?_⟩
  · skip
    have hp76 := ifTd hb73 hc75
    clear hb73
    refine w_skip (q_t ?_)
    refine w_seq ?_
    refine w_block ?_
    refine w_seq ?_
    refine w_reg ?_
    refine r_mv (r_as (r_nil (q_t ?_)))
    refine w_seq ?_
    refine w_reg ?_
    have I77 := I28.ext E33
    have I78 := I77.upT T58 (dj_app (S44.dj 0 2 rfl rfl (by decide)) (dj_app (S44.dj 0 1 rfl rfl (by decide)) dj_nil))
    refine r_mv (r_mv (r_fo (fs := 1) fd_GridT1 (by kernel_rfl) (by decide) rfl ?_))
    refine r_ld na_u8 rfl (I78.cell (i := 1) rfl) (r_cv it_u8 it_int rfl (r_mv ?_))
    obtain ⟨hn79, hp80⟩ := ifN hp76
    clear hp76
    refine r_rem rfl rfl hn79 (r_add rfl rfl ?_)
    obtain ⟨hn81, hp82⟩ := ifN hp80
    clear hp80
    refine r_mkC1 (c := (cI .i64)) (a := 0) sl_I64 ze_i64 rfl rfl (fun _ => rfl) rfl trivial (fun _ _ => trivial) rfl rfl (by decide) hn81 fun b88 v87 h85 I86 E83 hl90 hl91 => ?_
    have S84 := sp_one hl90 hl91
    have sz92 := E83.1
    have X93 := X70.trans E83
    have S94 : Sp h85 (Array.size h) [[b8], [b18], q63, [b88]] := S59.app S84 E83.1 X70.1
    have lo95 := S84.loAll 0 rfl
    obtain ⟨x96, hx97, hp98⟩ := obind hp82
    clear hp82
    have I104 := I66.ext E83
    refine r_ixR2 sl_MM rfl I104 rfl hx97 fun b99 r100 hF101 hr102 hc103 => ?_
    refine r_stR na_I64 I104 hx97 hF101 rfl rfl I86 (S94.dj 3 2 rfl rfl (by decide)) fun h105 I107 U106 hs108 => ?_
    have S109 : Sp h85 (Array.size h) [q63, [b88], [b8], [b18]] := (S94.sel [2, 3, 0, 1] (by decide))
    have S110 := S109.mrg
    have hs111 : ∀ z ∈ (b99 :: (q64.set (Int.toNat u60) [b88]).flatten), z ∈ q63 ++ [b88] ∨ Array.size h85 ≤ z := (fun z hz => .inl (hs108 z hz))
    have sz112 := U106.size
    have X113 := X93.thenT U106 (S94.loAll 2 rfl)
    have S115 : Sp h105 (Array.size h) [(b99 :: (q64.set (Int.toNat u60) [b88]).flatten), [b8], [b18]] := S110.put 0 rfl I107.nodup U106.size X93.1 I107.lt hs111
    refine r_nil (q_t ?_)
    refine w_seq ?_
    refine w_reg ?_
    refine r_mv (r_mv ?_)
    obtain ⟨x116, hx117, hp118⟩ := obind hp98
    clear hp98
    refine r_ixR2 sl_MM rfl I107 rfl hx117 fun b119 r120 hF121 hr122 hc123 => ?_
    refine r_ld na_I64 rfl hc123 ?_
    refine r_lenC sl_I64 rfl (I107.rowI hr122 hx117) (r_mv (r_nil (q_t ?_)))
    refine w_block ?_
    obtain ⟨ex125, hL126, hp127⟩ := obind hp118
    clear hp118
    obtain ⟨bd128, hbd129, hL130⟩ := iter_gen hL126
    clear hL126
    have I131 := V68.ext E83
    have I132 := I131.upT U106 (S94.dj 1 2 rfl rfl (by decide))
    refine w_loop 4502500115742976 (fun x : (Int) × (Int) × ((List (List Int))) × (List Nat) × (List (List Nat)) × (List Value) => [(40, (.int .i64 x.1))]) (fun (k : Nat) (x : (Int) × (Int) × ((List (List Int))) × (List Nat) × (List (List Nat)) × (List Value)) (h' : Heap) => iter bd128 k (x.1, x.2.1, x.2.2.1) = some ex125 ∧ UpT ((b99 :: (q64.set (Int.toNat u60) [b88]).flatten) ++ ([b18] ++ [])) h105 h' ∧ Sp h' (Array.size h) [x.2.2.2.1, [b8], [b18]] ∧ OwC2 (cI .i64) 46 2 h' x.2.2.2.1 x.2.2.2.2.1 x.2.2.2.2.2 v37 x.2.2.1 ∧ (∀ z ∈ x.2.2.2.1, z ∈ ((b99 :: (q64.set (Int.toNat u60) [b88]).flatten) ++ ([b18] ++ [])) ∨ Array.size h105 ≤ z) ∧ BoxH 59 h' b18 [pv3, (.int .i64 x.2.1)]) (by kernel_rfl) fuel ((0, u61, (sI u62 u60 (List.replicate (Int.toNat (w64 (1 + (Int.tmod (w64 a2) a7)))) (0 : Int))), (b99 :: (q64.set (Int.toNat u60) [b88]).flatten), (q64.set (Int.toNat u60) [b88]), (q65.set (Int.toNat u60) v87)) : (Int) × (Int) × ((List (List Int))) × (List Nat) × (List (List Nat)) × (List Value)) ?_ ⟨rfl, trivial⟩ ?_
    · exact ⟨hL130, UpT.start (all_app I107.notD (all_app (boxAll I132 rfl) all_nil)), S115, I107, (fr_in rfl), I132⟩
    rintro k134 ⟨u140, u141, u142, q143, q144, q145⟩ sv137 h136 ⟨hk135, T138, S139, I146, fr147, V148⟩
    replace I146 : OwC2 (cI .i64) 46 2 h136 q143 q144 q145 v37 u142 := I146
    replace fr147 : ∀ z ∈ q143, z ∈ ((b99 :: (q64.set (Int.toNat u60) [b88]).flatten) ++ ([b18] ++ [])) ∨ Array.size h105 ≤ z := fr147
    replace V148 : BoxH 59 h136 b18 [pv3, (.int .i64 u141)] := V148
    replace S139 : Sp h136 (Array.size h) [q143, [b8], [b18]] := S139
    refine (show W _ _ _ (setL [(40, (.int .i64 u140))] (mix _ sv137 _)) h136 from ?_)
    have sz149 := T138.size
    have X150 := X113.thenT T138 (all_app (S115.loAll 0 rfl) (all_app (S115.loAll 2 rfl) all_nil))
    obtain ⟨k151, rr152, rfl, hb153, hr154⟩ := iter_step hk135
    clear hk135
    rw [hbd129] at hb153
    dsimp only at hb153
    unfold P_quadformmake_Grid_Ints_b2 at hb153
    refine w_seq ?_
    refine w_reg ?_
    refine r_cmp rfl rfl (cmp_lss _ _) (r_nil (q_t ?_))
    refine w_seq ?_
    refine ⟨_, rfl, fun hc155 => ?_, fun hc155 => ?_⟩
    · skip
      have hp156 := ifTd hb153 hc155
      clear hb153
      refine w_skip (q_t ?_)
      refine w_seq ?_
      refine w_block ?_
      refine w_seq ?_
      refine w_reg ?_
      refine r_mv (r_as (r_nil (q_t ?_)))
      refine w_drawB (fun h' => UpT ([b18] ++ []) h136 h') (by kernel_rfl) ?_
      have hB157 : UpT ([b18] ++ []) h136 h136 := UpT.start (all_app (boxAll V148 rfl) all_nil)
      refine r_mv (r_mv ?_)
      obtain ⟨x158, hx159, hp160⟩ := obind hp156
      clear hp156
      refine r_ixR2 sl_MM rfl I146 rfl hx159 fun b161 r162 hF163 hr164 hc165 => ?_
      refine r_ldB na_I64 rfl hB157 (fun h' hb => cellH_upT hc165 hb (ni_app (S139.dj 0 2 rfl rfl (by decide) _ (by simp [hF163])) ni_nil)) (r_mv (r_mv ?_))
      obtain ⟨ex167, hj168, hp169⟩ := obind hp160
      clear hp160
      refine r_call (K' := (fun xr h' => ∃ x : (Int) × (Int), (x.1, x.2) = ex167 ∧ xr = (.int .i64 x.1) ∧ UpT ([b18] ++ []) h136 h' ∧ Sp h' (Array.size h) [q143, [b8], [b18]] ∧ BoxH 59 h' b18 [pv3, (.int .i64 x.2)])) hB157 rfl ?_ fun xv170 h171 hk172 => ?_
      · skip
        refine calls_of_W (l := [_]) mx Tryd.func40 rfl rfl rfl rfl rfl (by kernel_rfl) ?_
        refine w_seq ?_
        refine w_reg ?_
        refine r_as (r_nil (q_t ?_))
        refine w_seq ?_
        refine w_seq ?_
        refine w_draw (by kernel_rfl) ?_
        refine r_mv (r_nc rfl (r_fo (fs := 1) fd_Tape1 (by kernel_rfl) (by decide) rfl ?_))
        refine r_ld na_int rfl (V148.cell (i := 1) rfl) (r_mv (r_nc rfl (r_fo (fs := 1) fd_Tape0 (by kernel_rfl) (by decide) rfl ?_)))
        refine r_ld na_I8 rfl (V148.cell (i := 0) rfl) ?_
        refine r_lenC sl_I8 rfl H4 (r_cmp rfl rfl (cmp_geq _ _) (r_nil (q_t ?_)))
        refine ⟨_, rfl, fun hc173 => ?_, fun hc173 => ?_⟩
        · skip
          have hp174 := ifTd hj168 hc173
          clear hj168
          refine w_seq ?_
          refine w_reg ?_
          refine r_as (r_nil (q_t ?_))
          refine w_ret (q_tr ?_)
          have T175 : UpT ([b18] ++ []) h136 h136 := UpT.start (all_app (boxAll V148 rfl) all_nil)
          exact ⟨_, retV_1, ((0, u141) : (Int) × (Int)), Option.some.inj hp174, rfl, T175, S139, V148⟩
        · skip
          have hp176 := ifFd hj168 hc173
          clear hj168
          refine w_skip (q_t ?_)
          refine w_seq ?_
          refine w_reg ?_
          refine r_mv (r_nc rfl (r_fo (fs := 1) fd_Tape1 (by kernel_rfl) (by decide) rfl ?_))
          refine r_ld na_int rfl (V148.cell (i := 1) rfl) (r_add rfl rfl (r_nc rfl (r_fo (fs := 1) fd_Tape1 (by kernel_rfl) (by decide) rfl ?_)))
          refine r_stB [pv3, (.int .i64 (w64 (u141 + 1)))] na_int rfl rfl rfl V148 (Nat.le_of_ble_eq_true rfl) rfl fun h177 I179 U180 => ?_
          have U178 := I179.stA U180 (boxAll V148 rfl) rfl
          have sz181 := U178.size
          have X182 := X150.thenT U178 (S139.loAll 2 rfl)
          have S183 : Sp h177 (Array.size h) [q143, [b8], [b18]] := S139.keep U178.size
          refine r_nil (q_t ?_)
          refine w_seq ?_
          refine w_draw (by kernel_rfl) ?_
          refine r_mv (r_nc rfl (r_fo (fs := 1) fd_Tape0 (by kernel_rfl) (by decide) rfl ?_))
          refine r_ld na_I8 rfl (I179.cell (i := 0) rfl) (r_mv (r_nc rfl (r_fo (fs := 1) fd_Tape1 (by kernel_rfl) (by decide) rfl ?_)))
          refine r_ld na_int rfl (I179.cell (i := 1) rfl) (r_sub rfl rfl ?_)
          obtain ⟨x184, hx185, hp186⟩ := obind hp176
          clear hp176
          refine r_ixC (c := (cI .i8)) sl_I8 rfl H4 rfl hx185 fun b187 o188 cs189 hr190 hc191 => ?_
          obtain rfl := hr190
          refine r_ld na_i8 rfl (cellH_ext (hc191 0 _ rfl) X182) (r_cv it_i8 it_i64 rfl (r_as (r_nil (q_t ?_))))
          refine w_ret ?_
          have T192 : UpT ([b18] ++ []) h136 h136 := UpT.start (all_app (boxAll V148 rfl) all_nil)
          have T193 := T192.then U178 (fr_in rfl)
          exact ⟨_, retV_1, (((w64 x184), (w64 (u141 + 1))) : (Int) × (Int)), Option.some.inj hp186, rfl, T193, S183, I179⟩
      obtain ⟨⟨u199, u200⟩, hq194, rfl, T197, S198, V201⟩ := hk172
      replace V201 : BoxH 59 h171 b18 [pv3, (.int .i64 u200)] := V201
      replace S198 : Sp h171 (Array.size h) [q143, [b8], [b18]] := S198
      have sz202 := T197.size
      have X203 := X150.thenT T197 (all_app (S139.loAll 2 rfl) all_nil)
      have hB204 := hB157.then T197 (all_app (fr_in rfl) all_nil)
      refine ⟨hB204, ?_⟩
      subst hq194
      have hp205 := hp169
      try dsimp only at hp205
      obtain ⟨x206, hx207, hp208⟩ := obind hp205
      clear hp205
      refine r_ixO2 (m := u60) sl_I64 rfl I146 hr164 hx159 rfl hx207 fun g209 hG210 => ?_
      have I214 := I146.upT T197 (dj_app (S139.dj 0 2 rfl rfl (by decide)) dj_nil)
      refine r_stO2 (m := u60) (stEl_na na_i64 rfl rfl rfl) I214 hG210 hx159 hx207 (show ((cI .i64)).rep _ u199 _ from rfl) fun h211 I213 U212 => ?_
      have sz215 := U212.size
      have X216 := X203.thenT U212 (S198.loAll 0 rfl)
      have S218 : Sp h211 (Array.size h) [q143, [b8], [b18]] := S198.keep U212.size
      refine r_nil (q_b (q_t ?_))
      refine w_reg ?_
      refine r_add rfl rfl (r_mv (r_nil (q_t ?_)))
      have I219 := V201.upT U212 (S198.dj 2 0 rfl rfl (by decide))
      have T220 := T138.then T197 (all_app (fr_tl (fr_in rfl)) all_nil)
      have T221 := T220.then U212 (fr_hyp fr147 (all_app (fr_in rfl) (all_app (fr_tl (fr_in rfl)) all_nil)) (by omega))
      have hq222 := Option.some.inj hp208
      subst hq222
      exact ⟨k151, (((w64 (u140 + 1)), u200, (sI u142 u60 (sI x158 u140 u199)), q143, q144, q145) : (Int) × (Int) × ((List (List Int))) × (List Nat) × (List (List Nat)) × (List Value)), Nat.lt_succ_self _, ⟨hr154, T221, S218, I213, (fr_hyp fr147 (all_app (fr_in rfl) (all_app (fr_tl (fr_in rfl)) all_nil)) (by omega)), I219⟩, rfl, trivial⟩
    · skip
      have hp223 := ifFd hb153 hc155
      clear hb153
      have hq224 := Option.some.inj hp223
      subst hq224
      have hp225 := hr154
      change _ = ex125 at hp225
      subst hp225
      have hp226 := hp127
      try dsimp only at hp226
      refine w_exit (q_tx (q_tx (q_bx (q_b (q_t ?_)))))
      refine w_reg ?_
      refine r_add rfl rfl (r_mv (r_nil (q_t ?_)))
      have T227 := T58.thenE E83
      have T228 := T227.then U106 (fr_hyp fr67 (all_app (fr_in rfl) (all_app (fr_tl (fr_in rfl)) all_nil)) (by omega))
      have T229 := T228.then T138 (all_app (fr_hyp hs111 (all_app (fr_hyp fr67 (all_app (fr_in rfl) (all_app (fr_tl (fr_in rfl)) all_nil)) (by omega)) (fr_new lo95 (by omega))) (by omega)) (all_app (fr_tl (fr_in rfl)) all_nil))
      have hq230 := Option.some.inj hp226
      subst hq230
      exact ⟨k71, (((w64 (u60 + 1)), u141, u142, q143, q144, q145) : (Int) × (Int) × ((List (List Int))) × (List Nat) × (List (List Nat)) × (List Value)), Nat.lt_succ_self _, ⟨hr74, T229, (S139.sel [1, 2, 0] (by decide)), I146, (fr_hyp fr147 (all_app (fr_hyp hs111 (all_app (fr_hyp fr67 (all_app (fr_in rfl) (all_app (fr_tl (fr_in rfl)) all_nil)) (by omega)) (fr_new lo95 (by omega))) (by omega)) (all_app (fr_tl (fr_in rfl)) all_nil)) (by omega)), V148⟩, rfl, trivial⟩
  · skip
    have hp231 := ifFd hb73 hc75
    clear hb73
    have hq232 := Option.some.inj hp231
    subst hq232
    have hp233 := hr74
    change _ = ex46 at hp233
    subst hp233
    have hp234 := hp48
    try dsimp only at hp234
    refine w_exit (q_tx (q_tx (q_bx (q_t ?_))))
    refine w_seq ?_
    refine w_reg ?_
    refine r_mv (r_as (r_nil (q_t ?_)))
    refine w_ret ?_
    have hq235 := Option.some.inj hp234
    subst hq235
    exact ⟨_, retV_1, X70, _, _, _, _, rfl, I66, S59.sel [2] (by decide)⟩

def P_quadformlaw23_large_b1 (fuel : Nat) (a3 : (List (List Int))) (s22 : Int) : Option ((Int) ⊕ ((Bool) ⊕ (Unit))) :=
  (if s22 < (a3.length : Int) then ((gI a3 s22).bind fun x25 => (if 20 < (x25.length : Int) then (some (Sum.inr<| Sum.inl <| true)) else (some (Sum.inl (w64 (s22 + 1)))))) else (some (Sum.inr<| Sum.inr <|  ())))
def P_quadformlaw23_large (fuel : Nat) (a3 : (List (List Int))) : Option Bool :=
  (if 20 < (a3.length : Int) then (some true) else ((iter (fun s => P_quadformlaw23_large_b1 fuel a3 s) fuel 0).bind (fun ex => match ex with | Sum.inl e36 => (some e36) | Sum.inr (_) => (some false))))
theorem P_quadformlaw23_large_ok {fuel : Nat} {h : Heap} {pv1 : Value} {a3 : (List (List Int))} {r : Bool} (H2 : SlC2 (cI .i64) h pv1 a3) (hp : P_quadformlaw23_large fuel a3 = some r) : CallH Tryd.prog 15 #[pv1] h (fun x h' => Ext h h' ∧ x = .bool r) := by
  unfold P_quadformlaw23_large at hp
  have S0 := sp_nil h (Array.size h)
  refine calls_of_W (l := [_]) mx Tryd.func15 rfl rfl rfl rfl rfl (by kernel_rfl) ?_
  refine w_seq ?_
  refine w_reg ?_
  refine r_as (r_nil (q_t ?_))
  refine w_seq ?_
  refine w_seq ?_
  refine w_reg ?_
  refine r_mv ?_
  refine r_lenR sl_MM rfl H2 (r_cmp rfl rfl (cmp_gtr _ _) (r_nil (q_t ?_)))
  refine ⟨_, rfl, fun hc5 => ?_, fun hc5 => ?_⟩
  · skip
    have hp6 := ifTd hp hc5
    clear hp
    refine w_seq ?_
    refine w_reg ?_
    refine r_as (r_nil (q_t ?_))
    refine w_ret (q_tr ?_)
    have hq7 := Option.some.inj hp6
    subst hq7
    exact ⟨_, retV_1, (Ext.refl _), rfl⟩
  · skip
    have hp8 := ifFd hp hc5
    clear hp
    refine w_skip (q_t ?_)
    refine w_seq ?_
    refine w_seq ?_
    refine w_reg ?_
    refine r_mv ?_
    refine r_lenR sl_MM rfl H2 (r_mv (r_nil (q_t ?_)))
    refine w_block ?_
    obtain ⟨ex9, hL10, hp11⟩ := obind hp8
    clear hp8
    obtain ⟨bd12, hbd13, hL14⟩ := iter_gen hL10
    clear hL10
    refine w_loop 261140 (fun x : (Int) => [(10, (.int .i64 x))]) (fun (k : Nat) (x : (Int)) (h' : Heap) => iter bd12 k x = some ex9 ∧ UpT [] h h' ∧ Sp h' (Array.size h) []) (by kernel_rfl) fuel (0 : (Int)) ?_ ⟨rfl, trivial⟩ ?_
    · exact ⟨hL14, UpT.start all_nil, S0⟩
    rintro k15 u21 sv18 h17 ⟨hk16, T19, S20⟩
    replace S20 : Sp h17 (Array.size h) [] := S20
    refine (show W _ _ _ (setL [(10, (.int .i64 u21))] (mix _ sv18 _)) h17 from ?_)
    have sz22 := T19.size
    have X23 := (Ext.refl _).thenT T19 all_nil
    obtain ⟨k24, rr25, rfl, hb26, hr27⟩ := iter_step hk16
    clear hk16
    rw [hbd13] at hb26
    dsimp only at hb26
    unfold P_quadformlaw23_large_b1 at hb26
    refine w_seq ?_
    refine w_reg ?_
    refine r_cmp rfl rfl (cmp_lss _ _) (r_nil (q_t ?_))
    refine w_seq ?_
    refine ⟨_, rfl, fun hc28 => ?_, fun hc28 => ?_⟩
    · skip
      have hp29 := ifTd hb26 hc28
      clear hb26
      refine w_skip (q_t ?_)
      refine w_seq ?_
      refine w_block ?_
      refine w_seq ?_
      refine w_reg ?_
      obtain ⟨x30, hx31, hp32⟩ := obind hp29
      clear hp29
      refine r_ixR sl_MM rfl H2 rfl hx31 fun b33 o34 r35 hc36 H37 => ?_
      refine r_ld na_I64 rfl (cellH_ext hc36 X23) (r_as (r_nil (q_t ?_)))
      refine w_seq ?_
      refine w_reg ?_
      refine r_mv ?_
      refine r_lenC sl_I64 rfl H37 (r_cmp rfl rfl (cmp_gtr _ _) (r_nil (q_t ?_)))
      refine ⟨_, rfl, fun hc39 => ?_, fun hc39 => ?_⟩
      · skip
        have hp40 := ifTd hp32 hc39
        clear hp32
        refine w_seq ?_
        refine w_reg ?_
        refine r_as (r_nil (q_t ?_))
        have hq41 := Option.some.inj hp40
        subst hq41
        have hp42 := hr27
        change _ = ex9 at hp42
        subst hp42
        have hp43 := hp11
        try dsimp only at hp43
        refine w_ret (q_br (q_tr (q_tr (q_br (q_tr ?_)))))
        have hq44 := Option.some.inj hp43
        subst hq44
        exact ⟨_, retV_1, X23, rfl⟩
      · skip
        have hp45 := ifFd hp32 hc39
        clear hp32
        refine w_skip (q_b (q_t ?_))
        refine w_reg ?_
        refine r_add rfl rfl (r_mv (r_nil (q_t ?_)))
        have hq46 := Option.some.inj hp45
        subst hq46
        exact ⟨k24, ((w64 (u21 + 1)) : (Int)), Nat.lt_succ_self _, ⟨hr27, T19, S20⟩, rfl, trivial⟩
    · skip
      have hp47 := ifFd hb26 hc28
      clear hb26
      have hq48 := Option.some.inj hp47
      subst hq48
      have hp49 := hr27
      change _ = ex9 at hp49
      subst hp49
      have hp50 := hp11
      try dsimp only at hp50
      refine w_exit (q_tx (q_tx (q_bx (q_t ?_))))
      refine w_seq ?_
      refine w_reg ?_
      refine r_as (r_nil (q_t ?_))
      refine w_ret ?_
      have hq51 := Option.some.inj hp50
      subst hq51
      exact ⟨_, retV_1, X23, rfl⟩

def P_quadformlaw23_modulus (fuel : Nat) (a1 : Int) (a2 : Int) (a3 : Bool) : Option Int :=
  (if a3 = true then (some a2) else (some (w64 (2 + (w64 a1)))))
theorem P_quadformlaw23_modulus_ok {fuel : Nat} {h : Heap} {a1 : Int} {a2 : Int} {a3 : Bool} {r : Int}  (hp : P_quadformlaw23_modulus fuel a1 a2 a3 = some r) : CallH Tryd.prog 22 #[(.int .u16 a1), (.int .i64 a2), (.bool a3)] h (fun x h' => Ext h h' ∧ x = .int .i64 r) := by
  unfold P_quadformlaw23_modulus at hp
  have S0 := sp_nil h (Array.size h)
  refine calls_of_W (l := [_, _, _]) mx Tryd.func22 rfl rfl rfl rfl rfl (by kernel_rfl) ?_
  refine w_seq ?_
  refine w_reg ?_
  refine r_as (r_nil (q_t ?_))
  refine w_seq ?_
  refine w_seq ?_
  refine w_reg ?_
  refine r_mv (r_nil (q_t ?_))
  refine ⟨_, rfl, fun hc4 => ?_, fun hc4 => ?_⟩
  · skip
    have hp5 := ifT hp hc4
    clear hp
    refine w_seq ?_
    refine w_reg ?_
    refine r_mv (r_as (r_nil (q_t ?_)))
    refine w_ret (q_tr ?_)
    have hq6 := Option.some.inj hp5
    subst hq6
    exact ⟨_, retV_1, (Ext.refl _), rfl⟩
  · skip
    have hp7 := ifFb hp hc4
    clear hp
    refine w_skip (q_t ?_)
    refine w_seq ?_
    refine w_reg ?_
    refine r_mv (r_cv it_U16 it_i64 rfl (r_add rfl rfl (r_as (r_nil (q_t ?_)))))
    refine w_ret ?_
    have hq8 := Option.some.inj hp7
    subst hq8
    exact ⟨_, retV_1, (Ext.refl _), rfl⟩
end Go.Proofs.YtdlfineibanppaaDoor


/-
  From the older words for matrices in memory to codecs, and back. No condition.
-/
namespace Go.QF
open Go
theorem slK_of_sl {h : Heap} {v : Value} {l : List Value} (H : Sl h v l) : SlK h 1 v (l.map fun x => [x]) := by
  obtain ⟨a, cap, hv, hc⟩ := H
  refine ⟨a, cap, by rw [List.length_map]; exact hv, fun i row hr => ?_⟩
  rw [List.getElem?_map] at hr
  obtain ⟨x, hx, rfl⟩ := Option.map_eq_some_iff.1 hr
  obtain ⟨b, o, ha, hb⟩ := hc i x hx
  refine ⟨b, o, ha, fun j y hy => ?_⟩
  cases j with
  | zero => injection hy with hy; subst hy; rw [Nat.mul_one, Nat.add_zero]; exact hb
  | succ j => simp at hy
theorem sl_of_slK {h : Heap} {v : Value} {l : List Value} (H : SlK h 1 v (l.map fun x => [x])) : Sl h v l := by
  obtain ⟨a, cap, hv, hc⟩ := H
  refine ⟨a, cap, by rw [List.length_map] at hv; exact hv, fun i x hx => ?_⟩
  obtain ⟨b, o, ha, hb⟩ := hc i [x] (by simp [hx])
  refine ⟨b, o, ha, ?_⟩
  have := hb 0 x rfl
  rwa [Nat.mul_one, Nat.add_zero] at this
theorem slC_of {κ : IntKind} {h : Heap} {v : Value} {L : List Int} (H : Sl h v (L.map (.int κ))) : SlC (cI κ) h v L := by
  refine ⟨L.map fun a => [.int κ a], ?_, by simp, fun i cs a h1 h2 => ?_⟩
  · have := slK_of_sl H
    rwa [List.map_map] at this
  · rw [List.getElem?_map, h2] at h1
    injection h1 with h1
    exact h1.symm
theorem sl_of {κ : IntKind} {h : Heap} {v : Value} {L : List Int} (H : SlC (cI κ) h v L) : Sl h v (L.map (.int κ)) := by
  obtain ⟨Ls, h1, h2, h3⟩ := H
  have : Ls = (L.map (Value.int κ)).map fun x => [x] := by
    apply List.ext_getElem?
    intro i
    by_cases hi : i < L.length
    · obtain ⟨a, ha⟩ : ∃ a, L[i]? = some a := ⟨L[i], List.getElem?_eq_getElem hi⟩
      obtain ⟨cs, hcs⟩ : ∃ cs, Ls[i]? = some cs := ⟨Ls[i]'(by omega), List.getElem?_eq_getElem _⟩
      have := h3 i cs a hcs ha
      rw [hcs, List.map_map, List.getElem?_map, ha]
      exact congrArg some this
    · rw [List.getElem?_eq_none (by omega), List.getElem?_eq_none (by simp; omega)]
  subst this
  exact sl_of_slK h1
theorem mat_of {h : Heap} {v : Value} {M : List (List Int)} (H : SlC2 (cI .i64) h v M) : Mat h v M := by
  obtain ⟨rs, h1, h2, h3⟩ := H
  exact ⟨rs, sl_of_slK h1, h2, fun i r z hr hz => sl_of (h3 i r z hr hz)⟩
theorem slC2_of {h : Heap} {v : Value} {M : List (List Int)} (H : Mat h v M) : SlC2 (cI .i64) h v M := by
  obtain ⟨rs, h1, h2, h3⟩ := H
  exact ⟨rs, slK_of_sl h1, h2, fun i r z hr hz => slC_of (h3 i r z hr hz)⟩
end Go.QF


/-
  Plain: the reference's way to the echelon form is the program's. No condition.
-/
namespace Go.QF
set_option linter.unusedVariables false
theorem setF_self (F : Nat → Nat → Int) (i : Nat) : setF F i (F i) = F := by
  funext k
  by_cases h : k = i
  · subst h; rw [setF_same]
  · rw [setF_ne _ _ h]
end Go.QF


/-
  Plain: combinations of rows modulo a number, and that row operations keep them. No condition.
-/
namespace Go.QF
set_option linter.unusedVariables false

/-! ### sums -/
theorem psum_add (f g : Nat → Int) (n : Nat) : psum (fun i => f i + g i) n = psum f n + psum g n := by
  induction n with
  | zero => rfl
  | succ n ih => simp only [psum]; rw [ih]; omega
theorem psum_mul (c : Int) (f : Nat → Int) (n : Nat) : psum (fun i => c * f i) n = c * psum f n := by
  induction n with
  | zero => simp [psum]
  | succ n ih => simp only [psum]; rw [ih, Int.mul_add]
theorem psum_zero (n : Nat) : psum (fun _ => 0) n = 0 := by
  induction n with
  | zero => rfl
  | succ n ih => simp only [psum]; rw [ih]; rfl
theorem psum_comm (f : Nat → Nat → Int) (n m : Nat) : psum (fun i => psum (fun j => f i j) m) n = psum (fun j => psum (fun i => f i j) n) m := by
  induction n with
  | zero => simp only [psum]; exact (psum_zero m).symm
  | succ n ih =>
    simp only [psum]
    rw [ih, ← psum_add]
/-- One term is another. -/
theorem psum_upd {f g : Nat → Int} {n a : Nat} (ha : a < n) (h : ∀ i, i ≠ a → g i = f i) : psum g n = psum f n + (g a - f a) := by
  induction n with
  | zero => omega
  | succ n ih =>
    simp only [psum]
    by_cases hn : a = n
    · subst hn
      rw [psum_congr (f := g) (g := f) (fun k hk => h k (by omega))]; omega
    · rw [ih (by omega), h n (fun he => hn he.symm)]; omega
theorem psum_one {f : Nat → Int} {n a : Nat} (ha : a < n) (h : ∀ i, i ≠ a → f i = 0) : psum f n = f a := by
  rw [psum_upd (f := fun _ => 0) ha h, psum_zero]; omega
/-! ### congruence -/
def Eqm (m a b : Int) : Prop := a % m = b % m
theorem Eqm.refl (m a : Int) : Eqm m a a := rfl
theorem Eqm.of_eq {m a b : Int} (h : a = b) : Eqm m a b := h ▸ rfl
theorem Eqm.symm {m a b : Int} (h : Eqm m a b) : Eqm m b a := Eq.symm h
theorem Eqm.trans {m a b c : Int} (h : Eqm m a b) (k : Eqm m b c) : Eqm m a c := Eq.trans h k
theorem Eqm.add {m a b c d : Int} (h : Eqm m a b) (k : Eqm m c d) : Eqm m (a + c) (b + d) := by
  unfold Eqm at *; rw [Int.add_emod, h, k, ← Int.add_emod]
theorem Eqm.sub {m a b c d : Int} (h : Eqm m a b) (k : Eqm m c d) : Eqm m (a - c) (b - d) := by
  unfold Eqm at *; rw [Int.sub_emod, h, k, ← Int.sub_emod]
theorem Eqm.mul {m a b c d : Int} (h : Eqm m a b) (k : Eqm m c d) : Eqm m (a * c) (b * d) := by
  unfold Eqm at *; rw [Int.mul_emod, h, k, ← Int.mul_emod]
theorem Eqm.mod (m a : Int) : Eqm m (a % m) a := Int.emod_emod_of_dvd a (Int.dvd_refl m)
theorem Eqm.psum {m : Int} {f g : Nat → Int} {n : Nat} (h : ∀ i, i < n → Eqm m (f i) (g i)) : Eqm m (psum f n) (psum g n) := by
  induction n with
  | zero => rfl
  | succ n ih => exact (ih fun i hi => h i (by omega)).add (h n (by omega))
theorem Eqm.zero {m a : Int} (h : Eqm m a 0) : a % m = 0 := by simpa [Eqm] using h
/-! ### combinations of rows -/
def comb (r : Nat) (y : Nat → Int) (F : Nat → Nat → Int) (q : Nat) : Int := psum (fun i => y i * F i q) r
def updY (y : Nat → Int) (a : Nat) (t : Int) : Nat → Int := fun i => if i = a then t else y i
theorem updY_same (y : Nat → Int) (a : Nat) (t : Int) : updY y a t a = t := if_pos rfl
theorem updY_ne (y : Nat → Int) {a i : Nat} (t : Int) (h : i ≠ a) : updY y a t i = y i := if_neg h
theorem comb_setF {r a : Nat} {y : Nat → Int} {F : Nat → Nat → Int} {g : Nat → Int} {q : Nat} (ha : a < r) : comb r y (setF F a g) q = comb r y F q + y a * (g q - F a q) := by
  unfold comb
  rw [psum_upd (f := fun i => y i * F i q) ha (fun i hi => by rw [setF_ne _ _ hi]), setF_same, Int.mul_sub]
theorem comb_updY {r a : Nat} {y : Nat → Int} {t : Int} {F : Nat → Nat → Int} {q : Nat} (ha : a < r) : comb r (updY y a t) F q = comb r y F q + (t - y a) * F a q := by
  unfold comb
  rw [psum_upd (f := fun i => y i * F i q) ha (fun i hi => by rw [updY_ne _ _ hi]), updY_same, Int.sub_mul]
theorem comb_eqm {r : Nat} {m : Int} {y y' : Nat → Int} {F : Nat → Nat → Int} {q : Nat} (h : ∀ i, i < r → Eqm m (y i) (y' i)) : Eqm m (comb r y F q) (comb r y' F q) :=
  Eqm.psum fun i hi => (h i hi).mul (Eqm.refl _ _)
theorem comb_unit {r a : Nat} {F : Nat → Nat → Int} {q : Nat} (ha : a < r) : comb r (updY (fun _ => 0) a 1) F q = F a q := by
  unfold comb
  rw [psum_one ha (fun i hi => by rw [updY_ne _ _ hi]; simp), updY_same]; simp
/-- The same combinations, and none of F' that vanishes unless one of F does. -/
def RowEq (r c : Nat) (m : Int) (F F' : Nat → Nat → Int) : Prop :=
  (∀ y', ∃ y, (∀ q, q < c → Eqm m (comb r y' F' q) (comb r y F q)) ∧ ((∀ i, i < r → Eqm m (y i) 0) → ∀ i, i < r → Eqm m (y' i) 0)) ∧
  (∀ y, ∃ y', ∀ q, q < c → Eqm m (comb r y F q) (comb r y' F' q))
theorem RowEq.refl (r c : Nat) (m : Int) (F : Nat → Nat → Int) : RowEq r c m F F := ⟨fun y => ⟨y, fun _ _ => rfl, fun h => h⟩, fun y => ⟨y, fun _ _ => rfl⟩⟩
theorem RowEq.trans {r c : Nat} {m : Int} {F G H : Nat → Nat → Int} (h : RowEq r c m F G) (k : RowEq r c m G H) : RowEq r c m F H := by
  refine ⟨fun y2 => ?_, fun y0 => ?_⟩
  · obtain ⟨y1, e1, z1⟩ := k.1 y2
    obtain ⟨y0, e0, z0⟩ := h.1 y1
    exact ⟨y0, fun q hq => (e1 q hq).trans (e0 q hq), fun hz => z1 (z0 hz)⟩
  · obtain ⟨y1, e1⟩ := h.2 y0
    obtain ⟨y2, e2⟩ := k.2 y1
    exact ⟨y2, fun q hq => (e1 q hq).trans (e2 q hq)⟩
theorem rowEq_swap {r c a b : Nat} {m : Int} {F : Nat → Nat → Int} (ha : a < r) (hb : b < r) : RowEq r c m F (swapF F a b) := by
  by_cases hab : a = b
  · subst hab
    have : swapF F a a = F := by
      funext k
      by_cases hk : k = a
      · subst hk; rw [swapF_at]
      · rw [swapF_ne _ hk hk]
    rw [this]; exact RowEq.refl _ _ _ _
  · have key : ∀ y q, comb r y (swapF F a b) q = comb r (updY (updY y a (y b)) b (y a)) F q := by
      intro y q
      unfold swapF
      rw [comb_setF hb, comb_setF ha, setF_ne _ _ (Ne.symm hab), comb_updY hb, comb_updY ha, updY_ne _ _ (Ne.symm hab)]
      grind
    refine ⟨fun y' => ⟨_, fun q _ => Eqm.of_eq (key y' q), fun hz i hi => ?_⟩, fun y => ⟨updY (updY y a (y b)) b (y a), fun q _ => Eqm.of_eq ?_⟩⟩
    · by_cases h1 : i = a
      · subst h1; have := hz b hb; rw [updY_same] at this; exact this
      · by_cases h2 : i = b
        · subst h2; have := hz a ha; rw [updY_ne _ _ hab, updY_same] at this; exact this
        · have := hz i hi; rw [updY_ne _ _ h2, updY_ne _ _ h1] at this; exact this
    · rw [key]
      congr 1
      funext i
      by_cases h1 : i = b
      · subst h1; rw [updY_same, updY_ne _ _ hab, updY_same]
      · rw [updY_ne _ _ h1]
        by_cases h2 : i = a
        · subst h2; rw [updY_same, updY_same]
        · rw [updY_ne _ _ h2, updY_ne _ _ h1, updY_ne _ _ h2]
theorem rowEq_scale {r c a : Nat} {m f g : Int} {F : Nat → Nat → Int} (ha : a < r) (hf : Eqm m (f * g) 1) : RowEq r c m F (scaleF F a f m) := by
  have key : ∀ y q, Eqm m (comb r y (scaleF F a f m) q) (comb r (updY y a (y a * f)) F q) := by
    intro y q
    unfold scaleF
    rw [comb_setF ha, comb_updY ha]
    refine (Eqm.refl _ _).add ?_
    refine ((Eqm.refl m (y a)).mul ((Eqm.mod m _).sub (Eqm.refl _ _))).trans (Eqm.of_eq ?_)
    grind
  refine ⟨fun y' => ⟨_, fun q _ => key y' q, fun hz i hi => ?_⟩, fun y => ⟨updY y a (y a * g), fun q _ => ((key _ q).trans (comb_eqm fun i hi => ?_)).symm⟩⟩
  · by_cases h1 : i = a
    · subst h1
      have := hz i ha
      rw [updY_same] at this
      have h2 := this.mul (Eqm.refl m g)
      refine Eqm.trans ?_ (h2.trans (Eqm.of_eq (by omega)))
      refine Eqm.trans (Eqm.of_eq (show y' i = y' i * 1 by omega)) (((Eqm.refl m (y' i)).mul hf.symm).trans (Eqm.of_eq ?_))
      rw [Int.mul_assoc]
    · have := hz i hi; rw [updY_ne _ _ h1] at this; exact this
  · by_cases h1 : i = a
    · subst h1
      rw [updY_same, updY_same, Int.mul_assoc, Int.mul_comm g f]
      exact ((Eqm.refl m (y i)).mul hf).trans (Eqm.of_eq (by omega))
    · rw [updY_ne _ _ h1, updY_ne _ _ h1]; exact Eqm.refl _ _
theorem rowEq_add {r c k top : Nat} {m e : Int} {F : Nat → Nat → Int} (hk : k < r) (ht : top < r) (hne : k ≠ top) : RowEq r c m F (setF F k fun q => (F k q + e * F top q) % m) := by
  have key : ∀ y q, Eqm m (comb r y (setF F k fun q => (F k q + e * F top q) % m) q) (comb r (updY y top (y top + y k * e)) F q) := by
    intro y q
    rw [comb_setF hk, comb_updY ht]
    refine (Eqm.refl _ _).add ?_
    refine ((Eqm.refl m (y k)).mul ((Eqm.mod m _).sub (Eqm.refl _ _))).trans (Eqm.of_eq ?_)
    grind
  refine ⟨fun y' => ⟨_, fun q _ => key y' q, fun hz i hi => ?_⟩, fun y => ⟨updY y top (y top - y k * e), fun q _ => ((key _ q).trans (comb_eqm fun i hi => ?_)).symm⟩⟩
  · by_cases h1 : i = top
    · subst h1
      have h2 := hz i ht
      have h3 := hz k hk
      rw [updY_same] at h2
      rw [updY_ne _ _ hne] at h3
      have h4 := h2.sub (h3.mul (Eqm.refl m e))
      refine Eqm.trans (Eqm.of_eq ?_) (h4.trans (Eqm.of_eq ?_))
      · omega
      · simp
    · have := hz i hi; rw [updY_ne _ _ h1] at this; exact this
  · by_cases h1 : i = top
    · subst h1
      rw [updY_same, updY_same, updY_ne _ _ hne]
      exact Eqm.of_eq (by omega)
    · rw [updY_ne _ _ h1, updY_ne _ _ h1]; exact Eqm.refl _ _
/-! ### the elimination keeps the combinations -/
theorem rowEq_elim {r c top j : Nat} {m : Int} {F : Nat → Nat → Int} (ht : top < r) : ∀ k, k ≤ r → RowEq r c m F (elimF F top j m k) := by
  intro k
  induction k with
  | zero => intro _; rw [elimF_zero]; exact RowEq.refl _ _ _ _
  | succ k ih =>
    intro hk
    refine (ih (by omega)).trans ?_
    by_cases h : k = top
    · subst h; rw [elimF_skip]; exact RowEq.refl _ _ _ _
    · rw [← elimF_step h]
      have := rowEq_add (c := c) (m := m) (e := m - F k j) (F := elimF F top j m k) (k := k) (top := top) (by omega) ht h
      rw [elimF_at, elimF_top] at this
      exact this
end Go.QF


/-
  Plain: the reduced echelon form and its rank. No condition.
-/
namespace Go.QF
set_option linter.unusedVariables false
/-- What holds when j columns are done. -/
structure Rref (r j : Nat) (F : Nat → Nat → Int) (piv : List Nat) : Prop where
  asc : piv.Pairwise (· < ·)
  lt : ∀ x ∈ piv, x < j
  len : piv.length ≤ r
  unit : ∀ a (ha : a < piv.length) i, i < r → F i piv[a] = if i = a then 1 else 0
  low : ∀ i q, piv.length ≤ i → i < r → q < j → F i q = 0
  lead : ∀ a (ha : a < piv.length) q, q < piv[a] → F a q = 0
theorem elimF_else {F : Nat → Nat → Int} {top j : Nat} {m : Int} {k i : Nat} (hi : i < k) (hne : i ≠ top) (q : Nat) : elimF F top j m k i q = (F i q + (m - F i j) * F top q) % m := by
  unfold elimF; rw [if_pos ⟨hi, hne⟩]
/-! ### solutions -/
end Go.QF


/-
  Plain: the kernel: solutions, their number, their rank. No condition.
-/
namespace Go.QF
set_option linter.unusedVariables false
end Go.QF


/-
  Plain: the reduced echelon form is unique. No condition.
-/
namespace Go.QF
set_option linter.unusedVariables false
theorem psum_cut {f : Nat → Int} {k r : Nat} (hk : k ≤ r) (h : ∀ i, k ≤ i → i < r → f i = 0) : psum f r = psum f k := by
  induction r with
  | zero => rw [Nat.le_zero.1 hk]
  | succ r ih =>
    rcases Nat.lt_or_ge k (r + 1) with h1 | h1
    · simp only [psum]
      rw [ih (by omega) (fun i h2 h3 => h i h2 (by omega)), h r (by omega) (by omega)]; omega
    · obtain rfl : k = r + 1 := by omega
      rfl
end Go.QF


/-
  Plain: products of elementary column operations have inverses; they keep the echelon form. No condition.
-/
namespace Go.QF
set_option linter.unusedVariables false
def dl (a b : Nat) : Int := if a = b then 1 else 0
end Go.QF


/-
  Plain: determinants by expansion along the first column; row steps, products, transposes. No condition.
-/
namespace Go.QF
set_option linter.unusedVariables false

def skp (i a : Nat) : Nat := if a < i then a else a + 1
def usk (i r : Nat) : Nat := if r < i then r else r - 1
def sg (i : Nat) : Int := if i % 2 = 0 then 1 else -1
theorem sg_succ (i : Nat) : sg (i + 1) = -sg i := by unfold sg; split <;> split <;> first | omega | rfl
theorem sg_add (i j : Nat) : sg (i + j) = sg i * sg j := by
  induction j with
  | zero => simp [sg]
  | succ j ih => rw [← Nat.add_assoc, sg_succ, ih, sg_succ]; grind
theorem skp_ne (i a : Nat) : skp i a ≠ i := by unfold skp; split <;> omega
theorem skp_lt {i a n : Nat} (ha : a < n) : skp i a < n + 1 := by unfold skp; split <;> omega
theorem skp_usk {i r : Nat} (h : r ≠ i) : skp i (usk i r) = r := by
  unfold usk
  split <;> (unfold skp; split <;> omega)
theorem skp_inj {i a r : Nat} (h : skp i a = r) : a = usk i r := by unfold skp at h; unfold usk; split at h <;> split <;> omega
theorem usk_lt {i r n : Nat} (h : r ≠ i) (hi : i < n + 1) (hr : r < n + 1) : usk i r < n := by unfold usk; split <;> omega

theorem setF_app (F : Nat → Nat → Int) (a : Nat) (g : Nat → Int) (i j : Nat) : setF F a g i j = if i = a then g j else F i j := by
  unfold setF; split <;> rfl
theorem swapF_app (F : Nat → Nat → Int) (a b i j : Nat) : swapF F a b i j = if i = b then F a j else if i = a then F b j else F i j := by
  unfold swapF; rw [setF_app, setF_app]
def minor0 (i : Nat) (F : Nat → Nat → Int) : Nat → Nat → Int := fun a b => F (skp i a) (b + 1)
def det : Nat → (Nat → Nat → Int) → Int
  | 0, _ => 1
  | n + 1, F => psum (fun i => sg i * F i 0 * det n (minor0 i F)) (n + 1)
theorem det_congr : ∀ {n : Nat} {F G : Nat → Nat → Int}, (∀ i j, i < n → j < n → F i j = G i j) → det n F = det n G := by
  intro n
  induction n with
  | zero => intro _ _ _; rfl
  | succ n ih =>
    intro F G h
    refine psum_congr fun i hi => ?_
    rw [h i 0 hi (by omega), ih (F := minor0 i F) (G := minor0 i G) fun a b ha hb => h _ _ (skp_lt ha) (by omega)]
theorem minor0_set {i r : Nat} {F : Nat → Nat → Int} {g : Nat → Int} (h : r ≠ i) : minor0 i (setF F r g) = setF (minor0 i F) (usk i r) (fun b => g (b + 1)) := by
  funext a b
  unfold minor0 setF
  by_cases ha : skp i a = r
  · rw [if_pos ha, if_pos (skp_inj ha)]
  · rw [if_neg ha, if_neg (fun he => ha (by rw [he, skp_usk h]))]
theorem minor0_set_self {i : Nat} {F : Nat → Nat → Int} {g : Nat → Int} : minor0 i (setF F i g) = minor0 i F := by
  funext a b
  unfold minor0
  rw [setF_ne _ _ (skp_ne i a)]
theorem det_lin : ∀ {n : Nat} {F : Nat → Nat → Int} {r : Nat} (u v : Nat → Int) (c d : Int), r < n → det n (setF F r fun q => c * u q + d * v q) = c * det n (setF F r u) + d * det n (setF F r v) := by
  intro n
  induction n with
  | zero => intro _ _ _ _ _ _ h; omega
  | succ n ih =>
    intro F r u v c d hr
    simp only [det]
    rw [← psum_mul, ← psum_mul, ← psum_add]
    refine psum_congr fun i hi => ?_
    by_cases h : r = i
    · subst h
      simp only [minor0_set_self, setF_same]
      grind
    · rw [minor0_set h, minor0_set h, minor0_set h, setF_ne _ _ (Ne.symm h), setF_ne _ _ (Ne.symm h), setF_ne _ _ (Ne.symm h), ih (fun b => u (b + 1)) (fun b => v (b + 1)) c d (usk_lt h hi hr)]
      grind
theorem psum_two {f : Nat → Int} {n r s : Nat} (hr : r < n) (hs : s < n) (hrs : r ≠ s) (h : ∀ i, i < n → i ≠ r → i ≠ s → f i = 0) : psum f n = f r + f s := by
  have h1 : psum f n = psum (fun i => (if i = r then f r else 0) + (if i = s then f s else 0)) n := psum_congr fun i hi => by
    by_cases h1 : i = r
    · subst h1; rw [if_pos rfl, if_neg hrs]; omega
    · rw [if_neg h1]
      by_cases h2 : i = s
      · subst h2; rw [if_pos rfl]; omega
      · rw [if_neg h2, h i hi h1 h2]; rfl
  rw [h1, psum_add, psum_one (f := fun i => if i = r then f r else 0) hr (fun i hi => if_neg hi), psum_one (f := fun i => if i = s then f s else 0) hs (fun i hi => if_neg hi), if_pos rfl, if_pos rfl]
theorem det_adj : ∀ {n : Nat} {F : Nat → Nat → Int} {r : Nat}, r + 1 < n → (∀ q, q < n → F r q = F (r + 1) q) → det n F = 0 := by
  intro n
  induction n with
  | zero => intro _ _ h; omega
  | succ n ih =>
    intro F r hr h
    simp only [det]
    rw [psum_two (r := r) (s := r + 1) (by omega) (by omega) (by omega)]
    · have : det n (minor0 r F) = det n (minor0 (r + 1) F) := det_congr fun a b ha hb => by
        unfold minor0 skp
        by_cases h1 : a < r
        · rw [if_pos h1, if_pos (by omega)]
        · rw [if_neg h1]
          by_cases h2 : a < r + 1
          · rw [if_pos h2]
            obtain rfl : a = r := by omega
            exact (h (b + 1) (by omega)).symm
          · rw [if_neg h2]
      rw [this, sg_succ, h 0 (by omega)]
      grind
    · intro i hi h1 h2
      rcases Nat.lt_or_ge i r with hlt | hge
      · rw [ih (F := minor0 i F) (r := r - 1) (by omega)]
        · simp
        · intro q hq
          unfold minor0 skp
          rw [if_neg (by omega), if_neg (by omega), show r - 1 + 1 = r by omega]
          exact h (q + 1) (by omega)
      · rw [ih (F := minor0 i F) (r := r) (by omega)]
        · simp
        · intro q hq
          unfold minor0 skp
          rw [if_pos (by omega), if_pos (by omega)]
          exact h (q + 1) (by omega)
theorem setF_comm {F : Nat → Nat → Int} {a b : Nat} (h : a ≠ b) (u v : Nat → Int) : setF (setF F a u) b v = setF (setF F b v) a u := by
  funext k
  unfold setF
  by_cases h1 : k = a <;> by_cases h2 : k = b
  · omega
  · simp [h1, h]
  · simp [h2, Ne.symm h]
  · simp [h1, h2]
/-- An alternating function changes its sign. -/
theorem alt_swap {n : Nat} {F : Nat → Nat → Int} {a b : Nat} (ha : a < n) (hb : b < n) (hab : a ≠ b) (h0 : ∀ G : Nat → Nat → Int, G a = G b → det n G = 0) : det n (swapF F a b) = -det n F := by
  have key : ∀ u v : Nat → Int, det n (setF (setF F a u) b v) = -det n (setF (setF F a v) b u) := by
    intro u v
    have h1 := h0 (setF (setF F a fun q => 1 * u q + 1 * v q) b fun q => 1 * u q + 1 * v q) (by rw [setF_same, setF_ne _ _ hab, setF_same])
    rw [det_lin u v 1 1 hb, setF_comm hab, setF_comm hab, det_lin u v 1 1 ha, det_lin u v 1 1 ha, setF_comm (Ne.symm hab), setF_comm (Ne.symm hab), setF_comm (Ne.symm hab), setF_comm (Ne.symm hab)] at h1
    have h2 := h0 (setF (setF F a u) b u) (by rw [setF_same, setF_ne _ _ hab, setF_same])
    have h3 := h0 (setF (setF F a v) b v) (by rw [setF_same, setF_ne _ _ hab, setF_same])
    omega
  unfold swapF
  rw [key (F b) (F a), setF_self]
  rw [show setF F b (F b) = F from setF_self F b]
theorem det_eqr : ∀ {d n : Nat} {F : Nat → Nat → Int} {a : Nat}, a + d + 1 < n → F a = F (a + d + 1) → det n F = 0 := by
  intro d
  induction d with
  | zero => intro n F a hn h; exact det_adj hn fun q _ => by rw [h]
  | succ d ih =>
    intro n F a hn h
    have h1 := alt_swap (n := n) (F := F) (a := a + d + 1) (b := a + d + 1 + 1) (by omega) (by omega) (by omega) fun G hG => det_adj (r := a + d + 1) (by omega) fun q _ => congrFun hG q
    have h2 := ih (n := n) (F := swapF F (a + d + 1) (a + d + 1 + 1)) (a := a) (by omega) (by rw [swapF_at2, swapF_ne _ (by omega) (by omega), h]; rfl)
    omega
theorem det_eq_rows {n : Nat} {F : Nat → Nat → Int} {a b : Nat} (ha : a < n) (hb : b < n) (hab : a ≠ b) (h : F a = F b) : det n F = 0 := by
  rcases Nat.lt_or_ge a b with hlt | hge
  · exact det_eqr (d := b - a - 1) (a := a) (by omega) (by rw [h]; congr 1; omega)
  · exact det_eqr (d := a - b - 1) (a := b) (by omega) (by rw [← h]; congr 1; omega)
theorem det_swap {n : Nat} {F : Nat → Nat → Int} {a b : Nat} (ha : a < n) (hb : b < n) (hab : a ≠ b) : det n (swapF F a b) = -det n F :=
  alt_swap ha hb hab fun _ h => det_eq_rows ha hb hab h
theorem det_scale {n : Nat} {F : Nat → Nat → Int} {r : Nat} (u : Nat → Int) (c : Int) (hr : r < n) : det n (setF F r fun q => c * u q) = c * det n (setF F r u) := by
  have := det_lin (F := F) u (fun _ => 0) c 0 hr
  rw [show (fun q => c * u q + 0 * (fun _ : Nat => (0 : Int)) q) = fun q => c * u q from by funext q; omega] at this
  rw [this]; omega
theorem det_zero_row {n : Nat} {F : Nat → Nat → Int} {r : Nat} (hr : r < n) (h : ∀ q, q < n → F r q = 0) : det n F = 0 := by
  have := det_scale (F := F) (F r) 0 hr
  rw [Int.zero_mul] at this
  rw [← this]
  exact det_congr fun i j hi hj => by
    unfold setF
    split
    · rename_i he; subst he; rw [h j hj]; simp
    · rfl
theorem det_add_row {n : Nat} {F : Nat → Nat → Int} {a b : Nat} (ha : a < n) (hb : b < n) (hab : a ≠ b) (q : Int) : det n (setF F a fun x => F a x + q * F b x) = det n F := by
  have := det_lin (F := F) (F a) (F b) 1 q ha
  rw [setF_self, det_eq_rows (F := setF F a (F b)) ha hb hab (by rw [setF_same, setF_ne _ _ (Ne.symm hab)])] at this
  rw [show (fun x => F a x + q * F b x) = fun x => 1 * F a x + q * F b x from by funext x; omega, this]; omega
theorem det_psum {n : Nat} {F : Nat → Nat → Int} {r : Nat} (hr : r < n) (y : Nat → Int) (u : Nat → Nat → Int) : ∀ t, det n (setF F r fun q => psum (fun k => y k * u k q) t) = psum (fun k => y k * det n (setF F r (u k))) t := by
  intro t
  induction t with
  | zero => exact det_zero_row hr fun q _ => by rw [setF_same]; rfl
  | succ t ih =>
    have := det_lin (F := F) (fun q => psum (fun k => y k * u k q) t) (u t) 1 (y t) hr
    simp only [psum]
    rw [← ih, show (fun q => psum (fun k => y k * u k q) t + y t * u t q) = fun q => 1 * psum (fun k => y k * u k q) t + y t * u t q from by funext q; omega, this]; omega
/-- A row that is a combination of the rows. -/
theorem det_comb {n : Nat} {F : Nat → Nat → Int} {r : Nat} (hr : r < n) (y : Nat → Int) : det n (setF F r fun q => psum (fun k => y k * F k q) n) = y r * det n F := by
  rw [det_psum hr y F n, psum_congr (g := fun k => if k = r then y r * det n F else 0), psum_one hr (fun i hi => if_neg hi), if_pos rfl]
  intro k hk
  by_cases h : k = r
  · subst h; rw [if_pos rfl, setF_self]
  · rw [if_neg h, det_eq_rows (F := setF F r (F k)) hr hk (Ne.symm h) (by rw [setF_same, setF_ne _ _ h])]; simp

/-! ### triangular matrices, row steps -/
def dprod (f : Nat → Int) : Nat → Int
  | 0 => 1
  | n + 1 => dprod f n * f n
theorem dprod_shift (f : Nat → Int) (n : Nat) : dprod f (n + 1) = f 0 * dprod (fun i => f (i + 1)) n := by
  induction n with
  | zero => simp [dprod]
  | succ n ih => rw [dprod, ih, dprod]; grind
theorem dprod_congr {f g : Nat → Int} {n : Nat} (h : ∀ i, i < n → f i = g i) : dprod f n = dprod g n := by
  induction n with
  | zero => rfl
  | succ n ih => rw [dprod, dprod, ih (fun i hi => h i (by omega)), h n (by omega)]
theorem det_upper : ∀ {n : Nat} {F : Nat → Nat → Int}, Zc n F n → det n F = dprod (fun i => F i i) n := by
  intro n
  induction n with
  | zero => intro _ _; rfl
  | succ n ih =>
    intro F h
    rw [dprod_shift, det, psum_congr (g := fun i => if i = 0 then F 0 0 * det n (minor0 0 F) else 0), psum_one (a := 0) (by omega) (fun i hi => if_neg hi), if_pos rfl]
    · rw [ih (F := minor0 0 F) (fun c' i h1 h2 h3 => by unfold minor0 skp; rw [if_neg (by omega)]; exact h (c' + 1) (i + 1) (by omega) (by omega) (by omega))]
      rfl
    · intro i hi
      by_cases h0 : i = 0
      · subst h0; simp [sg]
      · rw [if_neg h0, h 0 i (by omega) (by omega) hi]; simp
theorem det_lower : ∀ {n : Nat} {F : Nat → Nat → Int}, (∀ i j, i < j → j < n → F i j = 0) → det n F = dprod (fun i => F i i) n := by
  intro n
  induction n with
  | zero => intro _ _; rfl
  | succ n ih =>
    intro F h
    rw [dprod_shift, det, psum_congr (g := fun i => if i = 0 then F 0 0 * det n (minor0 0 F) else 0), psum_one (a := 0) (by omega) (fun i hi => if_neg hi), if_pos rfl]
    · rw [ih (F := minor0 0 F) (fun i j h1 h2 => by unfold minor0 skp; rw [if_neg (by omega)]; exact h (i + 1) (j + 1) (by omega) (by omega))]
      rfl
    · intro i hi
      by_cases h0 : i = 0
      · subst h0; simp [sg]
      · rw [if_neg h0, det_zero_row (F := minor0 i F) (r := 0) (by omega) (fun q hq => by unfold minor0 skp; rw [if_pos (by omega)]; exact h 0 (q + 1) (by omega) (by omega))]; simp
def estep (F : Nat → Nat → Int) (c i : Nat) (q : Int) : Nat → Nat → Int := swapF (setF F c fun x => F c x + -q * F i x) c i
theorem estep_i (F : Nat → Nat → Int) {c i : Nat} (q : Int) : estep F c i q i = fun x => F c x + -q * F i x := by
  unfold estep; rw [swapF_at, setF_same]
theorem estep_c (F : Nat → Nat → Int) {c i : Nat} (h : c ≠ i) (q : Int) : estep F c i q c = F i := by
  unfold estep; rw [swapF_at2, setF_ne _ _ (Ne.symm h)]
theorem estep_ne (F : Nat → Nat → Int) {c i k : Nat} (hc : k ≠ c) (hi : k ≠ i) (q : Int) : estep F c i q k = F k := by
  unfold estep; rw [swapF_ne _ hc hi, setF_ne _ _ hc]
theorem zc_estep {n : Nat} {F : Nat → Nat → Int} {c i : Nat} {q : Int} (H : Zc n F c) (hci : c < i) (hi : i < n) : Zc n (estep F c i q) c := by
  intro c' k h1 h2 h3
  by_cases hk : k = i
  · subst hk
    rw [estep_i]
    simp [H c' c h1 h1 (by omega), H c' k h1 h2 h3]
  · by_cases hk2 : k = c
    · subst hk2
      rw [estep_c F hk]; exact H c' i h1 (by omega) hi
    · rw [estep_ne F hk2 hk]; exact H c' k h1 h2 h3
theorem zi_estep {F : Nat → Nat → Int} {c i : Nat} {q : Int} (H : Zi F c i) : Zi (estep F c i q) c i := by
  intro k h1 h2
  rw [estep_ne F (by omega) (by omega)]; exact H k h1 h2
/-- Every matrix becomes triangular by row steps. -/
theorem row_ind {n : Nat} {P : (Nat → Nat → Int) → Prop} (hadd : ∀ F a b q, a < n → b < n → a ≠ b → P (setF F a fun x => F a x + q * F b x) → P F) (hswap : ∀ F a b, a < n → b < n → a ≠ b → P (swapF F a b) → P F) (htri : ∀ F, Zc n F n → P F) : ∀ F, P F := by
  have key : ∀ d c, c + d = n → ∀ F, Zc n F c → P F := by
    intro d
    induction d with
    | zero => intro c hc F hF; obtain rfl : c = n := by omega
              exact htri F hF
    | succ d ih =>
      intro c hc
      have inner : ∀ e i, i + e = n → c < i → ∀ F, Zc n F c → Zi F c i → P F := by
        intro e
        induction e with
        | zero => intro i hi hci F hF hz; obtain rfl : i = n := by omega
                  exact ih (c + 1) (by omega) F (zc_succ hF hz)
        | succ e ihe =>
          intro i hi hci
          have strong : ∀ k F, (F i c).natAbs = k → Zc n F c → Zi F c i → P F := by
            intro k
            induction k using Nat.strongRecOn with
            | _ k ihk =>
              intro F hk hF hz
              by_cases h0 : F i c = 0
              · exact ihe (i + 1) (by omega) (by omega) F hF (zi_succ hz h0)
              · refine hadd F c i (-(F c c / F i c)) (by omega) (by omega) (by omega) (hswap _ c i (by omega) (by omega) (by omega) ?_)
                refine ihk ((estep F c i (F c c / F i c)) i c).natAbs ?_ (estep F c i (F c c / F i c)) rfl (zc_estep hF hci (by omega)) (zi_estep hz)
                rw [estep_i, ← hk]
                show (F c c + -(F c c / F i c) * F i c).natAbs < _
                have h1 := Int.mul_ediv_add_emod (F c c) (F i c)
                have h2 : F c c + -(F c c / F i c) * F i c = F c c % F i c := by grind
                rw [h2]
                have h3 := Int.emod_nonneg (F c c) h0
                have h4 := Int.emod_lt (F c c) h0
                omega
          exact fun F => strong _ F rfl
      exact fun F hF => inner (n - (c + 1)) (c + 1) (by omega) (by omega) F hF fun k h1 h2 => by omega
  exact fun F => key n 0 (by omega) F fun c' i h => by omega
/-! ### products -/
def mulF (n : Nat) (A B : Nat → Nat → Int) : Nat → Nat → Int := fun i j => psum (fun k => A i k * B k j) n
theorem mulF_add {n : Nat} {A B : Nat → Nat → Int} {a b : Nat} {q : Int} : mulF n (setF A a fun x => A a x + q * A b x) B = setF (mulF n A B) a fun x => mulF n A B a x + q * mulF n A B b x := by
  funext i j
  unfold mulF setF
  by_cases h : i = a
  · simp only [if_pos h]
    rw [← psum_mul, ← psum_add]
    exact psum_congr fun k _ => by grind
  · simp only [if_neg h]
theorem mulF_set {n : Nat} {A B : Nat → Nat → Int} {a : Nat} {u : Nat → Int} : mulF n (setF A a u) B = setF (mulF n A B) a fun x => psum (fun k => u k * B k x) n := by
  funext i j
  unfold mulF setF
  by_cases h : i = a
  · simp only [if_pos h]
  · simp only [if_neg h]
theorem mulF_swap {n : Nat} {A B : Nat → Nat → Int} {a b : Nat} : mulF n (swapF A a b) B = swapF (mulF n A B) a b := by
  unfold swapF
  rw [mulF_set, mulF_set]
  rfl
theorem det_mul {n : Nat} (A B : Nat → Nat → Int) : det n (mulF n A B) = det n A * det n B := by
  refine row_ind (n := n) (P := fun A => det n (mulF n A B) = det n A * det n B) (fun F a b q ha hb hab h => ?_) (fun F a b ha hb hab h => ?_) (fun F hF => ?_) A
  · rw [mulF_add, det_add_row ha hb hab, det_add_row ha hb hab] at h; exact h
  · rw [mulF_swap, det_swap ha hb hab, det_swap ha hb hab] at h
    rw [Int.neg_mul] at h; omega
  · rw [det_upper hF]
    have key : ∀ j, j ≤ n → det n (fun i => if i < j then mulF n F B i else B i) = dprod (fun i => F i i) j * det n B := by
      intro j
      induction j with
      | zero => intro _; simp [dprod]
      | succ j ih =>
        intro hj
        rw [dprod, Int.mul_assoc, Int.mul_comm (F j j), ← Int.mul_assoc, ← ih (by omega), Int.mul_comm]
        rw [← det_comb (F := fun i => if i < j then mulF n F B i else B i) (r := j) (by omega) (F j)]
        refine det_congr fun i q hi hq => ?_
        unfold setF
        by_cases h : i = j
        · subst h
          simp only [if_pos (Nat.lt_succ_self i), if_pos]
          unfold mulF
          refine psum_congr fun k hk => ?_
          by_cases hlt : k < i
          · rw [hF k i (by omega) hlt hi]; simp
          · rw [if_neg hlt]
        · simp only [if_neg h]
          by_cases hlt : i < j
          · rw [if_pos hlt, if_pos (by omega)]
          · rw [if_neg hlt, if_neg (by omega)]
    rw [← key n (Nat.le_refl _)]
    exact det_congr fun i j hi hj => by rw [if_pos hi]
def trF (F : Nat → Nat → Int) : Nat → Nat → Int := fun i j => F j i
theorem det_id (n : Nat) : det n dl = 1 := by
  rw [det_upper (fun c' i h1 h2 h3 => by unfold dl; rw [if_neg (by omega)])]
  have : ∀ k, dprod (fun i => dl i i) k = 1 := by
    intro k
    induction k with
    | zero => rfl
    | succ k ih => rw [dprod, ih]; simp [dl]
  exact this n
theorem mul_dl {n : Nat} {F : Nat → Nat → Int} {i j : Nat} (hj : j < n) : psum (fun k => F i k * dl k j) n = F i j := by
  rw [psum_one hj (fun k hk => by unfold dl; rw [if_neg hk]; simp)]; simp [dl]
/-- A column step is a product with a changed unit matrix. -/
theorem det_tr_set {n : Nat} {F : Nat → Nat → Int} {a : Nat} (y : Nat → Int) (ha : a < n) : det n (trF (setF F a fun x => psum (fun k => y k * F k x) n)) = det n (trF F) * det n (trF (setF dl a y)) := by
  rw [← det_mul]
  refine det_congr fun i j hi hj => ?_
  unfold mulF trF setF
  by_cases h : j = a
  · simp only [if_pos h]
    exact psum_congr fun k _ => by grind
  · simp only [if_neg h]
    rw [psum_one hj (fun k hk => by unfold dl; rw [if_neg (Ne.symm hk)]; simp)]
    simp [dl]
theorem det_tr {n : Nat} (F : Nat → Nat → Int) : det n (trF F) = det n F := by
  refine row_ind (n := n) (P := fun F => det n (trF F) = det n F) (fun F a b q ha hb hab h => ?_) (fun F a b ha hb hab h => ?_) (fun F hF => ?_) F
  · rw [det_add_row ha hb hab] at h
    rw [← h]
    have h1 := det_tr_set (n := n) (F := F) (a := a) (fun k => dl k a + q * dl k b) ha
    have h2 : det n (trF (setF dl a fun k => dl k a + q * dl k b)) = 1 := by
      rw [← det_id n, ← det_add_row (F := dl) hb ha (Ne.symm hab) q]
      refine det_congr fun i j hi hj => ?_
      clear h1 h
      simp only [trF, setF_app, dl]
      grind
    rw [h2, Int.mul_one] at h1
    rw [← h1]
    refine det_congr fun i j hi hj => ?_
    unfold trF setF
    by_cases hja : j = a
    · simp only [if_pos hja]
      rw [psum_congr (g := fun k => F k i * dl k a + q * (F k i * dl k b)) (fun k _ => by grind), psum_add, psum_mul]
      rw [psum_one (a := a) ha (fun k hk => by unfold dl; rw [if_neg hk]; simp), psum_one (a := b) hb (fun k hk => by unfold dl; rw [if_neg hk]; simp)]
      simp [dl]
    · simp only [if_neg hja]
  · rw [det_swap ha hb hab] at h
    have h1 : det n (trF (swapF F a b)) = det n (trF F) * det n (swapF dl a b) := by
      rw [← det_mul]
      refine det_congr fun i j hi hj => ?_
      unfold mulF trF
      have hsym : ∀ k, swapF dl a b k j = if j = a then dl k b else if j = b then dl k a else dl k j := by
        intro k
        simp only [swapF_app, dl]
        grind
      rw [psum_congr (g := fun k => F k i * dl k (if j = a then b else if j = b then a else j)) (fun k _ => by rw [hsym]; grind)]
      rw [psum_one (a := if j = a then b else if j = b then a else j) (by grind) (fun k hk => by unfold dl; rw [if_neg hk]; simp)]
      simp only [dl, if_pos, Int.mul_one]
      by_cases h3 : j = a
      · subst h3; rw [swapF_at2, if_pos rfl]
      · rw [if_neg h3]
        by_cases h4 : j = b
        · subst h4; rw [swapF_at, if_pos rfl]
        · rw [swapF_ne _ h3 h4, if_neg h4]
    rw [det_swap ha hb hab, det_id] at h1
    omega
  · rw [det_upper hF, det_lower (F := trF F) (fun i j h1 h2 => hF i j (by omega) h1 h2)]
    rfl
end Go.QF


/-
  Contracts of Residues, Mul and Congruence, of the program and of the reference, for every argument.
-/
namespace Go.Proofs.YtdlfineibanppaaDoor
open Go Go.QF
set_option linter.unusedVariables false
set_option maxRecDepth 100000

end Go.Proofs.YtdlfineibanppaaDoor


/-
  Contracts of the row operations of package modular: scale, eliminator and the function that it returns. Conditions stand in each statement.
-/
namespace Go.Proofs.YtdlfineibanppaaDoor
open Go Go.QF
set_option linter.unusedVariables false
set_option maxRecDepth 100000

/-- A row by its index. -/
def zf (z : List Int) (c : Nat) : Int := z[c]?.getD 0
theorem range_zf (z : List Int) : (List.range z.length).map (zf z) = z := by
  refine List.ext_getElem (by simp) fun i h1 h2 => ?_
  simp [zf, h2]
theorem zf_bd {z : List Int} {m : Int} (hm : 0 < m) (h : ∀ x ∈ z, 0 ≤ x ∧ x < m) (c : Nat) : 0 ≤ zf z c ∧ zf z c < m := by
  unfold zf
  rcases Nat.lt_or_ge c z.length with hc | hc
  · simp [hc]; exact h _ (List.getElem_mem _)
  · simp [List.getElem?_eq_none hc, hm]

theorem scale_ok {h : Heap} {g : Nat} {v : Value} {z : List Int} (HO : OwnA h tI g v (z.map (.int .i64))) {f m : Int} (hz : ∀ x ∈ z, 0 ≤ x ∧ x < m) (hf : 0 ≤ f) (hfm : f < m) (hm : 2 ≤ m) (hm2 : m ≤ 2147483647) (hl : z.length ≤ 1000000) :
    CallH Tryd.prog 50 #[v, .int .i64 f, .int .i64 m] h fun r h' => Upd (· = g) h h' ∧ OwnA h' tI g v (((List.range z.length).map fun c => zf z c * f % m).map (.int .i64)) := by
  refine calls_of_W (l := [_, _, _]) mx Tryd.func50 rfl rfl rfl rfl rfl (by kernel_rfl) ?_
  refine w_seq ?_
  refine w_reg ?_
  refine r_mv (r_leni sl_I64 rfl HO.sl (r_mv (r_nil (q_t ?_))))
  refine w_block ?_
  refine w_loop 16776384 (fun j : Nat => [(10, .int .i64 (j : Int))]) (fun k j h' => Upd (· = g) h h' ∧ k = z.length - j ∧ j ≤ z.length ∧ OwnA h' tI g v ((mixR z.length (fun c => zf z c * f % m) (zf z) j).map (.int .i64))) (by kernel_rfl) z.length 0 ?_ ⟨rfl, trivial⟩ ?_
  · exact ⟨Upd.refl _ _, by omega, by omega, by rw [mixR_zero, range_zf]; exact HO⟩
  rintro k j s h1 ⟨hU, rfl, hj, HQ⟩
  refine w_seq ?_
  refine w_reg ?_
  refine r_lss rfl rfl (fun hc1 => ?_) (fun hc1 => ?_)   -- t11 := binOp lss 3 t10 t9 3
  · skip
    refine r_nil (q_t ?_)
    refine w_seq ?_
    refine w_true rfl ?_
    refine w_skip (q_t ?_)
    refine w_seq ?_
    refine w_block ?_
    refine w_seq ?_
    refine w_reg ?_
    refine r_mv (r_ixi sl_I64 rfl HQ.sl rfl (mixR_at (by omega)) fun aX haX => ?_)
    refine r_ld na_i64 rfl haX (r_as (r_as (r_nil (q_t ?_))))
    have hxb := zf_bd (by omega) hz j
    have hxf := mul_bd (a := zf z j) (b := f) (A := 2147483647) (B := 2147483647) (by omega) (by omega) (by omega) (by omega)
    refine w_reg ?_
    refine r_mv (r_mv (r_mv (r_mv (r_mulb rfl rfl (by omega) (by omega) (r_mv (r_remp rfl rfl (by omega) (by omega) (r_ixo sl_I64 rfl HQ rfl (by rw [List.length_map, mixR_len]; omega) ?_)))))))
    refine r_sto na_i64 rfl rfl rfl HQ (by rw [List.length_map, mixR_len]; omega) ?_
    have HQ2 := HQ.setI (j := j) (by rw [mixR_len]; omega) (zf z j * f % m)
    rw [mixR_set (by omega) rfl] at HQ2
    refine r_nil (q_b (q_t ?_))
    refine w_reg ?_
    refine r_inc rfl (by omega) (r_mv (r_nil (q_t ?_)))
    exact ⟨z.length - (j + 1), j + 1, by omega, ⟨hU.trans (upd_set _ _ _), rfl, by omega, HQ2⟩, rfl, trivial⟩
  · skip
    refine r_nil (q_t ?_)
    refine w_seq ?_
    refine w_false rfl ?_
    refine w_exit (q_tx (q_tx (q_bx ?_)))
    refine ⟨_, retV_none, ?_⟩
    rw [mixR_all _ _ (by omega)] at HQ
    exact ⟨hU, HQ⟩

theorem eliminate_ok {h : Heap} {g gr : Nat} {vt vr : Value} {t r : List Int} {a : Addr} (HT : OwnA h tI g vt (t.map (.int .i64))) (HR : OwnA h tI gr vr (r.map (.int .i64))) (hne : g ≠ gr) (htr : t.length = r.length) {f m : Int} (hb : cellH h a = some (.int .i64 m)) (hab : a.block ≠ g)
    (ht : ∀ x ∈ t, 0 ≤ x ∧ x < m) (hr : ∀ x ∈ r, 0 ≤ x ∧ x < m) (hf : 0 ≤ f) (hfm : f < m) (hm : 2 ≤ m) (hm2 : m ≤ 2147483647) (hl : r.length ≤ 1000000) :
    CallH Tryd.prog 70 #[vt, vr, .int .i64 f, .pointer (some a)] h fun _ h' => Upd (· = g) h h' ∧ OwnA h' tI g vt (((List.range r.length).map fun c => (zf t c + (m - f) * zf r c) % m).map (.int .i64)) := by
  refine calls_of_W (l := [_, _, _, _]) mx Tryd.func70 rfl rfl rfl rfl rfl (by kernel_rfl) ?_
  refine w_seq ?_
  refine w_reg ?_
  refine r_mv (r_leni sl_I64 rfl HR.sl (r_mv (r_nil (q_t ?_))))
  refine w_block ?_
  refine w_loop 4294965632 (fun j : Nat => [(11, .int .i64 (j : Int))]) (fun k j h' => Upd (· = g) h h' ∧ k = r.length - j ∧ j ≤ r.length ∧ OwnA h' tI g vt ((mixR r.length (fun c => (zf t c + (m - f) * zf r c) % m) (zf t) j).map (.int .i64))) (by kernel_rfl) r.length 0 ?_ ⟨rfl, trivial⟩ ?_
  · exact ⟨Upd.refl _ _, by omega, by omega, by rw [mixR_zero, ← htr, range_zf]; exact HT⟩
  rintro k j s h1 ⟨hU, rfl, hj, HQ⟩
  have HRc := HR.upd hU (fun he => hne he.symm)
  have hbx := cellH_upd hb hU (fun he => hab he)
  refine w_seq ?_
  refine w_reg ?_
  refine r_lss rfl rfl (fun hc1 => ?_) (fun hc1 => ?_)   -- t12 := binOp lss 3 t11 t10 3
  · skip
    refine r_nil (q_t ?_)
    refine w_seq ?_
    refine w_true rfl ?_
    refine w_skip (q_t ?_)
    refine w_seq ?_
    refine w_block ?_
    refine w_seq ?_
    refine w_reg ?_
    refine r_mv (r_ixi sl_I64 rfl HRc.sl rfl (show r[j]? = some (zf r j) by rw [zf, List.getElem?_eq_getElem (by omega)]; rfl) fun aX haX => ?_)
    refine r_ld na_i64 rfl haX (r_as (r_as (r_nil (q_t ?_))))
    have hxb := zf_bd (by omega) hr j
    have htb := zf_bd (by omega) ht j
    have hxf := mul_bd (a := m - f) (b := zf r j) (A := 2147483647) (B := 2147483647) (by omega) (by omega) (by omega) (by omega)
    refine w_draw (by kernel_rfl) ?_
    refine r_mv (r_mv (r_mv (r_mv (r_ixi sl_I64 rfl HQ.sl rfl (mixR_at (by omega)) fun aT haT => ?_))))
    refine r_ld na_i64 rfl haT (r_ld na_i64 rfl hbx (r_mv (r_subb rfl rfl (by omega) (by omega) (r_mv (r_mulb rfl rfl (by omega) (by omega) (r_addb rfl rfl (by omega) (by omega) (r_ld na_i64 rfl hbx (r_remp rfl rfl (by omega) (by omega) (r_ixo sl_I64 rfl HQ rfl (by rw [List.length_map, mixR_len]; omega) ?_)))))))))
    refine r_sto na_i64 rfl rfl rfl HQ (by rw [List.length_map, mixR_len]; omega) ?_
    have HQ2 := HQ.setI (j := j) (by rw [mixR_len]; omega) ((zf t j + (m - f) * zf r j) % m)
    rw [mixR_set (by omega) rfl] at HQ2
    refine r_nil (q_b (q_t ?_))
    refine w_reg ?_
    refine r_inc rfl (by omega) (r_mv (r_nil (q_t ?_)))
    exact ⟨r.length - (j + 1), j + 1, by omega, ⟨hU.trans (upd_set _ _ _), rfl, by omega, HQ2⟩, rfl, trivial⟩
  · skip
    refine r_nil (q_t ?_)
    refine w_seq ?_
    refine w_false rfl ?_
    refine w_exit (q_tx (q_tx (q_bx ?_)))
    refine ⟨_, retV_none, ?_⟩
    rw [mixR_all _ _ (by omega)] at HQ
    exact ⟨hU, HQ⟩

theorem eliminator_ok (m : Int) (h : Heap) : CallH Tryd.prog 48 #[.int .i64 m] h fun v h' => h' = h.push (.cells #[.int .i64 m] tI (0, 0)) ∧ v = .func (.func 70) #[] #[.pointer (some ⟨h.size, 0, none⟩)] := by
  refine calls_of_W (l := [_]) mx Tryd.func48 rfl rfl rfl rfl rfl (by kernel_rfl) ?_
  refine w_seq ?_
  refine w_reg ?_
  refine r_box trivial rfl ⟨trivial, ?_⟩
  refine r_as (r_nil (q_t ?_))
  refine w_seq ?_
  refine w_reg ?_
  refine r_mf (l := [.pointer (some ⟨h.size, 0, none⟩)]) rfl ?_
  refine r_as (r_nil (q_t ?_))
  refine w_ret ?_
  refine ⟨_, retV_1, ?_⟩
  exact ⟨rfl, rfl⟩

end Go.Proofs.YtdlfineibanppaaDoor


/-
  Contracts of echelon, Echelon, Rank of package modular. Conditions stand in each statement.
-/
namespace Go.Proofs.YtdlfineibanppaaDoor
open Go Go.QF
set_option linter.unusedVariables false
set_option maxRecDepth 100000

theorem zf_range {c : Nat} {g : Nat → Int} {q : Nat} (hq : q < c) : zf ((List.range c).map g) q = g q := by simp [zf, hq]
theorem range_at {α : Type} {c : Nat} {g : Nat → α} {q : Nat} (hq : q < c) : ((List.range c).map g)[q]? = some (g q) := by simp [hq]
theorem range_congr {α : Type} {c : Nat} {f g : Nat → α} (h : ∀ q, q < c → f q = g q) : (List.range c).map f = (List.range c).map g := List.map_congr_left fun q hq => h q (by simpa using hq)
theorem scale_row {c : Nat} {g : Nat → Int} {f m : Int} : (List.range ((List.range c).map g).length).map (fun q => zf ((List.range c).map g) q * f % m) = (List.range c).map fun q => g q * f % m := by
  rw [List.length_map, List.length_range]
  exact range_congr fun q hq => by rw [zf_range hq]
theorem elim_row {c : Nat} {g k : Nat → Int} {f m : Int} : (List.range ((List.range c).map g).length).map (fun q => (zf ((List.range c).map k) q + (m - f) * zf ((List.range c).map g) q) % m) = (List.range c).map fun q => (k q + (m - f) * g q) % m := by
  rw [List.length_map, List.length_range]
  exact range_congr fun q hq => by rw [zf_range hq, zf_range hq]
def natV (x : Nat) : Value := .int .i64 (x : Int)
/-- What holds in the elimination: the matrix, the pivots, the number in the closure's box; nothing else of old memory has turned. -/
def EchI (h h' : Heap) (b : Nat) (gs : List Nat) (v : Value) (r c : Nat) (p : Int) (F : Nat → Nat → Int) (pv : Value) (piv : List Nat) (gs' : List Nat) : Prop :=
  Upd (· ∈ b :: gs) h h' ∧ PartM h' tR tI b gs' v r (tab r c F) ∧ (∀ g ∈ gs', g ∈ gs) ∧ Gro h' 3 (h.size + 1) pv (piv.map natV) ∧ cellH h' ⟨h.size, 0, none⟩ = some (.int .i64 p) ∧ h.size + 1 ≤ h'.size
theorem EchI.turn {h h1 h2 : Heap} {b : Nat} {gs gs1 gs2 : List Nat} {v pv : Value} {r c : Nat} {p : Int} {F F2 : Nat → Nat → Int} {piv : List Nat} (H : EchI h h1 b gs v r c p F pv piv gs1) (hlt : ∀ g ∈ b :: gs, g < h.size) {g : Nat} (hU : Upd (· = g) h1 h2) (hg : g ∈ b :: gs)
    (HP : PartM h2 tR tI b gs2 v r (tab r c F2)) (hs : ∀ g ∈ gs2, g ∈ gs) : EchI h h2 b gs v r c p F2 pv piv gs2 := by
  obtain ⟨h3, h4, h5, h6, h7, h8⟩ := H
  have hgl := hlt g hg
  refine ⟨h3.trans (hU.mono fun k _ hk => by have hk2 : k = g := hk; rw [hk2]; exact hg), HP, hs, h6.upd hU (fun k hk he => by have he2 : k = g := he; have := (h6.blk k hk).1; omega), cellH_upd h7 hU (fun he => by have he2 : h.size = g := he; omega), Nat.le_trans h8 hU.1⟩
theorem EchI.push {h h1 h2 : Heap} {b : Nat} {gs gs1 : List Nat} {v pv pv2 : Value} {r c : Nat} {p : Int} {F : Nat → Nat → Int} {piv : List Nat} {j : Nat} (H : EchI h h1 b gs v r c p F pv piv gs1) (hlt : ∀ g ∈ b :: gs, g < h.size) (HG : Gro h2 3 (h.size + 1) pv2 (piv.map natV ++ [natV j])) (hU : Upd (fun k => pv.ownBlock = some k) h1 h2) :
    EchI h h2 b gs v r c p F pv2 (piv ++ [j]) gs1 := by
  obtain ⟨h3, h4, h5, h6, h7, h8⟩ := H
  refine ⟨⟨Nat.le_trans h3.1 hU.1, fun k hk hs => (hU.2 k (Nat.lt_of_lt_of_le hk h3.1) (fun he => by have := (h6.blk k he).1; omega)).trans (h3.2 k hk hs)⟩, ?_, h5, by rw [List.map_append]; exact HG, ?_, Nat.le_trans h8 hU.1⟩
  · exact h4.upd hU (fun g hg he => by
      have := (h6.blk g he).1
      have : g ∈ b :: gs := by
        rcases List.mem_cons.1 hg with rfl | hg
        · exact List.mem_cons_self ..
        · exact List.mem_cons_of_mem _ (h5 g hg)
      have := hlt g this
      omega)
  · exact cellH_upd h7 hU (fun he => by have := (h6.blk _ he).1; dsimp only at this; omega)
theorem Mat.take {h : Heap} {a : Option Addr} {n cap k : Nat} {M : List (List Int)} (H : Mat h (.slice a n cap) M) (hk : k ≤ M.length) : Mat h (.slice a k cap) (M.take k) := by
  obtain ⟨rs, ⟨a', cap', hv, hc⟩, h2, h3⟩ := H
  injection hv with ha hn hcap
  subst ha; subst hcap
  refine ⟨rs.take k, ⟨a, cap, by rw [List.length_take, Nat.min_eq_left (by omega)], fun i x hx => ?_⟩, by simp [h2], fun i r z hr hz => ?_⟩
  · rw [List.getElem?_take] at hx
    split at hx
    · exact hc i x hx
    · cases hx
  · rw [List.getElem?_take] at hr hz
    split at hr
    · rename_i hi
      rw [if_pos hi] at hz
      exact h3 i r z hr hz
    · cases hr
theorem tab_take {r c k : Nat} {F : Nat → Nat → Int} (hk : k ≤ r) : (tab r c F).take k = tab k c F := by
  unfold tab
  rw [← List.map_take, List.take_range, Nat.min_eq_left hk]
section
variable {P : Program} {B : Heap → Prop} {st : Bool} {ops : Array Oper} {rest : List Oper} {e : Env} {h : Heap} {K : Env → Heap → Prop}
variable {d : Nat} {ty : TypeId} {pos : String} {af : Array Edge}
theorem r_lenc {x : Operand} {t el s c : Nat} {v : Value} {g : Nat → Int} (hT : SlT P t el s) (hx : e.ev x = v) (HI : Ints h v ((List.range c).map g)) (H : RL P B st ops rest (e.set d (.int .i64 (c : Int))) h K) :
    RL P B st ops (⟨some d, .call ⟨.builtin .len, #[x], #[t]⟩, ty, pos, af, none⟩ :: rest) e h K := by
  refine r_leni hT hx HI ?_
  rw [List.length_map, List.length_range]; exact H
end
theorem PartM.nodup {h : Heap} {er ei b n : Nat} {gs : List Nat} {v : Value} {M : List (List Int)} (H : PartM h er ei b gs v n M) : (b :: gs).Nodup := let ⟨_, _, _, _, _, _, h⟩ := H; h
theorem PartM.slice {h : Heap} {er ei b n : Nat} {gs : List Nat} {v : Value} {M : List (List Int)} (H : PartM h er ei b gs v n M) : ∃ cap, v = .slice (some ⟨b, 0, none⟩) n cap ∧ n ≤ cap := by
  obtain ⟨rs, ⟨cap, cur, hv, _, hl, _⟩, h2, _⟩ := H
  exact ⟨cap, by rw [← h2]; exact hv, by omega⟩

theorem echelon_ok {h : Heap} {b : Nat} {gs : List Nat} {v : Value} {r c : Nat} {F : Nat → Nat → Int} {p : Int} (HP0 : PartM h tR tI b gs v r (tab r c F)) (hr : 0 < r) (hr2 : r ≤ 1000000) (hc2 : c ≤ 1000000) (hp : Pr p) (hp2 : p ≤ 2147483647) (hbd : Bd r c p F) :
    CallH Tryd.prog 42 #[v, .int .i64 p] h fun x h' => Upd (· ∈ b :: gs) h h' ∧ ∃ vr vp, x = .tuple #[vr, vp] ∧ Mat h' vr (tab (echTo (invM p) r p F c).2.length c (echTo (invM p) r p F c).1) ∧ Sl h' vp ((echTo (invM p) r p F c).2.map natV) := by
  have hp1 := hp.1
  have HP := HP0
  refine calls_of_W (l := [_, _]) mx Tryd.func42 rfl rfl rfl rfl rfl (by kernel_rfl) ?_
  refine w_seq ?_
  refine w_reg ?_
  refine r_as (r_as (r_nil (q_t ?_)))
  refine w_seq ?_
  refine w_reg ?_
  refine r_mv (r_call trivial rfl (eliminator_ok p h) fun fv h1 hk => ?_)
  obtain ⟨rfl, rfl⟩ := hk
  refine ⟨trivial, ?_⟩
  have hpush := ext_push h (.cells #[.int .i64 p] tI (0, 0))
  have HP := PartM.ext HP hpush
  refine r_as (r_nil (q_t ?_))
  refine w_seq ?_
  refine w_reg ?_
  refine r_as (r_nil (q_t ?_))
  refine w_seq ?_
  refine w_seq ?_
  refine w_reg ?_
  refine r_mv (r_lenp sl_MM rfl HP (r_eql rfl rfl (fun hc1 => ?_) (fun hc1 => ?_)))   -- t18 := binOp eql 3 t17 0:i64 3
  · skip
    refine r_nil (q_t ?_)
    refine w_true rfl ?_
    refine w_seq ?_
    refine w_reg ?_
    refine r_as (r_as (r_nil (q_t ?_)))
    refine w_ret (q_tr ?_)
    refine ⟨_, retV_2, ?_⟩
    exact absurd hc1 (by omega)
  · skip
    refine r_nil (q_t ?_)
    refine w_false rfl ?_
    refine w_skip (q_t ?_)
    refine w_seq ?_
    refine w_seq ?_
    have hr0 : 0 < r := hr
    refine w_reg ?_
    refine r_mv (r_ixp (j := 0) sl_MM rfl HP rfl (tab_row (by omega)) fun aZ rZ gZ haZ hgZ hrZ => ?_)
    refine r_ld na_I64 rfl haZ (r_lenc sl_I64 rfl hrZ.sl ?_)
    refine r_mv (r_nil (q_t ?_))
    refine w_block ?_
    have hlt := PartM.lt HP0
    refine w_loop 10384593717069655257060992650067840 (fun y : Nat × Value => [(23, .int .i64 (y.1 : Int)), (7, y.2)]) (fun k y h' => k = c - y.1 ∧ y.1 ≤ c ∧ ∃ gs', EchI h h' b gs v r c p (echTo (invM p) r p F y.1).1 y.2 (echTo (invM p) r p F y.1).2 gs') (by kernel_rfl) c (0, .slice none 0 0) ?_ ⟨rfl, rfl, trivial⟩ ?_
    · refine ⟨rfl, by omega, gs, hpush.upd, HP, fun g hg => hg, gro_nil _ _ _, ?_, by simp⟩
      simp [cellH]
    rintro k ⟨j, pv⟩ s1 h3 ⟨rfl, hj, gs3, HIj0⟩
    dsimp only at hj HIj0 ⊢
    have hpl0 := piv_le (rc := invM p) (r := r) (m := p) (F := F) j
    refine w_seq ?_
    refine w_reg ?_
    refine r_lss rfl rfl (fun hc2 => ?_) (fun hc2 => ?_)   -- t24 := binOp lss 3 t23 t22 3
    · skip
      refine r_nil (q_t ?_)
      refine w_seq ?_
      refine w_true rfl ?_
      refine w_skip (q_t ?_)
      refine w_seq ?_
      refine w_block ?_
      refine w_seq ?_
      refine w_reg ?_
      refine r_mv (r_as (r_nil (q_t ?_)))
      refine w_seq ?_
      refine w_reg ?_
      refine r_mv (r_lens sl_II rfl HIj0.2.2.2.1.sl (r_as (r_nil (q_t ?_))))
      refine w_seq ?_
      have HIj := HIj0
      obtain ⟨Fj, hFj⟩ : ∃ Fj, (echTo (invM p) r p F j).1 = Fj := ⟨_, rfl⟩
      obtain ⟨piv, hpiv⟩ : ∃ piv, (echTo (invM p) r p F j).2 = piv := ⟨_, rfl⟩
      have hbdj : Bd r c p Fj := hFj ▸ bd_ech (by omega) hbd j
      have hpl := piv_le (rc := invM p) (r := r) (m := p) (F := F) j
      rw [hpiv] at hpl
      rw [hFj, hpiv] at HIj
      obtain ⟨top, htop⟩ : ∃ top, piv.length = top := ⟨_, rfl⟩
      rw [htop] at hpl
      simp only [hpiv, List.length_map, htop]
      have HPj := HIj.2.1
      refine w_reg ?_
      refine r_mv (r_as (r_nil (q_t ?_)))
      refine w_join 35183835218944 (fun i : Nat => [(10, .int .i64 (i : Int))]) (fun i h' => h' = h3 ∧ i = firstNZ Fj j (r - top) top ∧ i ≤ r) (by kernel_rfl) ?_ ?_
      · skip
        refine w_block ?_
        refine w_loop 35183835218944 (fun i : Nat => [(10, .int .i64 (i : Int))]) (fun k i h' => h' = h3 ∧ k = r - i ∧ top ≤ i ∧ i ≤ r ∧ ∀ q, top ≤ q → q < i → Fj q j = 0) (by kernel_rfl) (r - top) top ?_ ⟨rfl, trivial⟩ ?_
        · exact ⟨rfl, rfl, by omega, by omega, fun q h1 h2 => by omega⟩
        rintro k i s2 h3' ⟨rfl, rfl, hti, hi, hz⟩
        refine w_seq ?_
        refine w_seq ?_
        refine w_reg ?_
        refine r_mv (r_mv (r_lenp sl_MM rfl HPj (r_lss rfl rfl (fun hc3 => ?_) (fun hc3 => ?_))))   -- t32 := binOp lss 3 t29 t31 3
        · skip
          refine r_mv (r_want 33 true (by kernel_rfl) rfl rfl (r_mv (r_want 33 true (by kernel_rfl) rfl rfl (r_mv (r_want 33 true (by kernel_rfl) rfl rfl (r_ixp sl_MM rfl HPj rfl (tab_row (by omega)) fun aA rA gA haA hgA hrA => ?_))))))
          refine r_want 33 true (by kernel_rfl) rfl rfl (r_ld na_I64 rfl haA (r_want 33 true (by kernel_rfl) rfl rfl (r_mv (r_want 33 true (by kernel_rfl) rfl rfl (r_ixi sl_I64 rfl hrA.sl rfl (range_at (by omega)) fun aB haB => ?_)))))
          refine r_want 33 true (by kernel_rfl) rfl rfl (r_ld na_i64 rfl haB (r_want 33 true (by kernel_rfl) rfl rfl (r_eql rfl rfl (fun hc4 => ?_) (fun hc4 => ?_))))   -- t41 := binOp eql 2 t40 0:i64 2   [guard op4 true]
          · skip
            refine r_pickT rfl (r_nil (q_t ?_))
            refine w_true rfl ?_
            refine w_skip (q_t ?_)
            refine w_block ?_
            refine w_reg ?_
            refine r_mv (r_inc rfl (by omega) (r_as (r_nil (q_b (q_t ?_)))))
            refine ⟨r - (i + 1), i + 1, by omega, ⟨rfl, rfl, by omega, by omega, fun q h1 h2 => ?_⟩, rfl, trivial⟩
            rcases Nat.lt_or_ge q i with hq | hq
            · exact hz q h1 hq
            · obtain rfl : q = i := by omega
              exact hc4
          · skip
            refine r_pickT rfl (r_nil (q_t ?_))
            refine w_false rfl ?_
            refine w_exit (q_tx (q_tx (q_bx (q_t ?_))))
            exact ⟨i, ⟨rfl, (firstNZ_uniq hti (by omega) hz (fun _ => hc4)).symm, by omega⟩, rfl, trivial⟩
        · skip
          refine r_mv (r_skip 33 false (by kernel_rfl) rfl rfl (r_skip 33 false (by kernel_rfl) rfl rfl (r_skip 33 false (by kernel_rfl) rfl rfl (r_skip 33 false (by kernel_rfl) rfl rfl (r_skip 33 false (by kernel_rfl) rfl rfl (r_skip 33 false (by kernel_rfl) rfl rfl (r_skip 33 false (by kernel_rfl) rfl rfl (r_skip 33 false (by kernel_rfl) rfl rfl (r_pickF rfl (r_nil (q_t ?_)))))))))))
          refine w_false rfl ?_
          refine w_exit (q_tx (q_tx (q_bx (q_t ?_))))
          exact ⟨i, ⟨rfl, (firstNZ_uniq hti (by omega) hz (fun hlt => absurd hlt (by omega))).symm, by omega⟩, rfl, trivial⟩
      rintro i s2 h3' ⟨rfl, hi, hir⟩
      refine w_seq ?_
      refine w_seq ?_
      refine w_reg ?_
      refine r_mv (r_mv (r_lenp sl_MM rfl HPj (r_eql rfl rfl (fun hc5 => ?_) (fun hc5 => ?_))))   -- t48 := binOp eql 3 t45 t47 3
      · skip
        refine r_nil (q_t ?_)
        refine w_true rfl ?_
        refine w_exit (q_tx (q_bx (q_t ?_)))
        refine w_reg ?_
        refine r_inc rfl (by omega) (r_mv (r_nil (q_t ?_)))
        have hS : echTo (invM p) r p F (j + 1) = echTo (invM p) r p F j := by
          simp only [echTo, colS]
          rw [hFj, hpiv, htop, ← hi, if_neg (by omega)]
        refine ⟨c - (j + 1), (j + 1, pv), by first | omega | (dsimp only; omega), ⟨rfl, by first | omega | (dsimp only; omega), gs3, ?_⟩, rfl, rfl, trivial⟩
        dsimp only
        rw [hS]
        exact HIj0
      · skip
        refine r_nil (q_t ?_)
        refine w_false rfl ?_
        refine w_skip (q_t ?_)
        refine w_seq ?_
        have hir : i < r := by omega
        have hti : top ≤ i := by rw [hi]; exact (firstNZ_le Fj j (r - top) top).1
        have htr : top < r := by omega
        refine w_draw (by kernel_rfl) ?_
        refine r_mv (r_mv (r_mv (r_mv (r_mv (r_mv (r_ixp sl_MM rfl HPj rfl (tab_row (by omega)) fun aI rI gI haI hgI hrI => ?_))))))
        refine r_ld na_I64 rfl haI (r_mv (r_mv (r_ixp sl_MM rfl HPj rfl (tab_row (by omega)) fun aT rT gT haT hgT hrT => ?_)))
        refine r_ld na_I64 rfl haT ?_
        obtain ⟨rs, HT, hrl⟩ := PartM.top HPj
        refine r_ixo sl_MM rfl HT rfl (by omega) ?_
        refine r_sto na_I64 rfl rfl hrI.one HT (by omega) ?_
        have HT2 := HT.set top rI (by omega)
        refine r_ixo sl_MM rfl HT2 rfl (by simp; omega) ?_
        refine r_sto na_I64 rfl rfl hrT.one HT2 (by simp; omega) ?_
        have HP2 := PartM.swap HPj hgT hgI (tab_row htr) (tab_row hir) hrT hrI
        rw [tab_setF, tab_setF] at HP2
        have HI2 := HIj.turn hlt ((upd_set _ ⟨b, top, none⟩ rI).trans (upd_set _ ⟨b, i, none⟩ rT)) (List.mem_cons_self ..) (F2 := swapF Fj top i) HP2 (fun g hg => HIj.2.2.1 g (mem_swap hgT hgI hg))
        have HP2 := HI2.2.1
        have hbd2 := bd_swap hbdj htr hir
        have hx0 : swapF Fj top i top j ≠ 0 := by
          have : swapF Fj top i top = Fj i := by unfold swapF; by_cases he : top = i
                                                 · subst he; rw [setF_same]
                                                 · rw [setF_ne _ _ he, setF_same]
          rw [this, hi]; exact firstNZ_ne Fj j (r - top) top (by omega)
        have hxb := hbd2 top j htr (by omega)
        refine r_nil (q_t ?_)
        refine w_seq ?_
        refine w_reg ?_
        refine r_mv (r_mv (r_ixp sl_MM rfl HP2 rfl (tab_row (by omega)) fun aR rR gR haR hgR hrR => ?_))
        refine r_ld na_I64 rfl haR (r_mv (r_ixi sl_I64 rfl hrR.sl rfl (range_at (by omega)) fun aX haX => ?_))
        refine r_ld na_i64 rfl haX (r_mv (r_call trivial rfl (reciprocal_ok (x := swapF Fj top i top j) (m := p) (by omega) (by omega) (by omega) hp2 _) fun rv h4 hk => ?_))
        obtain ⟨rfl, inv, ok, rfl, hi0, him, hok, hno⟩ := hk
        refine ⟨trivial, ?_⟩
        have hinv : inv = invM p (swapF Fj top i top j) := by
          have hex := isInv_exists hp (x := swapF Fj top i top j) (by omega) (by omega)
          cases ok with
          | true => exact (invM_eq (hok rfl)).symm
          | false => exact absurd hex (hno rfl)
        refine r_mv (r_ext rfl rfl (r_ext rfl rfl (r_as (r_as (r_nil (q_t ?_))))))
        refine w_seq ?_
        refine w_reg ?_
        refine r_mv (r_mv (r_ixp sl_MM rfl HP2 rfl (tab_row (by omega)) fun aS rS gS haS hgS hrS => ?_))
        refine r_ld na_I64 rfl haS (r_mv (r_mv (r_call trivial rfl (scale_ok hrS (row_bd hbd2 (by omega)) hi0 him (by omega) hp2 (by simp; omega)) fun sv h5 hk => ?_)))
        obtain ⟨hU5, HO5⟩ := hk
        refine ⟨trivial, ?_⟩
        rw [scale_row] at HO5
        have HP5 := PartM.setRow' HI2.2.1 hgS hU5 (tab_row (by omega)) hrS HO5
        rw [tab_setF] at HP5
        have HP2x := HP5
        have HI5 := HI2.turn hlt hU5 (List.mem_cons_of_mem _ (HI2.2.2.1 _ (List.mem_of_getElem? hgS))) (F2 := scaleF (swapF Fj top i) top inv p) HP5 HI2.2.2.1
        refine r_nil (q_t ?_)
        refine w_seq ?_
        refine w_seq ?_
        have HP2 := HI5.2.1
        have hbd5 := bd_scale (a := top) (f := inv) (by omega : 0 < p) hbd2
        refine w_reg ?_
        refine r_mv (r_lenp sl_MM rfl HP2 (r_mv (r_nil (q_t ?_))))
        refine w_block ?_
        refine w_loop 324518534315613612949089225285632 (fun q : Nat => [(84, .int .i64 (q : Int))]) (fun k q h' => k = r - q ∧ q ≤ r ∧ EchI h h' b gs v r c p (elimF (scaleF (swapF Fj top i) top inv p) top j p q) pv piv ((gs3.set top gI).set i gT)) (by kernel_rfl) r 0 ?_ ⟨rfl, trivial⟩ ?_
        · exact ⟨rfl, by omega, by rw [elimF_zero]; exact HI5⟩
        rintro k q s3 h6 ⟨rfl, hq, HIk⟩
        have HPk := HIk.2.1
        refine w_seq ?_
        refine w_reg ?_
        refine r_lss rfl rfl (fun hc6 => ?_) (fun hc6 => ?_)   -- t85 := binOp lss 3 t84 t83 3
        · skip
          refine r_nil (q_t ?_)
          refine w_seq ?_
          refine w_true rfl ?_
          refine w_skip (q_t ?_)
          refine w_seq ?_
          refine w_block ?_
          refine w_seq ?_
          refine w_reg ?_
          refine r_mv (r_as (r_nil (q_t ?_)))
          refine w_seq ?_
          refine w_reg ?_
          refine r_mv (r_mv (r_neq rfl rfl (fun hc7 => ?_) (fun hc7 => ?_)))   -- t89 := binOp neq 3 t87 t88 3
          · skip
            refine r_nil (q_t ?_)
            refine w_true rfl ?_
            have hbk := bd_elim (k := q) (top := top) (j := j) (by omega : 0 < p) hbd5
            have hY := hbk q j (by omega) (by omega)
            refine w_draw (by kernel_rfl) ?_
            refine r_mv (r_mv (r_mv (r_ixp sl_MM rfl HPk rfl (tab_row (by omega)) fun aK rK gK haK hgK hrK => ?_)))
            refine r_ld na_I64 rfl haK (r_mv (r_mv (r_ixp sl_MM rfl HPk rfl (tab_row (by omega)) fun aL rL gL haL hgL hrL => ?_)))
            refine r_ld na_I64 rfl haL ?_
            have hgKm : gK ∈ b :: gs := List.mem_cons_of_mem _ (HIk.2.2.1 _ (List.mem_of_getElem? hgK))
            have hneKL : gK ≠ gL := fun he => absurd (nodup_getElem?_inj (List.nodup_cons.1 (PartM.nodup HIk.2.1)).2 hgK (he ▸ hgL)) (by omega)
            refine r_mv ?_
            refine r_mv (r_ixp sl_MM rfl HPk rfl (tab_row (by omega)) fun aN rN gN haN hgN hrN => ?_)
            refine r_ld na_I64 rfl haN (r_mv (r_ixi sl_I64 rfl hrN.sl rfl (range_at (by omega)) fun aY haY => ?_))
            refine r_ld na_i64 rfl haY (r_callc trivial rfl rfl (eliminate_ok (a := ⟨h.size, 0, none⟩) hrK hrL (hneKL) (by simp) HIk.2.2.2.2.1 (by have := hlt _ hgKm; dsimp only; omega) (row_bd hbk (by omega)) (row_bd hbk (by omega)) hY.1 hY.2 (by omega) hp2 (by simp; omega)) fun ev h7 hk => ?_)
            obtain ⟨hU7, HO7⟩ := hk
            refine ⟨trivial, ?_⟩
            rw [elim_row] at HO7
            have HP7 := PartM.setRow' HIk.2.1 hgK hU7 (tab_row (by omega)) hrK HO7
            rw [tab_setF] at HP7
            simp only [elimF_at, elimF_top] at HP7
            rw [elimF_step (by omega)] at HP7
            have HI7 := HIk.turn hlt hU7 (hgKm) HP7 HIk.2.2.1
            refine r_nil (q_b (q_t ?_))
            refine w_reg ?_
            refine r_inc rfl (by omega) (r_mv (r_nil (q_t ?_)))
            exact ⟨r - (q + 1), q + 1, by omega, ⟨rfl, by omega, HI7⟩, rfl, trivial⟩
          · skip
            refine r_nil (q_t ?_)
            refine w_false rfl ?_
            refine w_skip (q_b (q_t ?_))
            refine w_reg ?_
            refine r_inc rfl (by omega) (r_mv (r_nil (q_t ?_)))
            obtain rfl : q = top := by omega
            exact ⟨r - (q + 1), q + 1, by omega, ⟨rfl, by omega, by rw [elimF_skip]; exact HIk⟩, rfl, trivial⟩
        · skip
          refine r_nil (q_t ?_)
          refine w_seq ?_
          refine w_false rfl ?_
          refine w_exit (q_tx (q_tx (q_bx (q_t ?_))))
          refine w_reg ?_
          refine r_mv (r_mv ?_)
          have hqr : q = r := by omega
          rw [hqr] at HIk
          have HG := HIk.2.2.2.1
          refine r_push sl_II ze_int rfl (fun _ => trivial) (fun _ => rfl) rfl rfl HG HIk.2.2.2.2.2 (by omega) (by simp; omega) fun p' pv2 h8 HG8 hU8 hb8 => ?_
          refine r_as (r_nil (q_b (q_t ?_)))
          refine w_reg ?_
          refine r_inc rfl (by omega) (r_mv (r_nil (q_t ?_)))
          have hS : echTo (invM p) r p F (j + 1) = (elimF (scaleF (swapF Fj top i) top inv p) top j p r, piv ++ [j]) := by
            simp only [echTo, colS]
            rw [hFj, hpiv, htop, ← hi, if_pos (by omega), hinv]
          refine ⟨c - (j + 1), (j + 1, pv2), by first | omega | (dsimp only; omega), ⟨rfl, by first | omega | (dsimp only; omega), (gs3.set top gI).set i gT, ?_⟩, rfl, rfl, trivial⟩
          dsimp only
          rw [hS]
          exact HIk.push hlt HG8 hU8
    · skip
      refine r_nil (q_t ?_)
      refine w_seq ?_
      refine w_false rfl ?_
      refine w_exit (q_tx (q_tx (q_bx (q_t ?_))))
      refine w_seq ?_
      refine w_reg ?_
      refine r_mv (r_mv (r_lens sl_II rfl HIj0.2.2.2.1.sl ?_))
      obtain ⟨cap, hv, hcap⟩ := PartM.slice HIj0.2.1
      refine r_slTo sl_MM hv rfl (by simp only [List.length_map]; omega) ?_
      refine r_mv (r_as (r_as (r_nil (q_t ?_))))
      refine w_ret ?_
      refine ⟨_, retV_2, ?_⟩
      obtain rfl : j = c := by omega
      have HM := (show OwnM h3 tR tI b gs3 v (tab r j _) by unfold OwnM; rw [tab_len]; exact HIj0.2.1).mat
      rw [hv] at HM
      have HM2 := Mat.take HM (k := ((echTo (invM p) r p F j).2.map natV).length) (by rw [tab_len, List.length_map]; omega)
      rw [tab_take (by rw [List.length_map]; omega)] at HM2
      have HM3 : Mat h3 (.slice (some ⟨b, 0, none⟩) ((echTo (invM p) r p F j).2.map natV).length cap) (tab (echTo (invM p) r p F j).2.length j (echTo (invM p) r p F j).1) := by
        simp only [List.length_map] at HM2 ⊢; exact HM2
      exact ⟨HIj0.1, _, _, rfl, HM3, HIj0.2.2.2.1.sl⟩

end Go.Proofs.YtdlfineibanppaaDoor


/-
  Contracts of Echelon, Rank and Kernel of package modular, for every argument.
-/
namespace Go.Proofs.YtdlfineibanppaaDoor
open Go Go.QF
set_option linter.unusedVariables false
set_option maxRecDepth 100000

theorem mem_take_succ {l : List Nat} {i q : Nat} (hi : i < l.length) : q ∈ l.take (i + 1) ↔ q ∈ l.take i ∨ q = l[i] := by
  rw [← take_snoc (List.getElem?_eq_getElem hi), List.mem_append, List.mem_singleton]
theorem map_const {α : Type} (n : Nat) (x : α) : (List.range n).map (fun _ => x) = List.replicate n x := List.ext_getElem (by simp) fun i h1 h2 => by simp
def PostE (h : Heap) (err : Int) (S : List (List Int)) (piv : List Nat) (x : Value) (h' : Heap) : Prop := Ext h h' ∧ ∃ vr vp, x = .tuple #[vr, vp, .int .i64 err] ∧ Mat h' vr S ∧ Sl h' vp (piv.map natV)
/-- What Kernel leaves: the matrix is only read afterwards. -/
def PostK (h : Heap) (err : Int) (S : List (List Int)) (v : Value) (h' : Heap) : Prop := Ext h h' ∧ ∃ r, v = .tuple #[r, .int .i64 err] ∧ Mat h' r S

theorem echelon_nil (p : Int) {h : Heap} {v : Value} (HS : Sl h v []) : CallH Tryd.prog 42 #[v, .int .i64 p] h fun x h' => Ext h h' ∧ x = .tuple #[.slice none 0 0, .slice none 0 0] := by
  refine calls_of_W (l := [_, _]) mx Tryd.func42 rfl rfl rfl rfl rfl (by kernel_rfl) ?_
  refine w_seq ?_
  refine w_reg ?_
  refine r_as (r_as (r_nil (q_t ?_)))
  refine w_seq ?_
  refine w_reg ?_
  refine r_mv (r_call trivial rfl (eliminator_ok p h) fun fv h1 hk => ?_)
  obtain ⟨rfl, rfl⟩ := hk
  refine ⟨trivial, ?_⟩
  refine r_as (r_nil (q_t ?_))
  refine w_seq ?_
  refine w_reg ?_
  refine r_as (r_nil (q_t ?_))
  refine w_seq ?_
  refine w_seq ?_
  refine w_reg ?_
  refine r_mv (r_lens sl_MM rfl (Sl.ext HS (ext_push _ _)) ?_)
  refine r_eql (b := 0) rfl rfl (fun hc1 => ?_) (fun hc1 => absurd rfl hc1)
  refine r_nil (q_t ?_)
  refine w_true rfl ?_
  refine w_seq ?_
  refine w_reg ?_
  refine r_as (r_as (r_nil (q_t ?_)))
  refine w_ret (q_tr ?_)
  refine ⟨_, retV_2, ?_⟩
  exact ⟨ext_push _ _, rfl⟩

/-- A basis that has grown is brought to echelon form. -/
theorem echelonG_ok {h : Heap} {lo : Nat} {v : Value} {gs : List Nat} {Z : List (List Int)} {c : Nat} {p : Int} (HG : GroM h tR tI lo v gs Z) (hZ : ∀ z ∈ Z, z.length = c) (hr2 : Z.length ≤ 1000000) (hc2 : c ≤ 1000000) (hp : Pr p) (hp2 : p ≤ 2147483647) (hrem : Rem p Z) :
    CallH Tryd.prog 42 #[v, .int .i64 p] h fun x h' => Upd (lo ≤ ·) h h' ∧ ∃ vr vp, x = .tuple #[vr, vp] ∧ Mat h' vr (echZ Z c p) := by
  have hp1 := hp.1
  cases Z with
  | nil =>
    obtain ⟨rs, hrs, hl⟩ := HG.gro
    obtain rfl : rs = [] := List.eq_nil_of_length_eq_zero hl
    refine (echelon_nil p hrs.sl).mono fun x h' hk => ?_
    obtain ⟨hE, rfl⟩ := hk
    exact ⟨hE.upd, _, _, rfl, by rw [echZ_nil]; exact mat_nil _⟩
  | cons z0 Z0 =>
    obtain ⟨b, HO, hb⟩ := HG.own (by simp)
    have ht := tab_eq hZ
    have HO2 : PartM h tR tI b gs v (z0 :: Z0).length (tab (z0 :: Z0).length c (ent (z0 :: Z0))) := by rw [← ht]; exact HO
    refine (echelon_ok HO2 (by simp) hr2 hc2 hp hp2 (bd_ent (by omega) hrem)).mono fun x h' hk => ?_
    obtain ⟨hU, vr, vp, rfl, HM, HS⟩ := hk
    exact ⟨hU.mono fun k _ hk => hb k hk, vr, vp, rfl, HM⟩

theorem Echelon_ok {h : Heap} {v : Value} {M : List (List Int)} (HM : Mat h v M) (p : Int) (HO : OffH h) : CallH Tryd.prog 25 #[v, .int .i64 p] h (PostE h (echE M p) (echS M p) (pivS M p)) := by
  refine calls_of_W (l := [_, _]) mx Tryd.func25 rfl rfl rfl rfl rfl (by kernel_rfl) ?_
  refine w_seq ?_
  refine w_reg ?_
  refine r_as (r_as (r_as (r_nil (q_t ?_))))
  refine w_seq ?_
  refine w_seq ?_
  refine w_reg ?_
  refine r_mv (r_mv (r_call trivial rfl (checkPrime_ok HM p HO) fun v' h hk => ?_))
  obtain ⟨rfl, rfl⟩ := hk
  refine ⟨trivial, ?_⟩
  refine r_as (r_nil (q_t ?_))
  refine w_seq ?_
  refine w_reg ?_
  refine r_mv (r_neq rfl rfl (fun hc1 => ?_) (fun hc1 => ?_))   -- t14 := binOp neq 30 t13 0:i64 30
  · skip
    refine r_nil (q_t ?_)
    refine w_true rfl ?_
    refine w_seq ?_
    refine w_reg ?_
    refine r_mv (r_as (r_as (r_as (r_nil (q_t ?_)))))
    refine w_ret (q_tr ?_)
    refine ⟨_, retV_3, ?_⟩
    have hpb := echE_not (M := M) (p := p) (by unfold echE; omega)
    exact ⟨Ext.refl _, _, _, rfl, by simp only [echS, hpb]; exact mat_nil _, by simp only [pivS, hpb]; exact sl_nil _⟩
  · skip
    refine r_nil (q_t ?_)
    refine w_false rfl ?_
    refine w_skip (q_t ?_)
    refine w_seq ?_
    refine w_reg ?_
    refine r_mv (r_mv ?_)
    have hpb := echE_of (M := M) (p := p) (by unfold echE; omega)
    obtain ⟨hv, hp2, hp⟩ := priB_of hpb
    have hp1 := hp.1
    have hv1 := hv.1
    have hv2 := hv.2.1
    have hv4 := hv.2.2.2.1
    refine r_call trivial rfl (residues_ok HM hp1 hp2 (by omega) (valid_le hv)) fun r1 h2 hk => ?_
    obtain ⟨hE1, b, gs, HO1, hb⟩ := hk
    refine ⟨trivial, ?_⟩
    have hlr := red_len M p
    have HO2 : PartM h2 tR tI b gs r1 M.length (tab M.length (cols M) (ent (redM M p))) := by
      have ht := tab_eq (A := redM M p) (c := cols M) (red_rows hv.2.2.2.2)
      rw [hlr] at ht
      rw [← ht]
      have : OwnM h2 tR tI b gs r1 (redM M p) := HO1
      unfold OwnM at this
      rw [hlr] at this
      exact this
    refine r_mv (r_call trivial rfl (echelon_ok HO2 (by omega) (by omega) (by omega) hp hp2 (by have := bd_ent (c := cols M) (by omega : 0 < p) (rem_red (by omega : 0 < p) M); rw [hlr] at this; exact this)) fun x2 h3 hk => ?_)
    obtain ⟨hU, vr, vp, rfl, HM2, HS2⟩ := hk
    refine ⟨trivial, ?_⟩
    refine r_mv (r_ext rfl rfl (r_ext rfl rfl (r_as (r_as (r_nil (q_t ?_))))))
    refine w_seq ?_
    refine w_reg ?_
    refine r_mv (r_mv (r_as (r_as (r_as (r_nil (q_t ?_))))))
    refine w_ret ?_
    refine ⟨_, retV_3, ?_⟩
    refine ⟨hE1.thenUpd hU (fun k hk => hb k hk), vr, vp, ?_, by simp only [echS, hpb]; exact HM2, by simp only [pivS, hpb]; exact HS2⟩
    have : echE M p = 0 := by unfold echE; omega
    rw [this]; rfl

theorem Kernel_ok {h : Heap} {v : Value} {M : List (List Int)} (HM : Mat h v M) (p : Int) (HO : OffH h) : CallH Tryd.prog 19 #[v, .int .i64 p] h (PostK h (echE M p) (kerS M p)) := by
  refine calls_of_W (l := [_, _]) mx Tryd.func19 rfl rfl rfl rfl rfl (by kernel_rfl) ?_
  refine w_seq ?_
  refine w_reg ?_
  refine r_as (r_as (r_nil (q_t ?_)))
  refine w_seq ?_
  refine w_reg ?_
  refine r_mv (r_mv (r_call trivial rfl (Echelon_ok HM p HO) fun x1 h1 hk => ?_))
  obtain ⟨hE1, vr, vp, rfl, HM2, HS2⟩ := hk
  refine ⟨trivial, ?_⟩
  refine r_mv (r_ext rfl rfl (r_ext rfl rfl (r_ext rfl rfl (r_as (r_as (r_as (r_nil (q_t ?_))))))))
  refine w_seq ?_
  refine w_seq ?_
  refine w_reg ?_
  refine r_mv (r_neq rfl rfl (fun hc1 => ?_) (fun hc1 => ?_))   -- t28 := binOp neq 30 t27 0:i64 30
  · skip
    refine r_nil (q_t ?_)
    refine w_true rfl ?_
    refine w_seq ?_
    refine w_reg ?_
    refine r_mv (r_as (r_as (r_nil (q_t ?_))))
    refine w_ret (q_tr ?_)
    refine ⟨_, retV_2, ?_⟩
    have hpb := echE_not (M := M) (p := p) (by omega)
    exact ⟨hE1, _, rfl, by simp only [kerS, hpb]; exact mat_nil _⟩
  · skip
    refine r_nil (q_t ?_)
    refine w_false rfl ?_
    refine w_skip (q_t ?_)
    refine w_seq ?_
    have hpb := echE_of (M := M) (p := p) (by omega)
    obtain ⟨hv, hp2, hp⟩ := priB_of hpb
    have hp1 := hp.1
    have hv1 := hv.1
    have hv2 := hv.2.1
    have hv4 := hv.2.2.2.1
    have hc0 := cols_eq (M := M) (by omega)
    have hbd := bd_eF (M := M) (p := p) (by omega)
    have hpl := piv_eF M p
    simp only [echS, hpb, if_true] at HM2
    simp only [pivS, hpb, if_true] at HS2
    obtain ⟨Fe, hFe⟩ : ∃ Fe, (eF M p).1 = Fe := ⟨_, rfl⟩
    obtain ⟨piv, hpiv⟩ : ∃ piv, (eF M p).2 = piv := ⟨_, rfl⟩
    rw [hFe, hpiv] at HM2
    rw [hpiv] at HS2 hpl
    rw [hFe] at hbd
    refine w_reg ?_
    refine r_mv (r_ixmE (n := 0) sl_MM rfl HM hE1 rfl (List.getElem?_eq_getElem (by omega)) fun aZ rZ haZ hrZ => ?_)
    refine r_ld na_I64 rfl haZ (r_leni sl_I64 rfl (Ints.ext hrZ hE1) ?_)
    rw [← hc0]
    refine r_as (r_nil (q_t ?_))
    refine w_seq ?_
    refine w_reg ?_
    refine r_mv (r_mk (n := cols M) sl_BB ze_bool rfl trivial rfl rfl (by omega) (by omega) ⟨trivial, ?_⟩)
    have hF0 := ext_push h1 (.cells (List.replicate (cols M) (.bool false)).toArray 4 (0, 0))
    have HB0 := ownA_new h1 4 (cols M) (.bool false) (by unfold maxLen; omega)
    refine r_as (r_nil (q_t ?_))
    refine w_seq ?_
    refine w_seq ?_
    refine w_reg ?_
    refine r_mv (r_lens sl_II rfl (HS2.ext hF0) ?_)
    refine r_mv (r_nil (q_t ?_))
    refine w_block ?_
    refine w_loop 70093866274816 (fun i : Nat => [(38, .int .i64 (i : Int))]) (fun k i h' => Ext h1 h' ∧ k = piv.length - i ∧ i ≤ piv.length ∧ OwnA h' 4 h1.size (.slice (some ⟨h1.size, 0, none⟩) (cols M) (cols M)) ((List.range (cols M)).map fun q => Value.bool (decide (q ∈ piv.take i))) ∧ h1.size + 1 ≤ h'.size) (by kernel_rfl) piv.length 0 ?_ ⟨rfl, trivial⟩ ?_
    · exact ⟨hF0, by omega, by omega, by simpa [map_const] using HB0, by simp⟩
    rintro k i s h2 ⟨hF, rfl, hi, HBi, hsz⟩
    refine w_seq ?_
    rw [List.length_map]
    refine w_reg ?_
    refine r_lss rfl rfl (fun hc2 => ?_) (fun hc2 => ?_)   -- t39 := binOp lss 3 t38 t37 3
    · skip
      refine r_nil (q_t ?_)
      refine w_seq ?_
      refine w_true rfl ?_
      refine w_skip (q_t ?_)
      refine w_seq ?_
      refine w_block ?_
      refine w_seq ?_
      refine w_reg ?_
      have hip : i < piv.length := by omega
      have hpi := hpl.2.2 piv[i] (List.getElem_mem _)
      refine r_ixs sl_II rfl (HS2.ext hF) rfl (show (piv.map natV)[i]? = some (natV piv[i]) by rw [List.getElem?_map, List.getElem?_eq_getElem hip]; rfl) fun aP haP => ?_
      refine r_ld na_int rfl haP (r_as (r_nil (q_t ?_)))
      refine w_reg ?_
      refine r_mv (r_mv (r_ixo (n := piv[i]) sl_BB rfl HBi rfl (by simp; omega) ?_))
      refine r_sto na_bool rfl rfl rfl HBi (by simp; omega) ?_
      have HB2 := HBi.set piv[i] (.bool true) (by simp; omega)
      rw [range_set (g := fun q => Value.bool (decide (q ∈ piv.take (i + 1)))) (fun q _ hne => by simp [mem_take_succ hip, hne]) (by simp [mem_take_succ hip])] at HB2
      refine r_nil (q_b (q_t ?_))
      refine w_reg ?_
      refine r_inc rfl (by omega) (r_mv (r_nil (q_t ?_)))
      refine ⟨piv.length - (i + 1), i + 1, by omega, ⟨hF.thenUpd (upd_set _ _ _) (fun k hk => by have hk2 : k = h1.size := hk; omega), rfl, by omega, HB2, by rw [size_setH]; exact hsz⟩, rfl, trivial⟩
    · skip
      refine r_nil (q_t ?_)
      refine w_seq ?_
      refine w_false rfl ?_
      refine w_exit (q_tx (q_tx (q_bx (q_t ?_))))
      refine w_seq ?_
      refine w_reg ?_
      refine r_as (r_nil (q_t ?_))
      refine w_seq ?_
      refine w_seq ?_
      obtain rfl : i = piv.length := by omega
      rw [List.take_length] at HBi
      refine w_reg ?_
      refine r_mv (r_mv (r_nil (q_t ?_)))
      refine w_block ?_
      refine w_loop 77371252455195529693093888 (fun y : Nat × Value => [(47, .int .i64 (y.1 : Int)), (13, y.2)]) (fun k y h' => Ext h1 h' ∧ k = cols M - y.1 ∧ y.1 ≤ cols M ∧ OwnA h' 4 h1.size (.slice (some ⟨h1.size, 0, none⟩) (cols M) (cols M)) ((List.range (cols M)).map fun q => Value.bool (decide (q ∈ piv))) ∧ h1.size + 1 ≤ h'.size ∧ ∃ gs, GroM h' tR tI (h1.size + 1) y.2 gs (kerB Fe piv p (cols M) y.1)) (by kernel_rfl) (cols M) (0, .slice none 0 0) ?_ ⟨rfl, rfl, trivial⟩ ?_
      · exact ⟨hF, by omega, by omega, HBi, hsz, [], groM_nil _ _ _ _⟩
      rintro k ⟨f, ba⟩ s2 h2 ⟨hF, rfl, hf, HBf, hsz, gs, HZ⟩
      dsimp only at hf HZ ⊢
      refine w_seq ?_
      refine w_reg ?_
      refine r_lss rfl rfl (fun hc3 => ?_) (fun hc3 => ?_)   -- t48 := binOp lss 3 t47 t46 3
      · skip
        refine r_nil (q_t ?_)
        refine w_seq ?_
        refine w_true rfl ?_
        refine w_skip (q_t ?_)
        refine w_seq ?_
        refine w_block ?_
        refine w_seq ?_
        refine w_reg ?_
        refine r_mv (r_as (r_nil (q_t ?_)))
        refine w_seq ?_
        refine w_seq ?_
        refine w_reg ?_
        refine r_mv (r_mv (r_ixs sl_BB rfl HBf.sl rfl (range_at (by omega)) fun aQ haQ => ?_))
        refine r_ld na_bool rfl haQ (r_nil (q_t ?_))
        refine ⟨_, rfl, fun hc4 => ?_, fun hc4 => ?_⟩
        · skip
          refine w_exit (q_tx (q_bx (q_t ?_)))
          refine w_reg ?_
          refine r_inc rfl (by omega) (r_mv (r_nil (q_t ?_)))
          have hmem : f ∈ piv := by simpa using hc4
          refine ⟨cols M - (f + 1), (f + 1, ba), by first | omega | (dsimp only; omega), ⟨hF, rfl, by first | omega | (dsimp only; omega), HBf, hsz, gs, ?_⟩, rfl, rfl, trivial⟩
          dsimp only
          rw [kerB_no hmem]
          exact HZ
        · skip
          refine w_skip (q_t ?_)
          refine w_seq ?_
          refine w_reg ?_
          refine r_mv (r_mk (n := cols M) sl_I64 ze_i64 rfl trivial rfl rfl (by omega) (by omega) ⟨trivial, ?_⟩)
          have hF2 := ext_push h2 (.cells (List.replicate (cols M) (.int .i64 0)).toArray tI (0, 0))
          have HX0 := ownI_new h2 tI (cols M) 0 (by unfold maxLen; omega)
          refine r_as (r_nil (q_t ?_))
          refine w_seq ?_
          refine w_reg ?_
          refine r_mv (r_mv (r_ixo (n := f) sl_I64 rfl HX0 rfl (by simp; omega) ?_))
          refine r_sto na_i64 rfl rfl rfl HX0 (by simp; omega) ?_
          have HX1 := HX0.setI (j := f) (by simp; omega) 1
          rw [← range_rep, range_set (g := kerF Fe piv p f 0) (fun q _ hne => by simp [kerF, hne]) (by simp [kerF])] at HX1
          have hF2 := hF2.thenUpd (upd_set _ ⟨h2.size, f, none⟩ (.int .i64 1)) (fun k hk => by have hk2 : k = h2.size := hk; omega)
          refine r_nil (q_t ?_)
          refine w_seq ?_
          refine w_seq ?_
          refine w_reg ?_
          refine r_mv (r_lens sl_II rfl (HS2.ext (hF.trans hF2)) ?_)
          refine r_mv (r_nil (q_t ?_))
          refine w_block ?_
          refine w_loop 2417849333386249135915008 (fun i : Nat => [(61, .int .i64 (i : Int))]) (fun k i h' => Ext h2 h' ∧ k = piv.length - i ∧ i ≤ piv.length ∧ OwnA h' tI h2.size (.slice (some ⟨h2.size, 0, none⟩) (cols M) (cols M)) (((List.range (cols M)).map (kerF Fe piv p f i)).map (.int .i64))) (by kernel_rfl) piv.length 0 ?_ ⟨rfl, trivial⟩ ?_
          · exact ⟨hF2, by omega, by omega, HX1⟩
          rintro k i s3 h3 ⟨hG, rfl, hi, HX⟩
          refine w_seq ?_
          rw [List.length_map]
          refine w_reg ?_
          refine r_lss rfl rfl (fun hc5 => ?_) (fun hc5 => ?_)   -- t62 := binOp lss 3 t61 t60 3
          · skip
            refine r_nil (q_t ?_)
            refine w_seq ?_
            refine w_true rfl ?_
            refine w_skip (q_t ?_)
            refine w_seq ?_
            refine w_block ?_
            refine w_seq ?_
            refine w_reg ?_
            refine r_mv ?_
            have hip : i < piv.length := by omega
            have hpi := hpl.2.2 piv[i] (List.getElem_mem _)
            refine r_ixs sl_II rfl (HS2.ext (hF.trans hG)) rfl (show (piv.map natV)[i]? = some (natV piv[i]) by rw [List.getElem?_map, List.getElem?_eq_getElem hip]; rfl) fun aJ haJ => ?_
            refine r_ld na_int rfl haJ (r_as (r_as (r_nil (q_t ?_))))
            have hfb := hbd i f (by omega) (by omega)
            have hCE := hF.trans hG
            refine w_reg ?_
            refine r_mv (r_mv (r_mv (r_mv (r_mv (r_ixmE sl_MM rfl HM2 hCE rfl (tab_row (by omega)) fun aR rR haR hrR => ?_)))))
            refine r_ld na_I64 rfl haR (r_mv (r_ixi sl_I64 rfl (Ints.ext hrR hCE) rfl (range_at (by omega)) fun aX haX => ?_))
            refine r_ld na_i64 rfl haX (r_subb rfl rfl (by omega) (by omega) (r_mv (r_remp rfl rfl (by omega) (by omega) (r_ixo (n := piv[i]) sl_I64 rfl HX rfl (by simp; omega) ?_))))
            refine r_sto na_i64 rfl rfl rfl HX (by simp; omega) ?_
            have HX2 := HX.setI (j := piv[i]) (by simp; omega) ((p - Fe i f) % p)
            rw [kerF_set (List.getElem?_eq_getElem hip) rfl] at HX2
            refine r_nil (q_b (q_t ?_))
            refine w_reg ?_
            refine r_inc rfl (by omega) (r_mv (r_nil (q_t ?_)))
            exact ⟨piv.length - (i + 1), i + 1, by omega, ⟨hG.thenUpd (upd_set _ _ _) (fun k hk => by have hk2 : k = h2.size := hk; omega), rfl, by omega, HX2⟩, rfl, trivial⟩
          · skip
            refine r_nil (q_t ?_)
            refine w_seq ?_
            refine w_false rfl ?_
            refine w_exit (q_tx (q_tx (q_bx (q_t ?_))))
            refine w_reg ?_
            refine r_mv (r_mv ?_)
            have HZ2 := HZ.ext hG
            obtain ⟨rs, hrs, hrsl⟩ := HZ2.gro
            have hkl := kerB_len (F := Fe) (piv := piv) (p := p) (c := cols M) (k := f)
            refine r_push sl_MM ze_I64 rfl (fun _ => trivial) (fun _ => rfl) rfl HX.one hrs (by have := hG.1; omega) (by omega) (by omega) fun p' ba' h4 HG4 hU4 hb4 => ?_
            refine r_as (r_nil (q_b (q_t ?_)))
            refine w_reg ?_
            refine r_inc rfl (by omega) (r_mv (r_nil (q_t ?_)))
            have hmem : f ∉ piv := by simpa using hc4
            obtain rfl : i = piv.length := by omega
            refine ⟨cols M - (f + 1), (f + 1, ba'), by first | omega | (dsimp only; omega), ⟨(hF.trans hG).thenUpd hU4 (fun k hk => by have := (hrs.blk k hk).1; omega), rfl, by first | omega | (dsimp only; omega), (HBf.ext hG).upd hU4 (fun hk => by have := (hrs.blk _ hk).1; omega), by have := hU4.1; have := hG.1; omega, gs ++ [h2.size], ?_⟩, rfl, rfl, trivial⟩
            dsimp only
            rw [← kerB_yes hmem]
            exact HZ2.push hrs HX (fun hm => by have := HZ.lt _ hm; omega) hsz (fun he => by have := HZ.topLt _ he; omega) HG4 hU4 hb4
      · skip
        refine r_nil (q_t ?_)
        refine w_seq ?_
        refine w_false rfl ?_
        refine w_exit (q_tx (q_tx (q_bx (q_t ?_))))
        refine w_seq ?_
        refine w_reg ?_
        refine r_mv (r_mv ?_)
        obtain rfl : f = cols M := by omega
        refine r_call trivial rfl (echelonG_ok HZ kerB_rows (by have := kerB_len (F := Fe) (piv := piv) (p := p) (c := cols M) (k := cols M); omega) (by omega) hp hp2 (kerB_rem hp1)) fun x2 h5 hk => ?_
        obtain ⟨hU5, vk, vq, rfl, HM5⟩ := hk
        refine ⟨trivial, ?_⟩
        refine r_mv (r_ext rfl rfl (r_ext rfl rfl (r_as (r_as (r_nil (q_t ?_))))))
        refine w_seq ?_
        refine w_reg ?_
        refine r_mv (r_as (r_as (r_nil (q_t ?_))))
        refine w_ret ?_
        refine ⟨_, retV_2, ?_⟩
        refine ⟨hE1.trans (hF.thenUpd hU5 (fun k hk => by omega)), vk, ?_, ?_⟩
        · have : echE M p = 0 := by omega
          rw [this]; rfl
        · simp only [kerS, hpb, if_true, hFe, hpiv]; exact HM5

end Go.Proofs.YtdlfineibanppaaDoor


/-
  Contracts of triangular of package modular: what every row step keeps, the result has. Conditions stand in each statement.
-/
namespace Go.Proofs.YtdlfineibanppaaDoor
open Go Go.QF
set_option linter.unusedVariables false
set_option maxRecDepth 100000

/-- What every step keeps. -/
def Keeps (n C : Nat) (m : Int) (Q : (Nat → Nat → Int) → Int → Prop) : Prop := ∀ F s c i q, c < n → i < n → c ≠ i → 0 ≤ q → q < m → Bd n C m F → Q F s → Q (stepF F c i q m) (-s)

theorem triangular_ok {h : Heap} {b : Nat} {gs : List Nat} {v : Value} {n C : Nat} {F : Nat → Nat → Int} {m : Int} (HP0 : PartM h tR tI b gs v n (tab n C F)) (hnC : n ≤ C) (hC : C ≤ 1000000) (hm : 2 ≤ m) (hm2 : m ≤ 2147483647) (hbd : Bd n C m F) (Q : (Nat → Nat → Int) → Int → Prop) (hQ0 : Q F 1) (hQ : Keeps n C m Q) :
    CallH Tryd.prog 47 #[v, .int .i64 m] h fun x h' => Upd (· ∈ b :: gs) h h' ∧ ∃ F1 s gs1, x = .int .i64 s ∧ (s = 1 ∨ s = -1) ∧ PartM h' tR tI b gs1 v n (tab n C F1) ∧ (∀ g ∈ gs1, g ∈ gs) ∧ Q F1 s ∧ Bd n C m F1 ∧ Zc n F1 n := by
  have HP := HP0
  refine calls_of_W (l := [_, _]) mx Tryd.func47 rfl rfl rfl rfl rfl (by kernel_rfl) ?_
  refine w_seq ?_
  refine w_reg ?_
  refine r_as (r_nil (q_t ?_))
  refine w_seq ?_
  refine w_reg ?_
  refine r_mv (r_call trivial rfl (eliminator_ok m h) fun fv h1 hk => ?_)
  obtain ⟨rfl, rfl⟩ := hk
  refine ⟨trivial, ?_⟩
  have hpush := ext_push h (.cells #[.int .i64 m] tI (0, 0))
  have HP := PartM.ext HP0 hpush
  have hlt := PartM.lt HP0
  refine r_as (r_nil (q_t ?_))
  refine w_seq ?_
  refine w_reg ?_
  refine r_as (r_nil (q_t ?_))
  refine w_seq ?_
  refine w_seq ?_
  refine w_reg ?_
  refine r_mv (r_lenp sl_MM rfl HP (r_mv (r_nil (q_t ?_))))
  refine w_block ?_
  refine w_loop 18889465931478580847040 (fun y : Nat × Int => [(13, .int .i64 (y.1 : Int)), (6, .int .i64 y.2)]) (fun k y h' => k = n - y.1 ∧ y.1 ≤ n ∧ (y.2 = 1 ∨ y.2 = -1) ∧ ∃ F1 gs1, EchI h h' b gs v n C m F1 (.slice none 0 0) [] gs1 ∧ Q F1 y.2 ∧ Bd n C m F1 ∧ Zc n F1 y.1) (by kernel_rfl) n (0, 1) ?_ ⟨rfl, rfl, trivial⟩ ?_
  · refine ⟨rfl, by omega, .inl rfl, F, gs, ⟨hpush.upd, HP, fun g hg => hg, gro_nil _ _ _, ?_, by simp⟩, hQ0, hbd, fun c' i h1 => by omega⟩
    simp [cellH]
  rintro k ⟨c, s1⟩ sx h1 ⟨rfl, hc, hs1, F1, gs1, HI1, hQ1, hbd1, hz1⟩
  dsimp only at hc hs1 hQ1 hz1 ⊢
  have HP1 := HI1.2.1
  refine w_seq ?_
  refine w_reg ?_
  refine r_lss rfl rfl (fun hc1 => ?_) (fun hc1 => ?_)   -- t14 := binOp lss 3 t13 t12 3
  · skip
    refine r_nil (q_t ?_)
    refine w_seq ?_
    refine w_true rfl ?_
    refine w_skip (q_t ?_)
    refine w_seq ?_
    refine w_block ?_
    refine w_seq ?_
    refine w_reg ?_
    refine r_mv (r_as (r_nil (q_t ?_)))
    refine w_seq ?_
    refine w_reg ?_
    refine r_mv (r_inc rfl (by omega) (r_as (r_nil (q_t ?_))))
    refine w_block ?_
    refine w_loop 9444732965739290165568 (fun y : Nat × Int => [(8, .int .i64 (y.1 : Int)), (6, .int .i64 y.2)]) (fun k y h' => k = n - y.1 ∧ c < y.1 ∧ y.1 ≤ n ∧ (y.2 = 1 ∨ y.2 = -1) ∧ ∃ F2 gs2, EchI h h' b gs v n C m F2 (.slice none 0 0) [] gs2 ∧ Q F2 y.2 ∧ Bd n C m F2 ∧ Zc n F2 c ∧ Zi F2 c y.1) (by kernel_rfl) (n - (c + 1)) (c + 1, s1) ?_ ⟨rfl, rfl, trivial⟩ ?_
    · exact ⟨rfl, by first | omega | (dsimp only; omega), by first | omega | (dsimp only; omega), hs1, F1, gs1, HI1, hQ1, hbd1, hz1, fun k h1 h2 => by omega⟩
    rintro k ⟨i, s2⟩ sy h2 ⟨rfl, hci, hi, hs2, F2, gs2, HI2, hQ2, hbd2, hz2, hzi2⟩
    dsimp only at hci hi hs2 hQ2 hzi2 ⊢
    have HP2 := HI2.2.1
    refine w_seq ?_
    refine w_seq ?_
    refine w_reg ?_
    refine r_mv (r_mv (r_lenp sl_MM rfl HP2 (r_lss rfl rfl (fun hc2 => ?_) (fun hc2 => ?_))))   -- t21 := binOp lss 3 t18 t20 3
    · skip
      refine r_nil (q_t ?_)
      refine w_true rfl ?_
      refine w_skip (q_t ?_)
      refine w_seq ?_
      refine w_block ?_
      refine w_block ?_
      refine w_loop 9444732965739273650240 (fun s3 : Int => [(6, .int .i64 s3)]) (fun k s3 h' => (s3 = 1 ∨ s3 = -1) ∧ ∃ F3 gs3, k = (F3 i c).toNat ∧ EchI h h' b gs v n C m F3 (.slice none 0 0) [] gs3 ∧ Q F3 s3 ∧ Bd n C m F3 ∧ Zc n F3 c ∧ Zi F3 c i) (by kernel_rfl) (F2 i c).toNat s2 ?_ ⟨rfl, trivial⟩ ?_
      · exact ⟨hs2, F2, gs2, rfl, HI2, hQ2, hbd2, hz2, hzi2⟩
      rintro k s3 sz h3 ⟨hs3, F3, gs3, rfl, HI3, hQ3, hbd3, hz3, hzi3⟩
      have HP3 := HI3.2.1
      refine w_seq ?_
      refine w_seq ?_
      refine w_reg ?_
      refine r_mv (r_mv (r_ixp sl_MM rfl HP3 rfl (tab_row (by omega)) fun aA rA gA haA hgA hrA => ?_))
      refine r_ld na_I64 rfl haA (r_mv (r_ixi sl_I64 rfl hrA.sl rfl (range_at (by omega)) fun aB haB => ?_))
      refine r_ld na_i64 rfl haB (r_neq rfl rfl (fun hc3 => ?_) (fun hc3 => ?_))   -- t31 := binOp neq 2 t30 0:i64 2
      · skip
        refine r_nil (q_t ?_)
        refine w_true rfl ?_
        refine w_skip (q_t ?_)
        refine w_block ?_
        refine w_seq ?_
        have hcc := hbd3 c c (by omega) (by omega)
        have hic := hbd3 i c (by omega) (by omega)
        have hq := quo_bd hcc.1 hcc.2 (b := F3 i c) (by omega)
        refine w_draw (by kernel_rfl) ?_
        refine r_mv (r_mv (r_mv (r_ixp sl_MM rfl HP3 rfl (tab_row (by omega)) fun aK rK gK haK hgK hrK => ?_)))
        refine r_ld na_I64 rfl haK (r_mv (r_mv (r_ixp sl_MM rfl HP3 rfl (tab_row (by omega)) fun aL rL gL haL hgL hrL => ?_)))
        refine r_ld na_I64 rfl haL ?_
        have hgKm : gK ∈ b :: gs := List.mem_cons_of_mem _ (HI3.2.2.1 _ (List.mem_of_getElem? hgK))
        have hneKL : gK ≠ gL := fun he => absurd (nodup_getElem?_inj (List.nodup_cons.1 (PartM.nodup HI3.2.1)).2 hgK (he ▸ hgL)) (by omega)
        refine r_mv ?_
        refine r_mv (r_ixp sl_MM rfl HP3 rfl (tab_row (by omega)) fun aN rN gN haN hgN hrN => ?_)
        refine r_ld na_I64 rfl haN (r_mv (r_ixi sl_I64 rfl hrN.sl rfl (range_at (by omega)) fun aU haU => ?_))
        refine r_ld na_i64 rfl haU (r_mv (r_mv (r_ixp sl_MM rfl HP3 rfl (tab_row (by omega)) fun aO rO gO haO hgO hrO => ?_)))
        refine r_ld na_I64 rfl haO (r_mv (r_ixi sl_I64 rfl hrO.sl rfl (range_at (by omega)) fun aV haV => ?_))
        refine r_ld na_i64 rfl haV (r_quop rfl rfl (by omega) (by omega) (by omega) (r_callc trivial rfl rfl (eliminate_ok (a := ⟨h.size, 0, none⟩) hrK hrL hneKL (by simp) HI3.2.2.2.2.1 (by have := hlt _ hgKm; dsimp only; omega) (row_bd hbd3 (by omega)) (row_bd hbd3 (by omega)) hq.1 hq.2 hm hm2 (by simp; omega)) fun ev h7 hk => ?_))
        obtain ⟨hU7, HO7⟩ := hk
        refine ⟨trivial, ?_⟩
        rw [elim_row] at HO7
        have HP7 := PartM.setRow' HI3.2.1 hgK hU7 (tab_row (by omega)) hrK HO7
        rw [tab_setF] at HP7
        have HI7 := HI3.turn hlt hU7 hgKm HP7 HI3.2.2.1
        have HP3 := HP7
        refine r_nil (q_t ?_)
        refine w_seq ?_
        refine w_draw (by kernel_rfl) ?_
        refine r_mv (r_mv (r_mv (r_mv (r_mv (r_mv (r_ixp sl_MM rfl HP3 rfl (tab_row (by omega)) fun aI rI gI haI hgI hrI => ?_))))))
        refine r_ld na_I64 rfl haI (r_mv (r_mv (r_ixp sl_MM rfl HP3 rfl (tab_row (by omega)) fun aT rT gT haT hgT hrT => ?_)))
        refine r_ld na_I64 rfl haT ?_
        obtain ⟨rs, HT, hrl⟩ := PartM.top HP3
        refine r_ixo sl_MM rfl HT rfl (by omega) ?_
        refine r_sto na_I64 rfl rfl hrI.one HT (by omega) ?_
        have HT2 := HT.set c rI (by omega)
        refine r_ixo sl_MM rfl HT2 rfl (by simp; omega) ?_
        refine r_sto na_I64 rfl rfl hrT.one HT2 (by simp; omega) ?_
        have HP8 := PartM.swap HP3 hgT hgI (tab_row (by omega)) (tab_row (by omega)) hrT hrI
        rw [tab_setF, tab_setF] at HP8
        have HI8 := HI7.turn hlt ((upd_set _ ⟨b, c, none⟩ rI).trans (upd_set _ ⟨b, i, none⟩ rT)) (List.mem_cons_self ..) (F2 := stepF F3 c i (F3 c c / F3 i c) m) HP8 (fun g hg => HI7.2.2.1 g (mem_swap hgT hgI hg))
        refine r_nil (q_t ?_)
        refine w_reg ?_
        refine r_mv (r_neg rfl ?_)
        have hws : IntKind.i64.wrap (0 - s3) = -s3 := by rw [IntKind.wrap_i64]; omega
        rw [hws]
        refine r_as (r_nil (q_b (q_t ?_)))
        have hv3 : stepF F3 c i (F3 c c / F3 i c) m i c = F3 c c % F3 i c := by rw [stepF_i]; exact step_lt hcc.1 hcc.2 (by omega) hic.2
        have hl3 := Int.emod_lt_of_pos (F3 c c) (b := F3 i c) (by omega)
        exact ⟨_, -s3, by rw [hv3]; omega, ⟨by omega, _, _, rfl, HI8, hQ _ _ _ _ _ (by omega) (by omega) (by omega) hq.1 hq.2 hbd3 hQ3, bd_step (by omega) hbd3 (by omega) (by omega), zc_step hz3 (by omega) (by omega), zi_step hzi3⟩, rfl, trivial⟩
      · skip
        refine r_nil (q_t ?_)
        refine w_false rfl ?_
        refine w_exit (q_tx (q_tx (q_bx (q_b (q_t ?_)))))
        refine w_reg ?_
        refine r_mv (r_inc rfl (by omega) (r_as (r_nil (q_t ?_))))
        exact ⟨n - (i + 1), (i + 1, s3), by first | omega | (dsimp only; omega), ⟨rfl, by first | omega | (dsimp only; omega), by first | omega | (dsimp only; omega), hs3, F3, gs3, HI3, hQ3, hbd3, hz3, zi_succ hzi3 hc3⟩, rfl, rfl, trivial⟩
    · skip
      refine r_nil (q_t ?_)
      refine w_false rfl ?_
      refine w_exit (q_tx (q_tx (q_bx (q_b (q_t ?_)))))
      refine w_reg ?_
      refine r_inc rfl (by omega) (r_mv (r_nil (q_t ?_)))
      obtain rfl : i = n := by omega
      exact ⟨i - (c + 1), (c + 1, s2), by first | omega | (dsimp only; omega), ⟨rfl, by first | omega | (dsimp only; omega), hs2, F2, gs2, HI2, hQ2, hbd2, zc_succ hz2 hzi2⟩, rfl, rfl, trivial⟩
  · skip
    refine r_nil (q_t ?_)
    refine w_seq ?_
    refine w_false rfl ?_
    refine w_exit (q_tx (q_tx (q_bx (q_t ?_))))
    refine w_seq ?_
    refine w_reg ?_
    refine r_mv (r_as (r_nil (q_t ?_)))
    refine w_ret ?_
    refine ⟨_, retV_1, ?_⟩
    obtain rfl : c = n := by omega
    exact ⟨HI1.1, F1, s1, gs1, rfl, hs1, HI1.2.1, HI1.2.2.1, hQ1, hbd1, hz1⟩

end Go.Proofs.YtdlfineibanppaaDoor


/-
  Contracts of Det and Inverse of package modular: by what every row step keeps.
-/
namespace Go.Proofs.YtdlfineibanppaaDoor
open Go Go.QF
set_option linter.unusedVariables false
set_option maxRecDepth 100000

theorem residues_tab {h h2 : Heap} {r1 : Value} {M : List (List Int)} {m : Int} {b : Nat} {gs : List Nat} {c : Nat} (HO1 : OwnM h2 tR tI b gs r1 (M.map (·.map (· % m)))) (hr : ∀ z ∈ M, z.length = c) : PartM h2 tR tI b gs r1 M.length (tab M.length c (ent (redM M m))) := by
  have ht := tab_eq (A := redM M m) (c := c) (red_rows hr)
  rw [red_len] at ht
  rw [← ht]
  have : OwnM h2 tR tI b gs r1 (redM M m) := HO1
  unfold OwnM at this
  rw [red_len] at this
  exact this
theorem bd_red {M : List (List Int)} {c : Nat} {m : Int} (hm : 0 < m) : Bd M.length c m (ent (redM M m)) := by
  have := bd_ent (c := c) hm (rem_red hm M)
  rw [red_len] at this
  exact this
def PostI (M : List (List Int)) (m : Int) (Q : (Nat → Nat → Int) → Int → Prop) (h : Heap) (x : Value) (h' : Heap) : Prop := Ext h h' ∧ ∃ r e, x = .tuple #[r, .int .i64 e] ∧
  ((squareB M = false ∧ e = 3 ∧ Mat h' r []) ∨ (squareB M = true ∧ modB m = false ∧ e = 1 ∧ Mat h' r []) ∨
   (squareB M = true ∧ modB m = true ∧ ∃ F1 s, (s = 1 ∨ s = -1) ∧ Q F1 s ∧ Bd M.length (M.length + M.length) m F1 ∧ Zc M.length F1 M.length ∧
     ((e = 8 ∧ Mat h' r [] ∧ ∃ c, c < M.length ∧ ¬ ∃ y, IsInv m (F1 c c) y) ∨
      (e = 0 ∧ (∀ c, c < M.length → ∃ y, IsInv m (F1 c c) y) ∧ Mat h' r (tab M.length M.length fun i j => backTo m M.length F1 M.length i (M.length + j))))))

theorem Inverse_ok {h : Heap} {v : Value} {M : List (List Int)} (HM : Mat h v M) (m : Int) (Q : (Nat → Nat → Int) → Int → Prop) (hQ0 : squareB M = true → modB m = true → Q (augF M.length (ent (redM M m))) 1) (hQ : Keeps M.length (M.length + M.length) m Q) : CallH Tryd.prog 23 #[v, .int .i64 m] h (PostI M m Q h) := by
  refine calls_of_W (l := [_, _]) mx Tryd.func23 rfl rfl rfl rfl rfl (by kernel_rfl) ?_
  refine w_seq ?_
  refine w_reg ?_
  refine r_as (r_as (r_nil (q_t ?_)))
  refine w_seq ?_
  refine w_seq ?_
  have hE0 := Ext.refl h
  refine w_reg ?_
  refine r_mv (r_call trivial rfl (small_ok HM) fun v' h hk => ?_)
  obtain ⟨rfl, rfl⟩ := hk
  refine ⟨trivial, ?_⟩
  cases hc1 : squareB M
  · skip
    refine r_not rfl (r_nil (q_t ?_))
    refine w_true rfl ?_
    refine w_seq ?_
    refine w_reg ?_
    refine r_as (r_as (r_nil (q_t ?_)))
    refine w_ret (q_tr ?_)
    refine ⟨_, retV_2, ?_⟩
    exact ⟨Ext.refl _, _, _, rfl, .inl ⟨hc1, rfl, mat_nil _⟩⟩
  · skip
    refine r_not rfl (r_nil (q_t ?_))
    refine w_false rfl ?_
    refine w_skip (q_t ?_)
    refine w_seq ?_
    refine w_seq ?_
    refine w_reg ?_
    refine r_mv (r_call trivial rfl (checkModulus_ok m h) fun v' h hk => ?_)
    obtain ⟨rfl, rfl⟩ := hk
    refine ⟨trivial, ?_⟩
    refine r_as (r_nil (q_t ?_))
    refine w_seq ?_
    refine w_reg ?_
    refine r_mv (r_neq rfl rfl (fun hc2 => ?_) (fun hc2 => ?_))   -- t22 := binOp neq 30 t21 0:i64 30
    · skip
      refine r_nil (q_t ?_)
      refine w_true rfl ?_
      refine w_seq ?_
      refine w_reg ?_
      refine r_mv (r_as (r_as (r_nil (q_t ?_))))
      refine w_ret (q_tr ?_)
      refine ⟨_, retV_2, ?_⟩
      have hmB : modB m = false := by cases hb : modB m <;> simp [hb] at hc2 ⊢
      exact ⟨Ext.refl _, _, _, rfl, .inr (.inl ⟨hc1, hmB, by simp [hmB], mat_nil _⟩)⟩
    · skip
      refine r_nil (q_t ?_)
      refine w_false rfl ?_
      refine w_skip (q_t ?_)
      refine w_seq ?_
      have hmB : modB m = true := by cases hb : modB m <;> simp [hb] at hc2 ⊢
      have hm := mod_of_modB hmB
      obtain ⟨hv, hsq, h8⟩ := square_of hc1
      have hv1 := hv.1
      have hv2 := hv.2.1
      refine w_reg ?_
      refine r_mv (r_lenm sl_MM rfl (HM.ext hE0) (r_as (r_nil (q_t ?_))))
      refine w_seq ?_
      refine w_reg ?_
      refine r_mv (r_mv ?_)
      have hmB : modB m = true := by cases hb : modB m <;> simp [hb] at hc2 ⊢
      have hm := mod_of_modB hmB
      obtain ⟨hv, hsq, h8⟩ := square_of hc1
      have hv1 := hv.1
      have hv2 := hv.2.1
      refine r_call trivial rfl (residues_ok HM hm.1 hm.2 (by omega) (valid_le hv)) fun r1 h2 hk => ?_
      obtain ⟨hE1, b, gs, HO1, hb⟩ := hk
      refine ⟨trivial, ?_⟩
      have HO2 := residues_tab (c := M.length) (h := h) HO1 (fun z hz => by rw [hv.2.2.2.2 z hz]; omega)
      have hbd0 := bd_red (M := M) (c := M.length) (m := m) (by omega)
      refine r_as (r_nil (q_t ?_))
      refine w_seq ?_
      refine w_seq ?_
      refine w_reg ?_
      refine r_mv (r_lenp sl_MM rfl HO2 (r_mv (r_nil (q_t ?_))))
      refine w_block ?_
      refine w_loop 4503597479887360 (fun i : Nat => [(31, .int .i64 (i : Int))]) (fun k i h' => Ext h h' ∧ k = M.length - i ∧ i ≤ M.length ∧ ∃ gs', PartM h' tR tI b gs' r1 M.length (mixM M.length i (fun k => (List.range (M.length + M.length)).map (augF M.length (ent (redM M m)) k)) (fun k => (List.range M.length).map (ent (redM M m) k))) ∧ ∀ g ∈ b :: gs', h.size ≤ g) (by kernel_rfl) M.length 0 ?_ ⟨rfl, trivial⟩ ?_
      · exact ⟨hE1, by omega, by omega, gs, by rw [mixM_zero]; exact HO2, hb⟩
      rintro k i sx h3 ⟨hEA, rfl, hi, gsA, HPA, hgA⟩
      refine w_seq ?_
      refine w_reg ?_
      refine r_lss rfl rfl (fun hc3 => ?_) (fun hc3 => ?_)   -- t32 := binOp lss 3 t31 t30 3
      · skip
        refine r_nil (q_t ?_)
        refine w_seq ?_
        refine w_true rfl ?_
        refine w_skip (q_t ?_)
        refine w_seq ?_
        refine w_block ?_
        refine w_seq ?_
        refine w_reg ?_
        refine r_mv (r_as (r_nil (q_t ?_)))
        refine w_seq ?_
        refine w_reg ?_
        refine r_mv (r_mv (r_mv (r_mv (r_ixp sl_MM rfl HPA rfl (mixM_at (by omega)) fun aK rK gK haK hgK hrK => ?_))))
        refine r_ld na_I64 rfl haK (r_mv (r_appZ (n := M.length) sl_I64 it_int ze_i64 rfl trivial rfl hrK rfl (by omega) (by simp; omega) (by simp; omega) fun r4 g4 h4 HO4 hg4 hU4 => ⟨trivial, ?_⟩))
        obtain ⟨rs, HT, hrl⟩ := PartM.top HPA
        have hKb := PartM.ne HPA hgK
        have HT4 := HT.upd hU4 (fun he => hKb (Eq.symm he))
        have HO4b : OwnA h4 tI g4 r4 (((List.range M.length).map (ent (redM M m) i) ++ List.replicate M.length 0).map (.int .i64)) := by
          rw [List.map_append, List.map_replicate]; exact HO4
        refine r_ixo sl_MM rfl HT4 rfl (by omega) ?_
        refine r_sto na_I64 rfl rfl HO4.one HT4 (by omega) ?_
        have hg4s : g4 = gK ∨ h3.size ≤ g4 := by
          rcases hg4 with h | h
          · exact .inl h
          · exact .inr (by omega)
        have HPB := PartM.replace HPA hgK hU4 HO4b hg4s
        have hgKm := hgA gK (List.mem_cons_of_mem _ (List.mem_of_getElem? hgK))
        have hb0 := hgA b (List.mem_cons_self ..)
        have hg4m : h.size ≤ g4 := by
          rcases hg4s with h | h
          · omega
          · have := hEA.1; omega
        have hgB : ∀ g ∈ b :: gsA.set i g4, h.size ≤ g := fun g hg => by
          rcases List.mem_cons.1 hg with rfl | hg
          · exact hb0
          · exact mem_set_ge (fun g hg => hgA g (List.mem_cons_of_mem _ hg)) hg4m g hg
        have hEB := (hEA.thenUpd hU4 (fun k hk => by have hk2 : k = gK := hk; omega)).thenUpd (upd_set h4 ⟨b, i, none⟩ r4) (fun k hk => by have hk2 : k = b := hk; omega)
        have hgl : gsA.length = M.length := by have := PartM.glen HPA; rw [mixM_len] at this; exact this
        refine r_nil (q_t ?_)
        refine w_reg ?_
        refine r_mv (r_mv (r_ixp sl_MM rfl HPB rfl (List.getElem?_set_self (by rw [mixM_len]; omega)) fun aQ rQ gQ haQ hgQ hrQ => ?_))
        refine r_ld na_I64 rfl haQ (r_mv (r_mv (r_addn rfl rfl (by omega) ?_)))
        refine r_ixo (n := M.length + i) sl_I64 rfl hrQ rfl (by simp; omega) ?_
        refine r_sto na_i64 rfl rfl rfl hrQ (by simp; omega) ?_
        have HPC := PartM.setElem HPB hgQ (List.getElem?_set_self (by rw [mixM_len]; omega)) (j := M.length + i) (by simp; omega) 1
        rw [List.set_set, aug_row _ (by omega), mixM_set rfl] at HPC
        have hEC := hEB.thenUpd (upd_set _ ⟨gQ, M.length + i, none⟩ (.int .i64 1)) (fun k hk => by have hk2 : k = gQ := hk; have := hgB gQ (List.mem_cons_of_mem _ (List.mem_of_getElem? hgQ)); omega)
        refine r_nil (q_b (q_t ?_))
        refine w_reg ?_
        refine r_inc rfl (by omega) (r_mv (r_nil (q_t ?_)))
        exact ⟨M.length - (i + 1), i + 1, by omega, ⟨hEC, rfl, by omega, _, HPC, hgB⟩, rfl, trivial⟩
      · skip
        refine r_nil (q_t ?_)
        refine w_seq ?_
        refine w_false rfl ?_
        refine w_exit (q_tx (q_tx (q_bx (q_t ?_))))
        refine w_seq ?_
        refine w_reg ?_
        refine r_mv (r_mv ?_)
        rw [mixM_all _ _ (by omega)] at HPA
        refine r_call trivial rfl (triangular_ok HPA (by omega) (by omega) hm.1 hm.2 (bd_aug hm.1 hbd0) Q (hQ0 hc1 hmB) hQ) fun x3 h5 hk => ?_
        obtain ⟨hU5, F1, s, gs1, rfl, hs, HP5, hgs1, hQ1, hbd1, hz1⟩ := hk
        refine ⟨trivial, ?_⟩
        have hE5 := hEA.thenUpd hU5 (fun k hk => hgA k hk)
        have hlt := PartM.lt HP5
        have hge : ∀ g ∈ b :: gs1, h.size ≤ g := fun g hg => hgA g (by
          rcases List.mem_cons.1 hg with rfl | hg
          · exact List.mem_cons_self ..
          · exact List.mem_cons_of_mem _ (hgs1 g hg))
        refine r_nil (q_t ?_)
        refine w_seq ?_
        refine w_reg ?_
        refine r_mv (r_call trivial rfl (eliminator_ok m h5) fun fv h6 hk => ?_)
        obtain ⟨rfl, rfl⟩ := hk
        refine ⟨trivial, ?_⟩
        have hpush := ext_push h5 (.cells #[.int .i64 m] tI (0, 0))
        refine r_as (r_nil (q_t ?_))
        refine w_seq ?_
        refine w_seq ?_
        refine w_reg ?_
        refine r_mv (r_subb rfl rfl (by omega) (by omega) (r_as (r_nil (q_t ?_))))
        refine w_block ?_
        refine w_loop 81129638414606105235036701751344 (fun y : Nat × Int => [(11, .int .i64 y.2)]) (fun k y h' => k = M.length - y.1 ∧ y.1 ≤ M.length ∧ y.2 = (M.length : Int) - 1 - (y.1 : Int) ∧ EchI h5 h' b gs1 r1 M.length (M.length + M.length) m (backTo m M.length F1 y.1) (.slice none 0 0) [] gs1 ∧ ∀ c, M.length - y.1 ≤ c → c < M.length → ∃ z, IsInv m (F1 c c) z) (by kernel_rfl) M.length (0, (M.length : Int) - 1) ?_ ⟨rfl, trivial⟩ ?_
        · refine ⟨rfl, by omega, by simp, ⟨hpush.upd, PartM.ext HP5 hpush, fun g hg => hg, gro_nil _ _ _, ?_, by simp⟩, fun c h1 h2 => absurd h1 (by simp; omega)⟩
          simp [cellH]
        rintro k ⟨j, xv⟩ sy h6 ⟨rfl, hj, hxv, HIB, hall⟩
        dsimp only at hj hxv HIB hall ⊢
        refine w_seq ?_
        refine w_seq ?_
        refine w_reg ?_
        refine r_mv (r_geq rfl rfl (fun hc4 => ?_) (fun hc4 => ?_))   -- t60 := binOp geq 3 t59 0:i64 3
        · skip
          refine r_nil (q_t ?_)
          refine w_true rfl ?_
          refine w_skip (q_t ?_)
          refine w_seq ?_
          refine w_block ?_
          refine w_seq ?_
          obtain ⟨c, rfl⟩ : ∃ c : Nat, xv = (c : Int) := ⟨xv.toNat, by omega⟩
          obtain ⟨G, hG⟩ : ∃ G, backTo m M.length F1 j = G := ⟨_, rfl⟩
          rw [hG] at HIB
          have HPG := HIB.2.1
          have hbdG : Bd M.length (M.length + M.length) m G := hG ▸ bd_back (by omega) hbd1 j
          have hx := hbdG c c (by omega) (by omega)
          have hdiag : G c c = F1 c c := by rw [← hG]; exact back_col (by omega) hbd1 (by omega) hz1 j (by omega) c c (by omega) (by omega)
          refine w_reg ?_
          refine r_mv (r_mv (r_ixp sl_MM rfl HPG rfl (tab_row (by omega)) fun aR rR gR haR hgR hrR => ?_))
          refine r_ld na_I64 rfl haR (r_mv (r_ixi sl_I64 rfl hrR.sl rfl (range_at (by omega)) fun aX haX => ?_))
          refine r_ld na_i64 rfl haX (r_mv (r_call trivial rfl (reciprocal_ok (x := G c c) (m := m) hx.1 hx.2 hm.1 hm.2 _) fun rv h7 hk => ?_))
          obtain ⟨rfl, inv, ok, rfl, hi0, him, hok, hno⟩ := hk
          refine ⟨trivial, ?_⟩
          refine r_mv (r_ext rfl rfl (r_ext rfl rfl (r_as (r_as (r_nil (q_t ?_))))))
          refine w_seq ?_
          refine w_seq ?_
          refine w_reg ?_
          refine r_mv (r_not rfl (r_nil (q_t ?_)))
          refine ⟨_, rfl, fun hc5 => ?_, fun hc5 => ?_⟩
          · skip
            refine w_seq ?_
            refine w_reg ?_
            refine r_as (r_as (r_nil (q_t ?_)))
            refine w_ret (q_tr (q_br (q_tr (q_tr (q_br (q_tr ?_))))))
            refine ⟨_, retV_2, ?_⟩
            have hok2 : ok = false := by cases ok <;> simp at hc5 ⊢
            exact ⟨hE5.thenUpd HIB.1 (fun k hk => hge k hk), _, _, rfl, .inr (.inr ⟨hc1, hmB, F1, s, hs, hQ1, hbd1, hz1, .inl ⟨rfl, mat_nil _, c, by omega, hdiag ▸ hno hok2⟩⟩)⟩
          · skip
            refine w_skip (q_t ?_)
            refine w_seq ?_
            have hok2 : ok = true := by cases ok <;> simp at hc5 ⊢
            have hinv := invM_eq (hok hok2)
            have HPG := HIB.2.1
            refine w_reg ?_
            refine r_mv (r_mv (r_ixp sl_MM rfl HPG rfl (tab_row (by omega)) fun aS rS gS haS hgS hrS => ?_))
            refine r_ld na_I64 rfl haS (r_mv (r_mv (r_call trivial rfl (scale_ok hrS (row_bd hbdG (by omega)) hi0 him hm.1 hm.2 (by simp; omega)) fun sv h8 hk => ?_)))
            obtain ⟨hU8, HO8⟩ := hk
            refine ⟨trivial, ?_⟩
            rw [scale_row] at HO8
            have HP8 := PartM.setRow' HIB.2.1 hgS hU8 (tab_row (by omega)) hrS HO8
            rw [tab_setF] at HP8
            have HI8 := HIB.turn hlt hU8 (List.mem_cons_of_mem _ (List.mem_of_getElem? hgS)) (F2 := scaleF G c inv m) HP8 HIB.2.2.1
            have hbd8 := bd_scale (a := c) (f := inv) (by omega : 0 < m) hbdG
            refine r_nil (q_t ?_)
            refine w_seq ?_
            refine w_reg ?_
            refine r_mv (r_mv (r_nil (q_t ?_)))
            refine w_block ?_
            refine w_loop 81129599728980454027655414562816 (fun q : Nat => [(85, .int .i64 (q : Int))]) (fun k q h' => k = c - q ∧ q ≤ c ∧ EchI h5 h' b gs1 r1 M.length (M.length + M.length) m (elimF (scaleF G c inv m) c c m q) (.slice none 0 0) [] gs1) (by kernel_rfl) c 0 ?_ ⟨rfl, trivial⟩ ?_
            · exact ⟨rfl, by omega, by rw [elimF_zero]; exact HI8⟩
            rintro k q sz h9 ⟨rfl, hq, HIk⟩
            have HPk := HIk.2.1
            refine w_seq ?_
            refine w_reg ?_
            refine r_lss rfl rfl (fun hc6 => ?_) (fun hc6 => ?_)   -- t86 := binOp lss 3 t85 t84 3
            · skip
              refine r_nil (q_t ?_)
              refine w_seq ?_
              refine w_true rfl ?_
              refine w_skip (q_t ?_)
              refine w_seq ?_
              refine w_block ?_
              refine w_seq ?_
              have hbk := bd_elim (k := q) (top := c) (j := c) (by omega : 0 < m) hbd8
              have hY := hbk q c (by omega) (by omega)
              refine w_reg ?_
              refine r_mv (r_as (r_nil (q_t ?_)))
              refine w_draw (by kernel_rfl) ?_
              refine r_mv (r_mv (r_mv (r_ixp sl_MM rfl HPk rfl (tab_row (by omega)) fun aK rK gK haK hgK hrK => ?_)))
              refine r_ld na_I64 rfl haK (r_mv (r_mv (r_ixp sl_MM rfl HPk rfl (tab_row (by omega)) fun aL rL gL haL hgL hrL => ?_)))
              refine r_ld na_I64 rfl haL ?_
              have hgKm : gK ∈ b :: gs1 := List.mem_cons_of_mem _ (List.mem_of_getElem? hgK)
              have hneKL : gK ≠ gL := fun he => absurd (nodup_getElem?_inj (List.nodup_cons.1 (PartM.nodup HIk.2.1)).2 hgK (he ▸ hgL)) (by omega)
              refine r_mv ?_
              refine r_mv (r_ixp sl_MM rfl HPk rfl (tab_row (by omega)) fun aN rN gN haN hgN hrN => ?_)
              refine r_ld na_I64 rfl haN (r_mv (r_ixi sl_I64 rfl hrN.sl rfl (range_at (by omega)) fun aY haY => ?_))
              refine r_ld na_i64 rfl haY (r_callc trivial rfl rfl (eliminate_ok (a := ⟨h5.size, 0, none⟩) hrK hrL hneKL (by simp) HIk.2.2.2.2.1 (by have := hlt _ hgKm; dsimp only; omega) (row_bd hbk (by omega)) (row_bd hbk (by omega)) hY.1 hY.2 hm.1 hm.2 (by simp; omega)) fun ev h10 hk => ?_)
              obtain ⟨hU10, HO10⟩ := hk
              refine ⟨trivial, ?_⟩
              rw [elim_row] at HO10
              have HP10 := PartM.setRow' HIk.2.1 hgK hU10 (tab_row (by omega)) hrK HO10
              rw [tab_setF] at HP10
              simp only [elimF_at, elimF_top] at HP10
              rw [elimF_step (by omega)] at HP10
              have HI10 := HIk.turn hlt hU10 hgKm HP10 HIk.2.2.1
              refine r_nil (q_b (q_t ?_))
              refine w_reg ?_
              refine r_inc rfl (by omega) (r_mv (r_nil (q_t ?_)))
              exact ⟨c - (q + 1), q + 1, by omega, ⟨rfl, by omega, HI10⟩, rfl, trivial⟩
            · skip
              refine r_nil (q_t ?_)
              refine w_seq ?_
              refine w_false rfl ?_
              refine w_exit (q_tx (q_tx (q_bx (q_b (q_t ?_)))))
              refine w_reg ?_
              refine r_mv (r_subb rfl rfl (by omega) (by omega) (r_as (r_nil (q_t ?_))))
              obtain rfl : q = c := by omega
              have hS : backTo m M.length F1 (j + 1) = elimF (scaleF G q inv m) q q m q := by
                simp only [backTo, backS]
                rw [hG, show M.length - 1 - j = q by omega, hinv]
              refine ⟨M.length - (j + 1), (j + 1, (q : Int) - 1), by first | omega | (dsimp only; omega), ⟨rfl, by first | omega | (dsimp only; omega), by simp; omega, ?_, fun c h1 h2 => ?_⟩, rfl, trivial⟩
              · dsimp only
                rw [hS]; exact HIk
              · dsimp only at h1
                by_cases hcq : c = q
                · subst hcq; exact ⟨inv, hdiag ▸ hok hok2⟩
                · exact hall c (by omega) h2
        · skip
          refine r_nil (q_t ?_)
          refine w_false rfl ?_
          refine w_exit (q_tx (q_tx (q_bx (q_t ?_))))
          refine w_seq ?_
          refine w_seq ?_
          obtain rfl : j = M.length := by omega
          have HPG := HIB.2.1
          refine w_reg ?_
          refine r_mv (r_lenp sl_MM rfl HPG (r_mv (r_nil (q_t ?_))))
          refine w_block ?_
          refine w_loop 5316587464586005064888445085100834816 (fun i : Nat => [(108, .int .i64 (i : Int))]) (fun k i h' => Ext h h' ∧ k = M.length - i ∧ i ≤ M.length ∧ ∃ gs', PartM h' tR tI b gs' r1 M.length (mixM M.length i (fun k => (List.range M.length).map fun j => backTo m M.length F1 M.length k (M.length + j)) (fun k => (List.range (M.length + M.length)).map (backTo m M.length F1 M.length k))) ∧ ∀ g ∈ b :: gs', h.size ≤ g) (by kernel_rfl) M.length 0 ?_ ⟨rfl, trivial⟩ ?_
          · exact ⟨hE5.thenUpd HIB.1 (fun k hk => hge k hk), by omega, by omega, gs1, by rw [mixM_zero]; exact HPG, hge⟩
          rintro k i sw h11 ⟨hEW, rfl, hi, gsW, HPW, hgW0⟩
          refine w_seq ?_
          refine w_reg ?_
          refine r_lss rfl rfl (fun hc7 => ?_) (fun hc7 => ?_)   -- t109 := binOp lss 3 t108 t107 3
          · skip
            refine r_nil (q_t ?_)
            refine w_seq ?_
            refine w_true rfl ?_
            refine w_skip (q_t ?_)
            refine w_seq ?_
            refine w_block ?_
            refine w_seq ?_
            refine w_reg ?_
            refine r_mv (r_as (r_nil (q_t ?_)))
            refine w_reg ?_
            refine r_mv (r_mv (r_mv (r_mv (r_ixp sl_MM rfl HPW rfl (mixM_at (by omega)) fun aW rW gW haW hgW hrW => ?_))))
            refine r_ld na_I64 rfl haW (r_mv ?_)
            obtain ⟨capW, hvW, hcW⟩ := hrW.slice
            have hlW : (((List.range (M.length + M.length)).map (backTo m M.length F1 M.length i)).map (Value.int .i64)).length = M.length + M.length := by simp
            rw [hlW] at hvW hcW
            have HX := hrW.from (k := M.length) (cap := capW) hlW (by omega) (by omega)
            rw [drop_row] at HX
            refine r_slFrom sl_I64 hvW rfl (by omega) hcW ?_
            refine r_app0 sl_I64 ze_i64 rfl trivial rfl rfl HX (by simp [isOne]) (by rw [List.map_map]; exact range_map_ne (by omega)) (by simp; omega) (by simp; omega) fun r12 h12 HO12 hE12 => ⟨trivial, ?_⟩
            obtain ⟨rs, HT, hrl⟩ := PartM.top HPW
            have HT4 := HT.ext hE12
            refine r_ixo sl_MM rfl HT4 rfl (by omega) ?_
            refine r_sto na_I64 rfl rfl HO12.one HT4 (by omega) ?_
            have HPY := PartM.replace HPW hgW hE12.upd HO12 (.inr (Nat.le_refl _))
            rw [mixM_set rfl] at HPY
            refine r_nil (q_b (q_t ?_))
            refine w_reg ?_
            refine r_inc rfl (by omega) (r_mv (r_nil (q_t ?_)))
            have hEY := (hEW.trans hE12).thenUpd (upd_set h12 ⟨b, i, none⟩ r12) (fun k hk => by have hk2 : k = b := hk; have := hgW0 b (List.mem_cons_self ..); omega)
            exact ⟨M.length - (i + 1), i + 1, by omega, ⟨hEY, rfl, by omega, _, HPY, fun g hg => by
              rcases List.mem_cons.1 hg with rfl | hg
              · exact hgW0 _ (List.mem_cons_self ..)
              · exact mem_set_ge (fun g hg => hgW0 g (List.mem_cons_of_mem _ hg)) hEW.1 g hg⟩, rfl, trivial⟩
          · skip
            refine r_nil (q_t ?_)
            refine w_seq ?_
            refine w_false rfl ?_
            refine w_exit (q_tx (q_tx (q_bx (q_t ?_))))
            refine w_seq ?_
            refine w_reg ?_
            refine r_mv (r_as (r_as (r_nil (q_t ?_))))
            refine w_ret ?_
            refine ⟨_, retV_2, ?_⟩
            obtain rfl : i = M.length := by omega
            rw [mixM_all _ _ (by omega)] at HPW
            refine ⟨hEW, _, _, rfl, .inr (.inr ⟨hc1, hmB, F1, s, hs, hQ1, hbd1, hz1, .inr ⟨rfl, fun c hc => hall c (by omega) hc, ?_⟩⟩)⟩
            exact (show OwnM h11 tR tI b gsW r1 (tab M.length M.length fun i j => backTo m M.length F1 M.length i (M.length + j)) by unfold OwnM; rw [tab_len]; exact HPW).mat

end Go.Proofs.YtdlfineibanppaaDoor


/-
  Determinants modulo a number, and the contract of Det of package modular by the determinant.
-/
namespace Go.QF
set_option linter.unusedVariables false
theorem det_eqm : ∀ {n : Nat} {m : Int} {F G : Nat → Nat → Int}, (∀ i j, i < n → j < n → Eqm m (F i j) (G i j)) → Eqm m (det n F) (det n G) := by
  intro n m
  induction n with
  | zero => intro _ _ _; rfl
  | succ n ih =>
    intro F G h
    refine Eqm.psum fun i hi => ?_
    exact ((Eqm.refl _ _).mul (h i 0 hi (by omega))).mul (ih (F := minor0 i F) (G := minor0 i G) fun a b ha hb => h _ _ (skp_lt ha) (by omega))
/-- What Det answers. -/
def detS (M : List (List Int)) (m : Int) : Int := if squareB M && modB m then det M.length (ent M) % m else 0
def detE (M : List (List Int)) (m : Int) : Int := if squareB M then (if modB m then 0 else 1) else 3
end Go.QF
namespace Go.Proofs.YtdlfineibanppaaDoor
open Go Go.QF
set_option linter.unusedVariables false
end Go.Proofs.YtdlfineibanppaaDoor


/-
  The examples of the sanity check, in numbers; literals of slices. No condition.
-/
namespace Go.QF
open Go
set_option linter.unusedVariables false

theorem colS_congr {rc rc' : Int → Int} {r c j : Nat} {m : Int} {s : (Nat → Nat → Int) × List Nat} (hm : 0 < m) (h : ∀ x, 0 < x → x < m → rc x = rc' x) (H : Bd r c m s.1) (hj : j < c) : colS rc r m j s = colS rc' r m j s := by
  unfold colS
  dsimp only
  split
  · rename_i hi
    have hle := (firstNZ_le s.1 j (r - s.2.length) s.2.length).1
    have hne := firstNZ_ne s.1 j (r - s.2.length) s.2.length (by omega)
    have hb := H _ j hi hj
    rw [swapF_at2, h _ (by omega) hb.2]
  · rfl
theorem echTo_congr {rc rc' : Int → Int} {r c : Nat} {m : Int} {F : Nat → Nat → Int} (hm : 0 < m) (h : ∀ x, 0 < x → x < m → rc x = rc' x) (H : Bd r c m F) : ∀ j, j ≤ c → echTo rc r m F j = echTo rc' r m F j := by
  intro j
  induction j with
  | zero => intro _; rfl
  | succ j ih =>
    intro hj
    simp only [echTo]
    rw [colS_congr hm h (bd_ech hm H j) (by omega), ih (by omega)]
theorem pr2 : Pr 2 := ⟨by omega, fun d h1 h2 => by omega⟩
theorem pr3 : Pr 3 := ⟨by omega, fun d h1 h2 => by
  obtain rfl : d = 2 := by omega
  decide⟩
theorem inv2 : ∀ x, 0 < x → x < 2 → invM 2 x = id x := fun x h1 h2 => by
  obtain rfl : x = 1 := by omega
  exact invM_eq ⟨by decide, by decide, by decide⟩
theorem inv3 : ∀ x, 0 < x → x < 3 → invM 3 x = id x := fun x h1 h2 => by
  rcases (by omega : x = 1 ∨ x = 2) with rfl | rfl
  · exact invM_eq ⟨by decide, by decide, by decide⟩
  · exact invM_eq ⟨by decide, by decide, by decide⟩
def awA : List (List Int) := [[2, 4], [1, 1]]
def awB : List (List Int) := [[1, 1]]
theorem eF_congr {M : List (List Int)} {p : Int} (hp : 0 < p) (h : ∀ x, 0 < x → x < p → invM p x = id x) : eF M p = echTo id M.length p (ent (redM M p)) (cols M) := by
  unfold eF
  refine echTo_congr (c := cols M) hp h ?_ _ (Nat.le_refl _)
  have := bd_ent (c := cols M) hp (rem_red hp M)
  rw [red_len] at this
  exact this
theorem awA_pri : priB awA 2 = true := by
  unfold priB
  rw [← validB_t (by decide), ← primeB_t (by decide) pr2]; rfl
theorem awA_ech : echS awA 2 = [[1, 1]] := by
  unfold echS
  rw [awA_pri, eF_congr (by decide) inv2]; decide
theorem awA_piv : pivS awA 2 = [0] := by
  unfold pivS
  rw [awA_pri, eF_congr (by decide) inv2]; decide
theorem awA_err : echE awA 2 = 0 := by
  unfold echE
  rw [← validB_t (by decide), ← primeB_t (by decide) pr2]; rfl
theorem awB_pri : priB awB 3 = true := by
  unfold priB
  rw [← validB_t (by decide), ← primeB_t (by decide) pr3]; rfl
theorem awB_err : echE awB 3 = 0 := by
  unfold echE
  rw [← validB_t (by decide), ← primeB_t (by decide) pr3]; rfl
theorem awB_ker : kerS awB 3 = [[1, 2]] := by
  unfold kerS
  rw [awB_pri, eF_congr (by decide) inv3]
  unfold echZ
  rw [echTo_congr (c := cols awB) (by decide) inv3 (bd_ent (by decide) (kerB_rem (by decide))) _ (Nat.le_refl _)]
  decide
def awQ (x : Int) (F : Nat → Nat → Int) (s : Int) : Prop := F = augF 1 (ent (redM [[x]] 9))
theorem mat1 {h : Heap} {v r0 : Value} {z0 : List Int} (hS : Sl h v [r0]) (h0 : Sl h r0 (z0.map (.int .i64))) : Mat h v [z0] :=
  ⟨[r0], hS, rfl, fun i r z hr hz => by
    cases i with
    | zero => simp at hr hz; subst hr; subst hz; exact h0
    | succ i => simp at hr⟩
theorem mat2 {h : Heap} {v r0 r1 : Value} {z0 z1 : List Int} (hS : Sl h v [r0, r1]) (h0 : Sl h r0 (z0.map (.int .i64))) (h1 : Sl h r1 (z1.map (.int .i64))) : Mat h v [z0, z1] :=
  ⟨[r0, r1], hS, rfl, fun i r z hr hz => by
    match i with
    | 0 => simp at hr hz; subst hr; subst hz; exact h0
    | 1 => simp at hr hz; subst hr; subst hz; exact h1
    | i + 2 => simp at hr⟩
section
variable {P : Program} {B : Heap → Prop} {st : Bool} {ops : Array Oper} {rest : List Oper} {e : Env} {h : Heap} {K : Env → Heap → Prop}
variable {d : Nat} {ty : TypeId} {pos : String} {af : Array Edge}
theorem r_lit {t el bytes n : Nat} {z : Value} {parts : List (Nat × Operand)} (l : List Value) (hT : SlT P t el 1) (hz : ZeT P el z bytes) (h1 : isOne z = true) (hbB : ∀ h', B h') (hn : l.length = n) (hn2 : n ≤ 16777216) (hpos : 0 < n) (hp : (parts.map fun (i, x) => (i, e.ev x)) = partsOf 0 l)
    (hone : ∀ u ∈ l, isOne u = true) (H : ∀ v' h', Ext h h' → OwnA h' el h.size v' l → RL P B st ops rest (e.set d v') h' K) :
    RL P B st ops (⟨some d, .buildSlice t n parts.toArray, ty, pos, af, none⟩ :: rest) e h K := by
  refine r_bs l hT hz h1 (hbB _) hn hn2 hpos hp hone ⟨hbB _, ?_⟩
  have := ownA_lit h el l (by unfold maxLen; omega)
  rw [hn] at this
  exact H _ _ (ext_push _ _) this
end
end Go.QF


/-
  The sanity check of quadformlaw23: true, and old memory stays.
-/
namespace Go.Proofs.YtdlfineibanppaaDoor
open Go Go.QF
set_option linter.unusedVariables false
set_option maxRecDepth 100000

theorem aw_keeps (x : Int) : Keeps 1 2 9 (awQ x) := fun F s c i q hc hi hne _ _ _ _ => absurd hne (by omega)
theorem aw_inv {h : Heap} {v : Value} (HM : Mat h v [[2]]) : CallH Tryd.prog 23 #[v, .int .i64 9] h fun x h' => Ext h h' ∧ ∃ r, x = .tuple #[r, .int .i64 0] ∧ Mat h' r [[5]] := by
  refine (Inverse_ok HM 9 (awQ 2) (fun _ _ => rfl) (aw_keeps 2)).mono fun x h' hk => ?_
  obtain ⟨hE, r, e, rfl, hk⟩ := hk
  refine ⟨hE, r, ?_⟩
  rcases hk with ⟨h1, _⟩ | ⟨_, h1, _⟩ | ⟨_, _, F1, s, _, hQ, _, _, hk⟩
  · exact absurd h1 (by decide)
  · exact absurd h1 (by decide)
  · have hF : F1 = augF 1 (ent (redM [[2]] 9)) := hQ
    have hinv : invM 9 2 = 5 := invM_eq ⟨by decide, by decide, by decide⟩
    rcases hk with ⟨_, _, c, hc, hn⟩ | ⟨rfl, _, HM2⟩
    · refine absurd ⟨5, ?_⟩ hn
      have hc' : c < 1 := hc
      obtain rfl : c = 0 := by omega
      rw [hF]
      exact ⟨by decide, by decide, by decide⟩
    · refine ⟨rfl, ?_⟩
      have : (tab 1 1 fun i j => backTo 9 1 F1 1 i (1 + j)) = [[5]] := by
        have h0 : F1 0 0 = 2 := by rw [hF]; decide
        have h1 : F1 0 1 = 1 := by rw [hF]; decide
        simp [tab, backTo, backS, elimF_zero, scaleF, setF_same, h0, h1, hinv]
      rw [← this]; exact HM2
theorem aw_sing {h : Heap} {v : Value} (HM : Mat h v [[3]]) : CallH Tryd.prog 23 #[v, .int .i64 9] h fun x h' => Ext h h' ∧ ∃ r, x = .tuple #[r, .int .i64 8] := by
  refine (Inverse_ok HM 9 (awQ 3) (fun _ _ => rfl) (aw_keeps 3)).mono fun x h' hk => ?_
  obtain ⟨hE, r, e, rfl, hk⟩ := hk
  refine ⟨hE, r, ?_⟩
  rcases hk with ⟨h1, _⟩ | ⟨_, h1, _⟩ | ⟨_, _, F1, s, _, hQ, _, _, hk⟩
  · exact absurd h1 (by decide)
  · exact absurd h1 (by decide)
  · have hF : F1 = augF 1 (ent (redM [[3]] 9)) := hQ
    rcases hk with ⟨rfl, _⟩ | ⟨_, hall, _⟩
    · rfl
    · obtain ⟨y, _, _, hy⟩ := hall 0 (by decide)
      have h0 : F1 0 0 = 3 := by rw [hF]; decide
      rw [h0] at hy
      omega

theorem awake_ok {h : Heap} (HO : OffH h) : CallH Tryd.prog 16 #[] h fun x h' => Ext h h' ∧ x = .bool true := by
  refine calls_of_W (l := []) mx Tryd.func16 rfl rfl rfl rfl rfl (by kernel_rfl) ?_
  refine w_seq ?_
  refine w_reg ?_
  refine r_as (r_nil (q_t ?_))
  refine w_seq ?_
  refine w_reg ?_
  refine r_lit [.int .i64 2, .int .i64 4] sl_I64 ze_i64 rfl (fun _ => trivial) rfl (by decide) (by decide) rfl (by simp [isOne]) fun v1 h1 hE1 HO1 => ?_
  refine r_lit [.int .i64 1, .int .i64 1] sl_I64 ze_i64 rfl (fun _ => trivial) rfl (by decide) (by decide) rfl (by simp [isOne]) fun v2 h2 hE2 HO2 => ?_
  refine r_lit [v1, v2] sl_MM ze_I64 rfl (fun _ => trivial) rfl (by decide) (by decide) rfl (by simp [(HO1).one, (HO2).one]) fun v3 h3 hE3 HO3 => ?_
  have HM3 : Mat h3 v3 awA := mat2 HO3.sl (HO1.sl.ext (hE2.trans hE3)) (HO2.sl.ext hE3)
  have hF3 := hE1.trans (hE2.trans hE3)
  refine r_call trivial rfl (Echelon_ok HM3 2 (HO.ext hF3)) fun x1 h4 hk => ?_
  obtain ⟨hE4, vr, vp, rfl, HM4, HP4⟩ := hk
  refine ⟨trivial, ?_⟩
  rw [awA_ech] at HM4
  rw [awA_piv] at HP4
  rw [awA_err]
  have hF4 := hF3.trans hE4
  refine r_mv (r_ext rfl rfl (r_ext rfl rfl (r_ext rfl rfl (r_as (r_as (r_as (r_nil (q_t ?_))))))))
  refine w_seq ?_
  refine w_reg ?_
  refine r_lit [.int .i64 1, .int .i64 1] sl_I64 ze_i64 rfl (fun _ => trivial) rfl (by decide) (by decide) rfl (by simp [isOne]) fun v5 h5 hE5 HO5 => ?_
  refine r_lit [v5] sl_MM ze_I64 rfl (fun _ => trivial) rfl (by decide) (by decide) rfl (by simp [(HO5).one]) fun v6 h6 hE6 HO6 => ?_
  have HM6 : Mat h6 v6 awB := mat1 HO6.sl (HO5.sl.ext hE6)
  have hF6 := hF4.trans (hE5.trans hE6)
  refine r_call trivial rfl (Kernel_ok HM6 3 (HO.ext hF6)) fun x2 h7 hk => ?_
  obtain ⟨hE7, vk, rfl, HM7⟩ := hk
  refine ⟨trivial, ?_⟩
  rw [awB_ker] at HM7
  rw [awB_err]
  have hF7 := hF6.trans hE7
  refine r_mv (r_ext rfl rfl (r_ext rfl rfl (r_as (r_as (r_nil (q_t ?_))))))
  refine w_seq ?_
  refine w_reg ?_
  refine r_lit [.int .i64 2] sl_I64 ze_i64 rfl (fun _ => trivial) rfl (by decide) (by decide) rfl (by simp [isOne]) fun v8 h8 hE8 HO8 => ?_
  refine r_lit [v8] sl_MM ze_I64 rfl (fun _ => trivial) rfl (by decide) (by decide) rfl (by simp [(HO8).one]) fun v9 h9 hE9 HO9 => ?_
  have HM9 : Mat h9 v9 [[2]] := mat1 HO9.sl (HO8.sl.ext hE9)
  have hF9 := hF7.trans (hE8.trans hE9)
  refine r_call trivial rfl (aw_inv HM9) fun x3 h10 hk => ?_
  obtain ⟨hE10, vi, rfl, HM10⟩ := hk
  refine ⟨trivial, ?_⟩
  have hF10 := hF9.trans hE10
  refine r_mv (r_ext rfl rfl (r_ext rfl rfl (r_as (r_as (r_nil (q_t ?_))))))
  refine w_seq ?_
  refine w_reg ?_
  refine r_lit [.int .i64 3] sl_I64 ze_i64 rfl (fun _ => trivial) rfl (by decide) (by decide) rfl (by simp [isOne]) fun v11 h11 hE11 HO11 => ?_
  refine r_lit [v11] sl_MM ze_I64 rfl (fun _ => trivial) rfl (by decide) (by decide) rfl (by simp [(HO11).one]) fun v12 h12 hE12 HO12 => ?_
  have HM12 : Mat h12 v12 [[3]] := mat1 HO12.sl (HO11.sl.ext hE12)
  have hF12 := hF10.trans (hE11.trans hE12)
  refine r_call trivial rfl (aw_sing HM12) fun x4 h13 hk => ?_
  obtain ⟨hE13, vs, rfl⟩ := hk
  refine ⟨trivial, ?_⟩
  have hF13 := hF12.trans hE13
  refine r_mv (r_ext rfl rfl (r_ext rfl rfl (r_as (r_as (r_nil (q_t ?_))))))
  refine w_seq ?_
  refine w_reg ?_
  refine r_mv (r_eql rfl rfl (fun _ => ?_) (fun hc => absurd rfl hc))
  refine r_mv (r_want 38 true (by kernel_rfl) rfl rfl (r_mv (r_want 38 true (by kernel_rfl) rfl rfl (r_eql rfl rfl (fun _ => ?_) (fun hc => absurd rfl hc)))))
  refine r_pickT rfl (r_mv (r_want 42 true (by kernel_rfl) rfl rfl (r_mv (r_want 42 true (by kernel_rfl) rfl rfl (r_eql rfl rfl (fun _ => ?_) (fun hc => absurd rfl hc))))))
  refine r_pickT rfl (r_mv (r_want 46 true (by kernel_rfl) rfl rfl (r_mv (r_want 46 true (by kernel_rfl) rfl rfl (r_eql rfl rfl (fun _ => ?_) (fun hc => absurd rfl hc))))))
  refine r_pickT rfl (r_mv (r_want 50 true (by kernel_rfl) rfl rfl (r_mv (r_want 50 true (by kernel_rfl) rfl rfl (r_lens sl_II rfl (HP4.ext ((hE5.trans (hE6.trans (hE7.trans (hE8.trans (hE9.trans (hE10.trans (hE11.trans (hE12.trans hE13))))))))) ) ?_)))))
  refine r_want 50 true (by kernel_rfl) rfl rfl (r_eql rfl rfl (fun _ => ?_) (fun hc => absurd rfl hc))
  refine r_pickT rfl (r_mv (r_want 55 true (by kernel_rfl) rfl rfl (r_mv (r_want 55 true (by kernel_rfl) rfl rfl (r_lit [.int .i64 1, .int .i64 1] sl_I64 ze_i64 rfl (fun _ => trivial) rfl (by decide) (by decide) rfl (by simp [isOne]) fun v14 h14 hE14 HO14 => ?_)))))
  refine r_want 55 true (by kernel_rfl) rfl rfl (r_lit [v14] sl_MM ze_I64 rfl (fun _ => trivial) rfl (by decide) (by decide) rfl (by simp [(HO14).one]) fun v15 h15 hE15 HO15 => ?_)
  have HM15 : Mat h15 v15 [[1, 1]] := mat1 HO15.sl (HO14.sl.ext hE15)
  have HA15 := HM4.ext (hE5.trans (hE6.trans (hE7.trans (hE8.trans (hE9.trans (hE10.trans (hE11.trans (hE12.trans (hE13.trans (hE14.trans hE15))))))))))
  refine r_want 55 true (by kernel_rfl) rfl rfl (r_call trivial rfl (Same_ok HA15 HM15 (by simp) (by simp)) fun w0 hz hk => ?_)
  obtain ⟨rfl, rfl⟩ := hk
  refine ⟨trivial, ?_⟩
  rw [show sameB [[1, 1]] [[1, 1]] = true by decide]
  refine r_pickT rfl (r_mv (r_want 61 true (by kernel_rfl) rfl rfl (r_mv (r_want 61 true (by kernel_rfl) rfl rfl (r_lit [.int .i64 1, .int .i64 2] sl_I64 ze_i64 rfl (fun _ => trivial) rfl (by decide) (by decide) rfl (by simp [isOne]) fun v16 h16 hE16 HO16 => ?_)))))
  refine r_want 61 true (by kernel_rfl) rfl rfl (r_lit [v16] sl_MM ze_I64 rfl (fun _ => trivial) rfl (by decide) (by decide) rfl (by simp [(HO16).one]) fun v17 h17 hE17 HO17 => ?_)
  have HM17 : Mat h17 v17 [[1, 2]] := mat1 HO17.sl (HO16.sl.ext hE17)
  have HA17 := HM7.ext (hE8.trans (hE9.trans (hE10.trans (hE11.trans (hE12.trans (hE13.trans (hE14.trans (hE15.trans (hE16.trans hE17)))))))))
  refine r_want 61 true (by kernel_rfl) rfl rfl (r_call trivial rfl (Same_ok HA17 HM17 (by simp) (by simp)) fun w0 hz hk => ?_)
  obtain ⟨rfl, rfl⟩ := hk
  refine ⟨trivial, ?_⟩
  rw [show sameB [[1, 2]] [[1, 2]] = true by decide]
  refine r_pickT rfl (r_mv (r_want 67 true (by kernel_rfl) rfl rfl (r_mv (r_want 67 true (by kernel_rfl) rfl rfl (r_lit [.int .i64 5] sl_I64 ze_i64 rfl (fun _ => trivial) rfl (by decide) (by decide) rfl (by simp [isOne]) fun v18 h18 hE18 HO18 => ?_)))))
  refine r_want 67 true (by kernel_rfl) rfl rfl (r_lit [v18] sl_MM ze_I64 rfl (fun _ => trivial) rfl (by decide) (by decide) rfl (by simp [(HO18).one]) fun v19 h19 hE19 HO19 => ?_)
  have HM19 : Mat h19 v19 [[5]] := mat1 HO19.sl (HO18.sl.ext hE19)
  have HA19 := HM10.ext (hE11.trans (hE12.trans (hE13.trans (hE14.trans (hE15.trans (hE16.trans (hE17.trans (hE18.trans hE19))))))))
  refine r_want 67 true (by kernel_rfl) rfl rfl (r_call trivial rfl (Same_ok HA19 HM19 (by simp) (by simp)) fun w0 hz hk => ?_)
  obtain ⟨rfl, rfl⟩ := hk
  refine ⟨trivial, ?_⟩
  rw [show sameB [[5]] [[5]] = true by decide]
  refine r_pickT rfl (r_as (r_nil (q_t ?_)))
  refine w_ret ?_
  refine ⟨_, retV_1, ?_⟩
  exact ⟨hF13.trans (hE14.trans (hE15.trans (hE16.trans (hE17.trans (hE18.trans hE19))))), rfl⟩

end Go.Proofs.YtdlfineibanppaaDoor


/-
  The program's Det and the sanity check of law 23 in the form that the automatic walks use. Conditions stand in the statements.
-/
namespace Go.Proofs.YtdlfineibanppaaDoor
open Go Go.QF
set_option linter.unusedVariables false
def awakeP (fuel : Nat) : Option Bool := some true
theorem awake_P {fuel : Nat} {h : Heap} {r : Bool} (HO : OffH h) (hp : awakeP fuel = some r) : CallH Tryd.prog 16 #[] h (fun x h' => Ext h h' ∧ x = .bool r) := by
  cases hp
  exact awake_ok HO
end Go.Proofs.YtdlfineibanppaaDoor


/-
  Plain: the inverse that the row steps make is one on both sides. No condition.
-/
namespace Go.QF
set_option linter.unusedVariables false
/-- The left half is the right half times A; the right half has an inverse from the left. -/
def InvQ (n : Nat) (m : Int) (A F : Nat → Nat → Int) : Prop :=
  (∀ i j, i < n → j < n → Eqm m (F i j) (psum (fun k => F i (n + k) * A k j) n)) ∧
  ∃ S : Nat → Nat → Int, ∀ i j, i < n → j < n → Eqm m (comb n (S i) F (n + j)) (dl i j)
theorem invQ_rowEq {n : Nat} {m : Int} {A F F' : Nat → Nat → Int} (E : RowEq n (n + n) m F F') (H : InvQ n m A F) : InvQ n m A F' := by
  obtain ⟨h1, S, h2⟩ := H
  refine ⟨fun i j hi hj => ?_, fun i => (E.2 (S i)).choose, fun i j hi hj => ((E.2 (S i)).choose_spec (n + j) (by omega)).symm.trans (h2 i j hi hj)⟩
  obtain ⟨y, e, _⟩ := E.1 (updY (fun _ => 0) i 1)
  have e' : ∀ q, q < n + n → Eqm m (F' i q) (comb n y F q) := fun q hq => by have := e q hq; rw [comb_unit hi] at this; exact this
  refine (e' j (by omega)).trans ?_
  have h3 : Eqm m (comb n y F j) (psum (fun a => y a * psum (fun k => F a (n + k) * A k j) n) n) := Eqm.psum fun a ha => (Eqm.refl _ _).mul (h1 a j ha hj)
  refine h3.trans ?_
  have h4 : psum (fun a => y a * psum (fun k => F a (n + k) * A k j) n) n = psum (fun k => comb n y F (n + k) * A k j) n := by
    unfold comb
    rw [psum_congr (g := fun a => psum (fun k => y a * F a (n + k) * A k j) n) (fun a _ => by rw [← psum_mul]; exact psum_congr fun k _ => by rw [Int.mul_assoc]), psum_comm]
    exact psum_congr fun k _ => by rw [Int.mul_comm, ← psum_mul]; exact psum_congr fun a _ => by rw [Int.mul_comm]
  rw [h4]
  exact Eqm.psum fun k hk => ((e' (n + k) (by omega)).symm).mul (Eqm.refl _ _)
theorem rowEq_step {r c a i : Nat} {q m : Int} {F : Nat → Nat → Int} (ha : a < r) (hi : i < r) (hne : a ≠ i) : RowEq r c m F (stepF F a i q m) :=
  (rowEq_add (e := m - q) ha hi hne).trans (rowEq_swap ha hi)
theorem invQ_aug {n : Nat} {m : Int} {A : Nat → Nat → Int} : InvQ n m A (augF n A) := by
  have h0 : ∀ i k, i < n → k < n → augF n A i (n + k) = dl i k := by
    intro i k hi hk
    unfold augF dl
    rw [if_neg (by omega)]
    by_cases h : i = k
    · subst h; simp
    · rw [if_neg h, if_neg (by omega)]
  refine ⟨fun i j hi hj => Eqm.of_eq ?_, dl, fun i j hi hj => Eqm.of_eq ?_⟩
  · rw [psum_congr (g := fun k => dl i k * A k j) (fun k hk => by rw [h0 i k hi hk])]
    rw [psum_one hi (fun k hk => by unfold dl; rw [if_neg (fun h => hk h.symm)]; simp)]
    simp [dl, augF, hj]
  · unfold comb
    rw [psum_congr (g := fun k => dl i k * dl k j) (fun k hk => by rw [h0 k j hk hj])]
    rw [psum_one hi (fun k hk => by unfold dl; rw [if_neg (fun h => hk h.symm)]; simp)]
    simp [dl]
theorem rowEq_back {n c : Nat} {m : Int} {F : Nat → Nat → Int} {k : Nat} (hk : k < n) (hu : ∃ y, IsInv m (F k k) y) : RowEq n c m F (backS m F k) := by
  obtain ⟨y, hy⟩ := hu
  have hinv := invM_spec hy
  unfold backS
  refine (rowEq_scale (g := F k k) hk ?_).trans (rowEq_elim hk k (by omega))
  exact hinv.2.2
theorem invQ_back {n : Nat} {m : Int} {A F : Nat → Nat → Int} (hm : 2 ≤ m) (hbd : Bd n (n + n) m F) (hz : Zc n F n) (hu : ∀ c, c < n → ∃ y, IsInv m (F c c) y) (H : InvQ n m A F) : ∀ j, j ≤ n → InvQ n m A (backTo m n F j) := by
  intro j
  induction j with
  | zero => intro _; exact H
  | succ j ih =>
    intro hj
    refine invQ_rowEq (rowEq_back (by omega) ?_) (ih (by omega))
    rw [back_col (by omega) hbd (by omega) hz j (by omega) (n - 1 - j) (n - 1 - j) (by omega) (by omega)]
    exact hu _ (by omega)
theorem back_id {n : Nat} {m : Int} {F : Nat → Nat → Int} (hm : 2 ≤ m) (hbd : Bd n (n + n) m F) (hz : Zc n F n) (hu : ∀ c, c < n → ∃ y, IsInv m (F c c) y) : ∀ j, j ≤ n → ∀ i c, i < n → n - j ≤ c → c < n → backTo m n F j i c = dl i c := by
  intro j
  induction j with
  | zero => intro _ i c _ h1 h2; omega
  | succ j ih =>
    intro hj i c hi h1 h2
    have hb := bd_back (n := n) (by omega : 0 < m) hbd j
    have hcol := back_col (m := m) (by omega) hbd (by omega) hz j (by omega)
    obtain ⟨G, hG⟩ : ∃ G, backTo m n F j = G := ⟨_, rfl⟩
    obtain ⟨k, hk⟩ : ∃ k, n - 1 - j = k := ⟨_, rfl⟩
    have hkn : k < n := by omega
    simp only [backTo, backS]
    rw [hG, hk] 
    rw [hG] at ih hb hcol
    have hkk : G k k = F k k := hcol k k hkn (by omega)
    obtain ⟨y, hy⟩ := hu k hkn
    have hinv := invM_spec hy
    rw [hkk]
    have hrow : ∀ q, scaleF G k (invM m (F k k)) m k q = G k q * invM m (F k k) % m := fun q => by unfold scaleF; rw [setF_same]
    have hoth : ∀ a, a ≠ k → scaleF G k (invM m (F k k)) m a = G a := fun a ha => by unfold scaleF; rw [setF_ne _ _ ha]
    have hone : scaleF G k (invM m (F k k)) m k k = 1 := by rw [hrow, hkk, Int.mul_comm, hinv.2.2, Int.emod_eq_of_lt (by omega) (by omega)]
    have hright : ∀ c, k < c → c < n → scaleF G k (invM m (F k k)) m k c = 0 := fun c h3 h4 => by
      rw [hrow, ih (by omega) k c hkn (by omega) h4]; unfold dl; rw [if_neg (by omega)]; simp
    by_cases hik : i = k
    · subst hik
      rw [elimF_top]
      by_cases hci : c = i
      · subst hci; rw [hone]; simp [dl]
      · rw [hright c (by omega) h2]; unfold dl; rw [if_neg (fun h => hci h.symm)]
    · by_cases hlt : i < k
      · rw [elimF_else hlt hik, hoth i hik]
        by_cases hck : c = k
        · subst hck
          rw [hone, Int.mul_one, show G i c + (m - G i c) = m by omega, Int.emod_self]
          unfold dl; rw [if_neg hik]
        · rw [hright c (by omega) h2, Int.mul_zero, Int.add_zero, ih (by omega) i c hi (by omega) h2]
          unfold dl; rw [if_neg (by omega)]; simp
      · have he : elimF (scaleF G k (invM m (F k k)) m) k k m k i c = G i c := by
          unfold elimF; rw [if_neg (by omega), hoth i hik]
        rw [he]
        by_cases hck : c = k
        · subst hck
          rw [hcol i c hi (by omega), hz c i hkn (by omega) hi]
          unfold dl; rw [if_neg hik]
        · exact ih (by omega) i c hi (by omega) h2
/-- The right half is an inverse on both sides. -/
theorem inv_both {n : Nat} {m : Int} {A F : Nat → Nat → Int} (hm : 2 ≤ m) (hbd : Bd n (n + n) m F) (hz : Zc n F n) (hu : ∀ c, c < n → ∃ y, IsInv m (F c c) y) (H : InvQ n m A F) :
    (∀ i j, i < n → j < n → Eqm m (psum (fun k => backTo m n F n i (n + k) * A k j) n) (dl i j)) ∧ (∀ i j, i < n → j < n → Eqm m (psum (fun k => A i k * backTo m n F n k (n + j)) n) (dl i j)) := by
  obtain ⟨h1, S, h2⟩ := invQ_back hm hbd hz hu H n (Nat.le_refl _)
  have hid := back_id hm hbd hz hu n (Nat.le_refl _)
  obtain ⟨G, hG⟩ : ∃ G, backTo m n F n = G := ⟨_, rfl⟩
  rw [hG] at h1 h2 hid ⊢
  have hBA : ∀ i j, i < n → j < n → Eqm m (psum (fun k => G i (n + k) * A k j) n) (dl i j) := fun i j hi hj => by
    have := h1 i j hi hj
    rw [hid i j hi (by omega) hj] at this
    exact this.symm
  refine ⟨hBA, fun i j hi hj => ?_⟩
  have hSA : ∀ i j, i < n → j < n → Eqm m (S i j) (A i j) := by
    intro i j hi hj
    have e1 : S i j = psum (fun k => S i k * dl k j) n := by
      rw [psum_one hj (fun k hk => by unfold dl; rw [if_neg hk]; simp)]; simp [dl]
    have e2 : Eqm m (psum (fun k => S i k * dl k j) n) (psum (fun k => S i k * psum (fun l => G k (n + l) * A l j) n) n) := Eqm.psum fun k hk => (Eqm.refl _ _).mul (hBA k j hk hj).symm
    have e3 : psum (fun k => S i k * psum (fun l => G k (n + l) * A l j) n) n = psum (fun l => comb n (S i) G (n + l) * A l j) n := by
      unfold comb
      rw [psum_congr (g := fun k => psum (fun l => S i k * G k (n + l) * A l j) n) (fun k _ => by rw [← psum_mul]; exact psum_congr fun l _ => by rw [Int.mul_assoc]), psum_comm]
      exact psum_congr fun l _ => by rw [Int.mul_comm, ← psum_mul]; exact psum_congr fun k _ => by rw [Int.mul_comm]
    have e4 : Eqm m (psum (fun l => comb n (S i) G (n + l) * A l j) n) (psum (fun l => dl i l * A l j) n) := Eqm.psum fun l hl => (h2 i l hi hl).mul (Eqm.refl _ _)
    have e5 : psum (fun l => dl i l * A l j) n = A i j := by
      rw [psum_one hi (fun k hk => by unfold dl; rw [if_neg (fun h => hk h.symm)]; simp)]; simp [dl]
    rw [e1]
    exact (e2.trans (Eqm.of_eq e3)).trans (e4.trans (Eqm.of_eq e5))
  refine Eqm.trans (Eqm.psum fun k hk => (hSA i k hi hk).symm.mul (Eqm.refl _ _)) ?_
  exact h2 i j hi hj
/-- A triangular matrix with an inverse from the left has units on its diagonal. -/
theorem tri_unit {n : Nat} {m : Int} {T L : Nat → Nat → Int} (hm : 2 ≤ m) (hL : ∀ i c, c < i → i < n → L i c = 0) (hT : ∀ i j, i < n → j < n → Eqm m (psum (fun k => T i k * L k j) n) (dl i j)) :
    ∀ c, c < n → Eqm m (T c c * L c c) 1 ∧ ∀ i, c < i → i < n → Eqm m (T i c) 0 := by
  intro c
  induction c using Nat.strongRecOn with
  | _ c ih =>
    intro hc
    have key : ∀ i, c ≤ i → i < n → Eqm m (T i c * L c c) (dl i c) := by
      intro i h1 h2
      refine Eqm.trans ?_ (hT i c h2 hc)
      have e1 : Eqm m (psum (fun k => T i k * L k c) n) (psum (fun k => if k = c then T i c * L c c else 0) n) := Eqm.psum fun k hk => by
        by_cases h3 : k = c
        · subst h3; rw [if_pos rfl]; exact Eqm.refl _ _
        · rw [if_neg h3]
          rcases Nat.lt_or_ge k c with h4 | h4
          · exact (((ih k h4 (by omega)).2 i (by omega) h2).mul (Eqm.refl _ _)).trans (Eqm.of_eq (by simp))
          · rw [hL k c (by omega) hk]; exact Eqm.of_eq (by simp)
      refine Eqm.trans (Eqm.of_eq ?_) e1.symm
      rw [psum_one hc (fun k hk => if_neg hk), if_pos rfl]
    have hcc : Eqm m (T c c * L c c) 1 := by have := key c (Nat.le_refl _) hc; simpa [dl] using this
    refine ⟨hcc, fun i h1 h2 => ?_⟩
    have h3 := key i (by omega) h2
    unfold dl at h3
    rw [if_neg (by omega)] at h3
    have h4 := h3.mul (Eqm.refl m (T c c))
    refine Eqm.trans ?_ (h4.trans (Eqm.of_eq (by simp)))
    refine Eqm.trans (Eqm.of_eq (show T i c = T i c * 1 by omega)) (((Eqm.refl m (T i c)).mul hcc.symm).trans (Eqm.of_eq ?_))
    grind
/-- A matrix with an inverse from the left is never called singular. -/
theorem uni_unit {n : Nat} {m : Int} {A F V : Nat → Nat → Int} (hm : 2 ≤ m) (hz : Zc n F n) (H : InvQ n m A F) (hV : ∀ i j, i < n → j < n → Eqm m (psum (fun k => V i k * A k j) n) (dl i j)) : ∀ c, c < n → ∃ y, IsInv m (F c c) y := by
  obtain ⟨h1, S, h2⟩ := H
  have hT : ∀ i j, i < n → j < n → Eqm m (psum (fun k => psum (fun a => V i a * S a k) n * F k j) n) (dl i j) := by
    intro i j hi hj
    have e1 : Eqm m (psum (fun k => psum (fun a => V i a * S a k) n * F k j) n) (psum (fun k => psum (fun a => V i a * S a k) n * psum (fun l => F k (n + l) * A l j) n) n) := Eqm.psum fun k hk => (Eqm.refl _ _).mul (h1 k j hk hj)
    have e2 : psum (fun k => psum (fun a => V i a * S a k) n * psum (fun l => F k (n + l) * A l j) n) n = psum (fun a => V i a * psum (fun l => comb n (S a) F (n + l) * A l j) n) n := by
      have s1 : ∀ k, psum (fun a => V i a * S a k) n * psum (fun l => F k (n + l) * A l j) n = psum (fun a => V i a * (S a k * psum (fun l => F k (n + l) * A l j) n)) n := fun k => by
        rw [Int.mul_comm, ← psum_mul]; exact psum_congr fun a _ => by rw [Int.mul_comm, Int.mul_assoc]
      rw [psum_congr (fun k _ => s1 k), psum_comm]
      refine psum_congr fun a _ => ?_
      rw [psum_mul]
      congr 1
      unfold comb
      rw [psum_congr (g := fun k => psum (fun l => S a k * F k (n + l) * A l j) n) (fun k _ => by rw [← psum_mul]; exact psum_congr fun l _ => by rw [Int.mul_assoc]), psum_comm]
      exact psum_congr fun l _ => by rw [Int.mul_comm, ← psum_mul]; exact psum_congr fun k _ => by rw [Int.mul_comm]
    have e3 : Eqm m (psum (fun a => V i a * psum (fun l => comb n (S a) F (n + l) * A l j) n) n) (psum (fun a => V i a * A a j) n) := Eqm.psum fun a ha => by
      refine (Eqm.refl _ _).mul ?_
      refine (Eqm.psum (g := fun l => dl a l * A l j) fun l hl => (h2 a l ha hl).mul (Eqm.refl _ _)).trans (Eqm.of_eq ?_)
      rw [psum_one ha (fun k hk => by unfold dl; rw [if_neg (fun h => hk h.symm)]; simp)]; simp [dl]
    exact (e1.trans (Eqm.of_eq e2)).trans (e3.trans (hV i j hi hj))
  intro c hc
  have := (tri_unit hm (fun i c h3 h4 => hz c i (by omega) h3 h4) hT c hc).1
  refine ⟨psum (fun a => V c a * S a c) n % m, Int.emod_nonneg _ (by omega), Int.emod_lt_of_pos _ (by omega), ?_⟩
  rw [Int.mul_emod, Int.emod_emod, ← Int.mul_emod]
  exact this
end Go.QF


/-
  Plain: cofactors, the adjugate, and when a matrix has an inverse modulo a number. No condition.
-/
namespace Go.QF
set_option linter.unusedVariables false
/-- Row i replaced by the j-th unit vector. -/
def cofF (n : Nat) (F : Nat → Nat → Int) (i j : Nat) : Int := det n (setF F i (dl j))
def adjF (n : Nat) (F : Nat → Nat → Int) (i j : Nat) : Int := cofF n F j i
/-- Two columns change places. -/
def tau (j c : Nat) : Nat := if c = j then j + 1 else if c = j + 1 then j else c
theorem det_cols {n j : Nat} {F : Nat → Nat → Int} (hj : j + 1 < n) : det n (fun r c => F r (tau j c)) = -det n F := by
  rw [← det_tr (fun r c => F r (tau j c)), ← det_tr F, ← det_swap (F := trF F) (a := j) (b := j + 1) (by omega) hj (by omega)]
  refine det_congr fun c r hc hr => ?_
  rw [swapF_app]
  show F r (tau j c) = if c = j + 1 then F r j else if c = j then F r (j + 1) else F r c
  unfold tau
  by_cases h1 : c = j + 1
  · subst h1; simp
  · by_cases h2 : c = j
    · subst h2; simp
    · simp [h1, h2]
theorem psum_one' {f : Nat → Int} {n a : Nat} (ha : a < n) (h : ∀ i, i < n → i ≠ a → f i = 0) : psum f n = f a := by
  rw [psum_congr (g := fun i => if i = a then f a else 0) (fun k hk => ?_), psum_one ha (fun i hi => if_neg hi), if_pos rfl]
  by_cases e : k = a
  · subst e; rw [if_pos rfl]
  · rw [if_neg e, h k hk e]
theorem cof_minor {n : Nat} : ∀ {j : Nat} {F : Nat → Nat → Int} {i : Nat}, i < n + 1 → j < n + 1 → cofF (n + 1) F i j = sg i * sg j * det n (fun a b => F (skp i a) (skp j b)) := by
  intro j
  induction j with
  | zero =>
    intro F i hi hj
    unfold cofF
    simp only [det]
    rw [psum_one' hi (fun r hrn hr => ?_)]
    · rw [setF_app, if_pos rfl, minor0_set_self]
      have : det n (minor0 i F) = det n (fun a b => F (skp i a) (skp 0 b)) := det_congr fun a b _ _ => by unfold minor0 skp; simp
      rw [this]
      simp [dl, sg]
    · have : det n (minor0 r (setF F i (dl 0))) = 0 := by
        rw [minor0_set (fun h => hr h.symm)]
        refine det_zero_row (r := usk r i) (usk_lt (fun h => hr h.symm) hrn hi) fun q _ => ?_
        rw [setF_app, if_pos rfl]; simp [dl]
      rw [this]; simp
  | succ j ih =>
    intro F i hi hj
    have h1 := ih (F := fun r c => F r (tau j c)) (i := i) hi (by omega)
    have h2 : cofF (n + 1) (fun r c => F r (tau j c)) i j = -cofF (n + 1) F i (j + 1) := by
      unfold cofF
      rw [← det_cols (F := setF F i (dl (j + 1))) (by omega)]
      refine det_congr fun r c _ _ => ?_
      rw [setF_app, setF_app]
      split
      · unfold dl tau
        by_cases h1 : c = j
        · subst h1; simp
        · by_cases h2 : c = j + 1
          · subst h2; simp
          · rw [if_neg (fun h => h1 h.symm), if_neg h1, if_neg h2, if_neg (fun h => h2 h.symm)]
      · rfl
    have h3 : (fun a b => F (skp i a) (tau j (skp j b))) = fun a b => F (skp i a) (skp (j + 1) b) := by
      funext a b
      congr 1
      unfold tau skp
      by_cases h1 : b < j
      · rw [if_pos h1, if_neg (by omega), if_neg (by omega), if_pos (by omega)]
      · rw [if_neg h1]
        by_cases h2 : b = j
        · subst h2; rw [if_neg (by omega), if_pos rfl, if_pos (by omega)]
        · rw [if_neg (by omega), if_neg (by omega), if_neg (by omega)]
    rw [h2, h3] at h1
    rw [sg_succ]
    have : cofF (n + 1) F i (j + 1) = -(sg i * sg j * det n fun a b => F (skp i a) (skp (j + 1) b)) := by omega
    rw [this]; grind
theorem cof_tr {n : Nat} {F : Nat → Nat → Int} {i j : Nat} (hi : i < n) (hj : j < n) : cofF n (trF F) i j = cofF n F j i := by
  obtain ⟨k, rfl⟩ : ∃ k, n = k + 1 := ⟨n - 1, by omega⟩
  rw [cof_minor hi hj, cof_minor hj hi, ← det_tr (fun a b => F (skp j a) (skp i b)), Int.mul_comm (sg i)]
  rfl
theorem cof_row {n : Nat} {F : Nat → Nat → Int} {i j : Nat} (hi : i < n) (hj : j < n) : psum (fun k => F i k * cofF n F j k) n = if i = j then det n F else 0 := by
  have h := det_psum (F := F) hj (F i) dl n
  have e : det n (setF F j fun q => psum (fun k => F i k * dl k q) n) = det n (setF F j (F i)) := det_congr fun r c _ hc => by
    rw [setF_app, setF_app]
    split
    · exact mul_dl (F := F) (i := i) hc
    · rfl
  unfold cofF
  rw [← h, e]
  split
  · subst_vars
    refine det_congr fun r c _ _ => ?_
    rw [setF_app]; split
    · subst_vars; rfl
    · rfl
  · rename_i hij
    refine det_eq_rows hi hj hij ?_
    funext c
    rw [setF_app, if_neg hij, setF_app, if_pos rfl]
theorem cof_col {n : Nat} {F : Nat → Nat → Int} {i j : Nat} (hi : i < n) (hj : j < n) : psum (fun k => cofF n F k i * F k j) n = if i = j then det n F else 0 := by
  have h := cof_row (F := trF F) hj hi
  rw [det_tr] at h
  rw [psum_congr (g := fun k => trF F j k * cofF n (trF F) i k) (fun k hk => by rw [cof_tr hi hk, Int.mul_comm]; rfl), h]
  by_cases e : i = j
  · rw [if_pos e, if_pos e.symm]
  · rw [if_neg e, if_neg (fun h => e h.symm)]
theorem adj_right {n : Nat} {F : Nat → Nat → Int} {i j : Nat} (hi : i < n) (hj : j < n) : psum (fun k => F i k * adjF n F k j) n = det n F * dl i j := by
  unfold adjF
  rw [cof_row hi hj]
  unfold dl; split <;> simp
theorem adj_left {n : Nat} {F : Nat → Nat → Int} {i j : Nat} (hi : i < n) (hj : j < n) : psum (fun k => adjF n F i k * F k j) n = det n F * dl i j := by
  unfold adjF
  rw [cof_col hi hj]
  unfold dl; split <;> simp
end Go.QF


/-
  The program's Inverse in the form that the automatic walks use: the inverse by the adjugate. Conditions stand in the statements.
-/
namespace Go.QF
set_option linter.unusedVariables false
open Classical in
noncomputable def invE (A : List (List Int)) (m : Int) : Int := if squareB A then (if modB m then (if ∃ y, IsInv m (detS A m) y then 0 else 8) else 1) else 3
open Classical in
noncomputable def invS (A : List (List Int)) (m : Int) : List (List Int) := if squareB A = true ∧ modB m = true ∧ ∃ y, IsInv m (detS A m) y then tab A.length A.length (fun i j => adjF A.length (ent (redM A m)) i j * invM m (detS A m) % m) else []
theorem isInv_eqm {m x r : Int} (h : IsInv m x r) : Eqm m (r * x) 1 := h.2.2
theorem isInv_of {m x r : Int} (hm : 2 ≤ m) (h : Eqm m (r * x) 1) : ∃ y, IsInv m x y := ⟨r % m, Int.emod_nonneg _ (by omega), Int.emod_lt_of_pos _ (by omega), by
  rw [Int.mul_emod, Int.emod_emod, ← Int.mul_emod]; exact h⟩
/-- An inverse on both sides is the adjugate times the inverse of the determinant. -/
theorem inv_adj_unique {n : Nat} {m u d : Int} {A B : Nat → Nat → Int} (hu : Eqm m (u * d) 1) (hd : Eqm m d (det n A)) (hBA : ∀ i j, i < n → j < n → Eqm m (psum (fun k => B i k * A k j) n) (dl i j)) {i j : Nat} (hi : i < n) (hj : j < n) : Eqm m (B i j) (adjF n A i j * u) := by
  have h1 : Eqm m (psum (fun k => B i k * psum (fun l => A k l * (adjF n A l j * u)) n) n) (B i j) := by
    have e1 : ∀ k, k < n → Eqm m (psum (fun l => A k l * (adjF n A l j * u)) n) (dl k j) := fun k hk => by
      have e2 : psum (fun l => A k l * (adjF n A l j * u)) n = u * psum (fun l => A k l * adjF n A l j) n := by
        rw [← psum_mul]; exact psum_congr fun l _ => by grind
      rw [e2, adj_right hk hj]
      refine Eqm.trans (Eqm.of_eq (show u * (det n A * dl k j) = u * det n A * dl k j by rw [Int.mul_assoc])) ?_
      have := (((Eqm.refl m u).mul hd.symm).trans hu).mul (Eqm.refl m (dl k j))
      rwa [Int.one_mul] at this
    refine Eqm.trans (Eqm.psum fun k hk => (Eqm.refl m (B i k)).mul (e1 k hk)) (Eqm.of_eq ?_)
    exact mul_dl (F := B) (i := i) hj
  have h2 : psum (fun k => B i k * psum (fun l => A k l * (adjF n A l j * u)) n) n = psum (fun l => psum (fun k => B i k * A k l) n * (adjF n A l j * u)) n := by
    rw [psum_congr (g := fun k => psum (fun l => B i k * A k l * (adjF n A l j * u)) n) (fun k _ => by rw [← psum_mul]; exact psum_congr fun l _ => by rw [Int.mul_assoc]), psum_comm]
    refine psum_congr fun l _ => ?_
    rw [Int.mul_comm (psum (fun k => B i k * A k l) n), ← psum_mul]
    exact psum_congr fun k _ => by rw [Int.mul_comm]
  refine h1.symm.trans ((Eqm.of_eq h2).trans ?_)
  refine Eqm.trans (Eqm.psum (g := fun l => dl i l * (adjF n A l j * u)) fun l hl => (hBA i l hi hl).mul (Eqm.refl _ _)) (Eqm.of_eq ?_)
  rw [psum_one' hi (fun k hk hne => by unfold dl; rw [if_neg (fun h => hne h.symm)]; simp)]
  simp [dl]
end Go.QF
namespace Go.Proofs.YtdlfineibanppaaDoor
open Go Go.QF
set_option linter.unusedVariables false
def QJ (A : List (List Int)) (m : Int) (F : Nat → Nat → Int) (s : Int) : Prop := InvQ A.length m (ent (redM A m)) F
theorem keeps_QJ (A : List (List Int)) (m : Int) : Keeps A.length (A.length + A.length) m (QJ A m) := fun F s c i q hc hi hne _ _ _ H => invQ_rowEq (rowEq_step hc hi hne) H
noncomputable def modInvP (fuel : Nat) (M : List (List Int)) (m : Int) : Option (List (List Int) × Int) := some (invS M m, invE M m)
theorem Inverse_val {h : Heap} {v : Value} {M : List (List Int)} (HM : Mat h v M) (m : Int) : CallH Tryd.prog 23 #[v, .int .i64 m] h fun x h' => Ext h h' ∧ ∃ r, x = .tuple #[r, .int .i64 (invE M m)] ∧ Mat h' r (invS M m) := by
  refine (Inverse_ok HM m (QJ M m) (fun _ _ => invQ_aug) (keeps_QJ M m)).mono fun x h' ⟨hE, r, e, hx, hk⟩ => ⟨hE, r, ?_⟩
  subst hx
  rcases hk with ⟨h1, rfl, h2⟩ | ⟨h1, h2, rfl, h3⟩ | ⟨h1, h2, F1, s, hs, hQ, hbd, hz, hk⟩
  · refine ⟨by simp [invE, h1], ?_⟩
    rw [show invS M m = [] by unfold invS; rw [if_neg (fun h => by rw [h1] at h; cases h.1)]]; exact h2
  · refine ⟨by simp [invE, h1, h2], ?_⟩
    rw [show invS M m = [] by unfold invS; rw [if_neg (fun h => by rw [h2] at h; cases h.2.1)]]; exact h3
  · have hm := mod_of_modB h2
    have hD : Eqm m (detS M m) (det M.length (ent (redM M m))) := by
      have e1 : detS M m = det M.length (ent M) % m := by simp [detS, h1, h2]
      rw [e1]
      refine (Eqm.mod _ _).trans (det_eqm fun i j _ _ => ?_)
      rw [ent_red]; exact (Eqm.mod _ _).symm
    rcases hk with ⟨rfl, h3, c, hc, hno⟩ | ⟨rfl, hun, h3⟩
    · have hnot : ¬ ∃ y, IsInv m (detS M m) y := by
        rintro ⟨y, hy⟩
        refine hno (uni_unit hm.1 hz hQ (V := fun i k => y * adjF M.length (ent (redM M m)) i k) (fun i j hi hj => ?_) c hc)
        have e2 : psum (fun k => y * adjF M.length (ent (redM M m)) i k * ent (redM M m) k j) M.length = y * psum (fun k => adjF M.length (ent (redM M m)) i k * ent (redM M m) k j) M.length := by
          rw [← psum_mul]; exact psum_congr fun k _ => by rw [Int.mul_assoc]
        rw [e2, adj_left hi hj]
        refine Eqm.trans (Eqm.of_eq (show y * (det M.length (ent (redM M m)) * dl i j) = y * det M.length (ent (redM M m)) * dl i j by rw [Int.mul_assoc])) ?_
        have := (((Eqm.refl m y).mul hD.symm).trans (isInv_eqm hy)).mul (Eqm.refl m (dl i j))
        rwa [Int.one_mul] at this
      refine ⟨by simp [invE, h1, h2, hnot], ?_⟩
      rw [show invS M m = [] by unfold invS; rw [if_neg (fun h => hnot h.2.2)]]; exact h3
    · obtain ⟨hBA, hAB⟩ := inv_both hm.1 hbd hz hun hQ
      have hyes : ∃ y, IsInv m (detS M m) y := by
        have e1 := det_mul (n := M.length) (fun i j => backTo m M.length F1 M.length i (M.length + j)) (ent (redM M m))
        have e2 : Eqm m (det M.length (mulF M.length (fun i j => backTo m M.length F1 M.length i (M.length + j)) (ent (redM M m)))) (det M.length dl) := det_eqm fun i j hi hj => hBA i j hi hj
        rw [e1, det_id] at e2
        exact isInv_of hm.1 (((Eqm.refl _ _).mul hD).trans e2)
      refine ⟨by simp [invE, h1, h2, hyes], ?_⟩
      have e3 : invS M m = tab M.length M.length fun i j => backTo m M.length F1 M.length i (M.length + j) := by
        unfold invS
        rw [if_pos ⟨h1, h2, hyes⟩]
        obtain ⟨y, hy⟩ := hyes
        have hu := isInv_eqm (invM_spec hy)
        refine tab_congr fun i j hi hj => ?_
        have h5 := inv_adj_unique (B := fun i k => backTo m M.length F1 M.length i (M.length + k)) hu hD hBA hi hj
        have h6 := bd_back (n := M.length) (by omega : 0 < m) hbd M.length i (M.length + j) hi (by omega)
        rw [← Int.emod_eq_of_lt h6.1 h6.2]
        exact h5.symm
      rw [e3]; exact h3
theorem modInv_P {fuel : Nat} {h : Heap} {v : Value} {M : List (List Int)} {m : Int} {r : List (List Int) × Int} (H : SlC2 (cI .i64) h v M) (hp : modInvP fuel M m = some r) : CallH Tryd.prog 23 #[v, .int .i64 m] h (fun x h' => Ext h h' ∧ ∃ (x0 : Value), x = .tuple #[x0, .int .i64 r.2] ∧ SlC2 (cI .i64) h' x0 r.1) := by
  cases hp
  exact (Inverse_val (mat_of H) m).mono fun x h' ⟨E, r, hx, hr⟩ => ⟨E, r, hx, slC2_of hr⟩
end Go.Proofs.YtdlfineibanppaaDoor


/-
  ModularInverse, walked.
-/
namespace Go.Proofs.YtdlfineibanppaaDoor
open Go Go.QF
set_option linter.unusedVariables false
set_option linter.unusedSimpArgs false
set_option maxRecDepth 100000
set_option maxHeartbeats 4000000
noncomputable def P_quadformlaw23_ModularInverse (fuel : Nat) (a3 : (List (List Int))) (a5 : Int) (a6 : Int) (a9 : (List Int)) (a11 : Int) (a12 : Int) (a13 : Bool) (a14 : Bool) : Option Bool :=
  ((P_quadformlaw23_large fuel a3).bind fun x21 => (if x21 = true then ((awakeP fuel).bind fun x30 => (some x30)) else (if a14 = true then ((P_quadformmake_Grid_Ints fuel a5 a5 a9 5).bind fun x44 => ((P_quadformlaw23_modulus fuel a11 a12 a13).bind fun x58 => ((modInvP fuel x44 x58).bind fun (x65, x66) => ((P_quadformref23_Inverse fuel x44 x58).bind fun (x79, x80) => (if x66 = x80 then ((P_quadformref23_Same fuel x65 x79).bind fun x96 => (if x96 = true then ((awakeP fuel).bind fun x106 => (some x106)) else (some false))) else (some false)))))) else ((P_quadformlaw23_modulus fuel a11 a12 a13).bind fun x115 => ((modInvP fuel a3 x115).bind fun (x122, x123) => ((P_quadformref23_Inverse fuel a3 x115).bind fun (x136, x137) => (if x123 = x137 then ((P_quadformref23_Same fuel x122 x136).bind fun x153 => (if x153 = true then ((awakeP fuel).bind fun x163 => (some x163)) else (some false))) else (some false))))))))
theorem P_quadformlaw23_ModularInverse_ok {fuel : Nat} {h : Heap} {pv1 : Value} {a3 : (List (List Int))} {a5 : Int} {a6 : Int} {pv7 : Value} {a9 : (List Int)} {a11 : Int} {a12 : Int} {a13 : Bool} {a14 : Bool} {r : Bool} (H2 : SlC2 (cI .i64) h pv1 a3) (H8 : SlC (cI .i8) h pv7 a9) (HO : OffH h) (hp : P_quadformlaw23_ModularInverse fuel a3 a5 a6 a9 a11 a12 a13 a14 = some r) : CallH Tryd.prog 4 #[pv1, (.agg #[(.int .u8 a5), (.int .u8 a6), pv7]), (.int .u16 a11), (.int .i64 a12), (.bool a13), (.bool a14)] h (fun x h' => Ext h h' ∧ x = .bool r) := by
  unfold P_quadformlaw23_ModularInverse at hp
  have S0 := sp_nil h (Array.size h)
  refine calls_of_W (l := [_, _, _, _, _, _]) mx Tryd.func4 rfl rfl rfl rfl rfl (by kernel_rfl) ?_
  refine w_seq ?_
  refine w_reg ?_
  refine r_boxE [(.int .u8 a5), (.int .u8 a6), pv7] trivial (fun _ _ => trivial) rfl rfl fun b15 h16 V17 E18 S19 => ?_
  have sz21 := E18.1
  have S22 : Sp h16 (Array.size h) [[b15]] := S0.app S19 E18.1 (Nat.le_refl _)
  have lo23 := S19.loAll 0 rfl
  refine r_as (r_nil (q_t ?_))
  refine w_seq ?_
  refine w_seq ?_
  refine w_reg ?_
  refine r_mv ?_
  obtain ⟨x24, hx25, hp26⟩ := obind hp
  clear hp
  refine r_callE trivial (fun _ _ => trivial) rfl (P_quadformlaw23_large_ok (H2.ext E18) hx25) fun xv30 h28 E27 hk29 => ?_
  subst hk29
  have sz31 := E27.1
  have X32 := E18.trans E27
  have S33 : Sp h28 (Array.size h) [[b15]] := S22.keep E27.1
  refine r_nil (q_t ?_)
  refine ⟨_, rfl, fun hc34 => ?_, fun hc34 => ?_⟩
  · skip
    have hp35 := ifT hp26 hc34
    clear hp26
    refine w_seq ?_
    refine w_reg ?_
    obtain ⟨x36, hx37, hp38⟩ := obind hp35
    clear hp35
    refine r_callE trivial (fun _ _ => trivial) rfl (awake_P (HO.ext X32) hx37) fun xv42 h40 E39 hk41 => ?_
    subst hk41
    have sz43 := E39.1
    have X44 := X32.trans E39
    have S45 : Sp h40 (Array.size h) [[b15]] := S33.keep E39.1
    refine r_as (r_nil (q_t ?_))
    refine w_ret (q_tr ?_)
    have hq46 := Option.some.inj hp38
    subst hq46
    exact ⟨_, retV_1, X44, rfl⟩
  · skip
    have hp47 := ifFb hp26 hc34
    clear hp26
    refine w_skip (q_t ?_)
    refine w_seq ?_
    refine w_seq ?_
    refine w_reg ?_
    refine r_mv (r_nil (q_t ?_))
    refine ⟨_, rfl, fun hc48 => ?_, fun hc48 => ?_⟩
    · skip
      have hp49 := ifT hp47 hc48
      clear hp47
      refine w_seq ?_
      refine w_reg ?_
      have I50 := V17.ext E27
      refine r_fo (fs := 1) fd_GridT0 (by kernel_rfl) (by decide) rfl ?_
      refine r_ld na_u8 rfl (I50.cell (i := 0) rfl) (r_fo (fs := 1) fd_GridT1 (by kernel_rfl) (by decide) rfl ?_)
      refine r_stB [(.int .u8 a5), (.int .u8 a5), pv7] na_u8 rfl rfl rfl I50 (Nat.le_of_ble_eq_true rfl) rfl fun h51 I53 U54 => ?_
      have U52 := I53.stA U54 (boxAll I50 rfl) rfl
      have sz55 := U52.size
      have X56 := X32.thenT U52 (S33.loAll 0 rfl)
      have S57 : Sp h51 (Array.size h) [[b15]] := S33.keep U52.size
      refine r_nil (q_t ?_)
      refine w_reg ?_
      refine r_ldA [(.int .u8 a5), (.int .u8 a5), pv7] ag_GridT rfl rfl I53.agg ?_
      obtain ⟨x58, hx59, hp60⟩ := obind hp49
      clear hp49
      refine r_callE trivial (fun _ _ => trivial) rfl (P_quadformmake_Grid_Ints_ok (H8.ext X56) hx59) fun xv64 h62 E61 hk63 => ?_
      obtain ⟨v65, F68, G69, rs70, rfl, I66, S71⟩ := hk63
      have sz72 := E61.1
      have X73 := X56.trans E61
      have S74 : Sp h62 (Array.size h) [[b15], F68] := S57.app S71 E61.1 X56.1
      have lo75 := S71.loAll 0 rfl
      refine r_as (r_nil (q_t ?_))
      refine w_seq ?_
      refine w_reg ?_
      refine r_mv (r_mv (r_mv ?_))
      obtain ⟨x76, hx77, hp78⟩ := obind hp60
      clear hp60
      refine r_callE trivial (fun _ _ => trivial) rfl (P_quadformlaw23_modulus_ok hx77) fun xv82 h80 E79 hk81 => ?_
      subst hk81
      have sz83 := E79.1
      have X84 := X73.trans E79
      have S85 : Sp h80 (Array.size h) [[b15], F68] := S74.keep E79.1
      refine r_as (r_nil (q_t ?_))
      refine w_seq ?_
      refine w_reg ?_
      refine r_mv (r_mv ?_)
      have I86 := I66.ext E79
      obtain ⟨⟨x87, x88⟩, hx89, hp90⟩ := obind hp78
      clear hp78
      dsimp only at hp90
      refine r_callE trivial (fun _ _ => trivial) rfl (modInv_P I86.rd hx89) fun xv94 h92 E91 hk93 => ?_
      obtain ⟨v95, rfl, I96⟩ := hk93
      have sz101 := E91.1
      have X102 := X84.trans E91
      have S103 : Sp h92 (Array.size h) [[b15], F68] := S85.keep E91.1
      refine r_mv (r_ext rfl rfl (r_ext rfl rfl (r_as (r_as (r_nil (q_t ?_))))))
      refine w_seq ?_
      refine w_reg ?_
      refine r_mv (r_mv ?_)
      have I104 := I86.ext E91
      obtain ⟨⟨x105, x106⟩, hx107, hp108⟩ := obind hp90
      clear hp90
      dsimp only at hp108
      refine r_callE trivial (fun _ _ => trivial) rfl (P_quadformref23_Inverse_ok I104.rd hx107) fun xv112 h110 E109 hk111 => ?_
      obtain ⟨v113, F116, G117, rs118, rfl, I114, S119⟩ := hk111
      have sz120 := E109.1
      have X121 := X102.trans E109
      have S122 : Sp h110 (Array.size h) [[b15], F68, F116] := S103.app S119 E109.1 X102.1
      have lo123 := S119.loAll 0 rfl
      refine r_mv (r_ext rfl rfl (r_ext rfl rfl (r_as (r_as (r_nil (q_t ?_))))))
      refine w_seq ?_
      refine w_reg ?_
      refine r_mv (r_mv (r_cmp rfl rfl (cmp_eql _ _) (r_mv ?_)))
      rcases Decidable.em (x88 = x106) with hc124 | hc124
      · skip
        have hp125 := ifT hp108 hc124
        clear hp108
        rw [show decide (x88 = x106) = true from decide_eq_true hc124]
        refine r_want 46 true (by kernel_rfl) rfl rfl (r_mv (r_want 46 true (by kernel_rfl) rfl rfl (r_mv (r_want 46 true (by kernel_rfl) rfl rfl ?_))))
        have I126 := I96.ext E109
        obtain ⟨x127, hx128, hp129⟩ := obind hp125
        clear hp125
        refine r_callE trivial (fun _ _ => trivial) rfl (P_quadformref23_Same_ok I126 I114.rd hx128) fun xv133 h131 E130 hk132 => ?_
        subst hk132
        have sz134 := E130.1
        have X135 := X121.trans E130
        have S136 : Sp h131 (Array.size h) [[b15], F68, F116] := S122.keep E130.1
        refine r_pickT rfl (r_mv ?_)
        cases hc137 : x127
        · skip
          have hp138 := ifFb hp129 hc137
          refine r_skip 51 false (by kernel_rfl) rfl rfl (r_pickF rfl (r_as (r_nil (q_t ?_))))
          refine w_ret ?_
          have hq139 := Option.some.inj hp138
          subst hq139
          exact ⟨_, retV_1, X135, rfl⟩
        · skip
          have hp140 := ifT hp129 hc137
          refine r_want 51 true (by kernel_rfl) rfl rfl ?_
          obtain ⟨x141, hx142, hp143⟩ := obind hp140
          clear hp140
          refine r_callE trivial (fun _ _ => trivial) rfl (awake_P (HO.ext X135) hx142) fun xv147 h145 E144 hk146 => ?_
          subst hk146
          have sz148 := E144.1
          have X149 := X135.trans E144
          have S150 : Sp h145 (Array.size h) [[b15], F68, F116] := S136.keep E144.1
          refine r_pickT rfl (r_as (r_nil (q_t ?_)))
          refine w_ret ?_
          have hq151 := Option.some.inj hp143
          subst hq151
          exact ⟨_, retV_1, X149, rfl⟩
      · skip
        have hp152 := ifF hp108 hc124
        clear hp108
        rw [show decide (x88 = x106) = false from decide_eq_false hc124]
        refine r_skip 46 false (by kernel_rfl) rfl rfl (r_skip 46 false (by kernel_rfl) rfl rfl (r_skip 46 false (by kernel_rfl) rfl rfl (r_pickF rfl (r_mv (r_skip 51 false (by kernel_rfl) rfl rfl (r_pickF rfl (r_as (r_nil (q_t ?_)))))))))
        refine w_ret ?_
        have hq153 := Option.some.inj hp152
        subst hq153
        exact ⟨_, retV_1, X121, rfl⟩
    · skip
      have hp154 := ifFb hp47 hc48
      clear hp47
      refine w_skip (q_t ?_)
      refine w_seq ?_
      refine w_reg ?_
      refine r_mv (r_mv (r_mv ?_))
      obtain ⟨x155, hx156, hp157⟩ := obind hp154
      clear hp154
      refine r_callE trivial (fun _ _ => trivial) rfl (P_quadformlaw23_modulus_ok hx156) fun xv161 h159 E158 hk160 => ?_
      subst hk160
      have sz162 := E158.1
      have X163 := X32.trans E158
      have S164 : Sp h159 (Array.size h) [[b15]] := S33.keep E158.1
      refine r_as (r_nil (q_t ?_))
      refine w_seq ?_
      refine w_reg ?_
      refine r_mv (r_mv ?_)
      obtain ⟨⟨x165, x166⟩, hx167, hp168⟩ := obind hp157
      clear hp157
      dsimp only at hp168
      refine r_callE trivial (fun _ _ => trivial) rfl (modInv_P (H2.ext X163) hx167) fun xv172 h170 E169 hk171 => ?_
      obtain ⟨v173, rfl, I174⟩ := hk171
      have sz179 := E169.1
      have X180 := X163.trans E169
      have S181 : Sp h170 (Array.size h) [[b15]] := S164.keep E169.1
      refine r_mv (r_ext rfl rfl (r_ext rfl rfl (r_as (r_as (r_nil (q_t ?_))))))
      refine w_seq ?_
      refine w_reg ?_
      refine r_mv (r_mv ?_)
      obtain ⟨⟨x182, x183⟩, hx184, hp185⟩ := obind hp168
      clear hp168
      dsimp only at hp185
      refine r_callE trivial (fun _ _ => trivial) rfl (P_quadformref23_Inverse_ok (H2.ext X180) hx184) fun xv189 h187 E186 hk188 => ?_
      obtain ⟨v190, F193, G194, rs195, rfl, I191, S196⟩ := hk188
      have sz197 := E186.1
      have X198 := X180.trans E186
      have S199 : Sp h187 (Array.size h) [[b15], F193] := S181.app S196 E186.1 X180.1
      have lo200 := S196.loAll 0 rfl
      refine r_mv (r_ext rfl rfl (r_ext rfl rfl (r_as (r_as (r_nil (q_t ?_))))))
      refine w_seq ?_
      refine w_reg ?_
      refine r_mv (r_mv (r_cmp rfl rfl (cmp_eql _ _) (r_mv ?_)))
      rcases Decidable.em (x166 = x183) with hc201 | hc201
      · skip
        have hp202 := ifT hp185 hc201
        clear hp185
        rw [show decide (x166 = x183) = true from decide_eq_true hc201]
        refine r_want 46 true (by kernel_rfl) rfl rfl (r_mv (r_want 46 true (by kernel_rfl) rfl rfl (r_mv (r_want 46 true (by kernel_rfl) rfl rfl ?_))))
        have I203 := I174.ext E186
        obtain ⟨x204, hx205, hp206⟩ := obind hp202
        clear hp202
        refine r_callE trivial (fun _ _ => trivial) rfl (P_quadformref23_Same_ok I203 I191.rd hx205) fun xv210 h208 E207 hk209 => ?_
        subst hk209
        have sz211 := E207.1
        have X212 := X198.trans E207
        have S213 : Sp h208 (Array.size h) [[b15], F193] := S199.keep E207.1
        refine r_pickT rfl (r_mv ?_)
        cases hc214 : x204
        · skip
          have hp215 := ifFb hp206 hc214
          refine r_skip 51 false (by kernel_rfl) rfl rfl (r_pickF rfl (r_as (r_nil (q_t ?_))))
          refine w_ret ?_
          have hq216 := Option.some.inj hp215
          subst hq216
          exact ⟨_, retV_1, X212, rfl⟩
        · skip
          have hp217 := ifT hp206 hc214
          refine r_want 51 true (by kernel_rfl) rfl rfl ?_
          obtain ⟨x218, hx219, hp220⟩ := obind hp217
          clear hp217
          refine r_callE trivial (fun _ _ => trivial) rfl (awake_P (HO.ext X212) hx219) fun xv224 h222 E221 hk223 => ?_
          subst hk223
          have sz225 := E221.1
          have X226 := X212.trans E221
          have S227 : Sp h222 (Array.size h) [[b15], F193] := S213.keep E221.1
          refine r_pickT rfl (r_as (r_nil (q_t ?_)))
          refine w_ret ?_
          have hq228 := Option.some.inj hp220
          subst hq228
          exact ⟨_, retV_1, X226, rfl⟩
      · skip
        have hp229 := ifF hp185 hc201
        clear hp185
        rw [show decide (x166 = x183) = false from decide_eq_false hc201]
        refine r_skip 46 false (by kernel_rfl) rfl rfl (r_skip 46 false (by kernel_rfl) rfl rfl (r_skip 46 false (by kernel_rfl) rfl rfl (r_pickF rfl (r_mv (r_skip 51 false (by kernel_rfl) rfl rfl (r_pickF rfl (r_as (r_nil (q_t ?_)))))))))
        refine w_ret ?_
        have hq230 := Option.some.inj hp229
        subst hq230
        exact ⟨_, retV_1, X198, rfl⟩
end Go.Proofs.YtdlfineibanppaaDoor


/-
  Plain: what the walked functions answer, by rules of their own. No condition.
-/
namespace Go.QF
open Go
set_option linter.unusedVariables false
/-- The answer is there, and is so. -/
def Ok {α : Type} (o : Option α) (Q : α → Prop) : Prop := ∃ r, o = some r ∧ Q r
theorem ok_some {α : Type} {a : α} {Q : α → Prop} (h : Q a) : Ok (some a) Q := ⟨a, rfl, h⟩
theorem ok_bind {α β : Type} {o : Option α} {f : α → Option β} {Q : α → Prop} {R : β → Prop} (h : Ok o Q) (k : ∀ x, Q x → Ok (f x) R) : Ok (o.bind f) R := by
  obtain ⟨x, rfl, hx⟩ := h
  exact k x hx
theorem ok_if {c : Prop} [Decidable c] {α : Type} {a b : Option α} {R : α → Prop} (ht : c → Ok a R) (hf : ¬ c → Ok b R) : Ok (if c then a else b) R := by
  by_cases h : c
  · rw [if_pos h]; exact ht h
  · rw [if_neg h]; exact hf h
theorem ok_need {c : Prop} [Decidable c] {α : Type} {a : Option α} {R : α → Prop} (hc : c) (h : Ok a R) : Ok (if c then a else none) R := by rw [if_pos hc]; exact h
theorem ok_eq {α : Type} {o : Option α} {a : α} (h : Ok o (· = a)) : o = some a := by obtain ⟨x, h1, rfl⟩ := h; exact h1
theorem ok_of {α : Type} {o : Option α} {a : α} (h : o = some a) : Ok o (· = a) := ⟨a, h, rfl⟩
theorem ok_get {α β : Type} {L : List α} {i : Int} {n : Nat} {x : α} {f : α → Option β} {R : β → Prop} (hx : L[n]? = some x) (hi : i = n) (k : Ok (f x) R) : Ok ((gI L i).bind f) R := by
  subst hi
  unfold gI
  rw [if_pos (by omega), Int.toNat_natCast, hx]
  exact k
/-- A loop: I holds ahead of round i, at most n rounds. -/
theorem ok_iter {S E : Type} {body : S → Option (S ⊕ E)} {fuel : Nat} {s0 : S} (I : Nat → S → Prop) (n : Nat) {Q : E → Prop} (h0 : I 0 s0) (hf : n < fuel) (hs : ∀ i s, i ≤ n → I i s → Ok (body s) fun r => match r with | .inl s' => i < n ∧ I (i + 1) s' | .inr e => Q e) : Ok (iter body fuel s0) Q := by
  have key : ∀ k fuel i s, n - i = k → k < fuel → i ≤ n → I i s → Ok (iter body fuel s) Q := by
    intro k
    induction k with
    | zero =>
      intro fuel i s hk hf hi hI
      obtain ⟨r, hr, hq⟩ := hs i s hi hI
      cases fuel with
      | zero => omega
      | succ f =>
        cases r with
        | inl s' => simp at hq; omega
        | inr e => exact ⟨e, by simp [iter, hr], hq⟩
    | succ k ih =>
      intro fuel i s hk hf hi hI
      obtain ⟨r, hr, hq⟩ := hs i s hi hI
      cases fuel with
      | zero => omega
      | succ f =>
        cases r with
        | inl s' =>
          obtain ⟨e, he, hQ⟩ := ih f (i + 1) s' (by omega) (by omega) (by omega) hq.2
          exact ⟨e, by simp [iter, hr, he], hQ⟩
        | inr e => exact ⟨e, by simp [iter, hr], hq⟩
  exact key n fuel 0 s0 (by omega) hf (by omega) h0
theorem wrap_ok {x : Int} (h1 : -9223372036854775808 ≤ x) (h2 : x ≤ 9223372036854775807) : w64 x = x := by
  show IntKind.i64.wrap x = x
  rw [IntKind.wrap_i64]; omega
/-- A row, a list of n values. -/
def rowL {α : Type} (m : Nat) (f : Nat → α) : List α := (List.range m).map f
theorem rowL_len {α : Type} (m : Nat) (f : Nat → α) : (rowL m f).length = m := by simp [rowL]
theorem rowL_get {α : Type} {m : Nat} {f : Nat → α} {j : Nat} (h : j < m) : (rowL m f)[j]? = some (f j) := by simp [rowL, h]
theorem rowL_congr {α : Type} {m : Nat} {f g : Nat → α} (h : ∀ j, j < m → f j = g j) : rowL m f = rowL m g := by
  unfold rowL
  exact List.map_congr_left fun j hj => h j (List.mem_range.1 hj)
theorem rowL_set {α : Type} {m j : Nat} {f : Nat → α} {x : α} : (rowL m f).set j x = rowL m fun c => if c = j then x else f c := by
  apply List.ext_getElem?
  intro i
  rw [List.getElem?_set]
  by_cases h : j = i
  · subst h
    simp only [if_true, rowL_len]
    by_cases hj : j < m
    · simp [hj, rowL_get hj]
    · simp [hj, rowL]
  · rw [if_neg h]
    by_cases hi : i < m
    · rw [rowL_get hi, rowL_get hi, if_neg (fun he => h he.symm)]
    · simp [rowL, hi]
theorem rowL_push {α : Type} (m : Nat) (f : Nat → α) : rowL m f ++ [f m] = rowL (m + 1) f := by simp [rowL, List.range_succ]
theorem rowL_rep {α : Type} (m : Nat) (a : α) : List.replicate m a = rowL m fun _ => a := by
  apply List.ext_getElem?
  intro i
  by_cases h : i < m
  · rw [rowL_get h]; simp [h]
  · simp [rowL, h]
theorem tab_get {r c : Nat} {F : Nat → Nat → Int} {i : Nat} (h : i < r) : (tab r c F)[i]? = some (rowL c (F i)) := rowL_get (f := fun i => rowL c (F i)) h
theorem tab_setE {r c i j : Nat} {F : Nat → Nat → Int} {x : Int} : (tab r c F).set i (rowL c fun q => if q = j then x else F i q) = tab r c (setF F i fun q => if q = j then x else F i q) := tab_setF
theorem sI_nat {α : Type} (L : List α) (n : Nat) (x : α) : sI L (n : Int) x = L.set n x := by simp [sI]
end Go.QF

