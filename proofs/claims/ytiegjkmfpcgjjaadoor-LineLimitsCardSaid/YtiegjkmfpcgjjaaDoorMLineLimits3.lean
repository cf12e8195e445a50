/-
  Texts of a proof, joined. Conditions stand in each statement.
-/
import Derived.RangeFuncRecord
import Derived.OrdersIn
import Derived.Test.YtiegjkmfpcgjjaaDoorMLineLimits2
set_option linter.unusedVariables false
set_option linter.unusedSimpArgs false
/-
  modular, walked.
-/
namespace Go.Proofs.YtiegjkmfpcgjjaaDoor
open Go Go.QF
set_option linter.unusedVariables false
set_option linter.unusedSimpArgs false
set_option maxRecDepth 100000
set_option maxHeartbeats 4000000
def P_modular_valid_b2 (fuel : Nat) (a3 : (List (List Int))) (s77 : Int) : Option ((Int) ⊕ ((Bool) ⊕ (Unit))) :=
  (if s77 < (a3.length : Int) then ((gI a3 s77).bind fun x80 => ((gI a3 0).bind fun x87 => (if ¬ (x80.length : Int) = (x87.length : Int) then (some (Sum.inr<| Sum.inl <| false)) else (some (Sum.inl (w64 (s77 + 1))))))) else (some (Sum.inr<| Sum.inr <|  ())))
def P_modular_valid (fuel : Nat) (a3 : (List (List Int))) : Option Bool :=
  (((if (a3.length : Int) < 1 then (some (Sum.inl <| false)) else (if 16 < (a3.length : Int) then (some (Sum.inl <| false)) else ((gI a3 0).bind fun x36 => (if (x36.length : Int) < 1 then (some (Sum.inl <| false)) else (if 16 < (x36.length : Int) then (some (Sum.inl <| false)) else (some (Sum.inr <|  ()))))))) : Option ((Bool) ⊕ (Unit))).bind (fun ex => match ex with | Sum.inl e55 => (some e55) | Sum.inr (_) => ((iter (fun s => P_modular_valid_b2 fuel a3 s) fuel 0).bind (fun ex => match ex with | Sum.inl e98 => (some e98) | Sum.inr (_) => (some true)))))
theorem P_modular_valid_ok {fuel : Nat} {h : Heap} {pv1 : Value} {a3 : (List (List Int))} {r : Bool} (H2 : SlC2 (cI .i64) h pv1 a3) (hp : P_modular_valid fuel a3 = some r) : CallH Tryd.prog 29 #[pv1] h (fun x h' => Ext h h' ∧ x = .bool r) := by
  unfold P_modular_valid at hp
  have K0 := Kst.k0 h
  refine calls_of_W (l := [_]) mx Tryd.func29 rfl rfl rfl rfl rfl (by kernel_rfl) ?_
  refine w_seq ?_
  refine w_reg ?_
  refine r_as (r_nil (q_t ?_))
  obtain ⟨ex5, hj6, hp7⟩ := obind hp
  clear hp
  refine w_join 134217700 (fun x : Unit => []) (fun (x : Unit) (h' : Heap) => (Sum.inr <|  ()) = ex5 ∧ Kst h h' (K0.L)) (by kernel_rfl) ?_ ?_
  · skip
    refine w_seq ?_
    refine w_reg ?_
    refine r_mv ?_
    refine r_lenR sl_MM rfl H2 (r_cmp rfl rfl (cmp_lss _ _) (r_mv ?_))
    rcases Decidable.em ((a3.length : Int) < 1) with hc8 | hc8
    · skip
      have hp9 := ifT hj6 hc8
      clear hj6
      rw [show decide ((a3.length : Int) < 1) = true from decide_eq_true hc8]
      refine r_skip 8 true (by kernel_rfl) rfl rfl (r_skip 8 true (by kernel_rfl) rfl rfl (r_skip 8 true (by kernel_rfl) rfl rfl (r_pickT rfl (r_mv (r_skip 13 true (by kernel_rfl) rfl rfl (r_skip 13 true (by kernel_rfl) rfl rfl (r_skip 13 true (by kernel_rfl) rfl rfl (r_skip 13 true (by kernel_rfl) rfl rfl (r_skip 13 true (by kernel_rfl) rfl rfl (r_pickT rfl (r_mv (r_skip 20 true (by kernel_rfl) rfl rfl (r_skip 20 true (by kernel_rfl) rfl rfl (r_skip 20 true (by kernel_rfl) rfl rfl (r_skip 20 true (by kernel_rfl) rfl rfl (r_skip 20 true (by kernel_rfl) rfl rfl (r_pickT rfl (r_nil (q_t ?_)))))))))))))))))))
      refine w_true rfl ?_
      refine w_seq ?_
      refine w_reg ?_
      refine r_as (r_nil (q_t ?_))
      have hq10 := Option.some.inj hp9
      subst hq10
      have hp12 := hp7
      try dsimp only at hp12
      refine w_ret (q_tr ?_)
      have hq13 := Option.some.inj hp12
      subst hq13
      exact ⟨_, retV_1, K0.x, rfl⟩
    · skip
      have hp14 := ifF hj6 hc8
      clear hj6
      rw [show decide ((a3.length : Int) < 1) = false from decide_eq_false hc8]
      refine r_want 8 false (by kernel_rfl) rfl rfl (r_mv (r_want 8 false (by kernel_rfl) rfl rfl ?_))
      refine r_lenR sl_MM rfl H2 (r_want 8 false (by kernel_rfl) rfl rfl (r_cmp rfl rfl (cmp_gtr _ _) (r_pickF rfl (r_mv ?_))))
      rcases Decidable.em (16 < (a3.length : Int)) with hc15 | hc15
      · skip
        have hp16 := ifT hp14 hc15
        clear hp14
        rw [show decide (16 < (a3.length : Int)) = true from decide_eq_true hc15]
        refine r_skip 13 true (by kernel_rfl) rfl rfl (r_skip 13 true (by kernel_rfl) rfl rfl (r_skip 13 true (by kernel_rfl) rfl rfl (r_skip 13 true (by kernel_rfl) rfl rfl (r_skip 13 true (by kernel_rfl) rfl rfl (r_pickT rfl (r_mv (r_skip 20 true (by kernel_rfl) rfl rfl (r_skip 20 true (by kernel_rfl) rfl rfl (r_skip 20 true (by kernel_rfl) rfl rfl (r_skip 20 true (by kernel_rfl) rfl rfl (r_skip 20 true (by kernel_rfl) rfl rfl (r_pickT rfl (r_nil (q_t ?_))))))))))))))
        refine w_true rfl ?_
        refine w_seq ?_
        refine w_reg ?_
        refine r_as (r_nil (q_t ?_))
        have hq17 := Option.some.inj hp16
        subst hq17
        have hp19 := hp7
        try dsimp only at hp19
        refine w_ret (q_tr ?_)
        have hq20 := Option.some.inj hp19
        subst hq20
        exact ⟨_, retV_1, K0.x, rfl⟩
      · skip
        have hp21 := ifF hp14 hc15
        clear hp14
        rw [show decide (16 < (a3.length : Int)) = false from decide_eq_false hc15]
        refine r_want 13 false (by kernel_rfl) rfl rfl (r_mv (r_want 13 false (by kernel_rfl) rfl rfl ?_))
        obtain ⟨x22, hx23, hp24⟩ := obind hp21
        clear hp21
        refine r_ixR sl_MM rfl H2 rfl hx23 fun b25 o26 r27 hc28 H29 => ?_
        refine r_want 13 false (by kernel_rfl) rfl rfl (r_ld na_I64 rfl (cellH_ext hc28 K0.x) (r_want 13 false (by kernel_rfl) rfl rfl ?_))
        refine r_lenC sl_I64 rfl H29 (r_want 13 false (by kernel_rfl) rfl rfl (r_cmp rfl rfl (cmp_lss _ _) (r_pickF rfl (r_mv ?_))))
        rcases Decidable.em ((x22.length : Int) < 1) with hc31 | hc31
        · skip
          have hp32 := ifT hp24 hc31
          clear hp24
          rw [show decide ((x22.length : Int) < 1) = true from decide_eq_true hc31]
          refine r_skip 20 true (by kernel_rfl) rfl rfl (r_skip 20 true (by kernel_rfl) rfl rfl (r_skip 20 true (by kernel_rfl) rfl rfl (r_skip 20 true (by kernel_rfl) rfl rfl (r_skip 20 true (by kernel_rfl) rfl rfl (r_pickT rfl (r_nil (q_t ?_)))))))
          refine w_true rfl ?_
          refine w_seq ?_
          refine w_reg ?_
          refine r_as (r_nil (q_t ?_))
          have hq33 := Option.some.inj hp32
          subst hq33
          have hp35 := hp7
          try dsimp only at hp35
          refine w_ret (q_tr ?_)
          have hq36 := Option.some.inj hp35
          subst hq36
          exact ⟨_, retV_1, K0.x, rfl⟩
        · skip
          have hp37 := ifF hp24 hc31
          clear hp24
          rw [show decide ((x22.length : Int) < 1) = false from decide_eq_false hc31]
          refine r_want 20 false (by kernel_rfl) rfl rfl (r_mv (r_want 20 false (by kernel_rfl) rfl rfl (r_ixR sl_MM rfl H2 rfl hx23 fun b38 o39 r40 hc41 H42 => ?_)))
          refine r_want 20 false (by kernel_rfl) rfl rfl (r_ld na_I64 rfl (cellH_ext hc41 K0.x) (r_want 20 false (by kernel_rfl) rfl rfl ?_))
          refine r_lenC sl_I64 rfl H42 (r_want 20 false (by kernel_rfl) rfl rfl (r_cmp rfl rfl (cmp_gtr _ _) (r_pickF rfl (r_nil (q_t ?_)))))
          refine ⟨_, rfl, fun hc44 => ?_, fun hc44 => ?_⟩
          · skip
            have hp45 := ifTd hp37 hc44
            clear hp37
            refine w_seq ?_
            refine w_reg ?_
            refine r_as (r_nil (q_t ?_))
            have hq46 := Option.some.inj hp45
            subst hq46
            have hp48 := hp7
            try dsimp only at hp48
            refine w_ret (q_tr ?_)
            have hq49 := Option.some.inj hp48
            subst hq49
            exact ⟨_, retV_1, K0.x, rfl⟩
          · skip
            have hp50 := ifFd hp37 hc44
            clear hp37
            refine w_skip (q_t ?_)
            exact ⟨(() : Unit), ⟨Option.some.inj hp50, K0⟩, trivial⟩
  rintro ⟨⟩ sv53 h52 ⟨hk51, K54⟩
  try dsimp only [Kst.L, List.set, selA, nthA] at K54
  refine (show W _ _ _ (setL [] (mix _ sv53 _)) h52 from ?_)
  subst hk51
  have hp55 := hp7
  try dsimp only at hp55
  refine w_seq ?_
  refine w_seq ?_
  refine w_reg ?_
  refine r_mv ?_
  refine r_lenR sl_MM rfl H2 (r_mv (r_nil (q_t ?_)))
  refine w_block ?_
  obtain ⟨ex56, hL57, hp58⟩ := obind hp55
  clear hp55
  obtain ⟨bd59, hbd60, hL61⟩ := iter_gen hL57
  clear hL57
  refine w_loop 2198486384660 (fun x : (Int) => [(29, (.int .i64 x))]) (fun (k : Nat) (x : (Int)) (h' : Heap) => iter bd59 k x = some ex56 ∧ Kst h h' (K54.L)) (by kernel_rfl) fuel (0 : (Int)) ?_ ⟨rfl, trivial⟩ ?_
  · exact ⟨hL61, K54⟩
  rintro k62 u67 sv65 h64 ⟨hk63, K66⟩
  try dsimp only [Kst.L, List.set, selA, nthA] at K66
  refine (show W _ _ _ (setL [(29, (.int .i64 u67))] (mix _ sv65 _)) h64 from ?_)
  obtain ⟨k68, rr69, rfl, hb70, hr71⟩ := iter_step hk63
  clear hk63
  rw [hbd60] at hb70
  dsimp only at hb70
  unfold P_modular_valid_b2 at hb70
  refine w_seq ?_
  refine w_reg ?_
  refine r_cmp rfl rfl (cmp_lss _ _) (r_nil (q_t ?_))
  refine w_seq ?_
  refine ⟨_, rfl, fun hc72 => ?_, fun hc72 => ?_⟩
  · skip
    have hp73 := ifTd hb70 hc72
    clear hb70
    refine w_skip (q_t ?_)
    refine w_seq ?_
    refine w_block ?_
    refine w_seq ?_
    refine w_reg ?_
    obtain ⟨x74, hx75, hp76⟩ := obind hp73
    clear hp73
    refine r_ixR sl_MM rfl H2 rfl hx75 fun b77 o78 r79 hc80 H81 => ?_
    refine r_ld na_I64 rfl (cellH_ext hc80 K66.x) (r_as (r_nil (q_t ?_)))
    refine w_seq ?_
    refine w_reg ?_
    refine r_mv ?_
    refine r_lenC sl_I64 rfl H81 (r_mv ?_)
    obtain ⟨x83, hx84, hp85⟩ := obind hp76
    clear hp76
    refine r_ixR sl_MM rfl H2 rfl hx84 fun b86 o87 r88 hc89 H90 => ?_
    refine r_ld na_I64 rfl (cellH_ext hc89 K66.x) ?_
    refine r_lenC sl_I64 rfl H90 (r_cmp rfl rfl (cmp_neq _ _) (r_nil (q_t ?_)))
    refine ⟨_, rfl, fun hc92 => ?_, fun hc92 => ?_⟩
    · skip
      have hp93 := ifTd hp85 hc92
      clear hp85
      refine w_seq ?_
      refine w_reg ?_
      refine r_as (r_nil (q_t ?_))
      have hq94 := Option.some.inj hp93
      subst hq94
      have hp95 := hr71
      change _ = ex56 at hp95
      subst hp95
      have hp96 := hp58
      try dsimp only at hp96
      refine w_ret (q_br (q_tr (q_tr (q_br (q_tr ?_)))))
      have hq97 := Option.some.inj hp96
      subst hq97
      exact ⟨_, retV_1, K66.x, rfl⟩
    · skip
      have hp98 := ifFd hp85 hc92
      clear hp85
      refine w_skip (q_b (q_t ?_))
      refine w_reg ?_
      refine r_add rfl rfl (r_mv (r_nil (q_t ?_)))
      have hq99 := Option.some.inj hp98
      subst hq99
      exact ⟨k68, ((w64 (u67 + 1)) : (Int)), Nat.lt_succ_self _, ⟨hr71, K66⟩, rfl, trivial⟩
  · skip
    have hp100 := ifFd hb70 hc72
    clear hb70
    have hq101 := Option.some.inj hp100
    subst hq101
    have hp102 := hr71
    change _ = ex56 at hp102
    subst hp102
    have hp103 := hp58
    try dsimp only at hp103
    refine w_exit (q_tx (q_tx (q_bx (q_t ?_))))
    refine w_seq ?_
    refine w_reg ?_
    refine r_as (r_nil (q_t ?_))
    refine w_ret ?_
    have hq104 := Option.some.inj hp103
    subst hq104
    exact ⟨_, retV_1, K66.x, rfl⟩
def P_modular_small (fuel : Nat) (a3 : (List (List Int))) : Option Bool :=
  ((P_modular_valid fuel a3).bind fun x5 => (if x5 = true then ((gI a3 0).bind fun x15 => (if (a3.length : Int) = (x15.length : Int) then (some (decide ((a3.length : Int) ≤ 8))) else (some false))) else (some false)))
theorem P_modular_small_ok {fuel : Nat} {h : Heap} {pv1 : Value} {a3 : (List (List Int))} {r : Bool} (H2 : SlC2 (cI .i64) h pv1 a3) (hp : P_modular_small fuel a3 = some r) : CallH Tryd.prog 14 #[pv1] h (fun x h' => Ext h h' ∧ x = .bool r) := by
  unfold P_modular_small at hp
  have K0 := Kst.k0 h
  refine calls_of_W (l := [_]) mx Tryd.func14 rfl rfl rfl rfl rfl (by kernel_rfl) ?_
  refine w_seq ?_
  refine w_reg ?_
  refine r_as (r_nil (q_t ?_))
  refine w_seq ?_
  refine w_reg ?_
  refine r_mv ?_
  obtain ⟨x5, hx6, hp7⟩ := obind hp
  clear hp
  refine r_callE trivial (fun _ _ => trivial) rfl (P_modular_valid_ok (H2.ext K0.x) hx6) fun xv11 h9 E8 hk10 => ?_
  subst hk10
  have K12 := K0.e E8
  refine r_mv ?_
  cases hc13 : x5
  · skip
    have hp14 := ifFb hp7 hc13
    refine r_skip 5 false (by kernel_rfl) rfl rfl (r_skip 5 false (by kernel_rfl) rfl rfl (r_skip 5 false (by kernel_rfl) rfl rfl (r_skip 5 false (by kernel_rfl) rfl rfl (r_skip 5 false (by kernel_rfl) rfl rfl (r_skip 5 false (by kernel_rfl) rfl rfl (r_skip 5 false (by kernel_rfl) rfl rfl (r_pickF rfl (r_mv (r_skip 14 false (by kernel_rfl) rfl rfl (r_skip 14 false (by kernel_rfl) rfl rfl (r_skip 14 false (by kernel_rfl) rfl rfl (r_pickF rfl (r_as (r_nil (q_t ?_)))))))))))))))
    refine w_ret ?_
    have hq15 := Option.some.inj hp14
    subst hq15
    exact ⟨_, retV_1, K12.x, rfl⟩
  · skip
    have hp16 := ifT hp7 hc13
    refine r_want 5 true (by kernel_rfl) rfl rfl (r_mv (r_want 5 true (by kernel_rfl) rfl rfl ?_))
    refine r_lenR sl_MM rfl H2 (r_want 5 true (by kernel_rfl) rfl rfl (r_mv (r_want 5 true (by kernel_rfl) rfl rfl ?_)))
    obtain ⟨x17, hx18, hp19⟩ := obind hp16
    clear hp16
    refine r_ixR sl_MM rfl H2 rfl hx18 fun b20 o21 r22 hc23 H24 => ?_
    refine r_want 5 true (by kernel_rfl) rfl rfl (r_ld na_I64 rfl (cellH_ext hc23 K12.x) (r_want 5 true (by kernel_rfl) rfl rfl ?_))
    refine r_lenC sl_I64 rfl H24 (r_want 5 true (by kernel_rfl) rfl rfl (r_cmp rfl rfl (cmp_eql _ _) (r_pickT rfl (r_mv ?_))))
    rcases Decidable.em ((a3.length : Int) = (x17.length : Int)) with hc26 | hc26
    · skip
      have hp27 := ifT hp19 hc26
      clear hp19
      rw [show decide ((a3.length : Int) = (x17.length : Int)) = true from decide_eq_true hc26]
      refine r_want 14 true (by kernel_rfl) rfl rfl (r_mv (r_want 14 true (by kernel_rfl) rfl rfl ?_))
      refine r_lenR sl_MM rfl H2 (r_want 14 true (by kernel_rfl) rfl rfl (r_cmp rfl rfl (cmp_leq _ _) (r_pickT rfl (r_as (r_nil (q_t ?_))))))
      refine w_ret ?_
      have hq28 := Option.some.inj hp27
      subst hq28
      exact ⟨_, retV_1, K12.x, rfl⟩
    · skip
      have hp29 := ifF hp19 hc26
      clear hp19
      rw [show decide ((a3.length : Int) = (x17.length : Int)) = false from decide_eq_false hc26]
      refine r_skip 14 false (by kernel_rfl) rfl rfl (r_skip 14 false (by kernel_rfl) rfl rfl (r_skip 14 false (by kernel_rfl) rfl rfl (r_pickF rfl (r_as (r_nil (q_t ?_))))))
      refine w_ret ?_
      have hq30 := Option.some.inj hp29
      subst hq30
      exact ⟨_, retV_1, K12.x, rfl⟩
def P_modular_checkModulus (fuel : Nat) (a1 : Int) : Option Int :=
  (if a1 < 2 then (some 1) else (if 2147483647 < a1 then (some 1) else (some 0)))
theorem P_modular_checkModulus_ok {fuel : Nat} {h : Heap} {a1 : Int} {r : Int}  (hp : P_modular_checkModulus fuel a1 = some r) : CallH Tryd.prog 15 #[(.int .i64 a1)] h (fun x h' => Ext h h' ∧ x = .int .i64 r) := by
  unfold P_modular_checkModulus at hp
  have K0 := Kst.k0 h
  refine calls_of_W (l := [_]) mx Tryd.func15 rfl rfl rfl rfl rfl (by kernel_rfl) ?_
  refine w_seq ?_
  refine w_reg ?_
  refine r_as (r_nil (q_t ?_))
  refine w_seq ?_
  refine w_seq ?_
  refine w_reg ?_
  refine r_mv (r_cmp rfl rfl (cmp_lss _ _) (r_mv ?_))
  rcases Decidable.em (a1 < 2) with hc2 | hc2
  · skip
    have hp3 := ifT hp hc2
    clear hp
    rw [show decide (a1 < 2) = true from decide_eq_true hc2]
    refine r_skip 5 true (by kernel_rfl) rfl rfl (r_skip 5 true (by kernel_rfl) rfl rfl (r_pickT rfl (r_nil (q_t ?_))))
    refine w_true rfl ?_
    refine w_seq ?_
    refine w_reg ?_
    refine r_as (r_nil (q_t ?_))
    refine w_ret (q_tr ?_)
    have hq4 := Option.some.inj hp3
    subst hq4
    exact ⟨_, retV_1, K0.x, rfl⟩
  · skip
    have hp5 := ifF hp hc2
    clear hp
    rw [show decide (a1 < 2) = false from decide_eq_false hc2]
    refine r_want 5 false (by kernel_rfl) rfl rfl (r_mv (r_want 5 false (by kernel_rfl) rfl rfl (r_cmp rfl rfl (cmp_gtr _ _) (r_pickF rfl (r_nil (q_t ?_))))))
    refine ⟨_, rfl, fun hc6 => ?_, fun hc6 => ?_⟩
    · skip
      have hp7 := ifTd hp5 hc6
      clear hp5
      refine w_seq ?_
      refine w_reg ?_
      refine r_as (r_nil (q_t ?_))
      refine w_ret (q_tr ?_)
      have hq8 := Option.some.inj hp7
      subst hq8
      exact ⟨_, retV_1, K0.x, rfl⟩
    · skip
      have hp9 := ifFd hp5 hc6
      clear hp5
      refine w_skip (q_t ?_)
      refine w_seq ?_
      refine w_reg ?_
      refine r_as (r_nil (q_t ?_))
      refine w_ret ?_
      have hq10 := Option.some.inj hp9
      subst hq10
      exact ⟨_, retV_1, K0.x, rfl⟩
def P_modular_residues_b2 (fuel : Nat) (a5 : Int) (s250 : Int) (x258 : (List Int)) (s336 : Int) (s337 : (List (List Int))) : Option ((Int × (List (List Int))) ⊕ (((List (List Int))))) :=
  (if s336 < (x258.length : Int) then ((gI x258 s336).bind fun x344 => ((gI s337 s250).bind fun x350 => (if a5 ≠ 0 then (if a5 ≠ 0 then ((gI x350 s336).bind fun x357 => (some (Sum.inl ((w64 (s336 + 1)), (sI s337 s250 (sI x350 s336 (Int.tmod (w64 ((Int.tmod x344 a5) + a5)) a5))))))) else none) else none))) else (some (Sum.inr<|  s337)))
def P_modular_residues_b1 (fuel : Nat) (a3 : (List (List Int))) (a5 : Int) (s250 : Int) (s251 : (List (List Int))) : Option ((Int × (List (List Int))) ⊕ (((List (List Int))))) :=
  (if s250 < (a3.length : Int) then ((gI a3 s250).bind fun x258 => (if 0 ≤ (x258.length : Int) ∧ (x258.length : Int) ≤ 100000000 then ((gI s251 s250).bind fun x274 => ((iter (fun s => P_modular_residues_b2 fuel a5 s250 x258 s.1 s.2) fuel (0, (sI s251 s250 (List.replicate (Int.toNat (x258.length : Int)) (0 : Int))))).bind (fun (e364 : (List (List Int))) => (some (Sum.inl ((w64 (s250 + 1)), e364)))))) else none)) else (some (Sum.inr<|  s251)))
def P_modular_residues (fuel : Nat) (a3 : (List (List Int))) (a5 : Int) : Option (List (List Int)) :=
  (if 0 ≤ (a3.length : Int) ∧ (a3.length : Int) ≤ 100000000 then ((iter (fun s => P_modular_residues_b1 fuel a3 a5 s.1 s.2) fuel (0, (List.replicate (Int.toNat (a3.length : Int)) ([] : List Int)))).bind (fun (e370 : (List (List Int))) => (some e370))) else none)
theorem P_modular_residues_ok {fuel : Nat} {h : Heap} {pv1 : Value} {a3 : (List (List Int))} {a5 : Int} {r : (List (List Int))} (H2 : SlC2 (cI .i64) h pv1 a3) (hp : P_modular_residues fuel a3 a5 = some r) : CallH Tryd.prog 16 #[pv1, (.int .i64 a5)] h (fun x h' => Ext h h' ∧ ∃ (x0 : Value) (F0 : List Nat) (Gs0 : List (List Nat)) (rs0 : List Value), x = x0 ∧ OwC2 (cI .i64) 23 2 h' F0 Gs0 rs0 x0 r ∧ Sp h' (Array.size h) [F0]) := by
  unfold P_modular_residues at hp
  have K0 := Kst.k0 h
  refine calls_of_W (l := [_, _]) mx Tryd.func16 rfl rfl rfl rfl rfl (by kernel_rfl) ?_
  refine w_seq ?_
  refine w_reg ?_
  refine r_as (r_nil (q_t ?_))
  refine w_seq ?_
  refine w_reg ?_
  refine r_mv ?_
  refine r_lenR sl_MM rfl H2 ?_
  obtain ⟨hn6, hp7⟩ := ifN hp
  clear hp
  refine r_mkR (cI .i64) 2 sl_MM ze_I64 rfl trivial (fun _ _ => trivial) rfl rfl (by decide) hn6 fun F13 G14 rs15 v12 h10 I11 E8 S9 => ?_
  have K17 := K0.no2 E8 S9 I11
  refine r_as (r_nil (q_t ?_))
  refine w_seq ?_
  refine w_seq ?_
  refine w_reg ?_
  refine r_mv ?_
  refine r_lenR sl_MM rfl H2 (r_mv (r_nil (q_t ?_)))
  refine w_block ?_
  obtain ⟨ex18, hL19, hp20⟩ := obind hp7
  clear hp7
  obtain ⟨bd21, hbd22, hL23⟩ := iter_gen hL19
  clear hL19
  refine w_loop 281474976678848 (fun x : (Int) × ((List (List Int))) × (List Nat) × (List (List Nat)) × (List Value) => [(15, (.int .i64 x.1))]) (fun (k : Nat) (x : (Int) × ((List (List Int))) × (List Nat) × (List (List Nat)) × (List Value)) (h' : Heap) => iter bd21 k (x.1, x.2.1) = some ex18 ∧ Kst h h' (K17.L.set 0 (aO2 (cI .i64) 23 2 x.2.2.1 x.2.2.2.1 x.2.2.2.2 v12 x.2.1))) (by kernel_rfl) fuel ((0, (List.replicate (Int.toNat (a3.length : Int)) ([] : List Int)), F13, G14, rs15) : (Int) × ((List (List Int))) × (List Nat) × (List (List Nat)) × (List Value)) ?_ ⟨rfl, trivial⟩ ?_
  · exact ⟨hL23, K17⟩
  rintro k25 ⟨u30, u31, q32, q33, q34⟩ sv28 h27 ⟨hk26, K29⟩
  try dsimp only [Kst.L, List.set, selA, nthA] at K29
  refine (show W _ _ _ (setL [(15, (.int .i64 u30))] (mix _ sv28 _)) h27 from ?_)
  obtain ⟨k37, rr38, rfl, hb39, hr40⟩ := iter_step hk26
  clear hk26
  rw [hbd22] at hb39
  dsimp only at hb39
  unfold P_modular_residues_b1 at hb39
  refine w_seq ?_
  refine w_reg ?_
  refine r_cmp rfl rfl (cmp_lss _ _) (r_nil (q_t ?_))
  refine w_seq ?_
  refine ⟨_, rfl, fun hc41 => ?_, fun hc41 => ?_⟩
  · skip
    have hp42 := ifTd hb39 hc41
    clear hb39
    refine w_skip (q_t ?_)
    refine w_seq ?_
    refine w_block ?_
    refine w_seq ?_
    refine w_reg ?_
    refine r_mv ?_
    obtain ⟨x43, hx44, hp45⟩ := obind hp42
    clear hp42
    refine r_ixR sl_MM rfl H2 rfl hx44 fun b46 o47 r48 hc49 H50 => ?_
    refine r_ld na_I64 rfl (cellH_ext hc49 K29.x) (r_as (r_as (r_nil (q_t ?_))))
    refine w_seq ?_
    refine w_reg ?_
    refine r_mv (r_mv (r_mv ?_))
    refine r_lenC sl_I64 rfl H50 ?_
    obtain ⟨hn52, hp53⟩ := ifN hp45
    clear hp45
    refine r_mkC1 (c := (cI .i64)) (a := 0) sl_I64 ze_i64 rfl rfl (fun _ => rfl) rfl trivial (fun _ _ => trivial) rfl rfl (by decide) hn52 fun b59 v58 h56 I57 E54 hl61 hl62 => ?_
    have S55 := sp_one hl61 hl62
    have K63 := K29.no E54 S55 I57
    obtain ⟨x64, hx65, hp66⟩ := obind hp53
    clear hp53
    refine r_ixR2 sl_MM rfl (K63.o2 p1) rfl hx65 fun b67 r68 hF69 hr70 hc71 => ?_
    refine r_stR na_I64 (K63.o2 p1) hx65 hF69 rfl rfl (K63.o p0) (K63.dj p0 p1 (by decide)) fun h72 I74 U73 hs75 => ?_
    have K77 := K63.m2 p0 p1 (by decide) U73 I74 (fun z hz => .inl (hs75 z hz))
    refine r_nil (q_t ?_)
    refine w_seq ?_
    refine w_reg ?_
    refine r_mv ?_
    refine r_lenC sl_I64 rfl H50 (r_mv (r_nil (q_t ?_)))
    refine w_block ?_
    obtain ⟨ex78, hL79, hp80⟩ := obind hp66
    clear hp66
    obtain ⟨bd81, hbd82, hL83⟩ := iter_gen hL79
    clear hL79
    have K84 := K77.sel [1] (by decide)
    dsimp only [selA, nthA] at K84
    refine w_loop 140737219920640 (fun x : (Int) × ((List (List Int))) × (List Nat) × (List (List Nat)) × (List Value) => [(28, (.int .i64 x.1))]) (fun (k : Nat) (x : (Int) × ((List (List Int))) × (List Nat) × (List (List Nat)) × (List Value)) (h' : Heap) => iter bd81 k (x.1, x.2.1) = some ex78 ∧ Kst h h' (K84.L.set 0 (aO2 (cI .i64) 23 2 x.2.2.1 x.2.2.2.1 x.2.2.2.2 v12 x.2.1))) (by kernel_rfl) fuel ((0, (sI u31 u30 (List.replicate (Int.toNat (x43.length : Int)) (0 : Int))), (b67 :: (q33.set (Int.toNat u30) [b59]).flatten), (q33.set (Int.toNat u30) [b59]), (q34.set (Int.toNat u30) v58)) : (Int) × ((List (List Int))) × (List Nat) × (List (List Nat)) × (List Value)) ?_ ⟨rfl, trivial⟩ ?_
    · exact ⟨hL83, K84⟩
    rintro k86 ⟨u91, u92, q93, q94, q95⟩ sv89 h88 ⟨hk87, K90⟩
    try dsimp only [Kst.L, List.set, selA, nthA] at K90
    refine (show W _ _ _ (setL [(28, (.int .i64 u91))] (mix _ sv89 _)) h88 from ?_)
    obtain ⟨k98, rr99, rfl, hb100, hr101⟩ := iter_step hk87
    clear hk87
    rw [hbd82] at hb100
    dsimp only at hb100
    unfold P_modular_residues_b2 at hb100
    refine w_seq ?_
    refine w_reg ?_
    refine r_cmp rfl rfl (cmp_lss _ _) (r_nil (q_t ?_))
    refine w_seq ?_
    refine ⟨_, rfl, fun hc102 => ?_, fun hc102 => ?_⟩
    · skip
      have hp103 := ifTd hb100 hc102
      clear hb100
      refine w_skip (q_t ?_)
      refine w_seq ?_
      refine w_block ?_
      refine w_seq ?_
      refine w_reg ?_
      refine r_mv ?_
      obtain ⟨x104, hx105, hp106⟩ := obind hp103
      clear hp103
      refine r_ixC (c := (cI .i64)) sl_I64 rfl H50 rfl hx105 fun b107 o108 cs109 hr110 hc111 => ?_
      obtain rfl := hr110
      refine r_ld na_i64 rfl (cellH_ext (hc111 0 _ rfl) K90.x) (r_as (r_as (r_nil (q_t ?_))))
      refine w_draw (by kernel_rfl) ?_
      refine r_mv (r_mv ?_)
      obtain ⟨x112, hx113, hp114⟩ := obind hp106
      clear hp106
      refine r_ixR2 sl_MM rfl (K90.o2 p0) rfl hx113 fun b115 r116 hF117 hr118 hc119 => ?_
      refine r_ld na_I64 rfl hc119 (r_mv (r_mv (r_mv ?_)))
      obtain ⟨hn121, hp122⟩ := ifN hp114
      clear hp114
      refine r_rem rfl rfl hn121 (r_mv (r_add rfl rfl (r_mv ?_)))
      obtain ⟨hn123, hp124⟩ := ifN hp122
      clear hp122
      refine r_rem rfl rfl hn123 ?_
      obtain ⟨x125, hx126, hp127⟩ := obind hp124
      clear hp124
      refine r_ixO2 (m := u30) sl_I64 rfl (K90.o2 p0) hr118 hx113 rfl hx126 fun g128 hG129 => ?_
      refine r_stO2 (m := u30) (stEl_na na_i64 rfl rfl rfl) (K90.o2 p0) hG129 hx113 hx126 (show ((cI .i64)).rep _ (Int.tmod (w64 ((Int.tmod x104 a5) + a5)) a5) _ from rfl) fun h130 I132 U131 => ?_
      have K133 := K90.uO2 p0 U131 I132
      refine r_nil (q_b (q_t ?_))
      refine w_reg ?_
      refine r_add rfl rfl (r_mv (r_nil (q_t ?_)))
      have hq134 := Option.some.inj hp127
      subst hq134
      exact ⟨k98, (((w64 (u91 + 1)), (sI u92 u30 (sI x112 u91 (Int.tmod (w64 ((Int.tmod x104 a5) + a5)) a5))), q93, q94, q95) : (Int) × ((List (List Int))) × (List Nat) × (List (List Nat)) × (List Value)), Nat.lt_succ_self _, ⟨hr101, K133⟩, rfl, trivial⟩
    · skip
      have hp135 := ifFd hb100 hc102
      clear hb100
      have hq136 := Option.some.inj hp135
      subst hq136
      have hp137 := hr101
      change _ = ex78 at hp137
      subst hp137
      have hp138 := hp80
      try dsimp only at hp138
      refine w_exit (q_tx (q_tx (q_bx (q_b (q_t ?_)))))
      refine w_reg ?_
      refine r_add rfl rfl (r_mv (r_nil (q_t ?_)))
      have hq139 := Option.some.inj hp138
      subst hq139
      exact ⟨k37, (((w64 (u30 + 1)), u92, q93, q94, q95) : (Int) × ((List (List Int))) × (List Nat) × (List (List Nat)) × (List Value)), Nat.lt_succ_self _, ⟨hr40, K90⟩, rfl, trivial⟩
  · skip
    have hp140 := ifFd hb39 hc41
    clear hb39
    have hq141 := Option.some.inj hp140
    subst hq141
    have hp142 := hr40
    change _ = ex18 at hp142
    subst hp142
    have hp143 := hp20
    try dsimp only at hp143
    refine w_exit (q_tx (q_tx (q_bx (q_t ?_))))
    refine w_seq ?_
    refine w_reg ?_
    refine r_mv (r_as (r_nil (q_t ?_)))
    refine w_ret ?_
    have hq144 := Option.some.inj hp143
    subst hq144
    exact ⟨_, retV_1, K29.x, _, _, _, _, rfl, (K29.o2 p0), K29.s.sel [0] (by decide)⟩
def P_modular_Residues (fuel : Nat) (a3 : (List (List Int))) (a5 : Int) : Option ((List (List Int)) × Int) :=
  ((P_modular_valid fuel a3).bind fun x6 => (if (!x6) = true then (some ([], 3)) else ((P_modular_checkModulus fuel a5).bind fun x17 => (if ¬ x17 = 0 then (some ([], x17)) else ((P_modular_residues fuel a3 a5).bind fun x28 => (some (x28, 0)))))))
theorem P_modular_Residues_ok {fuel : Nat} {h : Heap} {pv1 : Value} {a3 : (List (List Int))} {a5 : Int} {r : ((List (List Int)) × Int)} (H2 : SlC2 (cI .i64) h pv1 a3) (hp : P_modular_Residues fuel a3 a5 = some r) : CallH Tryd.prog 20 #[pv1, (.int .i64 a5)] h (fun x h' => Ext h h' ∧ ∃ (x0 : Value) (F0 : List Nat) (Gs0 : List (List Nat)) (rs0 : List Value), x = .tuple #[x0, .int .i64 r.2] ∧ OwC2 (cI .i64) 23 2 h' F0 Gs0 rs0 x0 r.1 ∧ Sp h' (Array.size h) [F0]) := by
  unfold P_modular_Residues at hp
  have K0 := Kst.k0 h
  refine calls_of_W (l := [_, _]) mx Tryd.func20 rfl rfl rfl rfl rfl (by kernel_rfl) ?_
  refine w_seq ?_
  refine w_reg ?_
  refine r_as (r_as (r_nil (q_t ?_)))
  refine w_seq ?_
  refine w_seq ?_
  refine w_reg ?_
  refine r_mv ?_
  obtain ⟨x6, hx7, hp8⟩ := obind hp
  clear hp
  refine r_callE trivial (fun _ _ => trivial) rfl (P_modular_valid_ok (H2.ext K0.x) hx7) fun xv12 h10 E9 hk11 => ?_
  subst hk11
  have K13 := K0.e E9
  refine r_not rfl (r_nil (q_t ?_))
  refine ⟨_, rfl, fun hc14 => ?_, fun hc14 => ?_⟩
  · skip
    have hp15 := ifT hp8 hc14
    clear hp8
    refine w_seq ?_
    refine w_reg ?_
    refine r_as (r_as (r_nil (q_t ?_)))
    refine w_ret (q_tr ?_)
    have K18 := Kst.anil2 (cI .i64) 23 2 K13
    have hq16 := Option.some.inj hp15
    subst hq16
    exact ⟨_, retV_2, K18.x, _, _, _, _, rfl, (K18.o2 p0), K18.s.sel [0] (by decide)⟩
  · skip
    have hp19 := ifFb hp8 hc14
    clear hp8
    refine w_skip (q_t ?_)
    refine w_seq ?_
    refine w_seq ?_
    refine w_reg ?_
    refine r_mv ?_
    obtain ⟨x20, hx21, hp22⟩ := obind hp19
    clear hp19
    refine r_callE trivial (fun _ _ => trivial) rfl (P_modular_checkModulus_ok hx21) fun xv26 h24 E23 hk25 => ?_
    subst hk25
    have K27 := K13.e E23
    refine r_as (r_nil (q_t ?_))
    refine w_seq ?_
    refine w_reg ?_
    refine r_mv (r_cmp rfl rfl (cmp_neq _ _) (r_nil (q_t ?_)))
    refine ⟨_, rfl, fun hc28 => ?_, fun hc28 => ?_⟩
    · skip
      have hp29 := ifTd hp22 hc28
      clear hp22
      refine w_seq ?_
      refine w_reg ?_
      refine r_mv (r_as (r_as (r_nil (q_t ?_))))
      refine w_ret (q_tr ?_)
      have K32 := Kst.anil2 (cI .i64) 23 2 K27
      have hq30 := Option.some.inj hp29
      subst hq30
      exact ⟨_, retV_2, K32.x, _, _, _, _, rfl, (K32.o2 p0), K32.s.sel [0] (by decide)⟩
    · skip
      have hp33 := ifFd hp22 hc28
      clear hp22
      refine w_skip (q_t ?_)
      refine w_seq ?_
      refine w_reg ?_
      refine r_mv (r_mv ?_)
      obtain ⟨x34, hx35, hp36⟩ := obind hp33
      clear hp33
      refine r_callE trivial (fun _ _ => trivial) rfl (P_modular_residues_ok (H2.ext K27.x) hx35) fun xv40 h38 E37 hk39 => ?_
      obtain ⟨v41, F44, G45, rs46, rfl, I42, S47⟩ := hk39
      have K48 := K27.no2 E37 S47 I42
      refine r_as (r_as (r_nil (q_t ?_)))
      refine w_ret ?_
      have hq49 := Option.some.inj hp36
      subst hq49
      exact ⟨_, retV_2, K48.x, _, _, _, _, rfl, (K48.o2 p0), K48.s.sel [0] (by decide)⟩
end Go.Proofs.YtiegjkmfpcgjjaaDoor
/-
  Plain: products and congruences of matrices of remainders, of the program. Conditions stand in each statement.
-/
namespace Go.Proofs.YtiegjkmfpcgjjaaDoor
open Go Go.QF
set_option linter.unusedVariables false
set_option linter.unusedSimpArgs false
set_option maxRecDepth 100000
theorem gI_b {α β : Type} {L : List α} {n : Nat} {x : α} {f : α → Option β} (hx : L[n]? = some x) : (gI L (n : Int)).bind f = f x := by
  unfold gI
  rw [if_pos (by omega), Int.toNat_natCast, hx]; rfl
theorem gI_b0 {α β : Type} {L : List α} {x : α} {f : α → Option β} (hx : L[0]? = some x) : (gI L 0).bind f = f x := gI_b (n := 0) hx
theorem w64_succ {i : Nat} (h : i ≤ 1000000000) : w64 ((i : Int) + 1) = ((i + 1 : Nat) : Int) := by rw [wrap_ok (by omega) (by omega)]; omega
theorem part_congr {n i r : Nat} {G : Nat → Nat → Int} {g g' : Nat → Int} (h : ∀ c, c < n → g c = g' c) : part n i (setF G r g) = part n i (setF G r g') := by
  unfold part
  refine rowL_congr fun k _ => ?_
  split
  · refine rowL_congr fun c hc => ?_
    by_cases hk : k = r
    · subst hk; rw [setF_same, setF_same, h c hc]
    · rw [setF_ne _ _ hk, setF_ne _ _ hk]
  · rfl
theorem part_own {n i : Nat} {F : Nat → Nat → Int} {g : Nat → Int} (h : ∀ c, c < n → g c = F i c) : part n (i + 1) (setF F i g) = part n (i + 1) F := by
  rw [part_congr h, setF_self]
/-- A loop that fills a row. -/
theorem rowfill {body : Int × List (List Int) → Option ((Int × List (List Int)) ⊕ List (List Int))} {fuel n i : Nat} {G : Nat → Nat → Int} (v : Nat → Int) (hf : n < fuel)
    (hs : ∀ (j : Nat) (g : Nat → Int), j < n → g j = G i j → body ((j : Int), part n (i + 1) (setF G i g)) = some (.inl (((j + 1 : Nat) : Int), part n (i + 1) (setF G i fun c => if c = j then v j else g c))))
    (he : ∀ X, body ((n : Int), X) = some (.inr X)) : iter body fuel (0, part n (i + 1) G) = some (part n (i + 1) (setF G i v)) := by
  apply ok_eq
  refine ok_iter (fun j s => s = ((j : Int), part n (i + 1) (setF G i fun c => if c < j then v c else G i c))) n ?_ hf fun j s hj hI => ?_
  · have : (fun c => if c < 0 then v c else G i c) = G i := funext fun c => if_neg (by omega)
    rw [this, setF_self]; rfl
  · subst hI
    by_cases h : j < n
    · rw [hs j _ h (if_neg (by omega))]
      refine ok_some ⟨h, ?_⟩
      refine congrArg (fun z => (((j + 1 : Nat) : Int), part n (i + 1) (setF G i z))) (funext fun c => ?_)
      by_cases h1 : c = j
      · rw [if_pos h1, if_pos (by omega), h1]
      · rw [if_neg h1]
        by_cases h2 : c < j
        · rw [if_pos h2, if_pos (by omega)]
        · rw [if_neg h2, if_neg (by omega)]
    · obtain rfl : j = n := by omega
      rw [he]
      exact ok_some (part_congr fun c hc => if_pos hc)
/-- A loop that makes the rows of a matrix. -/
theorem rowsfill {body : Int × List (List Int) → Option ((Int × List (List Int)) ⊕ List (List Int))} {fuel n : Nat} (F : Nat → Nat → Int) (hf : n < fuel)
    (hs : ∀ i : Nat, i < n → body ((i : Int), part n i F) = some (.inl (((i + 1 : Nat) : Int), part n (i + 1) F))) (he : ∀ X, body ((n : Int), X) = some (.inr X)) : iter body fuel (0, List.replicate n ([] : List Int)) = some (tab n n F) := by
  apply ok_eq
  refine ok_iter (fun i s => s = ((i : Int), part n i F)) n (by rw [part_zero n F]; rfl) hf fun i s hi hI => ?_
  subst hI
  by_cases h : i < n
  · rw [hs i h]; exact ok_some ⟨h, rfl⟩
  · obtain rfl : i = n := by omega
    rw [he]; exact ok_some (part_full _ _)
theorem tmod_mrem {x m : Int} (hm : 2 ≤ m) (hm2 : m ≤ 2147483647) : Int.tmod (w64 (Int.tmod x m + m)) m = x % m := by
  have h1 := Int.tmod_lt_of_pos x (show 0 < m by omega)
  have h2 := Int.tmod_lt_of_pos (-x) (show 0 < m by omega)
  rw [Int.neg_tmod] at h2
  rw [wrap_ok (by omega) (by omega), Int.tmod_eq_emod_of_nonneg (by omega), Int.add_emod_right, Int.tmod_def, Int.sub_mul_emod_self_left]
theorem mres_P {fuel n : Nat} {F : Nat → Nat → Int} {m : Int} (hn : n ≤ 8) (hm : 2 ≤ m) (hm2 : m ≤ 2147483647) (hf : 100 < fuel) : P_modular_residues fuel (tab n n F) m = some (tab n n fun i j => F i j % m) := by
  unfold P_modular_residues
  rw [tab_len, if_pos (by omega), Int.toNat_natCast, rowsfill (n := n) (fun i j => F i j % m) (by omega) (fun i hi => ?_) fun X => ?_]
  · rfl
  · unfold P_modular_residues_b1
    dsimp only
    rw [tab_len, if_pos (by omega), gI_b (tab_get hi), rowL_len, if_pos (by omega), gI_b (part_at hi), sI_nat, Int.toNat_natCast, rowL_rep n (0 : Int), part_new, rowfill (n := n) (fun j => F i j % m) (by omega) (fun j g hj hg => ?_) fun X => ?_]
    · dsimp only [Option.bind_some]
      rw [setF_setF, part_own fun c _ => rfl, w64_succ (by omega)]
    · unfold P_modular_residues_b2
      dsimp only
      rw [rowL_len, if_pos (by omega), gI_b (rowL_get hj), gI_b (part_get (by omega) hi), if_pos (by omega), if_pos (by omega), setF_same, gI_b (rowL_get hj), tmod_mrem hm hm2, sI_nat, sI_nat, rowL_set, part_set (by omega), setF_setF, w64_succ (by omega)]
    · unfold P_modular_residues_b2
      dsimp only
      rw [rowL_len, if_neg (by omega)]
  · unfold P_modular_residues_b1
    dsimp only
    rw [tab_len, if_neg (by omega)]
end Go.Proofs.YtiegjkmfpcgjjaaDoor
/-
  modular.Det, walked.
-/
namespace Go.Proofs.YtiegjkmfpcgjjaaDoor
open Go Go.QF
set_option linter.unusedVariables false
set_option linter.unusedSimpArgs false
set_option maxRecDepth 100000
set_option maxHeartbeats 4000000
def P_modular_Det_b7 (fuel : Nat) (e6329 : Int) (s10500 : Int) (s11888 : Int) (x12351 : (List Int)) (x12358 : Int) (x12385 : Int) (s12521 : Int) (s12522 : (List (List Int))) : Option ((Int × (List (List Int))) ⊕ (((List (List Int))))) :=
  (if s12521 < (x12351.length : Int) then ((gI s12522 s11888).bind fun x12525 => ((gI x12525 s12521).bind fun x12526 => ((gI s12522 s10500).bind fun x12532 => ((gI x12532 s12521).bind fun x12533 => (if e6329 ≠ 0 then (some (Sum.inl ((w64 (s12521 + 1)), (sI s12522 s10500 (sI x12532 s12521 (Int.tmod (w64 (x12533 + (w64 ((w64 (e6329 - (w64 (Int.tdiv x12385 x12358)))) * x12526)))) e6329)))))) else none))))) else (some (Sum.inr<|  s12522)))
def P_modular_Det_b5 (fuel : Nat) (e6329 : Int) (s10500 : Int) (s11888 : Int) (s12345 : Int) (s12346 : (List (List Int))) : Option ((Int × (List (List Int))) ⊕ ((Int × (List (List Int))))) :=
  ((gI s12346 s11888).bind fun x12351 => ((gI x12351 s10500).bind fun x12358 => (if ¬ x12358 = 0 then ((gI s12346 s10500).bind fun x12366 => ((gI x12366 s10500).bind fun x12385 => (if x12358 ≠ 0 then ((((iter (fun s => P_modular_Det_b7 fuel e6329 s10500 s11888 x12351 x12358 x12385 s.1 s.2) fuel (0, s12346)).bind (fun (e12545 : (List (List Int))) => (some ( e12545)))) : Option ((List (List Int)))).bind fun e12546 => ((gI e12546 s11888).bind fun x12547 => ((gI e12546 s10500).bind fun x12554 => (some (Sum.inl ((w64 (0 - s12345)), (sI (sI e12546 s10500 x12547) s11888 x12554))))))) else none))) else (some (Sum.inr<|  (s12345, s12346))))))
def P_modular_Det_b4 (fuel : Nat) (e6329 : Int) (s10500 : Int) (s11887 : Int) (s11888 : Int) (s11889 : (List (List Int))) : Option ((Int × Int × (List (List Int))) ⊕ ((Int × (List (List Int))))) :=
  (if s11888 < (s11889.length : Int) then ((iter (fun s => P_modular_Det_b5 fuel e6329 s10500 s11888 s.1 s.2) fuel (s11887, s11889)).bind (fun ((e12572, e12573) : Int × (List (List Int))) => (some (Sum.inl (e12572, (w64 (s11888 + 1)), e12573))))) else (some (Sum.inr<|  (s11887, s11889))))
def P_modular_Det_b3 (fuel : Nat) (x26 : (List (List Int))) (e6329 : Int) (s10499 : Int) (s10500 : Int) (s10501 : (List (List Int))) : Option ((Int × Int × (List (List Int))) ⊕ ((Int × (List (List Int))))) :=
  (if s10500 < (x26.length : Int) then ((iter (fun s => P_modular_Det_b4 fuel e6329 s10500 s.1 s.2.1 s.2.2) fuel (s10499, (w64 (s10500 + 1)), s10501)).bind (fun ((e12579, e12580) : Int × (List (List Int))) => (some (Sum.inl (e12579, (w64 (s10500 + 1)), e12580))))) else (some (Sum.inr<|  (s10499, s10501))))
def P_modular_Det_b8 (fuel : Nat) (a5 : Int) (e12593 : (List (List Int))) (s12616 : Int) (s12617 : Int) : Option ((Int × Int) ⊕ ((Int))) :=
  (if s12617 < (e12593.length : Int) then ((gI e12593 s12617).bind fun x12620 => (if a5 ≠ 0 then ((gI x12620 s12617).bind fun x12627 => (if a5 ≠ 0 then (some (Sum.inl ((Int.tmod (w64 ((Int.tmod s12616 a5) * x12627)) a5), (w64 (s12617 + 1))))) else none)) else none)) else (some (Sum.inr<|  s12616)))
def P_modular_Det (fuel : Nat) (a3 : (List (List Int))) (a5 : Int) : Option (Int × Int) :=
  ((P_modular_small fuel a3).bind fun x6 => (if (!x6) = true then (some (0, 3)) else ((P_modular_checkModulus fuel a5).bind fun x16 => (if ¬ x16 = 0 then (some (0, x16)) else ((P_modular_residues fuel a3 a5).bind fun x26 => (((((some ( a5)) : Option (Int)).bind fun e6329 => ((iter (fun s => P_modular_Det_b3 fuel x26 e6329 s.1 s.2.1 s.2.2) fuel (1, 0, x26)).bind (fun ((e12586, e12587) : Int × (List (List Int))) => (some ( (e12586, e12587)))))) : Option (Int × (List (List Int)))).bind fun (e12592, e12593) => ((iter (fun s => P_modular_Det_b8 fuel a5 e12593 s.1 s.2) fuel ((w64 (e12592 + a5)), 0)).bind (fun (e12634 : Int) => (some (e12634, 0))))))))))
theorem P_modular_Det_ok {fuel : Nat} {h : Heap} {pv1 : Value} {a3 : (List (List Int))} {a5 : Int} {r : (Int × Int)} (H2 : SlC2 (cI .i64) h pv1 a3) (hp : P_modular_Det fuel a3 a5 = some r) : CallH Tryd.prog 8 #[pv1, (.int .i64 a5)] h (fun x h' => Ext h h' ∧ x = .tuple #[.int .i64 r.1, .int .i64 r.2]) := by
  unfold P_modular_Det at hp
  have K0 := Kst.k0 h
  refine calls_of_W (l := [_, _]) mx Tryd.func8 rfl rfl rfl rfl rfl (by kernel_rfl) ?_
  refine w_seq ?_
  refine w_reg ?_
  refine r_as (r_as (r_nil (q_t ?_)))
  refine w_seq ?_
  refine w_seq ?_
  refine w_reg ?_
  refine r_mv ?_
  obtain ⟨x6, hx7, hp8⟩ := obind hp
  clear hp
  refine r_callE trivial (fun _ _ => trivial) rfl (P_modular_small_ok (H2.ext K0.x) hx7) fun xv12 h10 E9 hk11 => ?_
  subst hk11
  have K13 := K0.e E9
  refine r_not rfl (r_nil (q_t ?_))
  refine ⟨_, rfl, fun hc14 => ?_, fun hc14 => ?_⟩
  · skip
    have hp15 := ifT hp8 hc14
    clear hp8
    refine w_seq ?_
    refine w_reg ?_
    refine r_as (r_as (r_nil (q_t ?_)))
    refine w_ret (q_tr ?_)
    have hq16 := Option.some.inj hp15
    subst hq16
    exact ⟨_, retV_2, K13.x, rfl⟩
  · skip
    have hp17 := ifFb hp8 hc14
    clear hp8
    refine w_skip (q_t ?_)
    refine w_seq ?_
    refine w_seq ?_
    refine w_reg ?_
    refine r_mv ?_
    obtain ⟨x18, hx19, hp20⟩ := obind hp17
    clear hp17
    refine r_callE trivial (fun _ _ => trivial) rfl (P_modular_checkModulus_ok hx19) fun xv24 h22 E21 hk23 => ?_
    subst hk23
    have K25 := K13.e E21
    refine r_as (r_nil (q_t ?_))
    refine w_seq ?_
    refine w_reg ?_
    refine r_mv (r_cmp rfl rfl (cmp_neq _ _) (r_nil (q_t ?_)))
    refine ⟨_, rfl, fun hc26 => ?_, fun hc26 => ?_⟩
    · skip
      have hp27 := ifTd hp20 hc26
      clear hp20
      refine w_seq ?_
      refine w_reg ?_
      refine r_mv (r_as (r_as (r_nil (q_t ?_))))
      refine w_ret (q_tr ?_)
      have hq28 := Option.some.inj hp27
      subst hq28
      exact ⟨_, retV_2, K25.x, rfl⟩
    · skip
      have hp29 := ifFd hp20 hc26
      clear hp20
      refine w_skip (q_t ?_)
      refine w_seq ?_
      refine w_reg ?_
      refine r_mv (r_mv ?_)
      obtain ⟨x30, hx31, hp32⟩ := obind hp29
      clear hp29
      refine r_callE trivial (fun _ _ => trivial) rfl (P_modular_residues_ok (H2.ext K25.x) hx31) fun xv36 h34 E33 hk35 => ?_
      obtain ⟨v37, F40, G41, rs42, rfl, I38, S43⟩ := hk35
      have K44 := K25.no2 E33 S43 I38
      refine r_as (r_nil (q_t ?_))
      refine w_seq ?_
      refine w_reg ?_
      refine r_mv (r_mv ?_)
      obtain ⟨ex45, hj46, hp47⟩ := obind hp32
      clear hp32
      refine r_call (K' := (fun xr h' => ∃ x : (Int) × ((List (List Int))) × (List Nat) × (List (List Nat)) × (List Value), (x.1, x.2.1) = ex45 ∧ xr = (.int .i64 x.1) ∧ Kst h h' (K44.L.set 0 (aO2 (cI .i64) 23 2 x.2.2.1 x.2.2.2.1 x.2.2.2.2 xv36 x.2.1)))) trivial rfl ?_ fun xv49 h50 hk51 => ?_
      · skip
        refine calls_of_W (l := [_, _]) mx Tryd.func17 rfl rfl rfl rfl rfl (by kernel_rfl) ?_
        refine w_seq ?_
        refine w_reg ?_
        refine r_as (r_nil (q_t ?_))
        refine w_seq ?_
        refine w_reg ?_
        refine r_mv ?_
        obtain ⟨ex52, hj53, hp54⟩ := obind hj46
        clear hj46
        refine r_call (K' := (fun xr h' => ∃ x : (Nat) × (Int), x.2 = ex52 ∧ xr = (.func (.func 37) #[] #[(.pointer (some ⟨x.1, 0, none⟩))]) ∧ Kst h h' (aB 2 x.1 [(.int .i64 x.2)] :: K44.L))) trivial rfl ?_ fun xv55 h56 hk57 => ?_
        · skip
          refine calls_of_W (l := [_]) mx Tryd.func30 rfl rfl rfl rfl rfl (by kernel_rfl) ?_
          refine w_seq ?_
          refine w_reg ?_
          refine r_boxE [(.int .i64 a5)] trivial (fun _ _ => trivial) rfl rfl fun b58 h59 V60 E61 S62 => ?_
          have K64 := K44.nb E61 S62 V60
          refine r_as (r_nil (q_t ?_))
          refine w_seq ?_
          refine w_reg ?_
          refine r_mf rfl (r_as (r_nil (q_t ?_)))
          refine w_ret ?_
          refine ⟨_, retV_1, ((b58, a5) : (Nat) × (Int)), ?_, rfl, ?_⟩
          · exact Option.some.inj hj53
          · exact K64
        obtain ⟨⟨q69, u70⟩, hq65, rfl, K68⟩ := hk57
        try dsimp only [Kst.L, List.set, selA, nthA] at K68
        refine ⟨trivial, ?_⟩
        subst hq65
        have hp72 := hp54
        try dsimp only at hp72
        refine r_as (r_nil (q_t ?_))
        refine w_seq ?_
        refine w_reg ?_
        refine r_as (r_nil (q_t ?_))
        refine w_seq ?_
        refine w_seq ?_
        refine w_reg ?_
        refine r_mv ?_
        refine r_lenR sl_MM rfl (K68.o2 p1).rd (r_mv (r_nil (q_t ?_)))
        refine w_block ?_
        obtain ⟨ex73, hL74, hp75⟩ := obind hp72
        clear hp72
        obtain ⟨bd76, hbd77, hL78⟩ := iter_gen hL74
        clear hL74
        refine w_loop 18889465931478580847040 (fun x : (Int) × (Int) × ((List (List Int))) × (List Nat) × (List (List Nat)) × (List Value) => [(6, (.int .i64 x.1)), (13, (.int .i64 x.2.1))]) (fun (k : Nat) (x : (Int) × (Int) × ((List (List Int))) × (List Nat) × (List (List Nat)) × (List Value)) (h' : Heap) => iter bd76 k (x.1, x.2.1, x.2.2.1) = some ex73 ∧ Kst h h' (K68.L.set 1 (aO2 (cI .i64) 23 2 x.2.2.2.1 x.2.2.2.2.1 x.2.2.2.2.2 xv36 x.2.2.1))) (by kernel_rfl) fuel ((1, 0, x30, F40, G41, rs42) : (Int) × (Int) × ((List (List Int))) × (List Nat) × (List (List Nat)) × (List Value)) ?_ ⟨rfl, rfl, trivial⟩ ?_
        · exact ⟨hL78, K68⟩
        rintro k80 ⟨u85, u86, u87, q88, q89, q90⟩ sv83 h82 ⟨hk81, K84⟩
        try dsimp only [Kst.L, List.set, selA, nthA] at K84
        refine (show W _ _ _ (setL [(6, (.int .i64 u85)), (13, (.int .i64 u86))] (mix _ sv83 _)) h82 from ?_)
        obtain ⟨k93, rr94, rfl, hb95, hr96⟩ := iter_step hk81
        clear hk81
        rw [hbd77] at hb95
        dsimp only at hb95
        unfold P_modular_Det_b3 at hb95
        refine w_seq ?_
        refine w_reg ?_
        refine r_cmp rfl rfl (cmp_lss _ _) (r_nil (q_t ?_))
        refine w_seq ?_
        refine ⟨_, rfl, fun hc97 => ?_, fun hc97 => ?_⟩
        · skip
          have hp98 := ifTd hb95 hc97
          clear hb95
          refine w_skip (q_t ?_)
          refine w_seq ?_
          refine w_block ?_
          refine w_seq ?_
          refine w_reg ?_
          refine r_mv (r_as (r_nil (q_t ?_)))
          refine w_seq ?_
          refine w_reg ?_
          refine r_mv (r_add rfl rfl (r_as (r_nil (q_t ?_))))
          refine w_block ?_
          obtain ⟨ex99, hL100, hp101⟩ := obind hp98
          clear hp98
          obtain ⟨bd102, hbd103, hL104⟩ := iter_gen hL100
          clear hL100
          refine w_loop 9444732965739290165568 (fun x : (Int) × (Int) × ((List (List Int))) × (List Nat) × (List (List Nat)) × (List Value) => [(6, (.int .i64 x.1)), (8, (.int .i64 x.2.1))]) (fun (k : Nat) (x : (Int) × (Int) × ((List (List Int))) × (List Nat) × (List (List Nat)) × (List Value)) (h' : Heap) => iter bd102 k (x.1, x.2.1, x.2.2.1) = some ex99 ∧ Kst h h' (K84.L.set 1 (aO2 (cI .i64) 23 2 x.2.2.2.1 x.2.2.2.2.1 x.2.2.2.2.2 xv36 x.2.2.1))) (by kernel_rfl) fuel ((u85, (w64 (u86 + 1)), u87, q88, q89, q90) : (Int) × (Int) × ((List (List Int))) × (List Nat) × (List (List Nat)) × (List Value)) ?_ ⟨rfl, rfl, trivial⟩ ?_
          · exact ⟨hL104, K84⟩
          rintro k106 ⟨u111, u112, u113, q114, q115, q116⟩ sv109 h108 ⟨hk107, K110⟩
          try dsimp only [Kst.L, List.set, selA, nthA] at K110
          refine (show W _ _ _ (setL [(6, (.int .i64 u111)), (8, (.int .i64 u112))] (mix _ sv109 _)) h108 from ?_)
          obtain ⟨k119, rr120, rfl, hb121, hr122⟩ := iter_step hk107
          clear hk107
          rw [hbd103] at hb121
          dsimp only at hb121
          unfold P_modular_Det_b4 at hb121
          refine w_seq ?_
          refine w_seq ?_
          refine w_reg ?_
          refine r_mv (r_mv ?_)
          refine r_lenR sl_MM rfl (K110.o2 p1).rd (r_cmp rfl rfl (cmp_lss _ _) (r_nil (q_t ?_)))
          refine ⟨_, rfl, fun hc123 => ?_, fun hc123 => ?_⟩
          · skip
            have hp124 := ifTd hb121 hc123
            clear hb121
            refine w_skip (q_t ?_)
            refine w_seq ?_
            refine w_block ?_
            refine w_block ?_
            obtain ⟨ex125, hL126, hp127⟩ := obind hp124
            clear hp124
            obtain ⟨bd128, hbd129, hL130⟩ := iter_gen hL126
            clear hL126
            refine w_loop 9444732965739273650240 (fun x : (Int) × ((List (List Int))) × (List Nat) × (List (List Nat)) × (List Value) => [(6, (.int .i64 x.1))]) (fun (k : Nat) (x : (Int) × ((List (List Int))) × (List Nat) × (List (List Nat)) × (List Value)) (h' : Heap) => iter bd128 k (x.1, x.2.1) = some ex125 ∧ Kst h h' (K110.L.set 1 (aO2 (cI .i64) 23 2 x.2.2.1 x.2.2.2.1 x.2.2.2.2 xv36 x.2.1))) (by kernel_rfl) fuel ((u111, u113, q114, q115, q116) : (Int) × ((List (List Int))) × (List Nat) × (List (List Nat)) × (List Value)) ?_ ⟨rfl, trivial⟩ ?_
            · exact ⟨hL130, K110⟩
            rintro k132 ⟨u137, u138, q139, q140, q141⟩ sv135 h134 ⟨hk133, K136⟩
            try dsimp only [Kst.L, List.set, selA, nthA] at K136
            refine (show W _ _ _ (setL [(6, (.int .i64 u137))] (mix _ sv135 _)) h134 from ?_)
            obtain ⟨k144, rr145, rfl, hb146, hr147⟩ := iter_step hk133
            clear hk133
            rw [hbd129] at hb146
            dsimp only at hb146
            unfold P_modular_Det_b5 at hb146
            refine w_seq ?_
            refine w_seq ?_
            refine w_reg ?_
            refine r_mv (r_mv ?_)
            obtain ⟨x148, hx149, hp150⟩ := obind hb146
            clear hb146
            refine r_ixR2 sl_MM rfl (K136.o2 p1) rfl hx149 fun b151 r152 hF153 hr154 hc155 => ?_
            refine r_ld na_I64 rfl hc155 (r_mv ?_)
            obtain ⟨x157, hx158, hp159⟩ := obind hp150
            clear hp150
            refine r_ixO2 (m := u112) sl_I64 rfl (K136.o2 p1) hr154 hx149 rfl hx158 fun g160 hG161 => ?_
            obtain ⟨cs162, hr163, hc164⟩ := (K136.o2 p1).cells hG161 hx149 hx158
            obtain rfl := hr163
            refine r_ld na_i64 rfl (hc164 0 _ rfl) (r_cmp rfl rfl (cmp_neq _ _) (r_nil (q_t ?_)))
            refine ⟨_, rfl, fun hc165 => ?_, fun hc165 => ?_⟩
            · skip
              have hp166 := ifTd hp159 hc165
              clear hp159
              refine w_skip (q_t ?_)
              refine w_block ?_
              refine w_seq ?_
              refine w_draw (by kernel_rfl) ?_
              refine r_mv (r_mv (r_mv ?_))
              obtain ⟨x167, hx168, hp169⟩ := obind hp166
              clear hp166
              refine r_ixR2 sl_MM rfl (K136.o2 p1) rfl hx168 fun b170 r171 hF172 hr173 hc174 => ?_
              refine r_ld na_I64 rfl hc174 (r_mv (r_mv (r_ixR2 sl_MM rfl (K136.o2 p1) rfl hx149 fun b176 r177 hF178 hr179 hc180 => ?_)))
              refine r_ld na_I64 rfl hc180 (r_mv (r_mv (r_ixR2 sl_MM rfl (K136.o2 p1) rfl hx168 fun b182 r183 hF184 hr185 hc186 => ?_)))
              refine r_ld na_I64 rfl hc186 (r_mv ?_)
              obtain ⟨x188, hx189, hp190⟩ := obind hp169
              clear hp169
              refine r_ixO2 (m := u86) sl_I64 rfl (K136.o2 p1) hr185 hx168 rfl hx189 fun g191 hG192 => ?_
              obtain ⟨cs193, hr194, hc195⟩ := (K136.o2 p1).cells hG192 hx168 hx189
              obtain rfl := hr194
              refine r_ld na_i64 rfl (hc195 0 _ rfl) (r_mv (r_mv (r_ixR2 sl_MM rfl (K136.o2 p1) rfl hx149 fun b196 r197 hF198 hr199 hc200 => ?_)))
              refine r_ld na_I64 rfl hc200 (r_mv (r_ixO2 (m := u112) sl_I64 rfl (K136.o2 p1) hr199 hx149 rfl hx158 fun g202 hG203 => ?_))
              obtain ⟨cs204, hr205, hc206⟩ := (K136.o2 p1).cells hG203 hx149 hx158
              obtain rfl := hr205
              refine r_ld na_i64 rfl (hc206 0 _ rfl) ?_
              obtain ⟨hn207, hp208⟩ := ifN hp190
              clear hp190
              refine r_quo rfl rfl hn207 ?_
              obtain ⟨ex209, hj210, hp211⟩ := obind hp208
              clear hp208
              refine r_callc (l := [r171, r177, (.int .i64 (w64 (Int.tdiv x188 x157)))]) (cl := [(.pointer (some ⟨q69, 0, none⟩))]) (K' := (fun xr h' => ∃ x : ((List (List Int))), x = ex209 ∧ xr = .tuple #[] ∧ Kst h h' (K136.L.set 1 (aO2 (cI .i64) 23 2 q139 q140 q141 xv36 x)))) trivial rfl rfl ?_ fun xv212 h213 hk214 => ?_
              · skip
                refine calls_of_W (l := [_, _, _, _]) mx Tryd.func37 rfl rfl rfl rfl rfl (by kernel_rfl) ?_
                refine w_seq ?_
                refine w_reg ?_
                refine r_mv ?_
                refine r_lenC sl_I64 rfl ((K136.o2 p1).rowI hr179 hx149) (r_mv (r_nil (q_t ?_)))
                refine w_block ?_
                obtain ⟨ex215, hL216, hp217⟩ := obind hj210
                clear hj210
                obtain ⟨bd218, hbd219, hL220⟩ := iter_gen hL216
                clear hL216
                refine w_loop 4294965632 (fun x : (Int) × ((List (List Int))) => [(11, (.int .i64 x.1))]) (fun (k : Nat) (x : (Int) × ((List (List Int)))) (h' : Heap) => iter bd218 k (x.1, x.2) = some ex215 ∧ Kst h h' (K136.L.set 1 (aO2 (cI .i64) 23 2 q139 q140 q141 xv36 x.2))) (by kernel_rfl) fuel ((0, u138) : (Int) × ((List (List Int)))) ?_ ⟨rfl, trivial⟩ ?_
                · exact ⟨hL220, K136⟩
                rintro k221 ⟨u226, u227⟩ sv224 h223 ⟨hk222, K225⟩
                try dsimp only [Kst.L, List.set, selA, nthA] at K225
                refine (show W _ _ _ (setL [(11, (.int .i64 u226))] (mix _ sv224 _)) h223 from ?_)
                obtain ⟨k229, rr230, rfl, hb231, hr232⟩ := iter_step hk222
                clear hk222
                rw [hbd219] at hb231
                dsimp only at hb231
                unfold P_modular_Det_b7 at hb231
                refine w_seq ?_
                refine w_reg ?_
                refine r_cmp rfl rfl (cmp_lss _ _) (r_nil (q_t ?_))
                refine w_seq ?_
                refine ⟨_, rfl, fun hc233 => ?_, fun hc233 => ?_⟩
                · skip
                  have hp234 := ifTd hb231 hc233
                  clear hb231
                  refine w_skip (q_t ?_)
                  refine w_seq ?_
                  refine w_block ?_
                  refine w_seq ?_
                  refine w_reg ?_
                  refine r_mv ?_
                  obtain ⟨x235, hx236, hp237⟩ := obind hp234
                  clear hp234
                  obtain ⟨x238, hx239, hp240⟩ := obind hp237
                  clear hp237
                  refine r_ixO2 (m := u112) sl_I64 rfl (K225.o2 p1) hr179 hx236 rfl hx239 fun g241 hG242 => ?_
                  obtain ⟨cs243, hr244, hc245⟩ := (K225.o2 p1).cells hG242 hx236 hx239
                  obtain rfl := hr244
                  refine r_ld na_i64 rfl (hc245 0 _ rfl) (r_as (r_as (r_nil (q_t ?_))))
                  refine w_draw (by kernel_rfl) ?_
                  refine r_mv (r_mv (r_mv (r_mv ?_)))
                  obtain ⟨x246, hx247, hp248⟩ := obind hp240
                  clear hp240
                  obtain ⟨x249, hx250, hp251⟩ := obind hp248
                  clear hp248
                  refine r_ixO2 (m := u86) sl_I64 rfl (K225.o2 p1) hr173 hx247 rfl hx250 fun g252 hG253 => ?_
                  obtain ⟨cs254, hr255, hc256⟩ := (K225.o2 p1).cells hG253 hx247 hx250
                  obtain rfl := hr255
                  refine r_ld na_i64 rfl (hc256 0 _ rfl) ?_
                  refine r_ld na_i64 rfl ((K225.b p0).cell (i := 0) rfl) (r_mv (r_sub rfl rfl (r_mv (r_mul rfl rfl (r_add rfl rfl ?_)))))
                  refine r_ld na_i64 rfl ((K225.b p0).cell (i := 0) rfl) ?_
                  obtain ⟨hn257, hp258⟩ := ifN hp251
                  clear hp251
                  refine r_rem rfl rfl hn257 (r_ixO2 (m := u86) sl_I64 rfl (K225.o2 p1) hr173 hx247 rfl hx250 fun g259 hG260 => ?_)
                  refine r_stO2 (m := u86) (stEl_na na_i64 rfl rfl rfl) (K225.o2 p1) hG260 hx247 hx250 (show ((cI .i64)).rep _ (Int.tmod (w64 (x249 + (w64 ((w64 (u70 - (w64 (Int.tdiv x188 x157)))) * x238)))) u70) _ from rfl) fun h261 I263 U262 => ?_
                  have K264 := K225.uO2 p1 U262 I263
                  refine r_nil (q_b (q_t ?_))
                  refine w_reg ?_
                  refine r_add rfl rfl (r_mv (r_nil (q_t ?_)))
                  have hq265 := Option.some.inj hp258
                  subst hq265
                  exact ⟨k229, (((w64 (u226 + 1)), (sI u227 u86 (sI x246 u226 (Int.tmod (w64 (x249 + (w64 ((w64 (u70 - (w64 (Int.tdiv x188 x157)))) * x238)))) u70)))) : (Int) × ((List (List Int)))), Nat.lt_succ_self _, ⟨hr232, K264⟩, rfl, trivial⟩
                · skip
                  have hp266 := ifFd hb231 hc233
                  clear hb231
                  have hq267 := Option.some.inj hp266
                  subst hq267
                  have hp268 := hr232
                  change _ = ex215 at hp268
                  subst hp268
                  have hp269 := hp217
                  try dsimp only at hp269
                  refine w_exit (q_tx (q_tx (q_bx ?_)))
                  refine ⟨_, retV_none, (u227 : ((List (List Int)))), ?_, rfl, ?_⟩
                  · exact Option.some.inj hp269
                  · exact K225
              obtain ⟨u274, hq270, rfl, K273⟩ := hk214
              try dsimp only [Kst.L, List.set, selA, nthA] at K273
              refine ⟨trivial, ?_⟩
              subst hq270
              have hp276 := hp211
              try dsimp only at hp276
              refine r_nil (q_t ?_)
              refine w_seq ?_
              refine w_draw (by kernel_rfl) ?_
              refine r_mv (r_mv (r_mv (r_mv (r_mv (r_mv ?_)))))
              obtain ⟨x277, hx278, hp279⟩ := obind hp276
              clear hp276
              refine r_ixR2 sl_MM rfl (K273.o2 p1) rfl hx278 fun b280 r281 hF282 hr283 hc284 => ?_
              refine r_ld na_I64 rfl hc284 (r_mv (r_mv ?_))
              obtain ⟨x286, hx287, hp288⟩ := obind hp279
              clear hp279
              refine r_ixR2 sl_MM rfl (K273.o2 p1) rfl hx287 fun b289 r290 hF291 hr292 hc293 => ?_
              refine r_ld na_I64 rfl hc293 ?_
              refine r_swapRows sl_MM na_I64 (K273.o2 p1) hr292 hr283 hx287 hx278 rfl rfl (fun _ => rfl) (fun _ => rfl) (fun _ => rfl) (fun _ _ => rfl) fun p295 q296 F297 G298 rs299 h300 I301 U302 hs303 => ?_
              have K305 := K273.uo2 p1 U302 I301 hs303
              refine r_nil (q_t ?_)
              refine w_reg ?_
              refine r_mv (r_neg rfl (r_as (r_nil (q_b (q_t ?_)))))
              have hq306 := Option.some.inj hp288
              subst hq306
              exact ⟨k144, (((w64 (0 - u137)), (sI (sI u274 u86 x277) u112 x286), F297, G298, rs299) : (Int) × ((List (List Int))) × (List Nat) × (List (List Nat)) × (List Value)), Nat.lt_succ_self _, ⟨hr147, K305⟩, rfl, trivial⟩
            · skip
              have hp307 := ifFd hp159 hc165
              clear hp159
              have hq308 := Option.some.inj hp307
              subst hq308
              have hp309 := hr147
              change _ = ex125 at hp309
              subst hp309
              have hp310 := hp127
              try dsimp only at hp310
              refine w_exit (q_tx (q_tx (q_bx (q_b (q_t ?_)))))
              refine w_reg ?_
              refine r_mv (r_add rfl rfl (r_as (r_nil (q_t ?_))))
              have hq311 := Option.some.inj hp310
              subst hq311
              exact ⟨k119, ((u137, (w64 (u112 + 1)), u138, q139, q140, q141) : (Int) × (Int) × ((List (List Int))) × (List Nat) × (List (List Nat)) × (List Value)), Nat.lt_succ_self _, ⟨hr122, K136⟩, rfl, rfl, trivial⟩
          · skip
            have hp312 := ifFd hb121 hc123
            clear hb121
            have hq313 := Option.some.inj hp312
            subst hq313
            have hp314 := hr122
            change _ = ex99 at hp314
            subst hp314
            have hp315 := hp101
            try dsimp only at hp315
            refine w_exit (q_tx (q_tx (q_bx (q_b (q_t ?_)))))
            refine w_reg ?_
            refine r_add rfl rfl (r_mv (r_nil (q_t ?_)))
            have hq316 := Option.some.inj hp315
            subst hq316
            exact ⟨k93, ((u111, (w64 (u86 + 1)), u113, q114, q115, q116) : (Int) × (Int) × ((List (List Int))) × (List Nat) × (List (List Nat)) × (List Value)), Nat.lt_succ_self _, ⟨hr96, K110⟩, rfl, rfl, trivial⟩
        · skip
          have hp317 := ifFd hb95 hc97
          clear hb95
          have hq318 := Option.some.inj hp317
          subst hq318
          have hp319 := hr96
          change _ = ex73 at hp319
          subst hp319
          have hp320 := hp75
          try dsimp only at hp320
          refine w_exit (q_tx (q_tx (q_bx (q_t ?_))))
          refine w_seq ?_
          refine w_reg ?_
          refine r_mv (r_as (r_nil (q_t ?_)))
          refine w_ret ?_
          refine ⟨_, retV_1, ((u85, u87, q88, q89, q90) : (Int) × ((List (List Int))) × (List Nat) × (List (List Nat)) × (List Value)), ?_, rfl, ?_⟩
          · exact Option.some.inj hp320
          · exact K84.sel [1] (by decide)
      obtain ⟨⟨u325, u326, q327, q328, q329⟩, hq321, rfl, K324⟩ := hk51
      try dsimp only [Kst.L, List.set, selA, nthA] at K324
      refine ⟨trivial, ?_⟩
      subst hq321
      have hp332 := hp47
      try dsimp only at hp332
      refine r_mv (r_add rfl rfl (r_as (r_nil (q_t ?_))))
      refine w_seq ?_
      refine w_seq ?_
      refine w_reg ?_
      refine r_mv ?_
      refine r_lenR sl_MM rfl (K324.o2 p0).rd (r_mv (r_nil (q_t ?_)))
      refine w_block ?_
      obtain ⟨ex333, hL334, hp335⟩ := obind hp332
      clear hp332
      obtain ⟨bd336, hbd337, hL338⟩ := iter_gen hL334
      clear hL334
      refine w_loop 35183835219712 (fun x : (Int) × (Int) => [(8, (.int .i64 x.1)), (29, (.int .i64 x.2))]) (fun (k : Nat) (x : (Int) × (Int)) (h' : Heap) => iter bd336 k (x.1, x.2) = some ex333 ∧ Kst h h' (K324.L)) (by kernel_rfl) fuel (((w64 (u325 + a5)), 0) : (Int) × (Int)) ?_ ⟨rfl, rfl, trivial⟩ ?_
      · exact ⟨hL338, K324⟩
      rintro k339 ⟨u344, u345⟩ sv342 h341 ⟨hk340, K343⟩
      try dsimp only [Kst.L, List.set, selA, nthA] at K343
      refine (show W _ _ _ (setL [(8, (.int .i64 u344)), (29, (.int .i64 u345))] (mix _ sv342 _)) h341 from ?_)
      obtain ⟨k346, rr347, rfl, hb348, hr349⟩ := iter_step hk340
      clear hk340
      rw [hbd337] at hb348
      dsimp only at hb348
      unfold P_modular_Det_b8 at hb348
      refine w_seq ?_
      refine w_reg ?_
      refine r_cmp rfl rfl (cmp_lss _ _) (r_nil (q_t ?_))
      refine w_seq ?_
      refine ⟨_, rfl, fun hc350 => ?_, fun hc350 => ?_⟩
      · skip
        have hp351 := ifTd hb348 hc350
        clear hb348
        refine w_skip (q_t ?_)
        refine w_seq ?_
        refine w_block ?_
        refine w_seq ?_
        refine w_reg ?_
        refine r_mv ?_
        obtain ⟨x352, hx353, hp354⟩ := obind hp351
        clear hp351
        refine r_ixR2 sl_MM rfl (K343.o2 p0) rfl hx353 fun b355 r356 hF357 hr358 hc359 => ?_
        refine r_ld na_I64 rfl hc359 (r_as (r_as (r_nil (q_t ?_))))
        refine w_draw (by kernel_rfl) ?_
        refine r_mv (r_mv ?_)
        obtain ⟨hn361, hp362⟩ := ifN hp354
        clear hp354
        refine r_rem rfl rfl hn361 (r_mv (r_mv ?_))
        obtain ⟨x363, hx364, hp365⟩ := obind hp362
        clear hp362
        refine r_ixO2 (m := u345) sl_I64 rfl (K343.o2 p0) hr358 hx353 rfl hx364 fun g366 hG367 => ?_
        obtain ⟨cs368, hr369, hc370⟩ := (K343.o2 p0).cells hG367 hx353 hx364
        obtain rfl := hr369
        refine r_ld na_i64 rfl (hc370 0 _ rfl) (r_mul rfl rfl (r_mv ?_))
        obtain ⟨hn371, hp372⟩ := ifN hp365
        clear hp365
        refine r_rem rfl rfl hn371 (r_as (r_nil (q_b (q_t ?_))))
        refine w_reg ?_
        refine r_add rfl rfl (r_mv (r_nil (q_t ?_)))
        have hq373 := Option.some.inj hp372
        subst hq373
        exact ⟨k346, (((Int.tmod (w64 ((Int.tmod u344 a5) * x363)) a5), (w64 (u345 + 1))) : (Int) × (Int)), Nat.lt_succ_self _, ⟨hr349, K343⟩, rfl, rfl, trivial⟩
      · skip
        have hp374 := ifFd hb348 hc350
        clear hb348
        have hq375 := Option.some.inj hp374
        subst hq375
        have hp376 := hr349
        change _ = ex333 at hp376
        subst hp376
        have hp377 := hp335
        try dsimp only at hp377
        refine w_exit (q_tx (q_tx (q_bx (q_t ?_))))
        refine w_seq ?_
        refine w_reg ?_
        refine r_mv (r_as (r_as (r_nil (q_t ?_))))
        refine w_ret ?_
        have hq378 := Option.some.inj hp377
        subst hq378
        exact ⟨_, retV_2, K343.x, rfl⟩
end Go.Proofs.YtiegjkmfpcgjjaaDoor
/-
  Plain: the program's determinant modulo a number. Conditions stand in each statement.
-/
namespace Go.Proofs.YtiegjkmfpcgjjaaDoor
open Go Go.QF
set_option linter.unusedVariables false
set_option linter.unusedSimpArgs false
set_option maxRecDepth 100000
theorem iter_run {E : Type} {body : Int → Option (Int ⊕ E)} {fuel n : Nat} {e : E} (hf : n < fuel) (hs : ∀ i : Nat, i < n → body (i : Int) = some (.inl ((i + 1 : Nat) : Int))) (he : body (n : Int) = some (.inr e)) : iter body fuel 0 = some e := by
  apply ok_eq
  refine ok_iter (fun i s => s = (i : Int)) n rfl hf fun i s hi hI => ?_
  subst hI
  by_cases h : i < n
  · rw [hs i h]; exact ok_some ⟨h, rfl⟩
  · obtain rfl : i = n := by omega
    rw [he]; exact ok_some rfl
theorem mvalid_P {fuel n : Nat} {F : Nat → Nat → Int} (hn1 : 1 ≤ n) (hn : n ≤ 8) (hf : 100 < fuel) : P_modular_valid fuel (tab n n F) = some true := by
  unfold P_modular_valid
  rw [tab_len, if_neg (by omega), if_neg (by omega), gI_b0 (tab_get (by omega)), rowL_len, if_neg (by omega), if_neg (by omega)]
  simp only [Option.bind_some]
  rw [iter_run (n := n) (e := .inr ()) (by omega) (fun i hi => ?_) ?_]
  · rfl
  · unfold P_modular_valid_b2
    rw [tab_len, if_neg (by omega)]
  · unfold P_modular_valid_b2
    rw [tab_len, if_pos (by omega), gI_b (tab_get hi), gI_b0 (tab_get (by omega)), rowL_len, rowL_len, if_neg (fun h => h rfl), w64_succ (by omega)]
theorem sI_rowL {n j : Nat} {g : Nat → Int} {x : Int} : sI (rowL n g) (j : Int) x = rowL n fun c => if c = j then x else g c := by rw [sI_nat, rowL_set]
theorem tab_row {n i : Nat} {F : Nat → Nat → Int} {g : Nat → Int} : sI (tab n n F) (i : Int) (rowL n g) = tab n n (setF F i g) := by
  rw [sI_nat]; exact tab_setF
theorem tab_rowc {n r : Nat} {F : Nat → Nat → Int} {g g' : Nat → Int} (h : ∀ c, c < n → g c = g' c) : tab n n (setF F r g) = tab n n (setF F r g') := tab_congr fun i j _ hj => by
  rw [setF_app, setF_app, h j hj]
/-- A state of the elimination. -/
structure TriI (n : Nat) (m : Int) (A F : Nat → Nat → Int) (s : Int) (c : Nat) : Prop where
  sg : s = 1 ∨ s = -1
  bd : Bd n n m F
  z : Zc n F c
  d : Eqm m (det n F) (s * det n A)
theorem tri_val {m a b x y : Int} (hm : 2 ≤ m) (hm2 : m ≤ 2147483647) (ha : 0 ≤ a ∧ a < m) (hb : 0 < b ∧ b < m) (hx : 0 ≤ x ∧ x < m) (hy : 0 ≤ y ∧ y < m) : Int.tmod (w64 (x + (w64 ((w64 (m - (w64 (Int.tdiv a b)))) * y)))) m = (x + (m - a / b) * y) % m := by
  have hq := quo_bd ha.1 ha.2 hb.1
  have h1 : Int.tdiv a b = a / b := Int.tdiv_eq_ediv_of_nonneg ha.1
  have h0 : 0 ≤ (m - a / b) * y := Int.mul_nonneg (by omega) hy.1
  have h2 : (m - a / b) * y ≤ 2147483647 * 2147483647 := Int.mul_le_mul (by omega) (by omega) hy.1 (by omega)
  rw [h1, wrap_ok (x := a / b) (by omega) (by omega), wrap_ok (x := m - a / b) (by omega) (by omega), wrap_ok (x := (m - a / b) * y) (by omega) (by omega), wrap_ok (by omega) (by omega), Int.tmod_eq_emod_of_nonneg (by omega)]
theorem tri_row {fuel n c i : Nat} {m : Int} {F : Nat → Nat → Int} (hn : n ≤ 8) (hm : 2 ≤ m) (hm2 : m ≤ 2147483647) (hc : c < n) (hi : i < n) (hne : c ≠ i) (hB : Bd n n m F) (h0 : F i c ≠ 0) (hf : 100 < fuel) :
    iter (fun s => P_modular_Det_b7 fuel m c i (rowL n (F i)) (F i c) (F c c) s.1 s.2) fuel (0, tab n n F) = some (tab n n (setF F c fun x => (F c x + (m - F c c / F i c) * F i x) % m)) := by
  apply ok_eq
  refine ok_iter (fun j s => s = ((j : Int), tab n n (setF F c fun x => if x < j then (F c x + (m - F c c / F i c) * F i x) % m else F c x))) n ?_ (by omega) fun j s hj hI => ?_
  · have : (fun x => if x < 0 then (F c x + (m - F c c / F i c) * F i x) % m else F c x) = F c := funext fun x => if_neg (by omega)
    rw [this, setF_self]; rfl
  · subst hI
    unfold P_modular_Det_b7
    dsimp only
    rw [rowL_len]
    by_cases h : j < n
    · have b1 := hB c c hc hc
      have b2 := hB i c hi hc
      rw [if_pos (by omega), gI_b (tab_get hi), setF_ne _ _ (Ne.symm hne), gI_b (rowL_get h), gI_b (tab_get hc), setF_same, gI_b (rowL_get h), if_pos (by omega), if_neg (by omega), tri_val hm hm2 (hB c c hc hc) ⟨by omega, b2.2⟩ (hB c j hc h) (hB i j hi h), sI_rowL, tab_row, setF_setF, w64_succ (by omega)]
      refine ok_some ⟨h, congrArg (fun z => (((j + 1 : Nat) : Int), tab n n (setF F c z))) (funext fun x => ?_)⟩
      by_cases h1 : x = j
      · rw [if_pos h1, if_pos (by omega), h1]
      · rw [if_neg h1]
        by_cases h2 : x < j
        · rw [if_pos h2, if_pos (by omega)]
        · rw [if_neg h2, if_neg (by omega)]
    · obtain rfl : j = n := by omega
      rw [if_neg (by omega)]
      exact ok_some (tab_rowc fun x hx => if_pos hx)
theorem triI_step {n c i : Nat} {m s : Int} {A F : Nat → Nat → Int} (hm : 2 ≤ m) (hc : c < n) (hi : i < n) (hci : c < i) (H : TriI n m A F s c) (q : Int) : TriI n m A (stepF F c i q m) (-s) c := by
  have h1 := (Eqm.refl m 0).sub H.d
  rw [Int.zero_sub, Int.zero_sub] at h1
  refine ⟨by rcases H.sg with h | h <;> rw [h] <;> simp, bd_step (by omega) H.bd hc hi, zc_step H.z hci hi, (det_stepF hc hi (by omega)).trans ?_⟩
  rw [Int.neg_mul]
  exact h1
theorem tri_euclid {fuel n c i : Nat} {m s : Int} {A F : Nat → Nat → Int} (hn : n ≤ 8) (hm : 2 ≤ m) (hm2 : m ≤ 2147483647) (hc : c < n) (hi : i < n) (hci : c < i) (H : TriI n m A F s c) (hZ : Zi F c i) (hf : 2147483648 < fuel) :
    Ok (iter (fun s => P_modular_Det_b5 fuel m c i s.1 s.2) fuel (s, tab n n F)) fun e => ∃ s' F', e = (s', tab n n F') ∧ TriI n m A F' s' c ∧ Zi F' c i ∧ F' i c = 0 := by
  refine ok_iter (fun k st => ∃ s' F', st = (s', tab n n F') ∧ TriI n m A F' s' c ∧ Zi F' c i ∧ F' i c + k ≤ m) m.toNat ⟨s, F, rfl, H, hZ, by have := H.bd i c hi hc; omega⟩ (by omega) fun k st hk hI => ?_
  obtain ⟨s', F', rfl, H', hZ', hk'⟩ := hI
  have hB := H'.bd
  have b2 := hB i c hi hc
  unfold P_modular_Det_b5
  dsimp only
  rw [gI_b (tab_get hi), gI_b (rowL_get hc)]
  refine ok_if (fun h => ?_) fun h => ok_some ⟨s', F', rfl, H', hZ', Decidable.not_not.1 h⟩
  rw [gI_b (tab_get hc), gI_b (rowL_get hc), if_pos h, tri_row hn hm hm2 hc hi (by omega) hB h (by omega)]
  simp only [Option.bind_some]
  have e1 : ∀ g, sI (sI (tab n n (setF F' c g)) (c : Int) (rowL n (F' i))) (i : Int) (rowL n g) = tab n n (swapF (setF F' c g) c i) := fun g => by
    rw [tab_row, tab_row]
    unfold swapF
    rw [setF_same, setF_ne _ _ (show i ≠ c by omega)]
  have b1 := hB c c hc hc
  rw [gI_b (tab_get hi), setF_ne _ _ (show i ≠ c by omega), gI_b (tab_get hc), setF_same, e1, wrap_ok (by rcases H'.sg with h | h <;> omega) (by rcases H'.sg with h | h <;> omega), Int.zero_sub]
  refine ok_some ⟨by omega, -s', _, rfl, triI_step hm hc hi hci H' _, zi_step hZ', ?_⟩
  show stepF F' c i (F' c c / F' i c) m i c + ((k + 1 : Nat) : Int) ≤ m
  rw [stepF_i]
  dsimp only
  rw [step_lt b1.1 b1.2 (by omega) b2.2]
  have := Int.emod_lt_of_pos (F' c c) (show 0 < F' i c by omega)
  omega
theorem jdet_P {fuel n : Nat} {T : Nat → Nat → Int} {m : Int} (hn1 : 1 ≤ n) (hn : n ≤ 8) (hm : 2 ≤ m) (hm2 : m ≤ 2147483647) (hf : 2147483648 < fuel) : P_modular_Det fuel (tab n n T) m = some (det n T % m, 0) := by
  unfold P_modular_Det
  have h0 : P_modular_small fuel (tab n n T) = some true := by
    unfold P_modular_small
    rw [mvalid_P hn1 hn (by omega)]
    simp only [Option.bind_some, reduceIte]
    rw [gI_b0 (tab_get (by omega)), rowL_len, tab_len, if_pos rfl, decide_eq_true (by omega)]
  have h1 : P_modular_checkModulus fuel m = some 0 := by unfold P_modular_checkModulus; rw [if_neg (by omega), if_neg (by omega)]
  rw [h0]
  simp only [Option.bind_some]
  rw [if_neg (by decide), h1]
  simp only [Option.bind_some]
  rw [if_neg (by decide), mres_P hn hm hm2 (by omega)]
  simp only [Option.bind_some]
  apply ok_eq
  generalize hA : (fun i j => T i j % m) = A
  have hAd : Eqm m (det n A) (det n T) := by subst hA; exact det_eqm fun i j _ _ => Eqm.mod _ _
  have hAb : Bd n n m A := by subst hA; exact fun i j _ _ => ⟨Int.emod_nonneg _ (by omega), Int.emod_lt_of_pos _ (by omega)⟩
  refine ok_bind (Q := fun e : Int × List (List Int) => ∃ F, e.2 = tab n n F ∧ TriI n m A F e.1 n) (ok_bind (ok_iter (fun c st => ∃ s F, st = (s, (c : Int), tab n n F) ∧ c ≤ n ∧ TriI n m A F s c) n (Q := fun e : Int × List (List Int) => ∃ F, e.2 = tab n n F ∧ TriI n m A F e.1 n) ⟨1, A, rfl, Nat.zero_le _, .inl rfl, hAb, fun c' i h => absurd h (Nat.not_lt_zero _), by rw [Int.one_mul]; exact Eqm.refl _ _⟩ (by omega) fun c st hc hI => ?_) fun e he => ok_some he) fun e he => ?_
  · obtain ⟨s, F, rfl, hcn, H⟩ := hI
    unfold P_modular_Det_b3
    dsimp only
    rw [tab_len]
    refine ok_if (fun h => ?_) fun h => ok_some ⟨F, rfl, (show c = n by omega) ▸ H⟩
    have hc' : c < n := by omega
    rw [w64_succ (by omega)]
    refine ok_bind (ok_iter (fun k st => ∃ s F, st = (s, ((c + 1 + k : Nat) : Int), tab n n F) ∧ c + 1 + k ≤ n ∧ TriI n m A F s c ∧ Zi F c (c + 1 + k)) (n - (c + 1)) (Q := fun e : Int × List (List Int) => ∃ F, e.2 = tab n n F ∧ TriI n m A F e.1 (c + 1)) ⟨s, F, rfl, by omega, H, fun k h1 h2 => by omega⟩ (by omega) fun k st hk hI => ?_) fun e he => ?_
    · obtain ⟨s', F', rfl, hkn, H', hZ'⟩ := hI
      unfold P_modular_Det_b4
      dsimp only
      rw [tab_len]
      refine ok_if (fun h2 => ok_bind (tri_euclid hn hm hm2 hc' (by omega) (by omega) H' hZ' hf) fun e he => ?_) fun h2 => ok_some ⟨F', rfl, H'.sg, H'.bd, zc_succ H'.z ((show c + 1 + k = n by omega) ▸ hZ'), H'.d⟩
      obtain ⟨s2, F2, rfl, H2, hZ2, h3⟩ := he
      exact ok_some ⟨by omega, s2, F2, by rw [w64_succ (by omega)]; rfl, by omega, H2, zi_succ hZ2 h3⟩
    · obtain ⟨e1, e2⟩ := e
      obtain ⟨F', h2, H'⟩ := he
      dsimp only at h2 H'
      subst h2
      exact ok_some ⟨by omega, e1, F', rfl, by omega, H'⟩
  · obtain ⟨s, M⟩ := e
    obtain ⟨F, h2, H⟩ := he
    dsimp only at h2 H
    subst h2
    dsimp only
    rw [wrap_ok (by rcases H.sg with h | h <;> omega) (by rcases H.sg with h | h <;> omega)]
    refine ok_bind (ok_iter (fun k st => st = (detP F m s k, (k : Int)) ∧ k ≤ n) n (Q := (· = detP F m s n)) ⟨rfl, Nat.zero_le _⟩ (by omega) fun k st hk hI => ?_) fun e he => ok_some ?_
    · obtain ⟨rfl, hkn⟩ := hI
      unfold P_modular_Det_b8
      dsimp only
      rw [tab_len]
      by_cases h : k < n
      · have hd := detP_bd (F := F) (m := m) (s := s) hm H.sg k
        have hb := H.bd k k h h
        have h3 := Int.emod_nonneg (detP F m s k) (show m ≠ 0 by omega)
        have h4 := Int.emod_lt_of_pos (detP F m s k) (show 0 < m by omega)
        have h5 := Int.mul_nonneg h3 hb.1
        have h6 : detP F m s k % m * F k k ≤ 2147483647 * 2147483647 := Int.mul_le_mul (by omega) (by omega) hb.1 (by omega)
        rw [if_pos (by omega), gI_b (tab_get h), if_pos (by omega), gI_b (rowL_get h), if_pos (by omega), Int.tmod_eq_emod_of_nonneg hd.1, wrap_ok (x := detP F m s k % m * F k k) (by omega) (by omega), Int.tmod_eq_emod_of_nonneg h5, w64_succ (by omega)]
        exact ok_some ⟨h, rfl, by omega⟩
      · obtain rfl : k = n := by omega
        rw [if_neg (by omega)]; exact ok_some rfl
    · subst he
      have h3 : Eqm m (detP F m s n) (det n T) := by
        refine (detP_eqm _).trans ?_
        rw [← det_upper H.z]
        refine ((Eqm.refl m s).mul H.d).trans (Eqm.trans (Eqm.of_eq ?_) hAd)
        rcases H.sg with h | h <;> rw [h] <;> grind
      have h4 : 0 ≤ detP F m s n ∧ detP F m s n < m := by
        obtain ⟨k, rfl⟩ : ∃ k, n = k + 1 := ⟨n - 1, by omega⟩
        unfold detP
        exact ⟨Int.emod_nonneg _ (by omega), Int.emod_lt_of_pos _ (by omega)⟩
      unfold Eqm at h3
      rw [← h3, Int.emod_eq_of_lt h4.1 h4.2]
end Go.Proofs.YtiegjkmfpcgjjaaDoor
/-
  Plain: powers, blocks and the matrix of blocks, of the program and of the reference. Conditions stand in each statement.
-/
namespace Go.Proofs.YtiegjkmfpcgjjaaDoor
open Go Go.QF
set_option linter.unusedVariables false
set_option linter.unusedSimpArgs false
set_option maxRecDepth 100000
theorem pow_mono_exp {p : Int} (hp : 1 ≤ p) {a b : Nat} (h : a ≤ b) : p ^ a ≤ p ^ b := by
  obtain ⟨c, rfl⟩ : ∃ c, b = a + c := ⟨b - a, by omega⟩
  rw [Int.pow_add]
  have h1 : 0 < p ^ a := Int.pow_pos (by omega)
  have h2 : 0 < p ^ c := Int.pow_pos (by omega)
  have := Int.mul_le_mul_of_nonneg_left (show 1 ≤ p ^ c by omega) (Int.le_of_lt h1)
  omega
/-! ### the matrix of blocks -/
end Go.Proofs.YtiegjkmfpcgjjaaDoor
/-
  Lists of structs and matrices that are written out. No condition.
-/
namespace Go.QF
open Go
set_option linter.unusedVariables false
set_option linter.unusedSimpArgs false
theorem one_nil : ∀ u ∈ ([] : List Value), isOne u = true := fun u h => by cases h
theorem one_cons {v : Value} {l : List Value} (h : isOne v = true) (H : ∀ u ∈ l, isOne u = true) : ∀ u ∈ v :: l, isOne u = true := fun u hu => (List.mem_cons.1 hu).elim (fun e => e ▸ h) (H u)
section
variable {P : Program} {B : Heap → Prop} {st : Bool} {ops : Array Oper} {rest : List Oper} {e : Env} {h : Heap} {K : Env → Heap → Prop} {d : Nat} {ty : TypeId} {pos : String} {af : Array Edge}
end
end Go.QF
/-
  Matrices that are written out: their rows become one matrix. No condition.
-/
namespace Go.QF
open Go
set_option linter.unusedVariables false
set_option linter.unusedSimpArgs false
theorem flat_one (l : List Value) : (l.map fun r => [r]).flatten = l := by
  induction l with
  | nil => rfl
  | cons a L ih => simp [ih]
/-- Rows, one by one. -/
def RowsO {α : Type} (c : Cod α) (el : Nat) (h : Heap) : List (List Nat) → List Value → List (List α) → Prop
  | [], [], [] => True
  | G :: Gs, r :: rs, L :: M => OwC c el h G r L ∧ RowsO c el h Gs rs M
  | _, _, _ => False
theorem RowsO.len {α : Type} {c : Cod α} {el : Nat} {h : Heap} : ∀ {Gs : List (List Nat)} {rs : List Value} {M : List (List α)}, RowsO c el h Gs rs M → rs.length = M.length ∧ Gs.length = M.length
  | [], [], [], _ => ⟨rfl, rfl⟩
  | G :: Gs, r :: rs, L :: M, H => by have := RowsO.len H.2; simp [this.1, this.2]
theorem RowsO.get {α : Type} {c : Cod α} {el : Nat} {h : Heap} : ∀ {Gs : List (List Nat)} {rs : List Value} {M : List (List α)}, RowsO c el h Gs rs M → ∀ (i : Nat) (G : List Nat) (r : Value) (L : List α), Gs[i]? = some G → rs[i]? = some r → M[i]? = some L → OwC c el h G r L
  | [], [], [], _, i, G, r, L, h1, _, _ => by simp at h1
  | G0 :: Gs, r0 :: rs, L0 :: M, H, 0, G, r, L, h1, h2, h3 => by simp at h1 h2 h3; subst h1; subst h2; subst h3; exact H.1
  | G0 :: Gs, r0 :: rs, L0 :: M, H, i + 1, G, r, L, h1, h2, h3 => RowsO.get H.2 i G r L (by simpa using h1) (by simpa using h2) (by simpa using h3)
section
variable {P : Program} {B : Heap → Prop} {st : Bool} {ops : Array Oper} {rest : List Oper} {e : Env} {h : Heap} {K : Env → Heap → Prop} {d : Nat} {ty : TypeId} {pos : String} {af : Array Edge}
theorem r_litRows {α : Type} {c : Cod α} (Gs : List (List Nat)) (rs : List Value) (M : List (List α)) {t er el bytes n : Nat} {z : Value} {parts : List (Nat × Operand)} (hT : SlT P t er 1) (hz : ZeT P er z bytes) (h1 : isOne z = true) (hel : Nat.beq er 69 = false) (hb : B h) (hBE : ∀ h', Ext h h' → B h') (hn : rs.length = n) (hn2 : Nat.ble n 16777216 = true) (hpos : Nat.ble 1 n = true) (hp : (parts.map fun (i, x) => (i, e.ev x)) = partsOf 0 rs) (hone : ∀ u ∈ rs, isOne u = true) (hr : RowsO c el h Gs rs M) (hnd : Gs.flatten.Nodup)
    (H : ∀ b v h', OwC2 c er el h' (b :: Gs.flatten) Gs rs v M → Ext h h' → (∀ z ∈ b :: Gs.flatten, z ∈ Gs.flatten ∨ h.size ≤ z) → RL P B st ops rest (e.set d v) h' K) : RL P B st ops (⟨some d, .buildSlice t n parts.toArray, ty, pos, af, none⟩ :: rest) e h K := by
  have hn2 := Nat.le_of_ble_eq_true hn2
  have E : Ext h (h.push (.cells rs.toArray er (0, 0))) := ext_push _ _
  have HO : OwnK (h.push (.cells rs.toArray er (0, 0))) er 1 h.size (.slice (some ⟨h.size, 0, none⟩) n n) (rs.map fun r => [r]) := ⟨n, rs.toArray, by rw [List.length_map, hn], by simp, by simp [hn], by unfold maxLen; omega, by simp [hn], fun r hr => by obtain ⟨a, _, rfl⟩ := List.mem_map.1 hr; rfl, by rw [flat_one]; simp⟩
  have hlt : ∀ z ∈ Gs.flatten, z < h.size := fun z hz => by
    obtain ⟨G, hG, hzG⟩ := List.mem_flatten.1 hz
    obtain ⟨i, hi⟩ := List.getElem?_of_mem hG
    have hi' := (List.getElem?_eq_some_iff.1 hi).1
    have hl := hr.len
    exact (hr.get i G (rs[i]'(by omega)) (M[i]'(by omega)) hi (List.getElem?_eq_getElem _) (List.getElem?_eq_getElem _)).lt z hzG
  refine r_bs rs hT hz h1 hb hn hn2 (Nat.le_of_ble_eq_true hpos) hp hone ⟨hBE _ E, H h.size _ _ (.inr ⟨h.size, rfl, ?_, HO, hel, hr.len.1, hr.len.2, fun i G r L a1 a2 a3 => (hr.get i G r L a1 a2 a3).ext E⟩) E fun z hz => ?_⟩
  · exact List.nodup_cons.2 ⟨fun hm => by have := hlt _ hm; omega, hnd⟩
  · rcases List.mem_cons.1 hz with rfl | h2
    · exact .inr (Nat.le_refl _)
    · exact .inl h2
end
end Go.QF
namespace Go.Proofs.YtiegjkmfpcgjjaaDoor
open Go Go.QF
set_option linter.unusedVariables false
set_option linter.unusedSimpArgs false
/-- blocks that are known to be there -/
def aT (F : List Nat) : Asr := ⟨F, fun h => ∀ b ∈ F, NotD h b, fun {G h h'} U d H b hb => by
  obtain ⟨o, h1, h2⟩ := H b hb
  exact ⟨o, (U.1.2 b (Array.getElem?_eq_some_iff.1 h1).1 (d b hb)).trans h1, h2⟩⟩
namespace Kst
variable {h0 h h' : Heap} {l l' : List Asr}
theorem a0 (k : Kst h0 h l) : Kst h0 h (aT [] :: l) := k.n (Ext.refl h) [aT []] (by exact ⟨by simp [fps, aT], fun b hb => by simp [fps, aT] at hb⟩) ⟨fun b hb => by simp at hb, trivial⟩
theorem grab {α : Type} {c : Cod α} {F R : List Nat} {j el : Nat} {w : Value} {y : List α} (k : Kst h0 h (aT F :: l)) (e : Rep j l (aO c el R w y) (aC True) l') : Kst h0 h (aT (F ++ R) :: l') := by
  obtain ⟨e, rfl⟩ := e
  have HR : OwC c el h R w y := allP_get k.p.2 e
  have e1 : (fps (aT F :: l))[j + 1]? = some R := (fps_get e : (fps l)[j]? = some R)
  have e0 : (fps (aT F :: l))[0]? = some F := rfl
  have hd := k.s.dj 0 (j + 1) e0 e1 (by omega)
  have hF : F.Nodup := (List.nodup_append.1 k.s.1).1
  have := k.s.put2 0 (j + 1) (F' := F ++ R) e0 e1 (by omega) (List.nodup_append.2 ⟨hF, HR.nodup, fun a ha b hb hab => hd a ha (hab ▸ hb)⟩) (Nat.le_refl _) k.x.1 (fun x hx => (List.mem_append.1 hx).elim (fun h => (k.s.lo 0 e0 x h).2) fun h => HR.lt x h) (fun x hx => (List.mem_append.1 hx).elim .inl fun h => .inr (.inl h))
  refine ⟨k.x, ?_, fun b hb => (List.mem_append.1 hb).elim (k.p.1 b) (HR.notD b), allP_triv k.p.2 j⟩
  have e2 : fps (aT (F ++ R) :: l.set j (aC True)) = ((fps (aT F :: l)).set (j + 1) []).set 0 (F ++ R) := by
    show (F ++ R) :: fps (l.set j (aC True)) = _
    rw [fps_set]; rfl
  rw [e2]; exact this
theorem ndT {F : List Nat} (k : Kst h0 h (aT F :: l)) : F.Nodup := (List.nodup_append.1 k.s.1).1
theorem lit {α : Type} {c : Cod α} {er el : Nat} {F F' : List Nat} {Gs : List (List Nat)} {rs : List Value} {v : Value} {x : List (List α)} (k : Kst h0 h (aT F :: l)) (E : Ext h h') (V : OwC2 c er el h' F' Gs rs v x) (hs : ∀ z ∈ F', z ∈ F ∨ h.size ≤ z) : Kst h0 h' (aO2 c er el F' Gs rs v x :: l) :=
  k.u p0 (E.upT.mono (fun x hx => by simp at hx) fun x hx _ => k.p.1 x hx) V V.nodup V.lt hs
end Kst
end Go.Proofs.YtiegjkmfpcgjjaaDoor
/-
  Kronecker, walked.
-/
namespace Go.Proofs.YtiegjkmfpcgjjaaDoor
open Go Go.QF
set_option linter.unusedVariables false
set_option linter.unusedSimpArgs false
set_option maxRecDepth 100000
set_option maxHeartbeats 4000000
def P_prime_residue (fuel : Nat) (a1 : Int) (a2 : Int) : Option Int :=
  (if a2 ≠ 0 then (if a2 ≠ 0 then (some (Int.tmod (w64 ((Int.tmod a1 a2) + a2)) a2)) else none) else none)
theorem P_prime_residue_ok {fuel : Nat} {h : Heap} {a1 : Int} {a2 : Int} {r : Int}  (hp : P_prime_residue fuel a1 a2 = some r) : CallH Tryd.prog 18 #[(.int .i64 a1), (.int .i64 a2)] h (fun x h' => Ext h h' ∧ x = .int .i64 r) := by
  unfold P_prime_residue at hp
  have K0 := Kst.k0 h
  refine calls_of_W (l := [_, _]) mx Tryd.func18 rfl rfl rfl rfl rfl (by kernel_rfl) ?_
  refine w_seq ?_
  refine w_reg ?_
  refine r_as (r_nil (q_t ?_))
  refine w_seq ?_
  refine w_reg ?_
  refine r_mv (r_mv ?_)
  obtain ⟨hn3, hp4⟩ := ifN hp
  clear hp
  refine r_rem rfl rfl hn3 (r_mv (r_add rfl rfl (r_mv ?_)))
  obtain ⟨hn5, hp6⟩ := ifN hp4
  clear hp4
  refine r_rem rfl rfl hn5 (r_as (r_nil (q_t ?_)))
  refine w_ret ?_
  have hq7 := Option.some.inj hp6
  subst hq7
  exact ⟨_, retV_1, K0.x, rfl⟩
def P_prime_jacobi_b2 (fuel : Nat) (s47 : Int) (s62 : Int) (s63 : Int) : Option ((Int × Int) ⊕ ((Int × Int))) :=
  (if (Int.tmod s62 2) = 0 then (if (Int.tmod s47 8) = 3 then (some (Sum.inl ((w64 (Int.tdiv s62 2)), (w64 (0 - s63))))) else (if (Int.tmod s47 8) = 5 then (some (Sum.inl ((w64 (Int.tdiv s62 2)), (w64 (0 - s63))))) else (some (Sum.inl ((w64 (Int.tdiv s62 2)), s63))))) else (some (Sum.inr<|  (s62, s63))))
def P_prime_jacobi_b1 (fuel : Nat) (s46 : Int) (s47 : Int) (s48 : Int) : Option ((Int × Int × Int) ⊕ ((Int × Int))) :=
  (if ¬ s46 = 0 then ((iter (fun s => P_prime_jacobi_b2 fuel s47 s.1 s.2) fuel (s46, s48)).bind (fun ((e73, e74) : Int × Int) => (((if (Int.tmod e73 4) = 3 then (if (Int.tmod s47 4) = 3 then (some ( (w64 (0 - e74)))) else (some ( e74))) else (some ( e74))) : Option ((Int))).bind (fun (e87 : Int) => (if e73 ≠ 0 then (some (Sum.inl ((Int.tmod s47 e73), e73, e87))) else none))))) else (some (Sum.inr<|  (s47, s48))))
def P_prime_jacobi (fuel : Nat) (a1 : Int) (a2 : Int) : Option Int :=
  ((iter (fun s => P_prime_jacobi_b1 fuel s.1 s.2.1 s.2.2) fuel (a1, a2, 1)).bind (fun ((e89, e90) : Int × Int) => (if ¬ e89 = 1 then (some 0) else (some e90))))
theorem P_prime_jacobi_ok {fuel : Nat} {h : Heap} {a1 : Int} {a2 : Int} {r : Int}  (hp : P_prime_jacobi fuel a1 a2 = some r) : CallH Tryd.prog 19 #[(.int .i64 a1), (.int .i64 a2)] h (fun x h' => Ext h h' ∧ x = .int .i64 r) := by
  unfold P_prime_jacobi at hp
  have K0 := Kst.k0 h
  refine calls_of_W (l := [_, _]) mx Tryd.func19 rfl rfl rfl rfl rfl (by kernel_rfl) ?_
  refine w_seq ?_
  refine w_reg ?_
  refine r_as (r_nil (q_t ?_))
  refine w_seq ?_
  refine w_reg ?_
  refine r_as (r_nil (q_t ?_))
  refine w_seq ?_
  refine w_block ?_
  obtain ⟨ex3, hL4, hp5⟩ := obind hp
  clear hp
  obtain ⟨bd6, hbd7, hL8⟩ := iter_gen hL4
  clear hL4
  refine w_loop 137438953443 (fun x : (Int) × (Int) × (Int) => [(0, (.int .i64 x.1)), (1, (.int .i64 x.2.1)), (5, (.int .i64 x.2.2))]) (fun (k : Nat) (x : (Int) × (Int) × (Int)) (h' : Heap) => iter bd6 k (x.1, x.2.1, x.2.2) = some ex3 ∧ Kst h h' (K0.L)) (by kernel_rfl) fuel ((a1, a2, 1) : (Int) × (Int) × (Int)) ?_ ⟨rfl, rfl, rfl, trivial⟩ ?_
  · exact ⟨hL8, K0⟩
  rintro k9 ⟨u14, u15, u16⟩ sv12 h11 ⟨hk10, K13⟩
  try dsimp only [Kst.L, List.set, selA, nthA] at K13
  refine (show W _ _ _ (setL [(0, (.int .i64 u14)), (1, (.int .i64 u15)), (5, (.int .i64 u16))] (mix _ sv12 _)) h11 from ?_)
  obtain ⟨k17, rr18, rfl, hb19, hr20⟩ := iter_step hk10
  clear hk10
  rw [hbd7] at hb19
  dsimp only at hb19
  unfold P_prime_jacobi_b1 at hb19
  refine w_seq ?_
  refine w_seq ?_
  refine w_reg ?_
  refine r_mv (r_cmp rfl rfl (cmp_neq _ _) (r_nil (q_t ?_)))
  refine ⟨_, rfl, fun hc21 => ?_, fun hc21 => ?_⟩
  · skip
    have hp22 := ifTd hb19 hc21
    clear hb19
    refine w_skip (q_t ?_)
    refine w_block ?_
    refine w_seq ?_
    refine w_block ?_
    obtain ⟨ex23, hL24, hp25⟩ := obind hp22
    clear hp22
    obtain ⟨bd26, hbd27, hL28⟩ := iter_gen hL24
    clear hL24
    refine w_loop 8388385 (fun x : (Int) × (Int) => [(0, (.int .i64 x.1)), (5, (.int .i64 x.2))]) (fun (k : Nat) (x : (Int) × (Int)) (h' : Heap) => iter bd26 k (x.1, x.2) = some ex23 ∧ Kst h h' (K13.L)) (by kernel_rfl) fuel ((u14, u16) : (Int) × (Int)) ?_ ⟨rfl, rfl, trivial⟩ ?_
    · exact ⟨hL28, K13⟩
    rintro k29 ⟨u34, u35⟩ sv32 h31 ⟨hk30, K33⟩
    try dsimp only [Kst.L, List.set, selA, nthA] at K33
    refine (show W _ _ _ (setL [(0, (.int .i64 u34)), (5, (.int .i64 u35))] (mix _ sv32 _)) h31 from ?_)
    obtain ⟨k36, rr37, rfl, hb38, hr39⟩ := iter_step hk30
    clear hk30
    rw [hbd27] at hb38
    dsimp only at hb38
    unfold P_prime_jacobi_b2 at hb38
    refine w_seq ?_
    refine w_seq ?_
    refine w_reg ?_
    refine r_mv (r_rem rfl rfl (by decide) (r_cmp rfl rfl (cmp_eql _ _) (r_nil (q_t ?_))))
    refine ⟨_, rfl, fun hc40 => ?_, fun hc40 => ?_⟩
    · skip
      have hp41 := ifTd hb38 hc40
      clear hb38
      refine w_skip (q_t ?_)
      refine w_block ?_
      refine w_seq ?_
      refine w_reg ?_
      refine r_mv (r_quo rfl rfl (by decide) (r_as (r_nil (q_t ?_))))
      refine w_seq ?_
      refine w_reg ?_
      refine r_mv (r_rem rfl rfl (by decide) (r_cmp rfl rfl (cmp_eql _ _) (r_mv ?_)))
      rcases Decidable.em ((Int.tmod u15 8) = 3) with hc42 | hc42
      · skip
        have hp43 := ifT hp41 hc42
        clear hp41
        rw [show decide ((Int.tmod u15 8) = 3) = true from decide_eq_true hc42]
        refine r_skip 16 true (by kernel_rfl) rfl rfl (r_skip 16 true (by kernel_rfl) rfl rfl (r_skip 16 true (by kernel_rfl) rfl rfl (r_pickT rfl (r_nil (q_t ?_)))))
        refine w_true rfl ?_
        refine w_reg ?_
        refine r_mv (r_neg rfl (r_as (r_nil (q_b (q_t ?_)))))
        have hq44 := Option.some.inj hp43
        subst hq44
        exact ⟨k36, (((w64 (Int.tdiv u34 2)), (w64 (0 - u35))) : (Int) × (Int)), Nat.lt_succ_self _, ⟨hr39, K33⟩, rfl, rfl, trivial⟩
      · skip
        have hp45 := ifF hp41 hc42
        clear hp41
        rw [show decide ((Int.tmod u15 8) = 3) = false from decide_eq_false hc42]
        refine r_want 16 false (by kernel_rfl) rfl rfl (r_mv (r_want 16 false (by kernel_rfl) rfl rfl (r_rem rfl rfl (by decide) (r_want 16 false (by kernel_rfl) rfl rfl (r_cmp rfl rfl (cmp_eql _ _) (r_pickF rfl (r_nil (q_t ?_))))))))
        refine ⟨_, rfl, fun hc46 => ?_, fun hc46 => ?_⟩
        · skip
          have hp47 := ifTd hp45 hc46
          clear hp45
          refine w_reg ?_
          refine r_mv (r_neg rfl (r_as (r_nil (q_b (q_t ?_)))))
          have hq48 := Option.some.inj hp47
          subst hq48
          exact ⟨k36, (((w64 (Int.tdiv u34 2)), (w64 (0 - u35))) : (Int) × (Int)), Nat.lt_succ_self _, ⟨hr39, K33⟩, rfl, rfl, trivial⟩
        · skip
          have hp49 := ifFd hp45 hc46
          clear hp45
          refine w_skip (q_b (q_t ?_))
          have hq50 := Option.some.inj hp49
          subst hq50
          exact ⟨k36, (((w64 (Int.tdiv u34 2)), u35) : (Int) × (Int)), Nat.lt_succ_self _, ⟨hr39, K33⟩, rfl, rfl, trivial⟩
    · skip
      have hp51 := ifFd hb38 hc40
      clear hb38
      have hq52 := Option.some.inj hp51
      subst hq52
      have hp53 := hr39
      change _ = ex23 at hp53
      subst hp53
      have hp54 := hp25
      try dsimp only at hp54
      refine w_exit (q_tx (q_tx (q_bx (q_t ?_))))
      obtain ⟨ex55, hj56, hp57⟩ := obind hp54
      clear hp54
      refine w_join 8581546016 (fun x : (Int) => [(5, (.int .i64 x))]) (fun (x : (Int)) (h' : Heap) => ( x) = ex55 ∧ Kst h h' (K33.L)) (by kernel_rfl) ?_ ?_
      · skip
        refine w_seq ?_
        refine w_reg ?_
        refine r_mv (r_rem rfl rfl (by decide) (r_cmp rfl rfl (cmp_eql _ _) (r_mv ?_)))
        rcases Decidable.em ((Int.tmod u34 4) = 3) with hc58 | hc58
        · skip
          have hp59 := ifT hj56 hc58
          clear hj56
          rw [show decide ((Int.tmod u34 4) = 3) = true from decide_eq_true hc58]
          refine r_want 26 true (by kernel_rfl) rfl rfl (r_mv (r_want 26 true (by kernel_rfl) rfl rfl (r_rem rfl rfl (by decide) (r_want 26 true (by kernel_rfl) rfl rfl (r_cmp rfl rfl (cmp_eql _ _) (r_pickT rfl (r_nil (q_t ?_))))))))
          refine ⟨_, rfl, fun hc60 => ?_, fun hc60 => ?_⟩
          · skip
            have hp61 := ifTd hp59 hc60
            clear hp59
            refine w_reg ?_
            refine r_mv (r_neg rfl (r_as (r_nil (q_t ?_))))
            exact ⟨((w64 (0 - u35)) : (Int)), ⟨Option.some.inj hp61, K33⟩, rfl, trivial⟩
          · skip
            have hp62 := ifFd hp59 hc60
            clear hp59
            refine w_skip (q_t ?_)
            exact ⟨(u35 : (Int)), ⟨Option.some.inj hp62, K33⟩, rfl, trivial⟩
        · skip
          have hp63 := ifF hj56 hc58
          clear hj56
          rw [show decide ((Int.tmod u34 4) = 3) = false from decide_eq_false hc58]
          refine r_skip 26 false (by kernel_rfl) rfl rfl (r_skip 26 false (by kernel_rfl) rfl rfl (r_skip 26 false (by kernel_rfl) rfl rfl (r_pickF rfl (r_nil (q_t ?_)))))
          refine w_false rfl ?_
          refine w_skip (q_t ?_)
          exact ⟨(u35 : (Int)), ⟨Option.some.inj hp63, K33⟩, rfl, trivial⟩
      rintro u68 sv66 h65 ⟨hk64, K67⟩
      try dsimp only [Kst.L, List.set, selA, nthA] at K67
      refine (show W _ _ _ (setL [(5, (.int .i64 u68))] (mix _ sv66 _)) h65 from ?_)
      subst hk64
      have hp69 := hp57
      try dsimp only at hp69
      refine w_reg ?_
      refine r_mv (r_mv ?_)
      obtain ⟨hn70, hp71⟩ := ifN hp69
      clear hp69
      refine r_rem rfl rfl hn70 (r_mv (r_as (r_as (r_nil (q_b (q_t ?_))))))
      have hq72 := Option.some.inj hp71
      subst hq72
      exact ⟨k17, (((Int.tmod u15 u34), u34, u68) : (Int) × (Int) × (Int)), Nat.lt_succ_self _, ⟨hr20, K67⟩, rfl, rfl, rfl, trivial⟩
  · skip
    have hp73 := ifFd hb19 hc21
    clear hb19
    have hq74 := Option.some.inj hp73
    subst hq74
    have hp75 := hr20
    change _ = ex3 at hp75
    subst hp75
    have hp76 := hp5
    try dsimp only at hp76
    refine w_exit (q_tx (q_tx (q_bx (q_t ?_))))
    refine w_seq ?_
    refine w_seq ?_
    refine w_reg ?_
    refine r_mv (r_cmp rfl rfl (cmp_neq _ _) (r_nil (q_t ?_)))
    refine ⟨_, rfl, fun hc77 => ?_, fun hc77 => ?_⟩
    · skip
      have hp78 := ifTd hp76 hc77
      clear hp76
      refine w_seq ?_
      refine w_reg ?_
      refine r_as (r_nil (q_t ?_))
      refine w_ret (q_tr ?_)
      have hq79 := Option.some.inj hp78
      subst hq79
      exact ⟨_, retV_1, K13.x, rfl⟩
    · skip
      have hp80 := ifFd hp76 hc77
      clear hp76
      refine w_skip (q_t ?_)
      refine w_seq ?_
      refine w_reg ?_
      refine r_mv (r_as (r_nil (q_t ?_)))
      refine w_ret ?_
      have hq81 := Option.some.inj hp80
      subst hq81
      exact ⟨_, retV_1, K13.x, rfl⟩
def P_prime_Kronecker_b3 (fuel : Nat) (a1 : Int) (s86 : Int) (s87 : Int) : Option ((Int × Int) ⊕ (((Int × Int)) ⊕ (Int × Int))) :=
  (if (Int.tmod s86 2) = 0 then (if (Int.tmod a1 2) = 0 then (some (Sum.inr<| Sum.inl <| (0, 0))) else ((((P_prime_residue fuel a1 8).bind fun x106 => (if x106 = 3 then (some ( (w64 (0 - s87)))) else (if x106 = 5 then (some ( (w64 (0 - s87)))) else (some ( s87))))) : Option ((Int))).bind (fun (e119 : Int) => (some (Sum.inl ((w64 (Int.tdiv s86 2)), e119)))))) else (some (Sum.inr<| Sum.inr <|  (s86, s87))))
def P_prime_Kronecker (fuel : Nat) (a1 : Int) (a2 : Int) : Option (Int × Int) :=
  (((if a1 < (-2147483647) then (some (Sum.inl <| (0, 1))) else (if 2147483647 < a1 then (some (Sum.inl <| (0, 1))) else (if a2 < (-2147483647) then (some (Sum.inl <| (0, 1))) else (if 2147483647 < a2 then (some (Sum.inl <| (0, 1))) else (some (Sum.inr <|  ())))))) : Option (((Int × Int)) ⊕ (Unit))).bind (fun ex => match ex with | Sum.inl e27 => (some e27) | Sum.inr (_) => (if a2 = 0 then (if a1 = 1 then (some (1, 0)) else (if a1 = (-1) then (some (1, 0)) else (some (0, 0)))) else (((if a2 < 0 then (if a1 < 0 then (some ( ((w64 (0 - a2)), (-1)))) else (some ( ((w64 (0 - a2)), 1)))) else (some ( (a2, 1)))) : Option ((Int × Int))).bind (fun ((e49, e50) : Int × Int) => ((iter (fun s => P_prime_Kronecker_b3 fuel a1 s.1 s.2) fuel (e49, e50)).bind (fun ex => match ex with | Sum.inl e121 => (some e121) | Sum.inr ((e122, e123)) => ((P_prime_residue fuel a1 e122).bind fun x124 => ((P_prime_jacobi fuel x124 e122).bind fun x131 => (some ((w64 (e123 * x131)), 0)))))))))))
theorem P_prime_Kronecker_ok {fuel : Nat} {h : Heap} {a1 : Int} {a2 : Int} {r : (Int × Int)}  (hp : P_prime_Kronecker fuel a1 a2 = some r) : CallH Tryd.prog 9 #[(.int .i64 a1), (.int .i64 a2)] h (fun x h' => Ext h h' ∧ x = .tuple #[.int .i64 r.1, .int .i64 r.2]) := by
  unfold P_prime_Kronecker at hp
  have K0 := Kst.k0 h
  refine calls_of_W (l := [_, _]) mx Tryd.func9 rfl rfl rfl rfl rfl (by kernel_rfl) ?_
  refine w_seq ?_
  refine w_reg ?_
  refine r_as (r_as (r_nil (q_t ?_)))
  obtain ⟨ex3, hj4, hp5⟩ := obind hp
  clear hp
  refine w_join 4194096 (fun x : Unit => []) (fun (x : Unit) (h' : Heap) => (Sum.inr <|  ()) = ex3 ∧ Kst h h' (K0.L)) (by kernel_rfl) ?_ ?_
  · skip
    refine w_seq ?_
    refine w_reg ?_
    refine r_mv (r_cmp rfl rfl (cmp_lss _ _) (r_mv ?_))
    rcases Decidable.em (a1 < (-2147483647)) with hc6 | hc6
    · skip
      have hp7 := ifT hj4 hc6
      clear hj4
      rw [show decide (a1 < (-2147483647)) = true from decide_eq_true hc6]
      refine r_skip 10 true (by kernel_rfl) rfl rfl (r_skip 10 true (by kernel_rfl) rfl rfl (r_pickT rfl (r_mv (r_skip 14 true (by kernel_rfl) rfl rfl (r_skip 14 true (by kernel_rfl) rfl rfl (r_pickT rfl (r_mv (r_skip 18 true (by kernel_rfl) rfl rfl (r_skip 18 true (by kernel_rfl) rfl rfl (r_pickT rfl (r_nil (q_t ?_))))))))))))
      refine w_true rfl ?_
      refine w_seq ?_
      refine w_reg ?_
      refine r_as (r_as (r_nil (q_t ?_)))
      have hq8 := Option.some.inj hp7
      subst hq8
      have hp10 := hp5
      try dsimp only at hp10
      refine w_ret (q_tr ?_)
      have hq11 := Option.some.inj hp10
      subst hq11
      exact ⟨_, retV_2, K0.x, rfl⟩
    · skip
      have hp12 := ifF hj4 hc6
      clear hj4
      rw [show decide (a1 < (-2147483647)) = false from decide_eq_false hc6]
      refine r_want 10 false (by kernel_rfl) rfl rfl (r_mv (r_want 10 false (by kernel_rfl) rfl rfl (r_cmp rfl rfl (cmp_gtr _ _) (r_pickF rfl (r_mv ?_)))))
      rcases Decidable.em (2147483647 < a1) with hc13 | hc13
      · skip
        have hp14 := ifT hp12 hc13
        clear hp12
        rw [show decide (2147483647 < a1) = true from decide_eq_true hc13]
        refine r_skip 14 true (by kernel_rfl) rfl rfl (r_skip 14 true (by kernel_rfl) rfl rfl (r_pickT rfl (r_mv (r_skip 18 true (by kernel_rfl) rfl rfl (r_skip 18 true (by kernel_rfl) rfl rfl (r_pickT rfl (r_nil (q_t ?_))))))))
        refine w_true rfl ?_
        refine w_seq ?_
        refine w_reg ?_
        refine r_as (r_as (r_nil (q_t ?_)))
        have hq15 := Option.some.inj hp14
        subst hq15
        have hp17 := hp5
        try dsimp only at hp17
        refine w_ret (q_tr ?_)
        have hq18 := Option.some.inj hp17
        subst hq18
        exact ⟨_, retV_2, K0.x, rfl⟩
      · skip
        have hp19 := ifF hp12 hc13
        clear hp12
        rw [show decide (2147483647 < a1) = false from decide_eq_false hc13]
        refine r_want 14 false (by kernel_rfl) rfl rfl (r_mv (r_want 14 false (by kernel_rfl) rfl rfl (r_cmp rfl rfl (cmp_lss _ _) (r_pickF rfl (r_mv ?_)))))
        rcases Decidable.em (a2 < (-2147483647)) with hc20 | hc20
        · skip
          have hp21 := ifT hp19 hc20
          clear hp19
          rw [show decide (a2 < (-2147483647)) = true from decide_eq_true hc20]
          refine r_skip 18 true (by kernel_rfl) rfl rfl (r_skip 18 true (by kernel_rfl) rfl rfl (r_pickT rfl (r_nil (q_t ?_))))
          refine w_true rfl ?_
          refine w_seq ?_
          refine w_reg ?_
          refine r_as (r_as (r_nil (q_t ?_)))
          have hq22 := Option.some.inj hp21
          subst hq22
          have hp24 := hp5
          try dsimp only at hp24
          refine w_ret (q_tr ?_)
          have hq25 := Option.some.inj hp24
          subst hq25
          exact ⟨_, retV_2, K0.x, rfl⟩
        · skip
          have hp26 := ifF hp19 hc20
          clear hp19
          rw [show decide (a2 < (-2147483647)) = false from decide_eq_false hc20]
          refine r_want 18 false (by kernel_rfl) rfl rfl (r_mv (r_want 18 false (by kernel_rfl) rfl rfl (r_cmp rfl rfl (cmp_gtr _ _) (r_pickF rfl (r_nil (q_t ?_))))))
          refine ⟨_, rfl, fun hc27 => ?_, fun hc27 => ?_⟩
          · skip
            have hp28 := ifTd hp26 hc27
            clear hp26
            refine w_seq ?_
            refine w_reg ?_
            refine r_as (r_as (r_nil (q_t ?_)))
            have hq29 := Option.some.inj hp28
            subst hq29
            have hp31 := hp5
            try dsimp only at hp31
            refine w_ret (q_tr ?_)
            have hq32 := Option.some.inj hp31
            subst hq32
            exact ⟨_, retV_2, K0.x, rfl⟩
          · skip
            have hp33 := ifFd hp26 hc27
            clear hp26
            refine w_skip (q_t ?_)
            exact ⟨(() : Unit), ⟨Option.some.inj hp33, K0⟩, trivial⟩
  rintro ⟨⟩ sv36 h35 ⟨hk34, K37⟩
  try dsimp only [Kst.L, List.set, selA, nthA] at K37
  refine (show W _ _ _ (setL [] (mix _ sv36 _)) h35 from ?_)
  subst hk34
  have hp38 := hp5
  try dsimp only at hp38
  refine w_seq ?_
  refine w_seq ?_
  refine w_reg ?_
  refine r_mv (r_cmp rfl rfl (cmp_eql _ _) (r_nil (q_t ?_)))
  refine ⟨_, rfl, fun hc39 => ?_, fun hc39 => ?_⟩
  · skip
    have hp40 := ifTd hp38 hc39
    clear hp38
    refine w_seq ?_
    refine w_seq ?_
    refine w_reg ?_
    refine r_mv (r_cmp rfl rfl (cmp_eql _ _) (r_mv ?_))
    rcases Decidable.em (a1 = 1) with hc41 | hc41
    · skip
      have hp42 := ifT hp40 hc41
      clear hp40
      rw [show decide (a1 = 1) = true from decide_eq_true hc41]
      refine r_skip 26 true (by kernel_rfl) rfl rfl (r_skip 26 true (by kernel_rfl) rfl rfl (r_pickT rfl (r_nil (q_t ?_))))
      refine w_true rfl ?_
      refine w_seq ?_
      refine w_reg ?_
      refine r_as (r_as (r_nil (q_t ?_)))
      refine w_ret (q_tr (q_tr ?_))
      have hq43 := Option.some.inj hp42
      subst hq43
      exact ⟨_, retV_2, K37.x, rfl⟩
    · skip
      have hp44 := ifF hp40 hc41
      clear hp40
      rw [show decide (a1 = 1) = false from decide_eq_false hc41]
      refine r_want 26 false (by kernel_rfl) rfl rfl (r_mv (r_want 26 false (by kernel_rfl) rfl rfl (r_cmp rfl rfl (cmp_eql _ _) (r_pickF rfl (r_nil (q_t ?_))))))
      refine ⟨_, rfl, fun hc45 => ?_, fun hc45 => ?_⟩
      · skip
        have hp46 := ifTd hp44 hc45
        clear hp44
        refine w_seq ?_
        refine w_reg ?_
        refine r_as (r_as (r_nil (q_t ?_)))
        refine w_ret (q_tr (q_tr ?_))
        have hq47 := Option.some.inj hp46
        subst hq47
        exact ⟨_, retV_2, K37.x, rfl⟩
      · skip
        have hp48 := ifFd hp44 hc45
        clear hp44
        refine w_skip (q_t ?_)
        refine w_seq ?_
        refine w_reg ?_
        refine r_as (r_as (r_nil (q_t ?_)))
        refine w_ret (q_tr ?_)
        have hq49 := Option.some.inj hp48
        subst hq49
        exact ⟨_, retV_2, K37.x, rfl⟩
  · skip
    have hp50 := ifFd hp38 hc39
    clear hp38
    refine w_skip (q_t ?_)
    refine w_seq ?_
    refine w_reg ?_
    refine r_as (r_nil (q_t ?_))
    obtain ⟨ex51, hj52, hp53⟩ := obind hp50
    clear hp50
    refine w_join 67645734978 (fun x : (Int) × (Int) => [(1, (.int .i64 x.1)), (6, (.int .i64 x.2))]) (fun (x : (Int) × (Int)) (h' : Heap) => ( (x.1, x.2)) = ex51 ∧ Kst h h' (K37.L)) (by kernel_rfl) ?_ ?_
    · skip
      refine w_seq ?_
      refine w_reg ?_
      refine r_mv (r_cmp rfl rfl (cmp_lss _ _) (r_nil (q_t ?_)))
      refine ⟨_, rfl, fun hc54 => ?_, fun hc54 => ?_⟩
      · skip
        have hp55 := ifTd hj52 hc54
        clear hj52
        refine w_seq ?_
        refine w_reg ?_
        refine r_mv (r_neg rfl (r_as (r_nil (q_t ?_))))
        refine w_seq ?_
        refine w_reg ?_
        refine r_mv (r_cmp rfl rfl (cmp_lss _ _) (r_nil (q_t ?_)))
        refine ⟨_, rfl, fun hc56 => ?_, fun hc56 => ?_⟩
        · skip
          have hp57 := ifTd hp55 hc56
          clear hp55
          refine w_reg ?_
          refine r_as (r_nil (q_t ?_))
          exact ⟨(((w64 (0 - a2)), (-1)) : (Int) × (Int)), ⟨Option.some.inj hp57, K37⟩, rfl, rfl, trivial⟩
        · skip
          have hp58 := ifFd hp55 hc56
          clear hp55
          refine w_skip (q_t ?_)
          exact ⟨(((w64 (0 - a2)), 1) : (Int) × (Int)), ⟨Option.some.inj hp58, K37⟩, rfl, rfl, trivial⟩
      · skip
        have hp59 := ifFd hj52 hc54
        clear hj52
        refine w_skip (q_t ?_)
        exact ⟨((a2, 1) : (Int) × (Int)), ⟨Option.some.inj hp59, K37⟩, rfl, rfl, trivial⟩
    rintro ⟨u64, u65⟩ sv62 h61 ⟨hk60, K63⟩
    try dsimp only [Kst.L, List.set, selA, nthA] at K63
    refine (show W _ _ _ (setL [(1, (.int .i64 u64)), (6, (.int .i64 u65))] (mix _ sv62 _)) h61 from ?_)
    subst hk60
    have hp66 := hp53
    try dsimp only at hp66
    refine w_seq ?_
    refine w_block ?_
    obtain ⟨ex67, hL68, hp69⟩ := obind hp66
    clear hp66
    obtain ⟨bd70, hbd71, hL72⟩ := iter_gen hL68
    clear hL68
    refine w_loop 18014329790005490 (fun x : (Int) × (Int) => [(1, (.int .i64 x.1)), (6, (.int .i64 x.2))]) (fun (k : Nat) (x : (Int) × (Int)) (h' : Heap) => iter bd70 k (x.1, x.2) = some ex67 ∧ Kst h h' (K63.L)) (by kernel_rfl) fuel ((u64, u65) : (Int) × (Int)) ?_ ⟨rfl, rfl, trivial⟩ ?_
    · exact ⟨hL72, K63⟩
    rintro k73 ⟨u78, u79⟩ sv76 h75 ⟨hk74, K77⟩
    try dsimp only [Kst.L, List.set, selA, nthA] at K77
    refine (show W _ _ _ (setL [(1, (.int .i64 u78)), (6, (.int .i64 u79))] (mix _ sv76 _)) h75 from ?_)
    obtain ⟨k80, rr81, rfl, hb82, hr83⟩ := iter_step hk74
    clear hk74
    rw [hbd71] at hb82
    dsimp only at hb82
    unfold P_prime_Kronecker_b3 at hb82
    refine w_seq ?_
    refine w_seq ?_
    refine w_reg ?_
    refine r_mv (r_rem rfl rfl (by decide) (r_cmp rfl rfl (cmp_eql _ _) (r_nil (q_t ?_))))
    refine ⟨_, rfl, fun hc84 => ?_, fun hc84 => ?_⟩
    · skip
      have hp85 := ifTd hb82 hc84
      clear hb82
      refine w_skip (q_t ?_)
      refine w_block ?_
      refine w_seq ?_
      refine w_seq ?_
      refine w_reg ?_
      refine r_mv (r_rem rfl rfl (by decide) (r_cmp rfl rfl (cmp_eql _ _) (r_nil (q_t ?_))))
      refine ⟨_, rfl, fun hc86 => ?_, fun hc86 => ?_⟩
      · skip
        have hp87 := ifTd hp85 hc86
        clear hp85
        refine w_seq ?_
        refine w_reg ?_
        refine r_as (r_as (r_nil (q_t ?_)))
        have hq88 := Option.some.inj hp87
        subst hq88
        have hp89 := hr83
        change _ = ex67 at hp89
        subst hp89
        have hp90 := hp69
        try dsimp only at hp90
        refine w_ret (q_tr (q_br (q_tr (q_br (q_tr ?_)))))
        have hq91 := Option.some.inj hp90
        subst hq91
        exact ⟨_, retV_2, K77.x, rfl⟩
      · skip
        have hp92 := ifFd hp85 hc86
        clear hp85
        refine w_skip (q_t ?_)
        obtain ⟨ex93, hj94, hp95⟩ := obind hp92
        clear hp92
        refine w_join 4499201580859584 (fun x : (Int) => [(6, (.int .i64 x))]) (fun (x : (Int)) (h' : Heap) => ( x) = ex93 ∧ Kst h h' (K77.L)) (by kernel_rfl) ?_ ?_
        · skip
          refine w_seq ?_
          refine w_reg ?_
          refine r_mv ?_
          obtain ⟨x96, hx97, hp98⟩ := obind hj94
          clear hj94
          refine r_callE trivial (fun _ _ => trivial) rfl (P_prime_residue_ok hx97) fun xv102 h100 E99 hk101 => ?_
          subst hk101
          have K103 := K77.e E99
          refine r_as (r_nil (q_t ?_))
          refine w_seq ?_
          refine w_reg ?_
          refine r_mv (r_cmp rfl rfl (cmp_eql _ _) (r_mv ?_))
          rcases Decidable.em (x96 = 3) with hc104 | hc104
          · skip
            have hp105 := ifT hp98 hc104
            clear hp98
            rw [show decide (x96 = 3) = true from decide_eq_true hc104]
            refine r_skip 46 true (by kernel_rfl) rfl rfl (r_skip 46 true (by kernel_rfl) rfl rfl (r_pickT rfl (r_nil (q_t ?_))))
            refine w_true rfl ?_
            refine w_reg ?_
            refine r_mv (r_neg rfl (r_as (r_nil (q_t ?_))))
            exact ⟨((w64 (0 - u79)) : (Int)), ⟨Option.some.inj hp105, K103⟩, rfl, trivial⟩
          · skip
            have hp106 := ifF hp98 hc104
            clear hp98
            rw [show decide (x96 = 3) = false from decide_eq_false hc104]
            refine r_want 46 false (by kernel_rfl) rfl rfl (r_mv (r_want 46 false (by kernel_rfl) rfl rfl (r_cmp rfl rfl (cmp_eql _ _) (r_pickF rfl (r_nil (q_t ?_))))))
            refine ⟨_, rfl, fun hc107 => ?_, fun hc107 => ?_⟩
            · skip
              have hp108 := ifTd hp106 hc107
              clear hp106
              refine w_reg ?_
              refine r_mv (r_neg rfl (r_as (r_nil (q_t ?_))))
              exact ⟨((w64 (0 - u79)) : (Int)), ⟨Option.some.inj hp108, K103⟩, rfl, trivial⟩
            · skip
              have hp109 := ifFd hp106 hc107
              clear hp106
              refine w_skip (q_t ?_)
              exact ⟨(u79 : (Int)), ⟨Option.some.inj hp109, K103⟩, rfl, trivial⟩
        rintro u114 sv112 h111 ⟨hk110, K113⟩
        try dsimp only [Kst.L, List.set, selA, nthA] at K113
        refine (show W _ _ _ (setL [(6, (.int .i64 u114))] (mix _ sv112 _)) h111 from ?_)
        subst hk110
        have hp115 := hp95
        try dsimp only at hp115
        refine w_reg ?_
        refine r_mv (r_quo rfl rfl (by decide) (r_as (r_nil (q_b (q_t ?_)))))
        have hq116 := Option.some.inj hp115
        subst hq116
        exact ⟨k80, (((w64 (Int.tdiv u78 2)), u114) : (Int) × (Int)), Nat.lt_succ_self _, ⟨hr83, K113⟩, rfl, rfl, trivial⟩
    · skip
      have hp117 := ifFd hb82 hc84
      clear hb82
      have hq118 := Option.some.inj hp117
      subst hq118
      have hp119 := hr83
      change _ = ex67 at hp119
      subst hp119
      have hp120 := hp69
      try dsimp only at hp120
      refine w_exit (q_tx (q_tx (q_bx (q_t ?_))))
      refine w_seq ?_
      refine w_reg ?_
      refine r_mv (r_mv (r_mv ?_))
      obtain ⟨x121, hx122, hp123⟩ := obind hp120
      clear hp120
      refine r_callE trivial (fun _ _ => trivial) rfl (P_prime_residue_ok hx122) fun xv127 h125 E124 hk126 => ?_
      subst hk126
      have K128 := K77.e E124
      refine r_mv ?_
      obtain ⟨x129, hx130, hp131⟩ := obind hp123
      clear hp123
      refine r_callE trivial (fun _ _ => trivial) rfl (P_prime_jacobi_ok hx130) fun xv135 h133 E132 hk134 => ?_
      subst hk134
      have K136 := K128.e E132
      refine r_mul rfl rfl (r_as (r_as (r_nil (q_t ?_))))
      refine w_ret ?_
      have hq137 := Option.some.inj hp131
      subst hq137
      exact ⟨_, retV_2, K136.x, rfl⟩
end Go.Proofs.YtiegjkmfpcgjjaaDoor
/-
  The program's Inverse in the form that the automatic walks use: the inverse by the adjugate. Conditions stand in the statements.
-/
namespace Go.QF
set_option linter.unusedVariables false
open Classical in
noncomputable def invE (A : List (List Int)) (m : Int) : Int := if squareB A then (if modB m then (if ∃ y, IsInv m (detS A m) y then 0 else 8) else 1) else 3
open Classical in
noncomputable def invS (A : List (List Int)) (m : Int) : List (List Int) := if squareB A = true ∧ modB m = true ∧ ∃ y, IsInv m (detS A m) y then tab A.length A.length (fun i j => adjF A.length (ent (redM A m)) i j * invM m (detS A m) % m) else []
theorem isInv_eqm {m x r : Int} (h : IsInv m x r) : Eqm m (r * x) 1 := h.2.2
theorem isInv_of {m x r : Int} (hm : 2 ≤ m) (h : Eqm m (r * x) 1) : ∃ y, IsInv m x y := ⟨r % m, Int.emod_nonneg _ (by omega), Int.emod_lt_of_pos _ (by omega), by
  rw [Int.mul_emod, Int.emod_emod, ← Int.mul_emod]; exact h⟩
/-- An inverse on both sides is the adjugate times the inverse of the determinant. -/
theorem inv_adj_unique {n : Nat} {m u d : Int} {A B : Nat → Nat → Int} (hu : Eqm m (u * d) 1) (hd : Eqm m d (det n A)) (hBA : ∀ i j, i < n → j < n → Eqm m (psum (fun k => B i k * A k j) n) (dl i j)) {i j : Nat} (hi : i < n) (hj : j < n) : Eqm m (B i j) (adjF n A i j * u) := by
  have h1 : Eqm m (psum (fun k => B i k * psum (fun l => A k l * (adjF n A l j * u)) n) n) (B i j) := by
    have e1 : ∀ k, k < n → Eqm m (psum (fun l => A k l * (adjF n A l j * u)) n) (dl k j) := fun k hk => by
      have e2 : psum (fun l => A k l * (adjF n A l j * u)) n = u * psum (fun l => A k l * adjF n A l j) n := by
        rw [← psum_mul]; exact psum_congr fun l _ => by grind
      rw [e2, adj_right hk hj]
      refine Eqm.trans (Eqm.of_eq (show u * (det n A * dl k j) = u * det n A * dl k j by rw [Int.mul_assoc])) ?_
      have := (((Eqm.refl m u).mul hd.symm).trans hu).mul (Eqm.refl m (dl k j))
      rwa [Int.one_mul] at this
    refine Eqm.trans (Eqm.psum fun k hk => (Eqm.refl m (B i k)).mul (e1 k hk)) (Eqm.of_eq ?_)
    exact mul_dl (F := B) (i := i) hj
  have h2 : psum (fun k => B i k * psum (fun l => A k l * (adjF n A l j * u)) n) n = psum (fun l => psum (fun k => B i k * A k l) n * (adjF n A l j * u)) n := by
    rw [psum_congr (g := fun k => psum (fun l => B i k * A k l * (adjF n A l j * u)) n) (fun k _ => by rw [← psum_mul]; exact psum_congr fun l _ => by rw [Int.mul_assoc]), psum_comm]
    refine psum_congr fun l _ => ?_
    rw [Int.mul_comm (psum (fun k => B i k * A k l) n), ← psum_mul]
    exact psum_congr fun k _ => by rw [Int.mul_comm]
  refine h1.symm.trans ((Eqm.of_eq h2).trans ?_)
  refine Eqm.trans (Eqm.psum (g := fun l => dl i l * (adjF n A l j * u)) fun l hl => (hBA i l hi hl).mul (Eqm.refl _ _)) (Eqm.of_eq ?_)
  rw [psum_one' hi (fun k hk hne => by unfold dl; rw [if_neg (fun h => hne h.symm)]; simp)]
  simp [dl]
end Go.QF
namespace Go.Proofs.YtiegjkmfpcgjjaaDoor
open Go Go.QF
set_option linter.unusedVariables false
def QJ (A : List (List Int)) (m : Int) (F : Nat → Nat → Int) (s : Int) : Prop := InvQ A.length m (ent (redM A m)) F
theorem keeps_QJ (A : List (List Int)) (m : Int) : Keeps A.length (A.length + A.length) m (QJ A m) := fun F s c i q hc hi hne _ _ _ H => invQ_rowEq (rowEq_step hc hi hne) H
noncomputable def modInvP (fuel : Nat) (M : List (List Int)) (m : Int) : Option (List (List Int) × Int) := some (invS M m, invE M m)
theorem Inverse_val {h : Heap} {v : Value} {M : List (List Int)} (HM : Mat h v M) (m : Int) : CallH Tryd.prog 26 #[v, .int .i64 m] h fun x h' => Ext h h' ∧ ∃ r, x = .tuple #[r, .int .i64 (invE M m)] ∧ Mat h' r (invS M m) ∧ CapOk r := by
  refine (Inverse_okC HM m (QJ M m) (fun _ _ => invQ_aug) (keeps_QJ M m)).mono fun x h' ⟨⟨hE, r, e, hx, hk⟩, hcp⟩ => ⟨hE, r, ?_⟩
  have hcr := hcp _ _ hx
  clear hcp
  subst hx
  rw [← and_assoc]
  refine ⟨?_, hcr⟩
  rcases hk with ⟨h1, rfl, h2⟩ | ⟨h1, h2, rfl, h3⟩ | ⟨h1, h2, F1, s, hs, hQ, hbd, hz, hk⟩
  · refine ⟨by simp [invE, h1], ?_⟩
    rw [show invS M m = [] by unfold invS; rw [if_neg (fun h => by rw [h1] at h; cases h.1)]]; exact h2
  · refine ⟨by simp [invE, h1, h2], ?_⟩
    rw [show invS M m = [] by unfold invS; rw [if_neg (fun h => by rw [h2] at h; cases h.2.1)]]; exact h3
  · have hm := mod_of_modB h2
    have hD : Eqm m (detS M m) (det M.length (ent (redM M m))) := by
      have e1 : detS M m = det M.length (ent M) % m := by simp [detS, h1, h2]
      rw [e1]
      refine (Eqm.mod _ _).trans (det_eqm fun i j _ _ => ?_)
      rw [ent_red]; exact (Eqm.mod _ _).symm
    rcases hk with ⟨rfl, h3, c, hc, hno⟩ | ⟨rfl, hun, h3⟩
    · have hnot : ¬ ∃ y, IsInv m (detS M m) y := by
        rintro ⟨y, hy⟩
        refine hno (uni_unit hm.1 hz hQ (V := fun i k => y * adjF M.length (ent (redM M m)) i k) (fun i j hi hj => ?_) c hc)
        have e2 : psum (fun k => y * adjF M.length (ent (redM M m)) i k * ent (redM M m) k j) M.length = y * psum (fun k => adjF M.length (ent (redM M m)) i k * ent (redM M m) k j) M.length := by
          rw [← psum_mul]; exact psum_congr fun k _ => by rw [Int.mul_assoc]
        rw [e2, adj_left hi hj]
        refine Eqm.trans (Eqm.of_eq (show y * (det M.length (ent (redM M m)) * dl i j) = y * det M.length (ent (redM M m)) * dl i j by rw [Int.mul_assoc])) ?_
        have := (((Eqm.refl m y).mul hD.symm).trans (isInv_eqm hy)).mul (Eqm.refl m (dl i j))
        rwa [Int.one_mul] at this
      refine ⟨by simp [invE, h1, h2, hnot], ?_⟩
      rw [show invS M m = [] by unfold invS; rw [if_neg (fun h => hnot h.2.2)]]; exact h3
    · obtain ⟨hBA, hAB⟩ := inv_both hm.1 hbd hz hun hQ
      have hyes : ∃ y, IsInv m (detS M m) y := by
        have e1 := det_mul (n := M.length) (fun i j => backTo m M.length F1 M.length i (M.length + j)) (ent (redM M m))
        have e2 : Eqm m (det M.length (mulF M.length (fun i j => backTo m M.length F1 M.length i (M.length + j)) (ent (redM M m)))) (det M.length dl) := det_eqm fun i j hi hj => hBA i j hi hj
        rw [e1, det_id] at e2
        exact isInv_of hm.1 (((Eqm.refl _ _).mul hD).trans e2)
      refine ⟨by simp [invE, h1, h2, hyes], ?_⟩
      have e3 : invS M m = tab M.length M.length fun i j => backTo m M.length F1 M.length i (M.length + j) := by
        unfold invS
        rw [if_pos ⟨h1, h2, hyes⟩]
        obtain ⟨y, hy⟩ := hyes
        have hu := isInv_eqm (invM_spec hy)
        refine tab_congr fun i j hi hj => ?_
        have h5 := inv_adj_unique (B := fun i k => backTo m M.length F1 M.length i (M.length + k)) hu hD hBA hi hj
        have h6 := bd_back (n := M.length) (by omega : 0 < m) hbd M.length i (M.length + j) hi (by omega)
        rw [← Int.emod_eq_of_lt h6.1 h6.2]
        exact h5.symm
      rw [e3]; exact h3
theorem modInv_P {fuel : Nat} {h : Heap} {v : Value} {M : List (List Int)} {m : Int} {r : List (List Int) × Int} (H : SlC2 (cI .i64) h v M) (hp : modInvP fuel M m = some r) : CallH Tryd.prog 26 #[v, .int .i64 m] h (fun x h' => Ext h h' ∧ ∃ (x0 : Value), x = .tuple #[x0, .int .i64 r.2] ∧ SlC2 (cI .i64) h' x0 r.1) := by
  cases hp
  exact (Inverse_val (mat_of H) m).mono fun x h' ⟨E, r, hx, hr, hcp⟩ => ⟨E, r, hx, slC2_of hr hcp⟩
end Go.Proofs.YtiegjkmfpcgjjaaDoor
/-
  Ranges over functions: rounds of such a loop and what stands behind it, in the calculus of XFwk. No condition.
-/
namespace Go.QF
open Go
set_option linter.unusedVariables false
/-- The fence that lets everything in; r: the loop whose round the frame is of. -/
def FR (r : Option Nat) : Fence := { Fence.wide with round := r }
theorem callsFR {r : Option Nat} {m : Nat} {P : Program} {f : FuncId} {args : Array Value} {w : World} {R : Ending → World → Prop} (h : Calls P f args w R) : CallsIn (FR r) m P f args w R :=
  (callsIn_wide (n := m)).2 h
structure RepD (D : List Deferred) (n : Nat) (e : Env) (a : Act) : Prop where
  r : Rep n e { a with defers := [] }
  d : a.defers = D
theorem RepD.eval {D : List Deferred} {n : Nat} {e : Env} {a : Act} (r : RepD D n e a) : a.eval = e.ev := r.r.eval
theorem RepD.put {D : List Deferred} {n : Nat} {e : Env} {a : Act} (r : RepD D n e a) (d : Option Nat) (v : Value) (hd : ∀ x, d = some x → x < n) : RepD D n (e.put d v) (a.put d v) := by
  have h1 := r.r.put d v hd
  have h2 := r.d
  cases d with
  | none => exact ⟨h1, h2⟩
  | some d => exact ⟨h1, h2⟩
theorem RepD.yields {D : List Deferred} {n : Nat} {e : Env} {a : Act} (r : RepD D n e a) (ops : Array Oper) : yielded ops a.tmps = yieldE ops e := r.r.yields ops
theorem RepD.of {n : Nat} {e : Env} {a : Act} (r : Rep n e a) : RepD [] n e a := ⟨⟨r.size, rfl, r.get⟩, r.defers⟩
theorem RepD.rep {n : Nat} {e : Env} {a : Act} (r : RepD [] n e a) : Rep n e a := ⟨r.r.size, r.d, r.r.get⟩
def noDefer (o : Oper) : Bool := match o.op with | .defer _ => false | _ => true
theorem wpOpIn_of_GOp {P : Program} {B : Heap → Prop} {st : Bool} {ops : Array Oper} {Q : Exit → Act → World → Prop} {i : Nat} {o : Oper} {n m : Nat} {ro : Option Nat} {D : List Deferred} {e : Env} {a : Act} {w : World} {K : Env → Heap → Prop} {K' : Act → World → Prop}
    (hi : ops[i]? = some o) (hnd : noDefer o = true) (hd : ∀ x, o.dst = some x → x < n) (r : RepD D n e a) (H : GOp P B st ops o e w.heap K)
    (hK : ∀ e' a' w', RepD D n e' a' → Same w w' → K e' w'.heap → K' a' w') : wpOpIn (FR ro) m P ops Q i K' a w := by
  unfold wpOpIn
  simp only [hi]
  unfold GOp at H
  rw [r.yields ops]
  split
  · rename_i hw
    rw [if_pos hw] at H
    unfold Oper.wpIn
    refine ⟨fun _ _ => trivial, ?_⟩
    rw [Oper.semAt_eq _ _ _ (fun c hc => by simp [noDefer, hc] at hnd), r.eval]
    have eff : ∀ {K : Value → Heap → Prop}, EffRun P e.ev o w.heap K → (∀ v h', K v h' → ∀ a' w', RepD D n (e.put o.dst v) a' → Same w w' → w'.heap = h' → K' a' w') → o.uponIn (FR ro) m P a K' Q ((execOp e.ev o).run P w) := by
      intro K H hK
      have H' := H w rfl
      generalize (execOp e.ev o).run P w = res at H'
      cases res with
      | ok nx w' =>
        cases nx <;> simp only [EffPost] at H' <;> simp only [Oper.uponIn]
        case value v => exact hK _ _ H'.2 _ _ (r.put _ _ hd) H'.1 rfl
        case skip => exact hK _ _ H'.2 _ _ (r.put _ _ hd) H'.1 rfl
        case enter f args =>
          refine ⟨fun hh => by simp [FR, Fence.wide] at hh, (callsFR H'.2).mono fun en w'' ⟨v, he, hs, hk⟩ => ?_⟩
          subst he
          exact hK _ _ hk _ _ (r.put _ _ hd) (H'.1.trans hs) rfl
      | halt x w' => exact H'.elim
    unfold SOp at H
    split at H
    · obtain ⟨v, hv, hk⟩ := H
      rw [hv w]
      exact hK _ _ _ (r.put _ _ hd) (.refl w) hk
    · obtain ⟨v, hv, hk⟩ := H
      rw [hv w rfl]
      exact hK _ _ _ (r.put _ _ hd) (.refl w) hk
    · obtain ⟨v, hb, hv, hk⟩ := H
      rw [hv w hb]
      exact hK _ _ _ (r.put _ _ hd) (.refl w) hk
    · exact eff H.2 fun v h' hk a' w' r' s' hh => hK _ _ _ r' s' (by rw [hh]; exact hk.2)
    · exact eff H fun v h' hk a' w' r' s' hh => hK _ _ _ r' s' (by rw [hh]; exact hk)
  · rename_i hw
    rw [if_neg hw] at H
    exact ⟨fun _ _ => trivial, hK _ _ _ (r.put _ _ hd) (.refl w) H⟩
section
variable {P : Program} {ops : Array Oper} {m : Nat} {ro : Option Nat} {D : List Deferred}
theorem wpAnyIn_of_LI {B : Heap → Prop} {n : Nat} {Q : Exit → Act → World → Prop} (hok : regOk n ops true = true) (hnd : ∀ (j : Nat) (o : Oper), ops[j]? = some o → noDefer o = true) : ∀ (fuel : Nat) (R : List Nat) (listed : Array Bool) (e : Env) (a : Act) (w : World) (K : Env → Heap → Prop),
    R.length = fuel → List.Pairwise (· < ·) R → listed.size = ops.size → (∀ j, j ∈ R ↔ (j < ops.size ∧ listed.getD j true = false)) →
    (∀ j oj, listed.getD j false = true → ops[j]? = some oj → ∀ ed ∈ oj.after, Region.binds .any ed = true → listed.getD ed.on false = true) →
    RepD D n e a → LI P B (stOf ops true) ops R e w.heap K → (∀ e' a' w', RepD D n e' a' → Same w w' → K e' w'.heap → Q .normal a' w') →
    wpAnyIn (FR ro) m P .any ops Q fuel listed a w := by
  intro fuel
  induction fuel with
  | zero =>
    intro R listed e a w K hlen _ _ hmem _ r H hK
    obtain rfl : R = [] := List.length_eq_zero_iff.1 hlen
    refine ⟨?_, hK _ _ _ r (.refl w) H⟩
    refine List.eq_nil_iff_forall_not_mem.2 fun j hj => ?_
    obtain ⟨hjl, oj, hoj, _⟩ := mem_ready.1 hj
    have := (hmem j).2 ⟨(Array.getElem?_eq_some_iff.1 hoj).1, hjl⟩
    cases this
  | succ fuel ih =>
    intro R listed e a w K hlen hpw hsz hmem hcl r H hK
    constructor
    · intro hr
      exfalso
      cases R with
      | nil => simp at hlen
      | cons j R =>
        obtain ⟨hjs, hjl⟩ := (hmem j).1 (List.mem_cons_self ..)
        obtain ⟨oj, hoj⟩ : ∃ oj, ops[j]? = some oj := ⟨ops[j], Array.getElem?_eq_getElem hjs⟩
        have : j ∈ Region.ready .any ops listed := mem_ready.2 ⟨hjl, oj, hoj, fun ed hed hbd => by
          obtain ⟨_, _, hd⟩ := regOk_spec hok hoj
          have hlt := (hd rfl).1 ed hed hbd
          cases hl : listed.getD ed.on false with
          | true => rfl
          | false =>
            exfalso
            have hs : ed.on < ops.size := Nat.lt_trans hlt hjs
            have hm : ed.on ∈ j :: R := (hmem ed.on).2 ⟨hs, by
              have h' : ed.on < listed.size := by omega
              simp [h'] at hl ⊢; exact hl⟩
            rcases List.mem_cons.1 hm with he | he
            · omega
            · have := (List.pairwise_cons.1 hpw).1 _ he
              omega⟩
        rw [hr] at this
        cases this
    · intro i hi
      obtain ⟨hil, oi, hoi, hall⟩ := mem_ready.1 hi
      have his : i < ops.size := (Array.getElem?_eq_some_iff.1 hoi).1
      have hiR : i ∈ R := (hmem i).2 ⟨his, hil⟩
      obtain ⟨R1, R2, rfl⟩ := List.append_of_mem hiR
      obtain ⟨hdi, hsi, hdri⟩ := regOk_spec hok hoi
      have hpw' := List.pairwise_append.1 hpw
      have hb : LI P B (stOf ops true) ops (i :: (R1 ++ R2)) e w.heap K := by
        refine LI.bubble hoi hsi R1 (fun k hk => ?_) H
        have hki : k < i := hpw'.2.2 k hk i (List.mem_cons_self ..)
        have hks : k < ops.size := Nat.lt_trans hki his
        obtain ⟨ok, hok'⟩ : ∃ ok, ops[k]? = some ok := ⟨ops[k], Array.getElem?_eq_getElem hks⟩
        refine ⟨ok, hok', (regOk_spec hok hok').2.1, ?_⟩
        rcases (hdri rfl).2 k ok hki hok' with ⟨nre, hre⟩ | h
        · exfalso
          have h1 : listed.getD k false = true := reach_listed (L := fun j => listed.getD j false = true) hcl nre k i oi hoi hall hre
          have h2 := ((hmem k).1 (List.mem_append_left _ hk)).2
          have hks' : k < listed.size := by omega
          simp [hks'] at h1 h2
          rw [h1] at h2; cases h2
        · exact h
      simp only [LI, hoi] at hb
      refine wpOpIn_of_GOp hoi (hnd i oi hoi) hdi r hb fun e' a' w' r' hs hk => ?_
      have his' : i < listed.size := by omega
      refine ih (R1 ++ R2) _ e' a' w' K ?_ ?_ ?_ ?_ ?_ r' hk (fun e2 a2 w2 r2 s2 k2 => hK _ _ _ r2 (hs.trans s2) k2)
      · simp at hlen ⊢; omega
      · refine List.pairwise_append.2 ⟨hpw'.1, (List.pairwise_cons.1 hpw'.2.1).2, fun x hx y hy => hpw'.2.2 x hx y (List.mem_cons_of_mem _ hy)⟩
      · simp [hsz]
      · intro j
        have hm := hmem j
        constructor
        · intro hj
          have hj' : j ∈ R1 ++ i :: R2 := by
            rcases List.mem_append.1 hj with h | h
            · exact List.mem_append_left _ h
            · exact List.mem_append_right _ (List.mem_cons_of_mem _ h)
          obtain ⟨h1, h2⟩ := hm.1 hj'
          have hne : i ≠ j := by
            intro he
            subst he
            rcases List.mem_append.1 hj with h | h
            · have := hpw'.2.2 i h i (List.mem_cons_self ..); omega
            · have := (List.pairwise_cons.1 hpw'.2.1).1 i h; omega
          exact ⟨h1, by rw [getD_set_ne true hne]; exact h2⟩
        · rintro ⟨h1, h2⟩
          have hne : i ≠ j := by
            intro he
            subst he
            simp [his'] at h2
          rw [getD_set_ne true hne] at h2
          have := hm.2 ⟨h1, h2⟩
          rcases List.mem_append.1 this with h | h
          · exact List.mem_append_left _ h
          · rcases List.mem_cons.1 h with h | h
            · exact absurd h.symm hne
            · exact List.mem_append_right _ h
      · intro j oj hj hoj ed hed hbd
        by_cases hij : i = j
        · subst hij
          rw [hoi] at hoj
          injection hoj with hoj
          subst hoj
          exact getD_set_true (hall ed hed hbd)
        · rw [getD_set_ne false hij] at hj
          exact getD_set_true (hcl j oj hj hoj ed hed hbd)
/-- A run through operations in the order of the text, from index k on. -/
theorem wpOpsIn_seg {B : Heap → Prop} {n : Nat} {Q : Exit → Act → World → Prop} (rest : List Nat) : ∀ (l : List Oper) (k : Nat) (e : Env) (a : Act) (w : World) (K : Env → Heap → Prop),
    (∀ (j : Nat) (o : Oper), l[j]? = some o → ops[k + j]? = some o ∧ noDefer o = true ∧ ∀ x, o.dst = some x → x < n) → RepD D n e a → RL P B false ops l e w.heap K →
    (∀ e' a' w', RepD D n e' a' → Same w w' → K e' w'.heap → wpOpsIn (FR ro) m P ops Q rest a' w') → wpOpsIn (FR ro) m P ops Q (List.range' k l.length ++ rest) a w := by
  intro l
  induction l with
  | nil => intro k e a w K _ r H hK; exact hK _ _ _ r (.refl w) H
  | cons o l ih =>
    intro k e a w K hl r H hK
    rw [List.length_cons, List.range'_succ, List.cons_append, wpOpsIn_cons]
    obtain ⟨h1, h2, h3⟩ := hl 0 o rfl
    refine wpOpIn_of_GOp h1 h2 h3 r H fun e' a' w' r' hs hk => ?_
    exact ih (k + 1) e' a' w' K (fun j o hj => by have := hl (j + 1) o hj; rwa [← Nat.add_assoc, Nat.add_right_comm] at this) r' hk fun e2 a2 w2 r2 s2 k2 => hK _ _ _ r2 (hs.trans s2) k2
theorem wpIn_region_of_RL {B : Heap → Prop} {n : Nat} (hmx : P.follows .mixedOrders = true) {id : Nat} {draw : Bool} {Q : Exit → Act → World → Prop} {e : Env} {a : Act} {w : World} {K : Env → Heap → Prop} (hok : regOk n ops draw = true) (hnd : ∀ (j : Nat) (o : Oper), ops[j]? = some o → noDefer o = true) (r : RepD D n e a)
    (H : RL P B (stOf ops draw) ops ops.toList e w.heap K) (hK : ∀ e' a' w', RepD D n e' a' → Same w w' → K e' w'.heap → Q .normal a' w') : (Code.region id ops draw).wpIn (FR ro) m P Q a w := by
  cases draw with
  | true =>
    have HL : LI P B (stOf ops true) ops (List.range ops.size) e w.heap K := by
      rw [List.range_eq_range', ← Array.length_toList]
      exact RL_LI ops.toList 0 (by simp) e _ H
    refine wpIn_region_any hmx (wpAnyIn_of_LI hok hnd ops.size (List.range ops.size) (Array.replicate ops.size false) e a { w with drawn := w.drawn + 1 } K (by simp)
        List.pairwise_lt_range (by simp) (fun j => by
          simp only [List.mem_range]
          constructor
          · intro h; exact ⟨h, by simp [h]⟩
          · exact fun h => h.1)
        (fun j oj hj _ => by
          exfalso
          rcases Nat.lt_or_ge j ops.size with h' | h'
          · simp [h'] at hj
          · simp [h'] at hj) r HL
        (fun e' a' w' r' hs hk => hK e' a' w' r' ⟨hs.os, hs.tape, hs.output⟩ hk))
  | false =>
    refine wpIn_region ?_
    have := wpOpsIn_seg (ro := ro) (m := m) (Q := Q) (D := D) (n := n) [] ops.toList 0 e a w K (fun j o hj => by
      have hj' : ops[j]? = some o := by simpa using hj
      exact ⟨by simpa using hj', hnd j o hj', (regOk_spec hok hj').1⟩) r H (fun e' a' w' r' s k => hK _ _ _ r' s k)
    rw [List.append_nil, Array.length_toList, ← List.range_eq_range'] at this
    exact this
end
/-! ### Code of a round, or behind a range over a function -/
def WI (P : Program) : Code → (Exit → Env → Heap → Prop) → Env → Heap → Prop
  | .skip, Q, e, h => Q .normal e h
  | .region _ ops draw, Q, e, h => ∃ B, RL P B (stOf ops draw) ops ops.toList e h (Q .normal)
  | .seq a b, Q, e, h => WI P a (thenQ (fun e h => WI P b Q e h) Q) e h
  | .cond c x y, Q, e, h => ∃ b, e.ev c = .bool b ∧ (b = true → WI P x Q e h) ∧ (b = false → WI P y Q e h)
  | .block id c, Q, e, h => WI P c (blockQ id Q) e h
  | .exit id, Q, e, h => Q (.exit id) e h
  | .ret, Q, e, h => Q .ret e h
  | .label _, Q, e, h => Q .normal e h
  | _, _, _, _ => False
def okI (n : Nat) : Code → Bool
  | .region _ ops draw => regOk n ops draw && ops.toList.all noDefer
  | .seq a b => okI n a && okI n b
  | .cond _ a b => okI n a && okI n b
  | .block _ c => okI n c
  | .skip | .exit _ | .ret | .label _ => true
  | _ => false
theorem WI.sound {P : Program} (hmx : P.follows .mixedOrders = true) {n m : Nat} {ro : Option Nat} {D : List Deferred} {c : Code} : ∀ {Q : Exit → Env → Heap → Prop} {Q' : Exit → Act → World → Prop} {e : Env} {a : Act} {w : World}, okI n c = true → RepD D n e a → WI P c Q e w.heap →
    (∀ x e' a' w', RepD D n e' a' → Same w w' → Q x e' w'.heap → Q' x a' w') → c.wpIn (FR ro) m P Q' a w := by
  induction c with
  | skip => intro Q Q' e a w _ r H hQ; exact wpIn_skip (hQ _ _ _ _ r (.refl w) H)
  | region id ops draw =>
    intro Q Q' e a w hok r H hQ
    simp only [okI, Bool.and_eq_true] at hok
    obtain ⟨B, H⟩ := H
    exact wpIn_region_of_RL hmx hok.1 (fun j o hj => List.all_eq_true.1 hok.2 o (List.mem_of_getElem? (by simpa using hj))) r H fun e' a' w' r' s k => hQ _ _ _ _ r' s k
  | seq x y ihx ihy =>
    intro Q Q' e a w hok r H hQ
    simp only [okI, Bool.and_eq_true] at hok
    refine wpIn_seq (ihx hok.1 r H fun ex e' a' w' r' s k => ?_)
    cases ex <;> first | exact hQ _ _ _ _ r' s k | exact ihy hok.2 r' k fun ex2 e2 a2 w2 r2 s2 k2 => hQ _ _ _ _ r2 (s.trans s2) k2
  | cond c x y ihx ihy =>
    intro Q Q' e a w hok r H hQ
    simp only [okI, Bool.and_eq_true] at hok
    obtain ⟨b, hb, h1, h2⟩ := H
    refine wpIn_cond_split (t := b) (by rw [r.eval]; exact hb) (fun hh => ihx hok.1 r (h1 hh) hQ) (fun hh => ihy hok.2 r (h2 hh) hQ)
  | block id c ih =>
    intro Q Q' e a w hok r H hQ
    refine wpIn_block (ih hok r H fun ex e' a' w' r' s k => ?_)
    cases ex <;> first | exact hQ _ _ _ _ r' s k | skip
    rename_i id'
    by_cases hid : id' = id
    · simp only [blockQ, Exit.inBlock, hid, if_true] at k ⊢; exact hQ _ _ _ _ r' s k
    · simp only [blockQ, Exit.inBlock, hid, if_false] at k ⊢; exact hQ _ _ _ _ r' s k
  | exit id => intro Q Q' e a w _ r H hQ; exact wpIn_exit (hQ _ _ _ _ r (.refl w) H)
  | ret => intro Q Q' e a w _ r H hQ; exact wpIn_ret (hQ _ _ _ _ r (.refl w) H)
  | label => intro Q Q' e a w _ r H hQ; exact wpIn_label (hQ _ _ _ _ r (.refl w) H)
  | loop => intro Q Q' e a w _ _ H; exact H.elim
  | rangeFunc => intro Q Q' e a w _ _ H; exact H.elim
  | scope => intro Q Q' e a w _ _ H; exact H.elim
  | goto => intro Q Q' e a w _ _ H; exact H.elim
  | refuse => intro Q Q' e a w _ _ H; exact H.elim
section
variable {P : Program} {Q : Exit → Env → Heap → Prop} {e : Env} {h : Heap}
theorem v_skip (H : Q .normal e h) : WI P .skip Q e h := H
theorem v_ret (H : Q .ret e h) : WI P .ret Q e h := H
theorem v_seq {a b : Code} (H : WI P a (thenQ (fun e h => WI P b Q e h) Q) e h) : WI P (.seq a b) Q e h := H
theorem v_block {id : Nat} {c : Code} (H : WI P c (blockQ id Q) e h) : WI P (.block id c) Q e h := H
theorem v_reg {id : Nat} {l : List Oper} (H : RL P (fun _ => True) false l.toArray l e h (Q .normal)) : WI P (.region id l.toArray false) Q e h := ⟨fun _ => True, H⟩
theorem v_drawB {id : Nat} {l : List Oper} (B : Heap → Prop) (hst : (stOf l.toArray true, ordOk l.toArray true) = (true, true)) (H : RL P B true l.toArray l e h (Q .normal)) : WI P (.region id l.toArray true) Q e h :=
  ⟨B, by rw [(Prod.mk.inj hst).1]; exact H⟩
end
/-! ### A round -/
def onlyN (K : Env → Heap → Prop) : Exit → Env → Heap → Prop
  | .normal => K
  | _ => fun _ _ => False
/-- A call of yield for the loop l. -/
def YieldH (P : Program) (l : Nat) (args : List Value) (h : Heap) (K : Value → Heap → Prop) : Prop :=
  ∀ w : World, w.heap = h → ∃ f tmps assign body, (Instr.yield l args.toArray).run P w = .ok (.round l f tmps assign body) w ∧ RoundIn (FR none) 0 P l f tmps assign body w fun en w' => ∃ v, en = .returned v ∧ Same w w' ∧ K v w'.heap
/-- The record of a loop that is under way, between two rounds. -/
def loopR (f : FuncId) (tmps : Array Value) (p : Tmp) (assign body : Code) (r : Nat) : Loop := { state := .ready, pending := none, fn := f, tmps, params := #[p], assign, body, defers := r }
def loopB (f : FuncId) (tmps : Array Value) (p : Tmp) (assign body : Code) (r : Nat) : Loop := { state := .busy, pending := none, fn := f, tmps, params := #[p], assign, body, defers := r }
theorem same_put (w : World) (l : Nat) (o : Obj) : Same w (w.putObj l o) := ⟨rfl, rfl, rfl⟩
theorem yieldH_of {P : Program} (hmx : P.follows .mixedOrders = true) {l n r f : Nat} {tmps : Array Value} {p : Tmp} {assign body : Code} {v : Value} {e0 : Env} {h : Heap} {K : Value → Heap → Prop}
    (hl : h[l]? = some (.loop (loopR f tmps p assign body r))) (hn : tmps.size = n) (he : ∀ t, tmps.getD t undef = e0 t) (hp : p < n) (ok1 : okI n assign = true) (ok2 : okI n body = true)
    (H : WI P assign (onlyN fun e1 h1 => h1[l]? = some (.loop (loopR f tmps p assign body r)) ∧ WI P body (onlyN fun _ h2 => h2[l]? = some (.loop (loopB f tmps p assign body r)) ∧ K (.bool true) (h2.setIfInBounds l (.loop (loopR f tmps p assign body r)))) e1
      (h1.setIfInBounds l (.loop (loopB f tmps p assign body r)))) (e0.set p v) h) : YieldH P l [v] h K := by
  intro w hw
  subst hw
  refine ⟨_, _, _, _, run_yield hl rfl, roundIn_of_wpIn trivial ?_⟩
  have hrep : Rep n e0 { tmps := tmps, defers := [] } := ⟨hn, rfl, he⟩
  have hrep2 : RepD [] n (e0.set p v) { tmps := tmps.setIfInBounds p v, defers := [] } := RepD.of (hrep.put (some p) v fun x hx => by cases hx; exact hp)
  have htm : (((loopR f tmps p assign body r).params.zip #[v]).foldl (fun tmps (x : Tmp × Value) => match x with | (t, a) => tmps.setIfInBounds t a) (loopR f tmps p assign body r).tmps) = tmps.setIfInBounds p v := by simp [loopR]
  have hz : ([v] : List Value).toArray = #[v] := rfl
  rw [hz, htm]
  refine WI.sound (ro := some l) hmx ok1 hrep2 H fun x e1 a1 w1 r1 s1 k1 => ?_
  cases x <;> first | exact k1.elim | skip
  obtain ⟨k1, k2⟩ := k1
  refine ⟨_, run_beginRound k1 rfl, ?_⟩
  refine WI.sound (ro := some l) hmx ok2 r1 (w := w1.putObj l (.loop (loopB f tmps p assign body r))) k2 fun x e2 a2 w2 r2 s2 k2 => ?_
  cases x <;> first | exact k2.elim | skip
  obtain ⟨k2, k3⟩ := k2
  exact ⟨_, _, run_endRound none k2, .bool true, rfl, (s1.trans (same_put _ _ _)).trans (s2.trans (same_put _ _ _)), k3⟩
theorem RL.frameT {P : Program} {B : Heap → Prop} {st : Bool} {ops : Array Oper} {l : List Oper} {e e0 : Env} {h : Heap} {K : Env → Heap → Prop} {T : Nat → Prop} (hl : ∀ o ∈ l, ∀ t, o.dst = some t → T t) (he : ∀ t, ¬ T t → e t = e0 t) (H : RL P B st ops l e h K) : RL P B st ops l e h fun e' h' => K e' h' ∧ ∀ t, ¬ T t → e' t = e0 t :=
  (RL.frame0 H).mono fun e' h' hk => ⟨hk.1, fun t ht => (hk.2 t fun o ho hd => ht (hl o ho t hd)).trans (he t ht)⟩
/-- A region that calls yield, operations ahead of it and behind it in the order of the text. -/
theorem w_yield {P : Program} {Q : Exit → Env → Heap → Prop} {e : Env} {h : Heap} {id l : Nat} {pre post : List Oper} {d : Tmp} {c : Operand} {xs : List Operand} {ts : Array TypeId} {ty : TypeId} {pos : String} {af : Array Edge}
    (hnd : ((pre ++ post).all noDefer && (pre ++ ⟨some d, .call ⟨.value c, xs.toArray, ts⟩, ty, pos, af, none⟩ :: post).all noSel) = true)
    (H : RL P (fun _ => True) false (pre ++ ⟨some d, .call ⟨.value c, xs.toArray, ts⟩, ty, pos, af, none⟩ :: post).toArray pre e h fun e1 h1 => e1.ev c = .func (.yield l) #[] #[] ∧ ∃ l1, xs.map e1.ev = l1 ∧ YieldH P l l1 h1 fun v h2 =>
      RL P (fun _ => True) false (pre ++ ⟨some d, .call ⟨.value c, xs.toArray, ts⟩, ty, pos, af, none⟩ :: post).toArray post (e1.set d v) h2 (Q .normal)) :
    W P (.region id (pre ++ ⟨some d, .call ⟨.value c, xs.toArray, ts⟩, ty, pos, af, none⟩ :: post).toArray false) Q e h := by
  intro hmx n id' a w Q' hb r hw hQ
  subst hw
  rw [← wpIn_wide (n := 1)]
  show (Code.region id' _ false).wpIn (FR none) 1 P Q' a w
  generalize hops : (pre ++ (⟨some d, .call ⟨.value c, xs.toArray, ts⟩, ty, pos, af, none⟩ : Oper) :: post) = ops at *
  have hat : ∀ (j : Nat) (o : Oper), ops[j]? = some o → (∀ x, o.dst = some x → x < n) := fun j o hj => (baseOk_spec (ops := ops.toArray) hb (j := j) (by simpa using hj)).1
  have hsz : List.range ops.toArray.size = List.range' 0 pre.length ++ pre.length :: (List.range' (pre.length + 1) post.length ++ []) := by
    rw [List.range_eq_range', ← hops]
    simp only [List.size_toArray, List.length_append, List.length_cons, List.append_nil]
    rw [← List.range'_append_1, Nat.zero_add, List.range'_succ]
  rw [Bool.and_eq_true] at hnd
  have hnd := List.all_eq_true.1 hnd.1
  refine wpIn_region ?_
  rw [hsz]
  refine wpOpsIn_seg (D := []) (n := n) (B := fun _ => True) _ pre 0 e a w _ (fun j o hj => ?_) (RepD.of r) (RL.frameT (T := fun t => ∃ o ∈ ops, o.dst = some t) (e0 := e) (fun o ho t ht => ⟨o, by rw [← hops]; simp [ho], ht⟩) (fun _ _ => rfl) H) fun e1 a1 w1 r1 s1 k1 => ?_
  · have h1 : ops[j]? = some o := by rw [← hops, List.getElem?_append_left (List.getElem?_eq_some_iff.1 hj).1]; exact hj
    exact ⟨by simpa using h1, hnd o (List.mem_append_left _ (List.mem_of_getElem? hj)), hat j o h1⟩
  obtain ⟨⟨hc, l1, hl1, HY⟩, hf1⟩ := k1
  rw [wpOpsIn_cons]
  have hop : ops.toArray[pre.length]? = some ⟨some d, .call ⟨.value c, xs.toArray, ts⟩, ty, pos, af, none⟩ := by rw [← hops]; simp
  unfold wpOpIn
  simp only [hop]
  rw [if_pos (by rfl)]
  refine ⟨fun _ _ => trivial, ?_⟩
  obtain ⟨f, tmps, assign, body, hy, HR⟩ := HY w1 rfl
  have hrun : (execOp a1.eval ⟨some d, .call ⟨.value c, xs.toArray, ts⟩, ty, pos, af, none⟩).run P w1 = .ok (.round l f tmps assign body) w1 := by
    rw [r1.eval]
    simp only [execOp, resolve, List.map_toArray, hl1, hc, Deferred.ofValue, pure, bind, Sem.bind, invoke, Array.append_empty, Array.empty_append]
    exact hy
  show Oper.uponIn _ _ _ _ _ _ _ ((execOp a1.eval ⟨some d, .call ⟨.value c, xs.toArray, ts⟩, ty, pos, af, none⟩).run P w1)
  rw [hrun]
  refine ⟨fun _ => Nat.le_refl 1, HR.mono fun en w2 hen => ?_⟩
  obtain ⟨v, rfl, s2, k2⟩ := hen
  have hdn : d < n := hat pre.length _ (by simpa using hop) d rfl
  have r2 : RepD [] n (e1.set d v) (a1.put (some d) v) := r1.put (some d) v fun x hx => by cases hx; exact hdn
  refine wpOpsIn_seg (D := []) (n := n) (B := fun _ => True) [] post (pre.length + 1) (e1.set d v) _ w2 _ (fun j o hj => ?_) r2 (RL.frameT (T := fun t => ∃ o ∈ ops, o.dst = some t) (e0 := e) (fun o ho t ht => ⟨o, by rw [← hops]; simp [ho], ht⟩) (fun t ht => ?_) k2) fun e3 a3 w3 r3 s3 k3 => ?_
  · have h1 : ops[pre.length + 1 + j]? = some o := by rw [← hops, List.getElem?_append_right (by omega), show pre.length + 1 + j - pre.length = j + 1 from by omega]; exact hj
    exact ⟨by simpa using h1, hnd o (List.mem_append_right _ (List.mem_of_getElem? hj)), hat _ o h1⟩
  · rw [Env.set_other _ _ (fun he => ht ⟨_, by rw [← hops]; exact List.mem_append_right _ (List.mem_cons_self ..), by rw [he]⟩)]
    exact hf1 t ht
  · exact hQ e3 a3 w3 r3.rep ((s1.trans s2).trans s3) k3.1 fun t ht => k3.2 t fun ⟨o, ho, hd⟩ => ht o (by simpa using ho) hd
/-! ### The statement -/
/-- What is asked where a range over the closure g begins: r, b are the new blocks, for deferred calls and for the loop's record. -/
def RangeQ (P : Program) (g : Operand) (p : Tmp) (assign body : Code) (n : Nat) (K : Nat → Env → Heap → Prop) (e : Env) (h : Heap) : Prop :=
  ∃ (f : FuncId) (cl : List Value), e.ev g = .func (.func f) #[] cl.toArray ∧ ∀ (fn : FuncId) (tmps : Array Value), tmps.size = n → (∀ t, tmps.getD t undef = e t) → ∀ (h1 : Heap) (r b : Nat), Ext h h1 → h.size ≤ r → h.size ≤ b → r < h1.size → b < h1.size → r ≠ b →
    h1[r]? = some (.deferred (some [])) → h1[b]? = some (.loop (loopR fn tmps p assign body r)) →
    CallH P f (.func (.yield b) #[] #[] :: cl).toArray h1 fun _ h' => h'[b]? = some (.loop (loopR fn tmps p assign body r)) ∧ K r e (h'.setIfInBounds b (.loop { loopR fn tmps p assign body r with state := .exhausted }))
def retQD (P : Program) (rs : List ResultVar) (r : Nat) (K : Value → Heap → Prop) : Exit → Env → Heap → Prop
  | .normal, e, h | .ret, e, h => h[r]? = some (.deferred (some [])) ∧ ∃ v, RetV P rs e (h.setIfInBounds r (.deferred none)) v ∧ K v (h.setIfInBounds r (.deferred none))
  | _, _, _ => False
theorem range_block {P : Program} (hmx : P.follows .mixedOrders = true) {id : Nat} {g : Operand} {p : Tmp} {assign body : Code} {n : Nat} {K : Nat → Env → Heap → Prop} {e1 : Env} {a1 : Act} {w1 : World} {Q' : Exit → Act → World → Prop} (r1 : Rep n e1 a1)
    (H : RangeQ P g p assign body n K e1 w1.heap) (hQ : ∀ r e' a' w', RepD [{ target := .collected r, args := #[] }] n e' a' → Same w1 w' → K r e' w'.heap → Q' .normal a' w') : (Code.block id (.rangeFunc g #[p] assign body)).wpIn Fence.wide 1 P Q' a1 w1 := by
  obtain ⟨f2, cl, hg, HC⟩ := H
  refine wpIn_block (wpIn_rangeFunc fun fid _ => ?_)
  have hA1 : (w1.alloc (.deferred (some []))).heap.size = w1.heap.size + 1 := by show (w1.heap.push _).size = _; simp
  have hext : Ext w1.heap ((w1.alloc (.deferred (some []))).alloc (.loop (loopR fid a1.tmps p assign body w1.heap.size))).heap := by
    show Ext w1.heap ((w1.heap.push _).push _)
    refine ⟨by simp; omega, fun k hk => ?_⟩
    rw [Array.getElem?_push_lt (by simp; omega)]
    simp [Array.getElem_push_lt hk, hk]
  have h1 : ((w1.alloc (.deferred (some []))).alloc (.loop (loopR fid a1.tmps p assign body w1.heap.size))).heap[w1.heap.size]? = some (.deferred (some [])) := by
    show ((w1.heap.push _).push _)[w1.heap.size]? = _
    rw [Array.getElem?_push_lt (by simp)]; simp
  have h2 : ((w1.alloc (.deferred (some []))).alloc (.loop (loopR fid a1.tmps p assign body w1.heap.size))).heap[w1.heap.size + 1]? = some (.loop (loopR fid a1.tmps p assign body w1.heap.size)) := by
    have := World.alloc_heap_new (w1.alloc (.deferred (some []))) (.loop (loopR fid a1.tmps p assign body w1.heap.size))
    rwa [hA1] at this
  have hsz : ((w1.alloc (.deferred (some []))).alloc (.loop (loopR fid a1.tmps p assign body w1.heap.size))).heap.size = w1.heap.size + 2 := by show ((w1.heap.push _).push _).size = _; simp
  obtain ⟨⟨fn2, hf2, hnm2, hb2⟩, HC2⟩ := HC fid a1.tmps r1.size r1.get _ w1.heap.size (w1.heap.size + 1) hext (Nat.le_refl _) (Nat.le_succ _) (by omega) (by omega) (by omega) h1 h2
  have hcall := run_callFunc ⟨fn2, hf2, hnm2, hb2⟩ (.func (.yield (w1.heap.size + 1)) #[] #[] :: cl).toArray ((w1.alloc (.deferred (some []))).alloc (.loop (loopR fid a1.tmps p assign body w1.heap.size)))
  have heval : a1.eval g = .func (.func f2) #[] cl.toArray := by rw [r1.eval]; exact hg
  refine ⟨_, _, _, { target := .fn (.func f2) cl.toArray, args := #[.func (.yield (w1.heap.size + 1)) #[] #[]] }, (w1.alloc (.deferred (some []))).alloc (.loop (loopR fid a1.tmps p assign body w1.heap.size)), f2, (.func (.yield (w1.heap.size + 1)) #[] #[] :: cl).toArray, (w1.alloc (.deferred (some []))).alloc (.loop (loopR fid a1.tmps p assign body w1.heap.size)), run_enterLoop_outer fid a1.tmps #[p] assign body, ?_, fun _ _ => trivial, ?_, fun _ => Nat.le_refl 1, ?_⟩
  · simp only [resolve, heval, Deferred.ofValue, pure, bind, Sem.bind]
    rw [show (#[] ++ Array.map a1.eval #[Operand.const (Value.func (Fn.yield (w1.heap.size + 1)) #[] #[])] : Array Value) = #[.func (.yield (w1.heap.size + 1)) #[] #[]] by simp; rfl]
    rfl
  · show (invoke (.fn (.func f2) cl.toArray) #[.func (.yield (w1.heap.size + 1)) #[] #[]]).run P _ = _
    simp only [invoke]
    have : (#[Value.func (.yield (w1.heap.size + 1)) #[] #[]] ++ cl.toArray) = (.func (.yield (w1.heap.size + 1)) #[] #[] :: cl).toArray := by simp
    rw [this]
    exact hcall
  · refine (callsFR (r := none) (HC2 _ rfl)).mono fun en w2 hen => ?_
    obtain ⟨v, rfl, s2, k2, k3⟩ := hen
    refine ⟨none, _, run_endLoop k2 (by simp [loopR]), ?_⟩
    have hs1 : Same w1 ((w1.alloc (.deferred (some []))).alloc (.loop (loopR fid a1.tmps p assign body w1.heap.size))) := ⟨rfl, rfl, rfl⟩
    have hr2 : RepD [{ target := .collected w1.heap.size, args := #[] }] n e1 { a1 with defers := [{ target := .collected w1.heap.size, args := #[] }] ++ a1.defers } := ⟨⟨r1.size, rfl, r1.get⟩, by simp [r1.defers]⟩
    exact hQ w1.heap.size e1 _ _ hr2 (hs1.trans (s2.trans (same_put _ _ _))) k3
/-- The same, with the loop's record behind a name. -/
theorem rangeQ_of {P : Program} (hmx : P.follows .mixedOrders = true) {g : Operand} {p : Tmp} {assign body : Code} {n : Nat} {K : Nat → Env → Heap → Prop} {e : Env} {h : Heap} (hok : (okI n assign && okI n body && Nat.blt p n) = true)
    (H : ∃ (f : FuncId) (cl : List Value), e.ev g = .func (.func f) #[] cl.toArray ∧ ∀ (h1 : Heap) (r b : Nat) (ol ob oe : Obj), Ext h h1 → h.size ≤ r → h.size ≤ b → r < h1.size → b < h1.size → r ≠ b → h1[r]? = some (.deferred (some [])) → h1[b]? = some ol → digO ol = false → digO ob = false → digO oe = false →
      (∀ (v : Value) (h2 : Heap) (K' : Value → Heap → Prop), h2[b]? = some ol → WI P assign (onlyN fun e1 h3 => h3[b]? = some ol ∧ WI P body (onlyN fun _ h4 => h4[b]? = some ob ∧ K' (.bool true) (h4.setIfInBounds b ol)) e1 (h3.setIfInBounds b ob)) (e.set p v) h2 → YieldH P b [v] h2 K') →
      CallH P f (.func (.yield b) #[] #[] :: cl).toArray h1 fun _ h' => h'[b]? = some ol ∧ K r e (h'.setIfInBounds b oe)) : RangeQ P g p assign body n K e h := by
  obtain ⟨f, cl, hg, H⟩ := H
  simp only [Bool.and_eq_true] at hok
  refine ⟨f, cl, hg, fun fn tmps hn ht h1 r b hE h2 h3 h4 h5 hne hd hl => ?_⟩
  exact H h1 r b _ (.loop (loopB fn tmps p assign body r)) _ hE h2 h3 h4 h5 hne hd hl rfl rfl rfl fun v h2 K' hl2 HW => yieldH_of hmx hl2 hn ht (by have := hok.2; simpa [Nat.blt, Nat.lt_iff_add_one_le] using this) hok.1.1 hok.1.2 HW
/-! ### A function that holds one such statement -/
def hasR : Code → Bool
  | .rangeFunc .. => true
  | .seq a b => hasR a || hasR b
  | .block _ c => hasR c
  | _ => false
/-- N r: what is asked behind the statement, r the block for deferred calls; Q: ahead of it. -/
def WR (P : Program) (n : Nat) : Code → (Nat → Exit → Env → Heap → Prop) → (Exit → Env → Heap → Prop) → Env → Heap → Prop
  | .seq a b, N, Q, e, h => if hasR a = true then WR P n a (fun r => thenQ (fun e h => WI P b (N r) e h) (N r)) (thenQ (fun e h => W P b Q e h) Q) e h else W P a (thenQ (fun e h => WR P n b N Q e h) Q) e h
  | .block _ (.rangeFunc g ps assign body), N, _, e, h => ∃ p, ps = #[p] ∧ RangeQ P g p assign body n (fun r e h => N r .normal e h) e h
  | _, _, _, _, _ => False
def okR (n : Nat) : Code → Bool
  | .seq a b => bif hasR a then okR n a && okI n b && okC n b else okC n a && okR n b
  | .block _ (.rangeFunc ..) => true
  | _ => false
theorem x_seqA {P : Program} {n : Nat} {a b : Code} {N : Nat → Exit → Env → Heap → Prop} {Q : Exit → Env → Heap → Prop} {e : Env} {h : Heap} (ha : hasR a = true) (H : WR P n a (fun r => thenQ (fun e h => WI P b (N r) e h) (N r)) (thenQ (fun e h => W P b Q e h) Q) e h) : WR P n (.seq a b) N Q e h := by
  unfold WR; rw [if_pos ha]; exact H
theorem x_seqB {P : Program} {n : Nat} {a b : Code} {N : Nat → Exit → Env → Heap → Prop} {Q : Exit → Env → Heap → Prop} {e : Env} {h : Heap} (ha : hasR a = false) (H : W P a (thenQ (fun e h => WR P n b N Q e h) Q) e h) : WR P n (.seq a b) N Q e h := by
  unfold WR; rw [if_neg (by rw [ha]; simp)]; exact H
theorem x_range {P : Program} (hmx : P.follows .mixedOrders = true) {n id : Nat} {g : Operand} {p : Tmp} {assign body : Code} {N : Nat → Exit → Env → Heap → Prop} {Q : Exit → Env → Heap → Prop} {e : Env} {h : Heap} (hok : (okI n assign && okI n body && Nat.blt p n) = true)
    (H : ∃ (f : FuncId) (cl : List Value), e.ev g = .func (.func f) #[] cl.toArray ∧ ∀ (h1 : Heap) (r b : Nat) (ol ob oe : Obj), Ext h h1 → h.size ≤ r → h.size ≤ b → r < h1.size → b < h1.size → r ≠ b → h1[r]? = some (.deferred (some [])) → h1[b]? = some ol → digO ol = false → digO ob = false → digO oe = false →
      (∀ (v : Value) (h2 : Heap) (K' : Value → Heap → Prop), h2[b]? = some ol → WI P assign (onlyN fun e1 h3 => h3[b]? = some ol ∧ WI P body (onlyN fun _ h4 => h4[b]? = some ob ∧ K' (.bool true) (h4.setIfInBounds b ol)) e1 (h3.setIfInBounds b ob)) (e.set p v) h2 → YieldH P b [v] h2 K') →
      CallH P f (.func (.yield b) #[] #[] :: cl).toArray h1 fun _ h' => h'[b]? = some ol ∧ N r .normal e (h'.setIfInBounds b oe)) : WR P n (.block id (.rangeFunc g #[p] assign body)) N Q e h := ⟨p, rfl, rangeQ_of hmx hok H⟩
theorem WR.sound {P : Program} (hmx : P.follows .mixedOrders = true) {n : Nat} {c : Code} : ∀ {N : Nat → Exit → Env → Heap → Prop} {Q : Exit → Env → Heap → Prop} {Q' : Exit → Act → World → Prop} {e : Env} {a : Act} {w : World}, okR n c = true → Rep n e a → WR P n c N Q e w.heap →
    (∀ x e' a' w', Rep n e' a' → Same w w' → Q x e' w'.heap → Q' x a' w') → (∀ r x e' a' w', RepD [{ target := .collected r, args := #[] }] n e' a' → Same w w' → N r x e' w'.heap → Q' x a' w') → c.wpIn Fence.wide 1 P Q' a w := by
  induction c with
  | seq x y ihx ihy =>
    intro N Q Q' e a w hok r H hQ hN
    unfold WR at H
    unfold okR at hok
    by_cases hx : hasR x = true
    · rw [if_pos hx] at H
      rw [hx] at hok
      simp only [cond_true, Bool.and_eq_true] at hok
      refine wpIn_seq (ihx hok.1.1 r H (fun ex e' a' w' r' s k => ?_) fun rr ex e' a' w' r' s k => ?_)
      · cases ex <;> first | exact hQ _ _ _ _ r' s k | exact wpIn_wide.2 (W.sound hmx hok.2 r' k fun ex2 e2 a2 w2 r2 s2 k2 => hQ _ _ _ _ r2 (s.trans s2) k2)
      · cases ex <;> first | exact hN _ _ _ _ _ r' s k | exact WI.sound (ro := none) hmx hok.1.2 r' k fun ex2 e2 a2 w2 r2 s2 k2 => hN _ _ _ _ _ r2 (s.trans s2) k2
    · rw [if_neg hx] at H
      rw [Bool.not_eq_true] at hx
      rw [hx] at hok
      simp only [cond_false, Bool.and_eq_true] at hok
      refine wpIn_seq (wpIn_wide.2 (W.sound hmx hok.1 r H fun ex e' a' w' r' s k => ?_))
      cases ex <;> first | exact hQ _ _ _ _ r' s k | exact ihy hok.2 r' k (fun ex2 e2 a2 w2 r2 s2 k2 => hQ _ _ _ _ r2 (s.trans s2) k2) fun rr ex2 e2 a2 w2 r2 s2 k2 => hN _ _ _ _ _ r2 (s.trans s2) k2
  | block id c ih =>
    intro N Q Q' e a w hok r H hQ hN
    cases c <;> first | exact H.elim | skip
    obtain ⟨p, rfl, H⟩ := H
    exact range_block hmx r H fun rr e' a' w' r' s k => hN _ _ _ _ _ r' s k
  | skip => intro N Q Q' e a w _ _ H; exact H.elim
  | region => intro N Q Q' e a w _ _ H; exact H.elim
  | cond => intro N Q Q' e a w _ _ H; exact H.elim
  | loop => intro N Q Q' e a w _ _ H; exact H.elim
  | exit => intro N Q Q' e a w _ _ H; exact H.elim
  | ret => intro N Q Q' e a w _ _ H; exact H.elim
  | rangeFunc => intro N Q Q' e a w _ _ H; exact H.elim
  | scope => intro N Q Q' e a w _ _ H; exact H.elim
  | label => intro N Q Q' e a w _ _ H; exact H.elim
  | goto => intro N Q Q' e a w _ _ H; exact H.elim
  | refuse => intro N Q Q' e a w _ _ H; exact H.elim
theorem calls_of_WR {P : Program} (hmx : P.follows .mixedOrders = true) {f : FuncId} {fn : Func} {c : Code} {rs : List ResultVar} {n : Nat} {l : List Value} {h : Heap} {K : Value → Heap → Prop}
    (hf : P.funcs[f]? = some fn) (hnm : (fn.name == "runtime.NumGoroutine") = false) (hb : fn.body = some c) (hr : fn.results = rs.toArray) (hnt : fn.ntmps = n) (hl : Nat.ble l.length n = true) (hok : okR n c = true)
    (H : WR P n c (fun r => retQD P rs r K) (retQ P rs K) (lenv l) h) : CallH P f l.toArray h K := by
  refine ⟨⟨fn, hf, hnm, by simp [hb]⟩, fun w hw => ?_⟩
  subst hw
  have hl := Nat.le_of_ble_eq_true hl
  rw [← callsIn_wide (n := 1)]
  have hres : ∀ {e' : Env} {a' : Act} {w2 : World} {D : List Deferred} {v : Value}, RepD D n e' a' → RetV P rs e' w2.heap v → (results fn a'.tmps).run P w2 = .ok v w2 := fun r hv => hv fn _ _ hr r.r.get rfl
  refine callsIn_of_wp_marks hf hb trivial (WR.sound hmx (n := n) hok (e := lenv l) ⟨?_, rfl, fun t => ?_⟩ H (fun x e1 a1 w1 r1 s1 k1 => ?_) fun r x e3 a3 w3 r3 s3 k3 => ?_)
  · simp [hnt]; omega
  · rw [lenv_get]
    simp only [Array.getD_eq_getD_getElem?]
    rw [Array.getElem?_append]
    split
    · simp
    · rename_i hge
      have hge' : l.length ≤ t := by simpa using hge
      rw [List.getElem?_eq_none hge']
      simp only [Option.getD_none]
      rw [Array.getElem?_replicate]
      split <;> rfl
  · have early : ∀ {v : Value}, RetV P rs e1 w1.heap v → K v w1.heap → LeavesInM Fence.wide 1 P fn a1.tmps (fun en w' => ∃ v, en = .returned v ∧ Same w w' ∧ K v w'.heap) a1.defers .returning w1 := by
      intro v hv hk
      rw [r1.defers]
      exact ⟨v, hres (RepD.of r1) hv, v, rfl, s1, hk⟩
    cases x <;> first | exact k1.elim | (obtain ⟨v, hv, hk⟩ := k1; exact early hv hk)
  · have fin : (w3.heap[r]? = some (.deferred (some [])) ∧ ∃ v, RetV P rs e3 (w3.heap.setIfInBounds r (.deferred none)) v ∧ K v (w3.heap.setIfInBounds r (.deferred none))) → LeavesInM Fence.wide 1 P fn a3.tmps (fun en w' => ∃ v, en = .returned v ∧ Same w w' ∧ K v w'.heap) a3.defers .returning w3 := by
      rintro ⟨hd, v, hv, hk⟩
      rw [r3.d]
      refine ⟨by simp, .inl ⟨r, w3.putObj r (.deferred none), rfl, run_takeDeferred hd, ?_⟩⟩
      exact ⟨v, hres (w2 := w3.putObj r (.deferred none)) r3 hv, v, rfl, s3.trans (same_put _ _ _), hk⟩
    cases x <;> first | exact k3.elim | exact fin k3
end Go.QF
/-
  The state of the heap beside a range over a function: the loop's record and the block for deferred calls; slices.Clone. Conditions stand in the statements.
-/
namespace Go.QF
open Go
set_option linter.unusedVariables false
/-- A literal without elements. -/
theorem r_bs0n {P : Program} {B : Heap → Prop} {st : Bool} {ops : Array Oper} {rest : List Oper} {e : Env} {h : Heap} {K : Env → Heap → Prop} {d : Nat} {ty : TypeId} {pos : String} {af : Array Edge} {t el s : Nat} (hT : SlT P t el s) (hb : B h)
    (H : B (h.push (.cells #[] el (0, 0))) ∧ RL P B st ops rest (e.set d (.slice (some ⟨h.size, 0, none⟩) 0 0)) (h.push (.cells #[] el (0, 0))) K) :
    RL P B st ops (⟨some d, .buildSlice t 0 #[], ty, pos, af, none⟩ :: rest) e h K := by
  refine r_eff rfl rfl hb fun w hw => ?_
  subst hw
  obtain ⟨hu, i0, hi0, hs0⟩ := hT
  have hrun : (execOp e.ev ⟨some d, .buildSlice t 0 #[], ty, pos, af, none⟩).run P w = .ok (.value (.slice (some ⟨w.heap.size, 0, none⟩) 0 0)) (w.alloc (.cells #[] el)) := by
    simp [execOp, Instr.buildSlice, u_run hu, s_run hi0, Instr.fill, newRow]
    rw [show Array.range 0 = #[] from rfl, Array.map_empty]
  rw [hrun]
  exact ⟨⟨rfl, rfl, rfl⟩, H.1, H.2⟩
theorem sl_nilA {h : Heap} {κ : IntKind} {a : Option Addr} {n c : Nat} {L : List Int} (H : SlC (cI κ) h (.slice a n c) L) (hn : a = none) : L = [] := by
  subst hn
  obtain ⟨Ls, ⟨xa, xc, hv, hx⟩, hA⟩ := H
  injection hv with h1 h2 h3
  cases Ls with
  | nil => exact List.eq_nil_of_length_eq_zero hA.1.symm
  | cons r Ls =>
    obtain ⟨b, o, hb, _⟩ := hx 0 r rfl
    rw [← h1] at hb; cases hb
theorem sl_len0 {h : Heap} {κ : IntKind} {a : Option Addr} {n c : Nat} (H : SlC (cI κ) h (.slice a n c) []) : n = 0 := by
  obtain ⟨Ls, ⟨xa, xc, hv, hx⟩, hA⟩ := H
  injection hv with h1 h2 h3
  rw [h2]; exact hA.1
theorem sp_one0 (h : Heap) : Sp h h.size [[]] := ⟨by simp, fun b hb => by simp at hb⟩
/-- 'append' of nothing to an empty slice. -/
theorem r_app00 {P : Program} {B : Heap → Prop} {st : Bool} {ops : Array Oper} {rest : List Oper} {e : Env} {h : Heap} {K : Env → Heap → Prop} {d : Nat} {ty : TypeId} {pos : String} {af : Array Edge} {s x : Operand} {t el : TypeId} {g n c : Nat} {xa : Option Addr} (hT : SlT P t el 1) (hb : B h) (hs : e.ev s = .slice (some ⟨g, 0, none⟩) 0 0) (hx : e.ev x = .slice xa n c) (hn : n = 0)
    (H : RL P B st ops rest (e.set d (.slice (some ⟨g, 0, none⟩) 0 0)) h K) : RL P B st ops (⟨some d, .call ⟨.builtin .append, #[s, x], #[t, t]⟩, ty, pos, af, none⟩ :: rest) e h K := by
  subst hn
  refine r_eff rfl rfl hb fun w hw => ?_
  subst hw
  obtain ⟨hu, i, hi, hs0⟩ := hT
  have hc : (Builtin.firstCells i.size 0 (.slice xa 0 c)).run P w = .ok #[] w := by
    cases xa with
    | none => exact run_firstCells_none (P := P) w _ 0 0 c
    | some a => exact run_firstCells_some (P := P) w i.size 0 a 0 c [] (by simp) (fun j v hj => by simp at hj)
  have hrun : (execOp e.ev ⟨some d, .call ⟨.builtin .append, #[s, x], #[t, t]⟩, ty, pos, af, none⟩).run P w = .ok (.value (.slice (some ⟨g, 0, none⟩) 0 0)) w := by
    simp [execOp, resolve, invoke, builtin, hs, hx, Builtin.append_, u_run hu, s_run hi, Builtin.lenOf, hc, storeCells, Result.andThen]
  rw [hrun]
  exact ⟨⟨rfl, rfl, rfl⟩, hb, H⟩
theorem r_eqNiln {P : Program} {B : Heap → Prop} {st : Bool} {ops : Array Oper} {rest : List Oper} {e : Env} {h : Heap} {K : Env → Heap → Prop} {d : Nat} {ty : TypeId} {pos : String} {af : Array Edge} {x y : Operand} {t t2 el : TypeId} {s : Nat} {a : Option Addr} {n c : Nat} (hT : SlT P t el s) (hx : e.ev x = .slice a n c) (hy : e.ev y = .slice none 0 0) (H : RL P B st ops rest (e.set d (.bool a.isNone)) h K) :
    RL P B st ops (⟨some d, .binOp .eql t x y t2, ty, pos, af, none⟩ :: rest) e h K :=
  r_pure (v := .bool a.isNone) rfl rfl (fun w => by
    have hr : (Op.equal t (.slice a n c) (.slice none 0 0)).run P w = .ok a.isNone w := by
      show (Op.equalIn (9999 + 1) t _ _).run P w = _
      rw [Op.equalIn]
      cases a <;> simp [u_run hT.1]
    simp [execOp, hx, hy, eqGuard, binOp, hr]) H
theorem owC_ofA {h : Heap} {κ : IntKind} {el g : Nat} {v : Value} {L : List Int} (H : OwnA h el g v (L.map (.int κ))) (hel : Nat.beq el 69 = false) : OwC (cI κ) el h [g] v L := by
  refine .inr ⟨g, L.map fun a => [.int κ a], rfl, ?_, ⟨by simp, fun i cs a h1 h2 => ?_⟩, hel⟩
  · have := ownK_of H
    rwa [List.map_map] at this
  · rw [List.getElem?_map, h2] at h1
    cases h1; rfl
theorem YieldH.mono {P : Program} {l : Nat} {args : List Value} {h : Heap} {K K' : Value → Heap → Prop} (H : YieldH P l args h K') (hK : ∀ v h', K' v h' → K v h') : YieldH P l args h K := fun w hw => by
  obtain ⟨f, tmps, assign, body, h1, h2⟩ := H w hw
  exact ⟨f, tmps, assign, body, h1, h2.mono fun en w' ⟨v, he, hs, hk⟩ => ⟨v, he, hs, hK _ _ hk⟩⟩
theorem w_yield2 {P : Program} {Q : Exit → Env → Heap → Prop} {e : Env} {h : Heap} {id l : Nat} {o1 o2 : Oper} {post : List Oper} {d : Tmp} {c : Operand} {xs : List Operand} {ts : Array TypeId} {ty : TypeId} {pos : String} {af : Array Edge}
    (hnd : (([o1, o2] ++ post).all noDefer && ([o1, o2] ++ ⟨some d, .call ⟨.value c, xs.toArray, ts⟩, ty, pos, af, none⟩ :: post).all noSel) = true)
    (H : RL P (fun _ => True) false (o1 :: o2 :: ⟨some d, .call ⟨.value c, xs.toArray, ts⟩, ty, pos, af, none⟩ :: post).toArray [o1, o2] e h fun e1 h1 => e1.ev c = .func (.yield l) #[] #[] ∧ ∃ l1, xs.map e1.ev = l1 ∧ YieldH P l l1 h1 fun v h2 =>
      RL P (fun _ => True) false (o1 :: o2 :: ⟨some d, .call ⟨.value c, xs.toArray, ts⟩, ty, pos, af, none⟩ :: post).toArray post (e1.set d v) h2 (Q .normal)) :
    W P (.region id (o1 :: o2 :: ⟨some d, .call ⟨.value c, xs.toArray, ts⟩, ty, pos, af, none⟩ :: post).toArray false) Q e h := w_yield (pre := [o1, o2]) hnd H
end Go.QF
namespace Go.Proofs.YtiegjkmfpcgjjaaDoor
open Go Go.QF
set_option linter.unusedVariables false
set_option linter.unusedSimpArgs false
theorem ze_MM : ZeT Tryd.prog 22 (.slice none 0 0) 24 := zeT_mk (by kernel_rfl)
/-- a block that holds this object -/
def aOb (b : Nat) (o : Obj) : Asr := ⟨[b], fun h => h[b]? = some o, fun {G h h'} U d H => (U.1.2 b (Array.getElem?_eq_some_iff.1 H).1 (d b (by simp))).trans H⟩
namespace Kst
variable {h0 h h' : Heap} {l l' : List Asr}
theorem ob (k : Kst h0 h l) {i b : Nat} {o : Obj} (e : Rep i l (aOb b o) (aOb b o) l') : h[b]? = some o := allP_get k.p e.1
theorem rg (k : Kst h0 h l) (E : Ext h h') {r b : Nat} {o o2 : Obj} (h1 : h.size ≤ r) (h2 : h.size ≤ b) (h3 : r < h'.size) (h4 : b < h'.size) (hne : r ≠ b) (H1 : h'[r]? = some o) (H2 : h'[b]? = some o2) : Kst h0 h' (aOb r o :: aOb b o2 :: l) :=
  k.n E [aOb r o, aOb b o2] (sp_two h1 h2 h3 h4 hne) ⟨H1, H2, trivial⟩
theorem uob (k : Kst h0 h l) {i b : Nat} {o o' : Obj} (e : Rep i l (aOb b o) (aOb b o') l') (hd : digO o = false) (hd' : digO o' = false) : ∃ h', Array.setIfInBounds h b o' = h' ∧ UpT [b] h h' ∧ Kst h0 h' l' := by
  have H : h[b]? = some o := allP_get k.p e.1
  have hb := (Array.getElem?_eq_some_iff.1 H).1
  have H' : (h.setIfInBounds b o')[b]? = some o' := by simp [hb]
  have U : UpT [b] h (h.setIfInBounds b o') := ⟨⟨by simp, fun k hk hn => by rw [Array.getElem?_setIfInBounds_ne (fun he => hn (by simp [he]))]⟩, fun x hx hl => by
    rw [List.mem_singleton.1 hx]; exact ⟨⟨o, H, hd⟩, ⟨o', H', hd'⟩⟩⟩
  exact ⟨_, rfl, U, k.u e U H' (by simp [aOb]) (fun x hx => by simp [aOb] at hx; subst hx; simpa using hb) fun x hx => .inl hx⟩
end Kst
def P_slices_Clone (fuel : Nat) (L : List Int) : Option (List Int) := if L.length ≤ 100000000 then some L else none
theorem P_slices_Clone_ok {fuel : Nat} {h : Heap} {v : Value} {L r : List Int} (H : SlC (cI .i64) h v L) (hp : P_slices_Clone fuel L = some r) : CallH Tryd.prog 23 #[v] h (fun x h' => Ext h h' ∧ ∃ (x0 : Value) (F0 : List Nat), x = x0 ∧ OwC (cI .i64) 2 h' F0 x0 r ∧ Sp h' h.size [F0]) := by
  unfold P_slices_Clone at hp
  obtain ⟨hl, hp⟩ := ifN hp
  cases hp
  obtain ⟨a, n, c, hv⟩ : ∃ a n c, v = .slice a n c := by obtain ⟨Ls, ⟨xa, xc, hv, _⟩, _⟩ := H; exact ⟨_, _, _, hv⟩
  subst hv
  refine calls_of_W (l := [_]) mx Tryd.func23 rfl rfl rfl rfl rfl (by kernel_rfl) ?_
  refine w_seq ?_
  refine w_reg ?_
  refine r_as (r_nil ?_)
  refine q_t ?_
  refine w_seq ?_
  refine w_seq ?_
  refine w_reg ?_
  refine r_mv (r_eqNiln (a := a) (n := n) (c := c) sl_I64 rfl rfl (r_nil ?_))
  refine q_t ?_
  refine ⟨_, rfl, fun hc => ?_, fun hc => ?_⟩
  · refine w_seq ?_
    refine w_reg ?_
    refine r_as (r_nil ?_)
    refine q_t ?_
    refine w_ret (q_tr ?_)
    have hL : L = [] := sl_nilA H (by cases a with | none => rfl | some a => cases hc)
    subst hL
    exact ⟨_, retV_1, Ext.refl _, _, [], rfl, owC_nil _ _ _, sp_one0 _⟩
  · refine w_skip (q_t ?_)
    refine w_seq ?_
    refine w_reg ?_
    refine r_bs0n sl_I64 trivial ⟨trivial, ?_⟩
    have E0 : Ext h (h.push (.cells #[] 2 (0, 0))) := ext_push _ _
    have hO : OwnA (h.push (.cells #[] 2 (0, 0))) 2 h.size (.slice (some ⟨h.size, 0, none⟩) 0 0) [] := ownA_lit h 2 [] (by simp)
    by_cases hL : L = []
    · subst hL
      refine r_mv (r_app00 (xa := a) (n := n) (c := c) sl_I64 trivial rfl rfl (sl_len0 H) ?_)
      refine r_as (r_nil ?_)
      refine q_t ?_
      refine w_ret ?_
      exact ⟨_, retV_1, E0, _, [h.size], rfl, owC_ofA (κ := .i64) hO (by kernel_rfl), sp_one (Nat.le_refl _) (by simp)⟩
    · have H2 : Sl (h.push (.cells #[] 2 (0, 0))) (.slice a n c) (L.map (.int .i64)) := sl_of (H.ext E0)
      refine r_mv (r_app (bytes := 8) sl_I64 ze_i64 rfl trivial rfl hO rfl H2 (fun u hu => by obtain ⟨q, _, rfl⟩ := List.mem_map.1 hu; rfl) (by simpa using hL) (by simp; omega) (by simp; omega) fun v' g' h' HO hg U => ⟨trivial, ?_⟩)
      refine r_as (r_nil ?_)
      refine q_t ?_
      refine w_ret ?_
      have hg2 : h.size ≤ g' := by rcases hg with rfl | rfl <;> simp
      exact ⟨_, retV_1, ⟨Nat.le_trans E0.1 U.1, fun k hk => (U.2 k (by simp; omega) (by omega)).trans (E0.2 k hk)⟩, _, [g'], rfl, owC_ofA (κ := .i64) (v := v') (by simpa using HO) (by kernel_rfl), sp_one hg2 HO.lt⟩
end Go.Proofs.YtiegjkmfpcgjjaaDoor
/-
  package line, walked.
-/
namespace Go.Proofs.YtiegjkmfpcgjjaaDoor
open Go Go.QF
set_option linter.unusedVariables false
set_option linter.unusedSimpArgs false
set_option maxRecDepth 100000
set_option maxHeartbeats 4000000
def P_line_power_b1 (fuel : Nat) (a1 : Int) (a2 : Int) (s8 : Int) (s9 : Int) : Option ((Int × Int) ⊕ ((Int))) :=
  (if s9 < a2 then (some (Sum.inl ((w64 (s8 * a1)), (w64 (s9 + 1))))) else (some (Sum.inr<|  s8)))
def P_line_power (fuel : Nat) (a1 : Int) (a2 : Int) : Option Int :=
  ((iter (fun s => P_line_power_b1 fuel a1 a2 s.1 s.2) fuel (1, 0)).bind (fun (e13 : Int) => (some e13)))
theorem P_line_power_ok {fuel : Nat} {h : Heap} {a1 : Int} {a2 : Int} {r : Int}  (hp : P_line_power fuel a1 a2 = some r) : CallH Tryd.prog 7 #[(.int .i64 a1), (.int .i64 a2)] h (fun x h' => Ext h h' ∧ x = .int .i64 r) := by
  unfold P_line_power at hp
  have K0 := Kst.k0 h
  refine calls_of_W (l := [_, _]) mx Tryd.func7 rfl rfl rfl rfl rfl (by kernel_rfl) ?_
  refine w_seq ?_
  refine w_reg ?_
  refine r_as (r_nil (q_t ?_))
  refine w_seq ?_
  refine w_reg ?_
  refine r_as (r_nil (q_t ?_))
  refine w_seq ?_
  refine w_seq ?_
  refine w_reg ?_
  refine r_mv (r_mv (r_nil (q_t ?_)))
  refine w_block ?_
  obtain ⟨ex3, hL4, hp5⟩ := obind hp
  clear hp
  obtain ⟨bd6, hbd7, hL8⟩ := iter_gen hL4
  clear hL4
  refine w_loop 8096 (fun x : (Int) × (Int) => [(5, (.int .i64 x.1)), (7, (.int .i64 x.2))]) (fun (k : Nat) (x : (Int) × (Int)) (h' : Heap) => iter bd6 k (x.1, x.2) = some ex3 ∧ Kst h h' (K0.L)) (by kernel_rfl) fuel ((1, 0) : (Int) × (Int)) ?_ ⟨rfl, rfl, trivial⟩ ?_
  · exact ⟨hL8, K0⟩
  rintro k9 ⟨u14, u15⟩ sv12 h11 ⟨hk10, K13⟩
  try dsimp only [Kst.L, List.set, selA, nthA] at K13
  refine (show W _ _ _ (setL [(5, (.int .i64 u14)), (7, (.int .i64 u15))] (mix _ sv12 _)) h11 from ?_)
  obtain ⟨k16, rr17, rfl, hb18, hr19⟩ := iter_step hk10
  clear hk10
  rw [hbd7] at hb18
  dsimp only at hb18
  unfold P_line_power_b1 at hb18
  refine w_seq ?_
  refine w_reg ?_
  refine r_cmp rfl rfl (cmp_lss _ _) (r_nil (q_t ?_))
  refine w_seq ?_
  refine ⟨_, rfl, fun hc20 => ?_, fun hc20 => ?_⟩
  · skip
    have hp21 := ifTd hb18 hc20
    clear hb18
    refine w_skip (q_t ?_)
    refine w_seq ?_
    refine w_block ?_
    refine w_reg ?_
    refine r_mv (r_mv (r_mul rfl rfl (r_as (r_nil (q_b (q_t ?_))))))
    refine w_reg ?_
    refine r_add rfl rfl (r_mv (r_nil (q_t ?_)))
    have hq22 := Option.some.inj hp21
    subst hq22
    exact ⟨k16, (((w64 (u14 * a1)), (w64 (u15 + 1))) : (Int) × (Int)), Nat.lt_succ_self _, ⟨hr19, K13⟩, rfl, rfl, trivial⟩
  · skip
    have hp23 := ifFd hb18 hc20
    clear hb18
    have hq24 := Option.some.inj hp23
    subst hq24
    have hp25 := hr19
    change _ = ex3 at hp25
    subst hp25
    have hp26 := hp5
    try dsimp only at hp26
    refine w_exit (q_tx (q_tx (q_bx (q_t ?_))))
    refine w_seq ?_
    refine w_reg ?_
    refine r_mv (r_as (r_nil (q_t ?_)))
    refine w_ret ?_
    have hq27 := Option.some.inj hp26
    subst hq27
    exact ⟨_, retV_1, K13.x, rfl⟩
def P_line_inner_b1 (fuel : Nat) (a3 : (List Int)) (a7 : (List Int)) (s27 : Int) (s28 : Int) : Option ((Int × Int) ⊕ ((Int))) :=
  (if s28 < (a7.length : Int) then ((gI a7 s28).bind fun x31 => ((gI a3 s28).bind fun x37 => (some (Sum.inl ((w64 (s27 + (w64 (x37 * x31)))), (w64 (s28 + 1))))))) else (some (Sum.inr<|  s27)))
def P_line_inner (fuel : Nat) (a3 : (List Int)) (a7 : (List Int)) (a9 : Int) : Option Int :=
  ((iter (fun s => P_line_inner_b1 fuel a3 a7 s.1 s.2) fuel (0, 0)).bind (fun (e44 : Int) => (if a9 ≠ 0 then (some (Int.tmod e44 a9)) else none)))
theorem P_line_inner_ok {fuel : Nat} {h : Heap} {pv1 : Value} {a3 : (List Int)} {pv5 : Value} {a7 : (List Int)} {a9 : Int} {r : Int} (H2 : SlC (cI .i64) h pv1 a3) (H6 : SlC (cI .i64) h pv5 a7) (hp : P_line_inner fuel a3 a7 a9 = some r) : CallH Tryd.prog 25 #[pv1, pv5, (.int .i64 a9)] h (fun x h' => Ext h h' ∧ x = .int .i64 r) := by
  unfold P_line_inner at hp
  have K0 := Kst.k0 h
  refine calls_of_W (l := [_, _, _]) mx Tryd.func25 rfl rfl rfl rfl rfl (by kernel_rfl) ?_
  refine w_seq ?_
  refine w_reg ?_
  refine r_as (r_nil (q_t ?_))
  refine w_seq ?_
  refine w_reg ?_
  refine r_as (r_nil (q_t ?_))
  refine w_seq ?_
  refine w_seq ?_
  refine w_reg ?_
  refine r_mv ?_
  refine r_lenC sl_I64 rfl H6 (r_mv (r_nil (q_t ?_)))
  refine w_block ?_
  obtain ⟨ex10, hL11, hp12⟩ := obind hp
  clear hp
  obtain ⟨bd13, hbd14, hL15⟩ := iter_gen hL11
  clear hL11
  refine w_loop 67105664 (fun x : (Int) × (Int) => [(7, (.int .i64 x.1)), (12, (.int .i64 x.2))]) (fun (k : Nat) (x : (Int) × (Int)) (h' : Heap) => iter bd13 k (x.1, x.2) = some ex10 ∧ Kst h h' (K0.L)) (by kernel_rfl) fuel ((0, 0) : (Int) × (Int)) ?_ ⟨rfl, rfl, trivial⟩ ?_
  · exact ⟨hL15, K0⟩
  rintro k16 ⟨u21, u22⟩ sv19 h18 ⟨hk17, K20⟩
  try dsimp only [Kst.L, List.set, selA, nthA] at K20
  refine (show W _ _ _ (setL [(7, (.int .i64 u21)), (12, (.int .i64 u22))] (mix _ sv19 _)) h18 from ?_)
  obtain ⟨k23, rr24, rfl, hb25, hr26⟩ := iter_step hk17
  clear hk17
  rw [hbd14] at hb25
  dsimp only at hb25
  unfold P_line_inner_b1 at hb25
  refine w_seq ?_
  refine w_reg ?_
  refine r_cmp rfl rfl (cmp_lss _ _) (r_nil (q_t ?_))
  refine w_seq ?_
  refine ⟨_, rfl, fun hc27 => ?_, fun hc27 => ?_⟩
  · skip
    have hp28 := ifTd hb25 hc27
    clear hb25
    refine w_skip (q_t ?_)
    refine w_seq ?_
    refine w_block ?_
    refine w_seq ?_
    refine w_reg ?_
    refine r_mv ?_
    obtain ⟨x29, hx30, hp31⟩ := obind hp28
    clear hp28
    refine r_ixC (c := (cI .i64)) sl_I64 rfl H6 rfl hx30 fun b32 o33 cs34 hr35 hc36 => ?_
    obtain rfl := hr35
    refine r_ld na_i64 rfl (cellH_ext (hc36 0 _ rfl) K20.x) (r_as (r_as (r_nil (q_t ?_))))
    refine w_reg ?_
    refine r_mv (r_mv (r_mv ?_))
    obtain ⟨x37, hx38, hp39⟩ := obind hp31
    clear hp31
    refine r_ixC (c := (cI .i64)) sl_I64 rfl H2 rfl hx38 fun b40 o41 cs42 hr43 hc44 => ?_
    obtain rfl := hr43
    refine r_ld na_i64 rfl (cellH_ext (hc44 0 _ rfl) K20.x) (r_mv (r_mul rfl rfl (r_add rfl rfl (r_as (r_nil (q_b (q_t ?_)))))))
    refine w_reg ?_
    refine r_add rfl rfl (r_mv (r_nil (q_t ?_)))
    have hq45 := Option.some.inj hp39
    subst hq45
    exact ⟨k23, (((w64 (u21 + (w64 (x37 * x29)))), (w64 (u22 + 1))) : (Int) × (Int)), Nat.lt_succ_self _, ⟨hr26, K20⟩, rfl, rfl, trivial⟩
  · skip
    have hp46 := ifFd hb25 hc27
    clear hb25
    have hq47 := Option.some.inj hp46
    subst hq47
    have hp48 := hr26
    change _ = ex10 at hp48
    subst hp48
    have hp49 := hp12
    try dsimp only at hp49
    refine w_exit (q_tx (q_tx (q_bx (q_t ?_))))
    refine w_seq ?_
    refine w_reg ?_
    refine r_mv (r_mv ?_)
    obtain ⟨hn50, hp51⟩ := ifN hp49
    clear hp49
    refine r_rem rfl rfl hn50 (r_as (r_nil (q_t ?_)))
    refine w_ret ?_
    have hq52 := Option.some.inj hp51
    subst hq52
    exact ⟨_, retV_1, K20.x, rfl⟩
def P_line_norm_b1 (fuel : Nat) (a3 : (List (List Int))) (a7 : (List Int)) (a9 : Int) (s35 : Int) (s36 : Int) : Option ((Int × Int) ⊕ ((Int))) :=
  (if s36 < (a7.length : Int) then ((gI a7 s36).bind fun x39 => ((gI a3 s36).bind fun x45 => ((P_line_inner fuel x45 a7 a9).bind fun x52 => (some (Sum.inl ((w64 (s35 + (w64 (x52 * x39)))), (w64 (s36 + 1)))))))) else (some (Sum.inr<|  s35)))
def P_line_norm (fuel : Nat) (a3 : (List (List Int))) (a7 : (List Int)) (a9 : Int) : Option Int :=
  ((iter (fun s => P_line_norm_b1 fuel a3 a7 a9 s.1 s.2) fuel (0, 0)).bind (fun (e60 : Int) => (if a9 ≠ 0 then (some (Int.tmod e60 a9)) else none)))
theorem P_line_norm_ok {fuel : Nat} {h : Heap} {pv1 : Value} {a3 : (List (List Int))} {pv5 : Value} {a7 : (List Int)} {a9 : Int} {r : Int} (H2 : SlC2 (cI .i64) h pv1 a3) (H6 : SlC (cI .i64) h pv5 a7) (hp : P_line_norm fuel a3 a7 a9 = some r) : CallH Tryd.prog 22 #[pv1, pv5, (.int .i64 a9)] h (fun x h' => Ext h h' ∧ x = .int .i64 r) := by
  unfold P_line_norm at hp
  have K0 := Kst.k0 h
  refine calls_of_W (l := [_, _, _]) mx Tryd.func22 rfl rfl rfl rfl rfl (by kernel_rfl) ?_
  refine w_seq ?_
  refine w_reg ?_
  refine r_as (r_nil (q_t ?_))
  refine w_seq ?_
  refine w_reg ?_
  refine r_as (r_nil (q_t ?_))
  refine w_seq ?_
  refine w_seq ?_
  refine w_reg ?_
  refine r_mv ?_
  refine r_lenC sl_I64 rfl H6 (r_mv (r_nil (q_t ?_)))
  refine w_block ?_
  obtain ⟨ex10, hL11, hp12⟩ := obind hp
  clear hp
  obtain ⟨bd13, hbd14, hL15⟩ := iter_gen hL11
  clear hL11
  refine w_loop 536867712 (fun x : (Int) × (Int) => [(7, (.int .i64 x.1)), (12, (.int .i64 x.2))]) (fun (k : Nat) (x : (Int) × (Int)) (h' : Heap) => iter bd13 k (x.1, x.2) = some ex10 ∧ Kst h h' (K0.L)) (by kernel_rfl) fuel ((0, 0) : (Int) × (Int)) ?_ ⟨rfl, rfl, trivial⟩ ?_
  · exact ⟨hL15, K0⟩
  rintro k16 ⟨u21, u22⟩ sv19 h18 ⟨hk17, K20⟩
  try dsimp only [Kst.L, List.set, selA, nthA] at K20
  refine (show W _ _ _ (setL [(7, (.int .i64 u21)), (12, (.int .i64 u22))] (mix _ sv19 _)) h18 from ?_)
  obtain ⟨k23, rr24, rfl, hb25, hr26⟩ := iter_step hk17
  clear hk17
  rw [hbd14] at hb25
  dsimp only at hb25
  unfold P_line_norm_b1 at hb25
  refine w_seq ?_
  refine w_reg ?_
  refine r_cmp rfl rfl (cmp_lss _ _) (r_nil (q_t ?_))
  refine w_seq ?_
  refine ⟨_, rfl, fun hc27 => ?_, fun hc27 => ?_⟩
  · skip
    have hp28 := ifTd hb25 hc27
    clear hb25
    refine w_skip (q_t ?_)
    refine w_seq ?_
    refine w_block ?_
    refine w_seq ?_
    refine w_reg ?_
    refine r_mv ?_
    obtain ⟨x29, hx30, hp31⟩ := obind hp28
    clear hp28
    refine r_ixC (c := (cI .i64)) sl_I64 rfl H6 rfl hx30 fun b32 o33 cs34 hr35 hc36 => ?_
    obtain rfl := hr35
    refine r_ld na_i64 rfl (cellH_ext (hc36 0 _ rfl) K20.x) (r_as (r_as (r_nil (q_t ?_))))
    refine w_reg ?_
    refine r_mv (r_mv (r_mv ?_))
    obtain ⟨x37, hx38, hp39⟩ := obind hp31
    clear hp31
    refine r_ixR sl_MM rfl H2 rfl hx38 fun b40 o41 r42 hc43 H44 => ?_
    refine r_ld na_I64 rfl (cellH_ext hc43 K20.x) (r_mv (r_mv ?_))
    obtain ⟨x46, hx47, hp48⟩ := obind hp39
    clear hp39
    refine r_callE trivial (fun _ _ => trivial) rfl (P_line_inner_ok (H44.ext K20.x) (H6.ext K20.x) hx47) fun xv52 h50 E49 hk51 => ?_
    subst hk51
    have K53 := K20.e E49
    refine r_mv (r_mul rfl rfl (r_add rfl rfl (r_as (r_nil (q_b (q_t ?_))))))
    refine w_reg ?_
    refine r_add rfl rfl (r_mv (r_nil (q_t ?_)))
    have hq54 := Option.some.inj hp48
    subst hq54
    exact ⟨k23, (((w64 (u21 + (w64 (x46 * x29)))), (w64 (u22 + 1))) : (Int) × (Int)), Nat.lt_succ_self _, ⟨hr26, K53⟩, rfl, rfl, trivial⟩
  · skip
    have hp55 := ifFd hb25 hc27
    clear hb25
    have hq56 := Option.some.inj hp55
    subst hq56
    have hp57 := hr26
    change _ = ex10 at hp57
    subst hp57
    have hp58 := hp12
    try dsimp only at hp58
    refine w_exit (q_tx (q_tx (q_bx (q_t ?_))))
    refine w_seq ?_
    refine w_reg ?_
    refine r_mv (r_mv ?_)
    obtain ⟨hn59, hp60⟩ := ifN hp58
    clear hp58
    refine r_rem rfl rfl hn59 (r_as (r_nil (q_t ?_)))
    refine w_ret ?_
    have hq61 := Option.some.inj hp60
    subst hq61
    exact ⟨_, retV_1, K20.x, rfl⟩
noncomputable def P_line_check (fuel : Nat) (a3 : (List (List Int))) (a5 : Int) : Option Int :=
  ((lllIsRedP fuel a3).bind fun x6 => (if (!x6) = true then (some 6) else (((if a5 = 2 then (some (Sum.inl <| 20)) else (if 9973 < a5 then (some (Sum.inl <| 20)) else ((primeIsP fuel a5).bind fun x38 => (if (!x38) = true then (some (Sum.inl <| 20)) else (some (Sum.inr <|  ())))))) : Option ((Int) ⊕ (Unit))).bind (fun ex => match ex with | Sum.inl e48 => (some e48) | Sum.inr (_) => ((P_modular_Det fuel a3 a5).bind fun (x49, x50) => (if ¬ x50 = 0 then (some 20) else (if x49 = 0 then (some 20) else (some 0))))))))
theorem P_line_check_ok {fuel : Nat} {h : Heap} {pv1 : Value} {a3 : (List (List Int))} {a5 : Int} {r : Int} (H2 : SlC2 (cI .i64) h pv1 a3) (HO : OffH h) (hp : P_line_check fuel a3 a5 = some r) : CallH Tryd.prog 13 #[pv1, (.int .i64 a5)] h (fun x h' => Ext h h' ∧ x = .int .i64 r) := by
  unfold P_line_check at hp
  have K0 := Kst.k0 h
  refine calls_of_W (l := [_, _]) mx Tryd.func13 rfl rfl rfl rfl rfl (by kernel_rfl) ?_
  refine w_seq ?_
  refine w_reg ?_
  refine r_as (r_nil (q_t ?_))
  refine w_seq ?_
  refine w_seq ?_
  refine w_reg ?_
  refine r_mv ?_
  obtain ⟨x6, hx7, hp8⟩ := obind hp
  clear hp
  refine r_callE trivial (fun _ _ => trivial) rfl (lllIsRed_P (H2.ext K0.x) hx7) fun xv12 h10 E9 hk11 => ?_
  subst hk11
  have K13 := K0.e E9
  refine r_not rfl (r_nil (q_t ?_))
  refine ⟨_, rfl, fun hc14 => ?_, fun hc14 => ?_⟩
  · skip
    have hp15 := ifT hp8 hc14
    clear hp8
    refine w_seq ?_
    refine w_reg ?_
    refine r_as (r_nil (q_t ?_))
    refine w_ret (q_tr ?_)
    have hq16 := Option.some.inj hp15
    subst hq16
    exact ⟨_, retV_1, K13.x, rfl⟩
  · skip
    have hp17 := ifFb hp8 hc14
    clear hp8
    refine w_skip (q_t ?_)
    obtain ⟨ex18, hj19, hp20⟩ := obind hp17
    clear hp17
    refine w_join 2096144 (fun x : Unit => []) (fun (x : Unit) (h' : Heap) => (Sum.inr <|  ()) = ex18 ∧ Kst h h' (K13.L)) (by kernel_rfl) ?_ ?_
    · skip
      refine w_seq ?_
      refine w_reg ?_
      refine r_mv (r_cmp rfl rfl (cmp_eql _ _) (r_mv ?_))
      rcases Decidable.em (a5 = 2) with hc21 | hc21
      · skip
        have hp22 := ifT hj19 hc21
        clear hj19
        rw [show decide (a5 = 2) = true from decide_eq_true hc21]
        refine r_skip 12 true (by kernel_rfl) rfl rfl (r_skip 12 true (by kernel_rfl) rfl rfl (r_pickT rfl (r_mv (r_skip 16 true (by kernel_rfl) rfl rfl (r_skip 16 true (by kernel_rfl) rfl rfl (r_skip 16 true (by kernel_rfl) rfl rfl (r_pickT rfl (r_nil (q_t ?_)))))))))
        refine w_true rfl ?_
        refine w_seq ?_
        refine w_reg ?_
        refine r_as (r_nil (q_t ?_))
        have hq23 := Option.some.inj hp22
        subst hq23
        have hp25 := hp20
        try dsimp only at hp25
        refine w_ret (q_tr ?_)
        have hq26 := Option.some.inj hp25
        subst hq26
        exact ⟨_, retV_1, K13.x, rfl⟩
      · skip
        have hp27 := ifF hj19 hc21
        clear hj19
        rw [show decide (a5 = 2) = false from decide_eq_false hc21]
        refine r_want 12 false (by kernel_rfl) rfl rfl (r_mv (r_want 12 false (by kernel_rfl) rfl rfl (r_cmp rfl rfl (cmp_gtr _ _) (r_pickF rfl (r_mv ?_)))))
        rcases Decidable.em (9973 < a5) with hc28 | hc28
        · skip
          have hp29 := ifT hp27 hc28
          clear hp27
          rw [show decide (9973 < a5) = true from decide_eq_true hc28]
          refine r_skip 16 true (by kernel_rfl) rfl rfl (r_skip 16 true (by kernel_rfl) rfl rfl (r_skip 16 true (by kernel_rfl) rfl rfl (r_pickT rfl (r_nil (q_t ?_)))))
          refine w_true rfl ?_
          refine w_seq ?_
          refine w_reg ?_
          refine r_as (r_nil (q_t ?_))
          have hq30 := Option.some.inj hp29
          subst hq30
          have hp32 := hp20
          try dsimp only at hp32
          refine w_ret (q_tr ?_)
          have hq33 := Option.some.inj hp32
          subst hq33
          exact ⟨_, retV_1, K13.x, rfl⟩
        · skip
          have hp34 := ifF hp27 hc28
          clear hp27
          rw [show decide (9973 < a5) = false from decide_eq_false hc28]
          refine r_want 16 false (by kernel_rfl) rfl rfl (r_mv (r_want 16 false (by kernel_rfl) rfl rfl ?_))
          obtain ⟨x35, hx36, hp37⟩ := obind hp34
          clear hp34
          refine r_callE trivial (fun _ _ => trivial) rfl (primeIs_P (HO.ext K13.x) hx36) fun xv41 h39 E38 hk40 => ?_
          subst hk40
          have K42 := K13.e E38
          refine r_want 16 false (by kernel_rfl) rfl rfl (r_not rfl (r_pickF rfl (r_nil (q_t ?_))))
          refine ⟨_, rfl, fun hc43 => ?_, fun hc43 => ?_⟩
          · skip
            have hp44 := ifT hp37 hc43
            clear hp37
            refine w_seq ?_
            refine w_reg ?_
            refine r_as (r_nil (q_t ?_))
            have hq45 := Option.some.inj hp44
            subst hq45
            have hp47 := hp20
            try dsimp only at hp47
            refine w_ret (q_tr ?_)
            have hq48 := Option.some.inj hp47
            subst hq48
            exact ⟨_, retV_1, K42.x, rfl⟩
          · skip
            have hp49 := ifFb hp37 hc43
            clear hp37
            refine w_skip (q_t ?_)
            exact ⟨(() : Unit), ⟨Option.some.inj hp49, K42⟩, trivial⟩
    rintro ⟨⟩ sv52 h51 ⟨hk50, K53⟩
    try dsimp only [Kst.L, List.set, selA, nthA] at K53
    refine (show W _ _ _ (setL [] (mix _ sv52 _)) h51 from ?_)
    subst hk50
    have hp54 := hp20
    try dsimp only at hp54
    refine w_seq ?_
    refine w_seq ?_
    refine w_reg ?_
    refine r_mv (r_mv ?_)
    obtain ⟨⟨x55, x56⟩, hx57, hp58⟩ := obind hp54
    clear hp54
    dsimp only at hp58
    refine r_callE trivial (fun _ _ => trivial) rfl (P_modular_Det_ok (H2.ext K53.x) hx57) fun xv62 h60 E59 hk61 => ?_
    subst hk61
    have K63 := K53.e E59
    refine r_mv (r_ext rfl rfl (r_ext rfl rfl (r_as (r_as (r_nil (q_t ?_))))))
    refine w_seq ?_
    refine w_reg ?_
    refine r_mv (r_cmp rfl rfl (cmp_neq _ _) (r_mv ?_))
    rcases Decidable.em (¬ x56 = 0) with hc64 | hc64
    · skip
      have hp65 := ifT hp58 hc64
      clear hp58
      rw [show decide (¬ x56 = 0) = true from decide_eq_true hc64]
      refine r_skip 29 true (by kernel_rfl) rfl rfl (r_skip 29 true (by kernel_rfl) rfl rfl (r_pickT rfl (r_nil (q_t ?_))))
      refine w_true rfl ?_
      refine w_seq ?_
      refine w_reg ?_
      refine r_as (r_nil (q_t ?_))
      refine w_ret (q_tr ?_)
      have hq66 := Option.some.inj hp65
      subst hq66
      exact ⟨_, retV_1, K63.x, rfl⟩
    · skip
      have hp67 := ifF hp58 hc64
      clear hp58
      rw [show decide (¬ x56 = 0) = false from decide_eq_false hc64]
      refine r_want 29 false (by kernel_rfl) rfl rfl (r_mv (r_want 29 false (by kernel_rfl) rfl rfl (r_cmp rfl rfl (cmp_eql _ _) (r_pickF rfl (r_nil (q_t ?_))))))
      refine ⟨_, rfl, fun hc68 => ?_, fun hc68 => ?_⟩
      · skip
        have hp69 := ifTd hp67 hc68
        clear hp67
        refine w_seq ?_
        refine w_reg ?_
        refine r_as (r_nil (q_t ?_))
        refine w_ret (q_tr ?_)
        have hq70 := Option.some.inj hp69
        subst hq70
        exact ⟨_, retV_1, K63.x, rfl⟩
      · skip
        have hp71 := ifFd hp67 hc68
        clear hp67
        refine w_skip (q_t ?_)
        refine w_seq ?_
        refine w_reg ?_
        refine r_as (r_nil (q_t ?_))
        refine w_ret ?_
        have hq72 := Option.some.inj hp71
        subst hq72
        exact ⟨_, retV_1, K63.x, rfl⟩
noncomputable def P_line_checkSize_b1 (fuel : Nat) (a3 : (List (List Int))) (a5 : Int) (s24 : Int) (s25 : Int) : Option ((Int × Int) ⊕ ((Int) ⊕ (Unit))) :=
  (if s25 < (a3.length : Int) then (if 65536 < (w64 (s24 * a5)) then (some (Sum.inr<| Sum.inl <| 7)) else (some (Sum.inl ((w64 (s24 * a5)), (w64 (s25 + 1)))))) else (some (Sum.inr<| Sum.inr <|  ())))
noncomputable def P_line_checkSize (fuel : Nat) (a3 : (List (List Int))) (a5 : Int) : Option Int :=
  ((P_line_check fuel a3 a5).bind fun x6 => (if ¬ x6 = 0 then (some x6) else ((iter (fun s => P_line_checkSize_b1 fuel a3 a5 s.1 s.2) fuel (1, 0)).bind (fun ex => match ex with | Sum.inl e32 => (some e32) | Sum.inr (_) => (some 0)))))
theorem P_line_checkSize_ok {fuel : Nat} {h : Heap} {pv1 : Value} {a3 : (List (List Int))} {a5 : Int} {r : Int} (H2 : SlC2 (cI .i64) h pv1 a3) (HO : OffH h) (hp : P_line_checkSize fuel a3 a5 = some r) : CallH Tryd.prog 6 #[pv1, (.int .i64 a5)] h (fun x h' => Ext h h' ∧ x = .int .i64 r) := by
  unfold P_line_checkSize at hp
  have K0 := Kst.k0 h
  refine calls_of_W (l := [_, _]) mx Tryd.func6 rfl rfl rfl rfl rfl (by kernel_rfl) ?_
  refine w_seq ?_
  refine w_reg ?_
  refine r_as (r_nil (q_t ?_))
  refine w_seq ?_
  refine w_seq ?_
  refine w_reg ?_
  refine r_mv (r_mv ?_)
  obtain ⟨x6, hx7, hp8⟩ := obind hp
  clear hp
  refine r_callE trivial (fun _ _ => trivial) rfl (P_line_check_ok (H2.ext K0.x) (HO.ext K0.x) hx7) fun xv12 h10 E9 hk11 => ?_
  subst hk11
  have K13 := K0.e E9
  refine r_as (r_nil (q_t ?_))
  refine w_seq ?_
  refine w_reg ?_
  refine r_mv (r_cmp rfl rfl (cmp_neq _ _) (r_nil (q_t ?_)))
  refine ⟨_, rfl, fun hc14 => ?_, fun hc14 => ?_⟩
  · skip
    have hp15 := ifTd hp8 hc14
    clear hp8
    refine w_seq ?_
    refine w_reg ?_
    refine r_mv (r_as (r_nil (q_t ?_)))
    refine w_ret (q_tr ?_)
    have hq16 := Option.some.inj hp15
    subst hq16
    exact ⟨_, retV_1, K13.x, rfl⟩
  · skip
    have hp17 := ifFd hp8 hc14
    clear hp8
    refine w_skip (q_t ?_)
    refine w_seq ?_
    refine w_reg ?_
    refine r_as (r_nil (q_t ?_))
    refine w_seq ?_
    refine w_seq ?_
    refine w_reg ?_
    refine r_mv ?_
    refine r_lenR sl_MM rfl H2 (r_mv (r_nil (q_t ?_)))
    refine w_block ?_
    obtain ⟨ex18, hL19, hp20⟩ := obind hp17
    clear hp17
    obtain ⟨bd21, hbd22, hL23⟩ := iter_gen hL19
    clear hL19
    refine w_loop 8355920 (fun x : (Int) × (Int) => [(6, (.int .i64 x.1)), (15, (.int .i64 x.2))]) (fun (k : Nat) (x : (Int) × (Int)) (h' : Heap) => iter bd21 k (x.1, x.2) = some ex18 ∧ Kst h h' (K13.L)) (by kernel_rfl) fuel ((1, 0) : (Int) × (Int)) ?_ ⟨rfl, rfl, trivial⟩ ?_
    · exact ⟨hL23, K13⟩
    rintro k24 ⟨u29, u30⟩ sv27 h26 ⟨hk25, K28⟩
    try dsimp only [Kst.L, List.set, selA, nthA] at K28
    refine (show W _ _ _ (setL [(6, (.int .i64 u29)), (15, (.int .i64 u30))] (mix _ sv27 _)) h26 from ?_)
    obtain ⟨k31, rr32, rfl, hb33, hr34⟩ := iter_step hk25
    clear hk25
    rw [hbd22] at hb33
    dsimp only at hb33
    unfold P_line_checkSize_b1 at hb33
    refine w_seq ?_
    refine w_reg ?_
    refine r_cmp rfl rfl (cmp_lss _ _) (r_nil (q_t ?_))
    refine w_seq ?_
    refine ⟨_, rfl, fun hc35 => ?_, fun hc35 => ?_⟩
    · skip
      have hp36 := ifTd hb33 hc35
      clear hb33
      refine w_skip (q_t ?_)
      refine w_seq ?_
      refine w_block ?_
      refine w_seq ?_
      refine w_reg ?_
      refine r_mv (r_mv (r_mul rfl rfl (r_as (r_nil (q_t ?_)))))
      refine w_seq ?_
      refine w_reg ?_
      refine r_mv (r_cmp rfl rfl (cmp_gtr _ _) (r_nil (q_t ?_)))
      refine ⟨_, rfl, fun hc37 => ?_, fun hc37 => ?_⟩
      · skip
        have hp38 := ifTd hp36 hc37
        clear hp36
        refine w_seq ?_
        refine w_reg ?_
        refine r_as (r_nil (q_t ?_))
        have hq39 := Option.some.inj hp38
        subst hq39
        have hp40 := hr34
        change _ = ex18 at hp40
        subst hp40
        have hp41 := hp20
        try dsimp only at hp41
        refine w_ret (q_br (q_tr (q_tr (q_br (q_tr ?_)))))
        have hq42 := Option.some.inj hp41
        subst hq42
        exact ⟨_, retV_1, K28.x, rfl⟩
      · skip
        have hp43 := ifFd hp36 hc37
        clear hp36
        refine w_skip (q_b (q_t ?_))
        refine w_reg ?_
        refine r_add rfl rfl (r_mv (r_nil (q_t ?_)))
        have hq44 := Option.some.inj hp43
        subst hq44
        exact ⟨k31, (((w64 (u29 * a5)), (w64 (u30 + 1))) : (Int) × (Int)), Nat.lt_succ_self _, ⟨hr34, K28⟩, rfl, rfl, trivial⟩
    · skip
      have hp45 := ifFd hb33 hc35
      clear hb33
      have hq46 := Option.some.inj hp45
      subst hq46
      have hp47 := hr34
      change _ = ex18 at hp47
      subst hp47
      have hp48 := hp20
      try dsimp only at hp48
      refine w_exit (q_tx (q_tx (q_bx (q_t ?_))))
      refine w_seq ?_
      refine w_reg ?_
      refine r_as (r_nil (q_t ?_))
      refine w_ret ?_
      have hq49 := Option.some.inj hp48
      subst hq49
      exact ⟨_, retV_1, K28.x, rfl⟩
def P_line_isLine_b1 (fuel : Nat) (a5 : Int) (a8 : (List Int)) (s40 : Int) (s41 : Int) : Option ((Int × Int) ⊕ ((Bool) ⊕ (Int))) :=
  (if s41 < (a8.length : Int) then ((gI a8 s41).bind fun x44 => (((if x44 < 0 then (some (Sum.inl <| false)) else (if a5 ≤ x44 then (some (Sum.inl <| false)) else (some (Sum.inr <|  ())))) : Option ((Bool) ⊕ (Unit))).bind (fun ex => match ex with | Sum.inl e62 => (some (Sum.inr<| Sum.inl <| e62)) | Sum.inr (_) => (if s40 = 0 then (some (Sum.inl (x44, (w64 (s41 + 1))))) else (some (Sum.inl (s40, (w64 (s41 + 1))))))))) else (some (Sum.inr<| Sum.inr <|  s40)))
def P_line_isLine (fuel : Nat) (a3 : (List (List Int))) (a5 : Int) (a8 : (List Int)) : Option Bool :=
  (if ¬ (a8.length : Int) = (a3.length : Int) then (some false) else ((iter (fun s => P_line_isLine_b1 fuel a5 a8 s.1 s.2) fuel (0, 0)).bind (fun ex => match ex with | Sum.inl e67 => (some e67) | Sum.inr (e68) => ((P_modular_Residues fuel a3 a5).bind fun (x69, x70) => (if e68 = 1 then ((P_line_norm fuel x69 a8 a5).bind fun x86 => (some (decide (x86 = 0)))) else (some false))))))
theorem P_line_isLine_ok {fuel : Nat} {h : Heap} {pv1 : Value} {a3 : (List (List Int))} {a5 : Int} {pv6 : Value} {a8 : (List Int)} {r : Bool} (H2 : SlC2 (cI .i64) h pv1 a3) (H7 : SlC (cI .i64) h pv6 a8) (hp : P_line_isLine fuel a3 a5 a8 = some r) : CallH Tryd.prog 24 #[pv1, (.int .i64 a5), pv6] h (fun x h' => Ext h h' ∧ x = .bool r) := by
  unfold P_line_isLine at hp
  have K0 := Kst.k0 h
  refine calls_of_W (l := [_, _, _]) mx Tryd.func24 rfl rfl rfl rfl rfl (by kernel_rfl) ?_
  refine w_seq ?_
  refine w_reg ?_
  refine r_as (r_nil (q_t ?_))
  refine w_seq ?_
  refine w_seq ?_
  refine w_reg ?_
  refine r_mv ?_
  refine r_lenC sl_I64 rfl H7 (r_mv ?_)
  refine r_lenR sl_MM rfl H2 (r_cmp rfl rfl (cmp_neq _ _) (r_nil (q_t ?_)))
  refine ⟨_, rfl, fun hc10 => ?_, fun hc10 => ?_⟩
  · skip
    have hp11 := ifTd hp hc10
    clear hp
    refine w_seq ?_
    refine w_reg ?_
    refine r_as (r_nil (q_t ?_))
    refine w_ret (q_tr ?_)
    have hq12 := Option.some.inj hp11
    subst hq12
    exact ⟨_, retV_1, K0.x, rfl⟩
  · skip
    have hp13 := ifFd hp hc10
    clear hp
    refine w_skip (q_t ?_)
    refine w_seq ?_
    refine w_reg ?_
    refine r_as (r_nil (q_t ?_))
    refine w_seq ?_
    refine w_seq ?_
    refine w_reg ?_
    refine r_mv ?_
    refine r_lenC sl_I64 rfl H7 (r_mv (r_nil (q_t ?_)))
    refine w_block ?_
    obtain ⟨ex14, hL15, hp16⟩ := obind hp13
    clear hp13
    obtain ⟨bd17, hbd18, hL19⟩ := iter_gen hL15
    clear hL15
    refine w_loop 17179345600 (fun x : (Int) × (Int) => [(7, (.int .i64 x.1)), (19, (.int .i64 x.2))]) (fun (k : Nat) (x : (Int) × (Int)) (h' : Heap) => iter bd17 k (x.1, x.2) = some ex14 ∧ Kst h h' (K0.L)) (by kernel_rfl) fuel ((0, 0) : (Int) × (Int)) ?_ ⟨rfl, rfl, trivial⟩ ?_
    · exact ⟨hL19, K0⟩
    rintro k20 ⟨u25, u26⟩ sv23 h22 ⟨hk21, K24⟩
    try dsimp only [Kst.L, List.set, selA, nthA] at K24
    refine (show W _ _ _ (setL [(7, (.int .i64 u25)), (19, (.int .i64 u26))] (mix _ sv23 _)) h22 from ?_)
    obtain ⟨k27, rr28, rfl, hb29, hr30⟩ := iter_step hk21
    clear hk21
    rw [hbd18] at hb29
    dsimp only at hb29
    unfold P_line_isLine_b1 at hb29
    refine w_seq ?_
    refine w_reg ?_
    refine r_cmp rfl rfl (cmp_lss _ _) (r_nil (q_t ?_))
    refine w_seq ?_
    refine ⟨_, rfl, fun hc31 => ?_, fun hc31 => ?_⟩
    · skip
      have hp32 := ifTd hb29 hc31
      clear hb29
      refine w_skip (q_t ?_)
      refine w_seq ?_
      refine w_block ?_
      refine w_seq ?_
      refine w_reg ?_
      obtain ⟨x33, hx34, hp35⟩ := obind hp32
      clear hp32
      refine r_ixC (c := (cI .i64)) sl_I64 rfl H7 rfl hx34 fun b36 o37 cs38 hr39 hc40 => ?_
      obtain rfl := hr39
      refine r_ld na_i64 rfl (cellH_ext (hc40 0 _ rfl) K24.x) (r_as (r_nil (q_t ?_)))
      obtain ⟨ex41, hj42, hp43⟩ := obind hp35
      clear hp35
      refine w_join 1065353280 (fun x : Unit => []) (fun (x : Unit) (h' : Heap) => (Sum.inr <|  ()) = ex41 ∧ Kst h h' (K24.L)) (by kernel_rfl) ?_ ?_
      · skip
        refine w_seq ?_
        refine w_reg ?_
        refine r_mv (r_cmp rfl rfl (cmp_lss _ _) (r_mv ?_))
        rcases Decidable.em (x33 < 0) with hc44 | hc44
        · skip
          have hp45 := ifT hj42 hc44
          clear hj42
          rw [show decide (x33 < 0) = true from decide_eq_true hc44]
          refine r_skip 25 true (by kernel_rfl) rfl rfl (r_skip 25 true (by kernel_rfl) rfl rfl (r_skip 25 true (by kernel_rfl) rfl rfl (r_pickT rfl (r_nil (q_t ?_)))))
          refine w_true rfl ?_
          refine w_seq ?_
          refine w_reg ?_
          refine r_as (r_nil (q_t ?_))
          have hq46 := Option.some.inj hp45
          subst hq46
          have hp48 := hp43
          try dsimp only at hp48
          have hq49 := Option.some.inj hp48
          subst hq49
          have hp50 := hr30
          change _ = ex14 at hp50
          subst hp50
          have hp51 := hp16
          try dsimp only at hp51
          refine w_ret (q_tr (q_br (q_tr (q_tr (q_br (q_tr ?_))))))
          have hq52 := Option.some.inj hp51
          subst hq52
          exact ⟨_, retV_1, K24.x, rfl⟩
        · skip
          have hp53 := ifF hj42 hc44
          clear hj42
          rw [show decide (x33 < 0) = false from decide_eq_false hc44]
          refine r_want 25 false (by kernel_rfl) rfl rfl (r_mv (r_want 25 false (by kernel_rfl) rfl rfl (r_mv (r_want 25 false (by kernel_rfl) rfl rfl (r_cmp rfl rfl (cmp_geq _ _) (r_pickF rfl (r_nil (q_t ?_))))))))
          refine ⟨_, rfl, fun hc54 => ?_, fun hc54 => ?_⟩
          · skip
            have hp55 := ifTd hp53 hc54
            clear hp53
            refine w_seq ?_
            refine w_reg ?_
            refine r_as (r_nil (q_t ?_))
            have hq56 := Option.some.inj hp55
            subst hq56
            have hp58 := hp43
            try dsimp only at hp58
            have hq59 := Option.some.inj hp58
            subst hq59
            have hp60 := hr30
            change _ = ex14 at hp60
            subst hp60
            have hp61 := hp16
            try dsimp only at hp61
            refine w_ret (q_tr (q_br (q_tr (q_tr (q_br (q_tr ?_))))))
            have hq62 := Option.some.inj hp61
            subst hq62
            exact ⟨_, retV_1, K24.x, rfl⟩
          · skip
            have hp63 := ifFd hp53 hc54
            clear hp53
            refine w_skip (q_t ?_)
            exact ⟨(() : Unit), ⟨Option.some.inj hp63, K24⟩, trivial⟩
      rintro ⟨⟩ sv66 h65 ⟨hk64, K67⟩
      try dsimp only [Kst.L, List.set, selA, nthA] at K67
      refine (show W _ _ _ (setL [] (mix _ sv66 _)) h65 from ?_)
      subst hk64
      have hp68 := hp43
      try dsimp only at hp68
      refine w_seq ?_
      refine w_reg ?_
      refine r_mv (r_cmp rfl rfl (cmp_eql _ _) (r_nil (q_t ?_)))
      refine ⟨_, rfl, fun hc69 => ?_, fun hc69 => ?_⟩
      · skip
        have hp70 := ifTd hp68 hc69
        clear hp68
        refine w_reg ?_
        refine r_mv (r_as (r_nil (q_b (q_t ?_))))
        refine w_reg ?_
        refine r_add rfl rfl (r_mv (r_nil (q_t ?_)))
        have hq71 := Option.some.inj hp70
        subst hq71
        exact ⟨k27, ((x33, (w64 (u26 + 1))) : (Int) × (Int)), Nat.lt_succ_self _, ⟨hr30, K67⟩, rfl, rfl, trivial⟩
      · skip
        have hp72 := ifFd hp68 hc69
        clear hp68
        refine w_skip (q_b (q_t ?_))
        refine w_reg ?_
        refine r_add rfl rfl (r_mv (r_nil (q_t ?_)))
        have hq73 := Option.some.inj hp72
        subst hq73
        exact ⟨k27, ((u25, (w64 (u26 + 1))) : (Int) × (Int)), Nat.lt_succ_self _, ⟨hr30, K67⟩, rfl, rfl, trivial⟩
    · skip
      have hp74 := ifFd hb29 hc31
      clear hb29
      have hq75 := Option.some.inj hp74
      subst hq75
      have hp76 := hr30
      change _ = ex14 at hp76
      subst hp76
      have hp77 := hp16
      try dsimp only at hp77
      refine w_exit (q_tx (q_tx (q_bx (q_t ?_))))
      refine w_seq ?_
      refine w_reg ?_
      refine r_mv (r_mv ?_)
      obtain ⟨⟨x78, x79⟩, hx80, hp81⟩ := obind hp77
      clear hp77
      dsimp only at hp81
      refine r_callE trivial (fun _ _ => trivial) rfl (P_modular_Residues_ok (H2.ext K24.x) hx80) fun xv85 h83 E82 hk84 => ?_
      obtain ⟨v86, F89, G90, rs91, rfl, I87, S92⟩ := hk84
      have K93 := K24.no2 E82 S92 I87
      refine r_mv (r_ext rfl rfl (r_ext rfl rfl (r_as (r_as (r_nil (q_t ?_))))))
      refine w_seq ?_
      refine w_reg ?_
      refine r_mv (r_cmp rfl rfl (cmp_eql _ _) (r_mv ?_))
      rcases Decidable.em (u25 = 1) with hc94 | hc94
      · skip
        have hp95 := ifT hp81 hc94
        clear hp81
        rw [show decide (u25 = 1) = true from decide_eq_true hc94]
        refine r_want 42 true (by kernel_rfl) rfl rfl (r_mv (r_want 42 true (by kernel_rfl) rfl rfl (r_mv (r_want 42 true (by kernel_rfl) rfl rfl (r_mv (r_want 42 true (by kernel_rfl) rfl rfl ?_))))))
        obtain ⟨x96, hx97, hp98⟩ := obind hp95
        clear hp95
        refine r_callE trivial (fun _ _ => trivial) rfl (P_line_norm_ok (K93.o2 p0).rd (H7.ext K93.x) hx97) fun xv102 h100 E99 hk101 => ?_
        subst hk101
        have K103 := K93.e E99
        refine r_want 42 true (by kernel_rfl) rfl rfl (r_cmp rfl rfl (cmp_eql _ _) (r_pickT rfl (r_as (r_nil (q_t ?_)))))
        refine w_ret ?_
        have hq104 := Option.some.inj hp98
        subst hq104
        exact ⟨_, retV_1, K103.x, rfl⟩
      · skip
        have hp105 := ifF hp81 hc94
        clear hp81
        rw [show decide (u25 = 1) = false from decide_eq_false hc94]
        refine r_skip 42 false (by kernel_rfl) rfl rfl (r_skip 42 false (by kernel_rfl) rfl rfl (r_skip 42 false (by kernel_rfl) rfl rfl (r_skip 42 false (by kernel_rfl) rfl rfl (r_skip 42 false (by kernel_rfl) rfl rfl (r_pickF rfl (r_as (r_nil (q_t ?_))))))))
        refine w_ret ?_
        have hq106 := Option.some.inj hp105
        subst hq106
        exact ⟨_, retV_1, K93.x, rfl⟩
noncomputable def P_line_Formula (fuel : Nat) (a3 : (List (List Int))) (a5 : Int) : Option (Int × Int) :=
  ((P_line_checkSize fuel a3 a5).bind fun x6 => (if ¬ x6 = 0 then (some (0, x6)) else (if (Int.tmod (a3.length : Int) 2) = 1 then ((P_line_power fuel a5 (w64 (2 * (w64 (Int.tdiv (a3.length : Int) 2))))).bind fun x18 => (if (w64 (a5 - 1)) ≠ 0 then (some ((w64 (Int.tdiv (w64 (x18 - 1)) (w64 (a5 - 1)))), 0)) else none)) else ((P_modular_Det fuel a3 a5).bind fun (x26, x27) => (((if (Int.tmod (w64 (Int.tdiv (a3.length : Int) 2)) 2) = 1 then (some ( (w64 (0 - x26)))) else (some ( x26))) : Option ((Int))).bind (fun (e40 : Int) => ((P_prime_Kronecker fuel e40 a5).bind fun (x41, x42) => ((P_line_power fuel a5 (w64 (Int.tdiv (a3.length : Int) 2))).bind fun x49 => ((P_line_power fuel a5 (w64 ((w64 (Int.tdiv (a3.length : Int) 2)) - 1))).bind fun x56 => (if (w64 (a5 - 1)) ≠ 0 then (some ((w64 (Int.tdiv (w64 ((w64 (x49 - x41)) * (w64 (x56 + x41)))) (w64 (a5 - 1)))), 0)) else none))))))))))
theorem P_line_Formula_ok {fuel : Nat} {h : Heap} {pv1 : Value} {a3 : (List (List Int))} {a5 : Int} {r : (Int × Int)} (H2 : SlC2 (cI .i64) h pv1 a3) (HO : OffH h) (hp : P_line_Formula fuel a3 a5 = some r) : CallH Tryd.prog 4 #[pv1, (.int .i64 a5)] h (fun x h' => Ext h h' ∧ x = .tuple #[.int .i64 r.1, .int .i64 r.2]) := by
  unfold P_line_Formula at hp
  have K0 := Kst.k0 h
  refine calls_of_W (l := [_, _]) mx Tryd.func4 rfl rfl rfl rfl rfl (by kernel_rfl) ?_
  refine w_seq ?_
  refine w_reg ?_
  refine r_as (r_as (r_nil (q_t ?_)))
  refine w_seq ?_
  refine w_seq ?_
  refine w_reg ?_
  refine r_mv (r_mv ?_)
  obtain ⟨x6, hx7, hp8⟩ := obind hp
  clear hp
  refine r_callE trivial (fun _ _ => trivial) rfl (P_line_checkSize_ok (H2.ext K0.x) (HO.ext K0.x) hx7) fun xv12 h10 E9 hk11 => ?_
  subst hk11
  have K13 := K0.e E9
  refine r_as (r_nil (q_t ?_))
  refine w_seq ?_
  refine w_reg ?_
  refine r_mv (r_cmp rfl rfl (cmp_neq _ _) (r_nil (q_t ?_)))
  refine ⟨_, rfl, fun hc14 => ?_, fun hc14 => ?_⟩
  · skip
    have hp15 := ifTd hp8 hc14
    clear hp8
    refine w_seq ?_
    refine w_reg ?_
    refine r_mv (r_as (r_as (r_nil (q_t ?_))))
    refine w_ret (q_tr ?_)
    have hq16 := Option.some.inj hp15
    subst hq16
    exact ⟨_, retV_2, K13.x, rfl⟩
  · skip
    have hp17 := ifFd hp8 hc14
    clear hp8
    refine w_skip (q_t ?_)
    refine w_seq ?_
    refine w_reg ?_
    refine r_mv ?_
    refine r_lenR sl_MM rfl H2 (r_as (r_nil (q_t ?_)))
    refine w_seq ?_
    refine w_reg ?_
    refine r_mv (r_quo rfl rfl (by decide) (r_as (r_nil (q_t ?_))))
    refine w_seq ?_
    refine w_seq ?_
    refine w_reg ?_
    refine r_mv (r_rem rfl rfl (by decide) (r_cmp rfl rfl (cmp_eql _ _) (r_nil (q_t ?_))))
    refine ⟨_, rfl, fun hc18 => ?_, fun hc18 => ?_⟩
    · skip
      have hp19 := ifTd hp17 hc18
      clear hp17
      refine w_seq ?_
      refine w_reg ?_
      refine r_mv (r_mv (r_mul rfl rfl ?_))
      obtain ⟨x20, hx21, hp22⟩ := obind hp19
      clear hp19
      refine r_callE trivial (fun _ _ => trivial) rfl (P_line_power_ok hx21) fun xv26 h24 E23 hk25 => ?_
      subst hk25
      have K27 := K13.e E23
      refine r_sub rfl rfl (r_mv (r_sub rfl rfl ?_))
      obtain ⟨hn28, hp29⟩ := ifN hp22
      clear hp22
      refine r_quo rfl rfl hn28 (r_as (r_as (r_nil (q_t ?_))))
      refine w_ret (q_tr ?_)
      have hq30 := Option.some.inj hp29
      subst hq30
      exact ⟨_, retV_2, K27.x, rfl⟩
    · skip
      have hp31 := ifFd hp17 hc18
      clear hp17
      refine w_skip (q_t ?_)
      refine w_seq ?_
      refine w_reg ?_
      refine r_mv (r_mv ?_)
      obtain ⟨⟨x32, x33⟩, hx34, hp35⟩ := obind hp31
      clear hp31
      dsimp only at hp35
      refine r_callE trivial (fun _ _ => trivial) rfl (P_modular_Det_ok (H2.ext K13.x) hx34) fun xv39 h37 E36 hk38 => ?_
      subst hk38
      have K40 := K13.e E36
      refine r_mv (r_ext rfl rfl (r_ext rfl rfl (r_as (r_as (r_nil (q_t ?_))))))
      obtain ⟨ex41, hj42, hp43⟩ := obind hp35
      clear hp35
      refine w_join 68169720922624 (fun x : (Int) => [(9, (.int .i64 x))]) (fun (x : (Int)) (h' : Heap) => ( x) = ex41 ∧ Kst h h' (K40.L)) (by kernel_rfl) ?_ ?_
      · skip
        refine w_seq ?_
        refine w_reg ?_
        refine r_mv (r_rem rfl rfl (by decide) (r_cmp rfl rfl (cmp_eql _ _) (r_nil (q_t ?_))))
        refine ⟨_, rfl, fun hc44 => ?_, fun hc44 => ?_⟩
        · skip
          have hp45 := ifTd hj42 hc44
          clear hj42
          refine w_reg ?_
          refine r_mv (r_neg rfl (r_as (r_nil (q_t ?_))))
          exact ⟨((w64 (0 - x32)) : (Int)), ⟨Option.some.inj hp45, K40⟩, rfl, trivial⟩
        · skip
          have hp46 := ifFd hj42 hc44
          clear hj42
          refine w_skip (q_t ?_)
          exact ⟨(x32 : (Int)), ⟨Option.some.inj hp46, K40⟩, rfl, trivial⟩
      rintro u51 sv49 h48 ⟨hk47, K50⟩
      try dsimp only [Kst.L, List.set, selA, nthA] at K50
      refine (show W _ _ _ (setL [(9, (.int .i64 u51))] (mix _ sv49 _)) h48 from ?_)
      subst hk47
      have hp52 := hp43
      try dsimp only at hp52
      refine w_seq ?_
      refine w_reg ?_
      refine r_mv (r_mv ?_)
      obtain ⟨⟨x53, x54⟩, hx55, hp56⟩ := obind hp52
      clear hp52
      dsimp only at hp56
      refine r_callE trivial (fun _ _ => trivial) rfl (P_prime_Kronecker_ok hx55) fun xv60 h58 E57 hk59 => ?_
      subst hk59
      have K61 := K50.e E57
      refine r_mv (r_ext rfl rfl (r_ext rfl rfl (r_as (r_as (r_nil (q_t ?_))))))
      refine w_seq ?_
      refine w_reg ?_
      refine r_mv (r_as (r_nil (q_t ?_)))
      refine w_seq ?_
      refine w_reg ?_
      refine r_mv (r_mv ?_)
      obtain ⟨x62, hx63, hp64⟩ := obind hp56
      clear hp56
      refine r_callE trivial (fun _ _ => trivial) rfl (P_line_power_ok hx63) fun xv68 h66 E65 hk67 => ?_
      subst hk67
      have K69 := K61.e E65
      refine r_mv (r_sub rfl rfl (r_mv (r_mv (r_sub rfl rfl ?_))))
      obtain ⟨x70, hx71, hp72⟩ := obind hp64
      clear hp64
      refine r_callE trivial (fun _ _ => trivial) rfl (P_line_power_ok hx71) fun xv76 h74 E73 hk75 => ?_
      subst hk75
      have K77 := K69.e E73
      refine r_mv (r_add rfl rfl (r_mul rfl rfl (r_mv (r_sub rfl rfl ?_))))
      obtain ⟨hn78, hp79⟩ := ifN hp72
      clear hp72
      refine r_quo rfl rfl hn78 (r_as (r_as (r_nil (q_t ?_))))
      refine w_ret ?_
      have hq80 := Option.some.inj hp79
      subst hq80
      exact ⟨_, retV_2, K77.x, rfl⟩
noncomputable def P_line_Lift_b1 (fuel : Nat) (a5 : Int) (a8 : (List Int)) (x32 : (List (List Int))) (s230 : Int) (s231 : (List Int)) : Option ((Int × (List Int)) ⊕ (((List Int)))) :=
  (if s230 < (x32.length : Int) then ((gI x32 s230).bind fun x236 => ((P_line_inner fuel x236 a8 a5).bind fun x243 => (if x243 = 0 then (some (Sum.inl ((w64 (s230 + 1)), s231))) else ((modInvP fuel ([([(w64 (2 * x243))] : List Int)] : List (List Int)) a5).bind fun (x270, x271) => ((P_line_norm fuel x32 a8 (w64 (a5 * a5))).bind fun x285 => (if a5 ≠ 0 then ((gI x270 0).bind fun x292 => ((gI x292 0).bind fun x299 => (if a5 ≠ 0 then ((gI s231 s230).bind fun x305 => (some (Sum.inr<|  (sI s231 s230 (w64 (x305 + (w64 (a5 * (Int.tmod (w64 ((w64 (a5 - (w64 (Int.tdiv x285 a5)))) * x299)) a5))))))))) else none))) else none)))))) else (some (Sum.inr<|  s231)))
noncomputable def P_line_Lift (fuel : Nat) (a3 : (List (List Int))) (a5 : Int) (a8 : (List Int)) : Option ((List Int) × Int) :=
  ((P_line_check fuel a3 a5).bind fun x10 => (if ¬ x10 = 0 then (some ([], x10)) else ((P_line_isLine fuel a3 a5 a8).bind fun x21 => (if (!x21) = true then (some ([], 26)) else ((P_modular_Residues fuel a3 (w64 (a5 * a5))).bind fun (x32, x33) => ((P_slices_Clone fuel a8).bind fun x47 => ((iter (fun s => P_line_Lift_b1 fuel a5 a8 x32 s.1 s.2) fuel (0, x47)).bind (fun (e317 : (List Int)) => (some (e317, 0))))))))))
theorem P_line_Lift_ok {fuel : Nat} {h : Heap} {pv1 : Value} {a3 : (List (List Int))} {a5 : Int} {pv6 : Value} {a8 : (List Int)} {r : ((List Int) × Int)} (H2 : SlC2 (cI .i64) h pv1 a3) (H7 : SlC (cI .i64) h pv6 a8) (HO : OffH h) (hp : P_line_Lift fuel a3 a5 a8 = some r) : CallH Tryd.prog 11 #[pv1, (.int .i64 a5), pv6] h (fun x h' => Ext h h' ∧ ∃ (x0 : Value) (F0 : List Nat), x = .tuple #[x0, .int .i64 r.2] ∧ OwC (cI .i64) 2 h' F0 x0 r.1 ∧ Sp h' (Array.size h) [F0]) := by
  unfold P_line_Lift at hp
  have K0 := Kst.k0 h
  refine calls_of_W (l := [_, _, _]) mx Tryd.func11 rfl rfl rfl rfl rfl (by kernel_rfl) ?_
  refine w_seq ?_
  refine w_reg ?_
  refine r_as (r_as (r_nil (q_t ?_)))
  refine w_seq ?_
  refine w_seq ?_
  refine w_reg ?_
  refine r_mv (r_mv ?_)
  obtain ⟨x10, hx11, hp12⟩ := obind hp
  clear hp
  refine r_callE trivial (fun _ _ => trivial) rfl (P_line_check_ok (H2.ext K0.x) (HO.ext K0.x) hx11) fun xv16 h14 E13 hk15 => ?_
  subst hk15
  have K17 := K0.e E13
  refine r_as (r_nil (q_t ?_))
  refine w_seq ?_
  refine w_reg ?_
  refine r_mv (r_cmp rfl rfl (cmp_neq _ _) (r_nil (q_t ?_)))
  refine ⟨_, rfl, fun hc18 => ?_, fun hc18 => ?_⟩
  · skip
    have hp19 := ifTd hp12 hc18
    clear hp12
    refine w_seq ?_
    refine w_reg ?_
    refine r_mv (r_as (r_as (r_nil (q_t ?_))))
    refine w_ret (q_tr ?_)
    have K22 := Kst.anil (cI .i64) 2 K17
    have hq20 := Option.some.inj hp19
    subst hq20
    exact ⟨_, retV_2, K22.x, _, _, rfl, (K22.o p0), K22.s.sel [0] (by decide)⟩
  · skip
    have hp23 := ifFd hp12 hc18
    clear hp12
    refine w_skip (q_t ?_)
    refine w_seq ?_
    refine w_seq ?_
    refine w_reg ?_
    refine r_mv (r_mv (r_mv ?_))
    obtain ⟨x24, hx25, hp26⟩ := obind hp23
    clear hp23
    refine r_callE trivial (fun _ _ => trivial) rfl (P_line_isLine_ok (H2.ext K17.x) (H7.ext K17.x) hx25) fun xv30 h28 E27 hk29 => ?_
    subst hk29
    have K31 := K17.e E27
    refine r_not rfl (r_nil (q_t ?_))
    refine ⟨_, rfl, fun hc32 => ?_, fun hc32 => ?_⟩
    · skip
      have hp33 := ifT hp26 hc32
      clear hp26
      refine w_seq ?_
      refine w_reg ?_
      refine r_as (r_as (r_nil (q_t ?_)))
      refine w_ret (q_tr ?_)
      have K36 := Kst.anil (cI .i64) 2 K31
      have hq34 := Option.some.inj hp33
      subst hq34
      exact ⟨_, retV_2, K36.x, _, _, rfl, (K36.o p0), K36.s.sel [0] (by decide)⟩
    · skip
      have hp37 := ifFb hp26 hc32
      clear hp26
      refine w_skip (q_t ?_)
      refine w_seq ?_
      refine w_reg ?_
      refine r_mv (r_mv (r_mv (r_mul rfl rfl ?_)))
      obtain ⟨⟨x38, x39⟩, hx40, hp41⟩ := obind hp37
      clear hp37
      dsimp only at hp41
      refine r_callE trivial (fun _ _ => trivial) rfl (P_modular_Residues_ok (H2.ext K31.x) hx40) fun xv45 h43 E42 hk44 => ?_
      obtain ⟨v46, F49, G50, rs51, rfl, I47, S52⟩ := hk44
      have K53 := K31.no2 E42 S52 I47
      refine r_mv (r_ext rfl rfl (r_ext rfl rfl (r_as (r_as (r_nil (q_t ?_))))))
      refine w_seq ?_
      refine w_reg ?_
      refine r_mv ?_
      obtain ⟨x54, hx55, hp56⟩ := obind hp41
      clear hp41
      refine r_callE trivial (fun _ _ => trivial) rfl (P_slices_Clone_ok (H7.ext K53.x) hx55) fun xv60 h58 E57 hk59 => ?_
      obtain ⟨v61, F64, rfl, I62, S65⟩ := hk59
      have K66 := K53.no E57 S65 I62
      refine r_as (r_nil (q_t ?_))
      refine w_seq ?_
      refine w_seq ?_
      refine w_reg ?_
      refine r_mv ?_
      refine r_lenR sl_MM rfl (K66.o2 p1).rd (r_mv (r_nil (q_t ?_)))
      refine w_block ?_
      obtain ⟨ex67, hL68, hp69⟩ := obind hp56
      clear hp56
      obtain ⟨bd70, hbd71, hL72⟩ := iter_gen hL68
      clear hL68
      refine w_loop 618970019642687938426564608 (fun x : (Int) × ((List Int)) × (List Nat) => [(41, (.int .i64 x.1))]) (fun (k : Nat) (x : (Int) × ((List Int)) × (List Nat)) (h' : Heap) => iter bd70 k (x.1, x.2.1) = some ex67 ∧ Kst h h' (K66.L.set 0 (aO (cI .i64) 2 x.2.2 xv60 x.2.1))) (by kernel_rfl) fuel ((0, x54, F64) : (Int) × ((List Int)) × (List Nat)) ?_ ⟨rfl, trivial⟩ ?_
      · exact ⟨hL72, K66⟩
      rintro k74 ⟨u79, u80, q81⟩ sv77 h76 ⟨hk75, K78⟩
      try dsimp only [Kst.L, List.set, selA, nthA] at K78
      refine (show W _ _ _ (setL [(41, (.int .i64 u79))] (mix _ sv77 _)) h76 from ?_)
      obtain ⟨k84, rr85, rfl, hb86, hr87⟩ := iter_step hk75
      clear hk75
      rw [hbd71] at hb86
      dsimp only at hb86
      unfold P_line_Lift_b1 at hb86
      refine w_seq ?_
      refine w_reg ?_
      refine r_cmp rfl rfl (cmp_lss _ _) (r_nil (q_t ?_))
      refine w_seq ?_
      refine ⟨_, rfl, fun hc88 => ?_, fun hc88 => ?_⟩
      · skip
        have hp89 := ifTd hb86 hc88
        clear hb86
        refine w_skip (q_t ?_)
        refine w_seq ?_
        refine w_block ?_
        refine w_seq ?_
        refine w_reg ?_
        refine r_mv ?_
        obtain ⟨x90, hx91, hp92⟩ := obind hp89
        clear hp89
        refine r_ixR2 sl_MM rfl (K78.o2 p1) rfl hx91 fun b93 r94 hF95 hr96 hc97 => ?_
        refine r_ld na_I64 rfl hc97 (r_as (r_as (r_nil (q_t ?_))))
        refine w_seq ?_
        refine w_reg ?_
        refine r_mv (r_mv (r_mv ?_))
        obtain ⟨x99, hx100, hp101⟩ := obind hp92
        clear hp92
        refine r_callE trivial (fun _ _ => trivial) rfl (P_line_inner_ok ((K78.o2 p1).rowI hr96 hx91) (H7.ext K78.x) hx100) fun xv105 h103 E102 hk104 => ?_
        subst hk104
        have K106 := K78.e E102
        refine r_as (r_nil (q_t ?_))
        refine w_seq ?_
        refine w_seq ?_
        refine w_reg ?_
        refine r_mv (r_cmp rfl rfl (cmp_eql _ _) (r_nil (q_t ?_)))
        refine ⟨_, rfl, fun hc107 => ?_, fun hc107 => ?_⟩
        · skip
          have hp108 := ifTd hp101 hc107
          clear hp101
          refine w_exit (q_tx (q_bx (q_t ?_)))
          refine w_reg ?_
          refine r_add rfl rfl (r_mv (r_nil (q_t ?_)))
          have hq109 := Option.some.inj hp108
          subst hq109
          exact ⟨k84, (((w64 (u79 + 1)), u80, q81) : (Int) × ((List Int)) × (List Nat)), Nat.lt_succ_self _, ⟨hr87, K106⟩, rfl, trivial⟩
        · skip
          have hp110 := ifFd hp101 hc107
          clear hp101
          refine w_skip (q_t ?_)
          refine w_seq ?_
          refine w_reg ?_
          refine r_mv (r_mul rfl rfl ?_)
          refine r_litI (κ := .i64) [(w64 (2 * x99))] sl_I64 ze_i64 rfl rfl trivial (fun _ _ => trivial) rfl rfl rfl rfl fun b111 v112 h113 I114 E115 hl116 hl117 => ?_
          have S118 := sp_one hl116 hl117
          have K120 := K106.no E115 S118 I114
          have K127 := ((K120.a0).grab p0)
          refine r_litRows (c := (cI .i64)) (el := 2) [[b111]] [v112] [([(w64 (2 * x99))] : List Int)] sl_MM ze_I64 rfl rfl trivial (fun _ _ => trivial) rfl rfl rfl rfl (one_cons (K120.o p0).isOne one_nil) ⟨(K120.o p0), trivial⟩ (by simp) fun b121 v122 h123 I124 E125 hs126 => ?_
          have K129 := K127.lit E125 I124 (by simpa using hs126)
          refine r_mv ?_
          obtain ⟨⟨x130, x131⟩, hx132, hp133⟩ := obind hp110
          clear hp110
          dsimp only at hp133
          refine r_callE trivial (fun _ _ => trivial) rfl (modInv_P (K129.o2 p0).rd hx132) fun xv137 h135 E134 hk136 => ?_
          obtain ⟨v138, rfl, I139⟩ := hk136
          have K144 := K129.e E134
          refine r_mv (r_ext rfl rfl (r_ext rfl rfl (r_as (r_as (r_nil (q_t ?_))))))
          refine w_seq ?_
          refine w_drawB (fun h' => UpT [] h135 h') (by kernel_rfl) ?_
          have hB145 : UpT [] h135 h135 := UpT.start all_nil
          refine r_mv (r_mv (r_mv (r_mv (r_mv (r_mul rfl rfl ?_)))))
          obtain ⟨x146, hx147, hp148⟩ := obind hp133
          clear hp133
          refine r_callE hB145 (fun _ E => hB145.thenE E) rfl (P_line_norm_ok (K144.o2 p3).rd (H7.ext K144.x) hx147) fun xv152 h150 E149 hk151 => ?_
          subst hk151
          have sz153 := E149.1
          have hB154 := hB145.thenE E149
          have K155 := K144.e E149
          refine r_mv ?_
          obtain ⟨hn156, hp157⟩ := ifN hp148
          clear hp148
          refine r_quo rfl rfl hn156 (r_sub rfl rfl (r_mv ?_))
          obtain ⟨x158, hx159, hp160⟩ := obind hp157
          clear hp157
          refine r_ixR sl_MM rfl I139 rfl hx159 fun b161 o162 r163 hc164 H165 => ?_
          refine r_ldB na_I64 rfl hB154 (fun h' hb => cellH_ext hc164 hb.ext) ?_
          obtain ⟨x167, hx168, hp169⟩ := obind hp160
          clear hp160
          refine r_ixC (c := (cI .i64)) sl_I64 rfl H165 rfl hx168 fun b170 o171 cs172 hr173 hc174 => ?_
          obtain rfl := hr173
          refine r_ldB na_i64 rfl hB154 (fun h' hb => cellH_ext (hc174 0 _ rfl) hb.ext) (r_mul rfl rfl (r_mv ?_))
          obtain ⟨hn175, hp176⟩ := ifN hp169
          clear hp169
          refine r_rem rfl rfl hn175 (r_as (r_nil (q_t ?_)))
          refine w_seq ?_
          refine w_reg ?_
          refine r_mv (r_mv ?_)
          obtain ⟨x177, hx178, hp179⟩ := obind hp176
          clear hp176
          refine r_ixO sl_I64 rfl (K155.o p2) rfl hx178 fun g180 hF181 => ?_
          obtain ⟨cs182, hr183, hc184⟩ := (K155.o p2).cells hF181 hx178
          obtain rfl := hr183
          refine r_ld na_i64 rfl (hc184 0 _ rfl) (r_mv (r_mv (r_mul rfl rfl (r_add rfl rfl (r_ixO sl_I64 rfl (K155.o p2) rfl hx178 fun g185 hF186 => ?_)))))
          refine r_stO (stEl_na na_i64 rfl rfl rfl) (K155.o p2) hF186 hx178 (show ((cI .i64)).rep _ (w64 (x177 + (w64 (a5 * (Int.tmod (w64 ((w64 (a5 - (w64 (Int.tdiv x146 a5)))) * x167)) a5))))) _ from rfl) fun h187 I189 U188 => ?_
          have K190 := K155.uO p2 U188 I189
          refine r_nil (q_t ?_)
          have hq191 := Option.some.inj hp179
          subst hq191
          have hp192 := hr87
          change _ = ex67 at hp192
          subst hp192
          have hp193 := hp69
          try dsimp only at hp193
          refine w_exit (q_bn (by decide) (q_tx (q_tx (q_bx (q_t ?_)))))
          refine w_seq ?_
          refine w_reg ?_
          refine r_mv (r_as (r_as (r_nil (q_t ?_))))
          refine w_ret ?_
          have hq194 := Option.some.inj hp193
          subst hq194
          exact ⟨_, retV_2, K190.x, _, _, rfl, (K190.o p2), K190.s.sel [2] (by decide)⟩
      · skip
        have hp195 := ifFd hb86 hc88
        clear hb86
        have hq196 := Option.some.inj hp195
        subst hq196
        have hp197 := hr87
        change _ = ex67 at hp197
        subst hp197
        have hp198 := hp69
        try dsimp only at hp198
        refine w_exit (q_tx (q_tx (q_bx (q_t ?_))))
        refine w_seq ?_
        refine w_reg ?_
        refine r_mv (r_as (r_as (r_nil (q_t ?_))))
        refine w_ret ?_
        have hq199 := Option.some.inj hp198
        subst hq199
        exact ⟨_, retV_2, K78.x, _, _, rfl, (K78.o p0), K78.s.sel [0] (by decide)⟩
end Go.Proofs.YtiegjkmfpcgjjaaDoor
/-
  the lines of a form, walked.
-/
namespace Go.Proofs.YtiegjkmfpcgjjaaDoor
open Go Go.QF
set_option linter.unusedVariables false
set_option linter.unusedSimpArgs false
set_option maxRecDepth 100000
set_option maxHeartbeats 4000000
noncomputable def P_line_Lines_b7 (fuel : Nat) (e81 : Int) (s4637 : Int) (s5489 : Int) (s5490 : (List Int)) : Option ((Int × (List Int)) ⊕ ((Int × (List Int)))) :=
  (((if s4637 < s5489 then ((gI s5490 s5489).bind fun x5505 => (if x5505 = (w64 (e81 - 1)) then (some (Sum.inl <| ())) else (some (Sum.inr <|  ())))) else (some (Sum.inr <|  ()))) : Option ((Unit) ⊕ (Unit))).bind (fun ex => match ex with | Sum.inl _ => ((gI s5490 s5489).bind fun x5515 => (some (Sum.inl ((w64 (s5489 - 1)), (sI s5490 s5489 0))))) | Sum.inr (_) => (some (Sum.inr<|  (s5489, s5490)))))
noncomputable def P_line_Lines_b4 (fuel : Nat) (a5 : Int) (x23 : (List (List Int))) (e79 : Int) (e81 : Int) (s4637 : Int) (s5244 : (List (List Int))) (s5249 : (List Int)) : Option (((List (List Int)) × (List Int)) ⊕ (((List (List Int))))) :=
  ((((P_line_norm fuel x23 s5249 a5).bind fun x5287 => (if x5287 = 0 then ((P_slices_Clone fuel s5249).bind fun x5297 => (if s5244.length ≤ 100000000 then (some ( (s5244 ++ [x5297]))) else none)) else (some ( s5244)))) : Option ((List (List Int)))).bind fun e5323 => ((((iter (fun s => P_line_Lines_b7 fuel e81 s4637 s.1 s.2) fuel ((w64 (e79 - 1)), s5249)).bind (fun ((e5521, e5522) : Int × (List Int)) => (some ( (e5521, e5522))))) : Option ((Int × (List Int)))).bind (fun ((e5523, e5524) : Int × (List Int)) => (if e5523 = s4637 then (some (Sum.inr<|  e5323)) else ((gI e5524 e5523).bind fun x5528 => (some (Sum.inl (e5323, (sI e5524 e5523 (w64 (x5528 + 1)))))))))))
noncomputable def P_line_Lines_b3 (fuel : Nat) (a5 : Int) (x23 : (List (List Int))) (e79 : Int) (e81 : Int) (s4637 : Int) (s4638 : (List (List Int))) : Option ((Int × (List (List Int))) ⊕ (((List (List Int))))) :=
  (if 0 ≤ s4637 then (if 0 ≤ e79 ∧ e79 ≤ 100000000 then ((gI (List.replicate (Int.toNat e79) (0 : Int)) s4637).bind fun x4655 => ((iter (fun s => P_line_Lines_b4 fuel a5 x23 e79 e81 s4637 s.1 s.2) fuel (s4638, (sI (List.replicate (Int.toNat e79) (0 : Int)) s4637 1))).bind (fun (e5539 : (List (List Int))) => (some (Sum.inl ((w64 (s4637 - 1)), e5539)))))) else none) else (some (Sum.inr<|  s4638)))
noncomputable def P_line_Lines (fuel : Nat) (a3 : (List (List Int))) (a5 : Int) : Option ((List (List Int)) × Int) :=
  ((P_line_checkSize fuel a3 a5).bind fun x12 => (if ¬ x12 = 0 then (some ([], x12)) else ((P_modular_Residues fuel a3 a5).bind fun (x23, x24) => (((some ( ((a3.length : Int), a5))) : Option (Int × Int)).bind fun (e79, e81) => ((((iter (fun s => P_line_Lines_b3 fuel a5 x23 e79 e81 s.1 s.2) fuel ((w64 (e79 - 1)), [])).bind (fun (e5546 : (List (List Int))) => (some ( e5546)))) : Option ((List (List Int)))).bind fun e5552 => (some (e5552, 0)))))))
theorem P_line_Lines_ok {fuel : Nat} {h : Heap} {pv1 : Value} {a3 : (List (List Int))} {a5 : Int} {r : ((List (List Int)) × Int)} (H2 : SlC2 (cI .i64) h pv1 a3) (HO : OffH h) (hp : P_line_Lines fuel a3 a5 = some r) : CallH Tryd.prog 10 #[pv1, (.int .i64 a5)] h (fun x h' => Ext h h' ∧ ∃ (x0 : Value) (F0 : List Nat) (Gs0 : List (List Nat)) (rs0 : List Value), x = .tuple #[x0, .int .i64 r.2] ∧ OwC2 (cI .i64) 23 2 h' F0 Gs0 rs0 x0 r.1 ∧ Sp h' (Array.size h) [F0]) := by
  unfold P_line_Lines at hp
  have K0 := Kst.k0 h
  refine calls_of_WR (l := [_, _]) mx Tryd.func10 rfl rfl rfl rfl rfl (by kernel_rfl) ?_
  refine x_seqB (by kernel_rfl) ?_
  refine w_reg ?_
  refine r_boxE [(.int .i64 a5)] trivial (fun _ _ => trivial) rfl rfl fun b6 h7 V8 E9 S10 => ?_
  have K12 := K0.nb E9 S10 V8
  refine r_as (r_as (r_nil (q_t ?_)))
  refine x_seqB (by kernel_rfl) ?_
  refine w_seq ?_
  refine w_reg ?_
  refine r_mv ?_
  refine r_ld na_i64 rfl ((K12.b p0).cell (i := 0) rfl) ?_
  obtain ⟨x13, hx14, hp15⟩ := obind hp
  clear hp
  refine r_callE trivial (fun _ _ => trivial) rfl (P_line_checkSize_ok (H2.ext K12.x) (HO.ext K12.x) hx14) fun xv19 h17 E16 hk18 => ?_
  subst hk18
  have K20 := K12.e E16
  refine r_as (r_nil (q_t ?_))
  refine w_seq ?_
  refine w_reg ?_
  refine r_mv (r_cmp rfl rfl (cmp_neq _ _) (r_nil (q_t ?_)))
  refine ⟨_, rfl, fun hc21 => ?_, fun hc21 => ?_⟩
  · skip
    have hp22 := ifTd hp15 hc21
    clear hp15
    refine w_seq ?_
    refine w_reg ?_
    refine r_mv (r_as (r_as (r_nil (q_t ?_))))
    refine w_ret (q_tr ?_)
    have K25 := Kst.anil2 (cI .i64) 23 2 K20
    have hq23 := Option.some.inj hp22
    subst hq23
    exact ⟨_, retV_2, K25.x, _, _, _, _, rfl, (K25.o2 p0), K25.s.sel [0] (by decide)⟩
  · skip
    have hp26 := ifFd hp15 hc21
    clear hp15
    refine w_skip (q_t ?_)
    refine x_seqB (by kernel_rfl) ?_
    refine w_reg ?_
    refine r_mv ?_
    refine r_ld na_i64 rfl ((K20.b p0).cell (i := 0) rfl) ?_
    obtain ⟨⟨x27, x28⟩, hx29, hp30⟩ := obind hp26
    clear hp26
    dsimp only at hp30
    refine r_callE trivial (fun _ _ => trivial) rfl (P_modular_Residues_ok (H2.ext K20.x) hx29) fun xv34 h32 E31 hk33 => ?_
    obtain ⟨v35, F38, G39, rs40, rfl, I36, S41⟩ := hk33
    have K42 := K20.no2 E31 S41 I36
    refine r_mv (r_ext rfl rfl (r_ext rfl rfl ?_))
    refine r_allocE [(.slice none 0 0)] ze_MM rfl trivial (fun _ _ => trivial) fun b43 h44 V45 E46 S47 => ?_
    have K49 := K42.nb E46 S47 V45
    refine r_stB [v35] na_MM rfl rfl (K49.o2 p1).isOne (K49.b p0) (Nat.le_of_ble_eq_true rfl) rfl fun h50 I52 U53 => ?_
    have K54 := K49.sb p0 U53 I52 rfl
    refine r_as (r_nil (q_t ?_))
    refine x_seqB (by kernel_rfl) ?_
    refine w_reg ?_
    refine r_allocE [(.slice none 0 0)] ze_MM rfl trivial (fun _ _ => trivial) fun b55 h56 V57 E58 S59 => ?_
    have K61 := K54.nb E58 S59 V57
    refine r_nil (q_t ?_)
    refine x_seqA (by kernel_rfl) ?_
    refine x_seqB (by kernel_rfl) ?_
    refine w_reg ?_
    refine r_mv ?_
    refine r_lenR sl_MM rfl H2 ?_
    refine r_ld na_i64 rfl ((K61.b p3).cell (i := 0) rfl) ?_
    obtain ⟨ex62, hj63, hp64⟩ := obind hp30
    clear hp30
    refine r_call (K' := (fun xr h' => ∃ x : (Nat) × (Int) × (Nat) × (Int), (x.2.1, x.2.2.2) = ex62 ∧ xr = (.func (.func 31) #[] #[(.pointer (some ⟨x.1, 0, none⟩)), (.pointer (some ⟨x.2.2.1, 0, none⟩))]) ∧ Kst h h' (aB 3 x.1 [(.int .i64 x.2.1)] :: aB 2 x.2.2.1 [(.int .i64 x.2.2.2)] :: K61.L))) trivial rfl ?_ fun xv65 h66 hk67 => ?_
    · skip
      refine calls_of_W (l := [_, _]) mx Tryd.func21 rfl rfl rfl rfl rfl (by kernel_rfl) ?_
      refine w_seq ?_
      refine w_reg ?_
      refine r_boxE [(.int .i64 (a3.length : Int))] trivial (fun _ _ => trivial) rfl rfl fun b68 h69 V70 E71 S72 => ?_
      have K74 := K61.nb E71 S72 V70
      refine r_boxE [(.int .i64 a5)] trivial (fun _ _ => trivial) rfl rfl fun b75 h76 V77 E78 S79 => ?_
      have K81 := K74.nb E78 S79 V77
      refine r_as (r_nil (q_t ?_))
      refine w_seq ?_
      refine w_reg ?_
      refine r_mf rfl (r_as (r_nil (q_t ?_)))
      refine w_ret ?_
      refine ⟨_, retV_1, ((b68, (a3.length : Int), b75, a5) : (Nat) × (Int) × (Nat) × (Int)), ?_, rfl, ?_⟩
      · exact Option.some.inj hj63
      · exact K81.sel [1, 0, 2, 3, 4, 5] (by decide)
    obtain ⟨⟨q86, u87, q88, u89⟩, hq82, rfl, K85⟩ := hk67
    try dsimp only [Kst.L, List.set, selA, nthA] at K85
    refine ⟨trivial, ?_⟩
    subst hq82
    have hp92 := hp64
    try dsimp only at hp92
    refine r_nil (q_t ?_)
    refine x_range mx (by kernel_rfl) ⟨_, [(.pointer (some ⟨q86, 0, none⟩)), (.pointer (some ⟨q88, 0, none⟩))], rfl, fun h_rf rf_r rf_b rf_ol rf_ob rf_oe hE_rf l1_rf l2_rf l3_rf l4_rf hne_rf hd_rf hl_rf dg1 dg2 dg3 hY_rf => ?_⟩
    have K98 := K85.rg hE_rf l1_rf l2_rf l3_rf l4_rf hne_rf hd_rf hl_rf
    obtain ⟨ex95, hj96, hp97⟩ := obind hp92
    clear hp92
    refine CallH.mono (K := (fun xr h' => ∃ x : ((List (List Int))) × (Value) × (List Nat) × (List (List Nat)) × (List Value), x.1 = ex95 ∧ xr = .tuple #[] ∧ Kst h h' (aO2 (cI .i64) 23 2 x.2.2.1 x.2.2.2.1 x.2.2.2.2 x.2.1 x.1 :: (K98.L.set 4 (aB 22 b55 [x.2.1]))))) ?_ fun xv100 h101 hk102 => ?_
    · skip
      refine calls_of_W (l := [_, _, _]) mx Tryd.func31 rfl rfl rfl rfl rfl (by kernel_rfl) ?_
      refine w_seq ?_
      refine w_reg ?_
      refine r_ld na_int rfl ((K98.b p2).cell (i := 0) rfl) (r_sub rfl rfl (r_as (r_nil (q_t ?_))))
      refine w_block ?_
      obtain ⟨ex103, hL104, hp105⟩ := obind hj96
      clear hj96
      obtain ⟨bd106, hbd107, hL108⟩ := iter_gen hL104
      clear hL104
      have K110 := Kst.anil2 (cI .i64) 23 2 K98
      refine w_loop 1125899906842224 (fun x : (Int) × ((List (List Int))) × (Value) × (List Nat) × (List (List Nat)) × (List Value) => [(4, (.int .i64 x.1))]) (fun (k : Nat) (x : (Int) × ((List (List Int))) × (Value) × (List Nat) × (List (List Nat)) × (List Value)) (h' : Heap) => iter bd106 k (x.1, x.2.1) = some ex103 ∧ Kst h h' ((K110.L.set 0 (aO2 (cI .i64) 23 2 x.2.2.2.1 x.2.2.2.2.1 x.2.2.2.2.2 x.2.2.1 x.2.1)).set 5 (aB 22 b55 [x.2.2.1]))) (by kernel_rfl) fuel (((w64 (u87 - 1)), [], (.slice none 0 0), [], [], []) : (Int) × ((List (List Int))) × (Value) × (List Nat) × (List (List Nat)) × (List Value)) ?_ ⟨rfl, trivial⟩ ?_
      · exact ⟨hL108, K110⟩
      rintro k112 ⟨u117, u118, q119, q120, q121, q122⟩ sv115 h114 ⟨hk113, K116⟩
      try dsimp only [Kst.L, List.set, selA, nthA] at K116
      refine (show W _ _ _ (setL [(4, (.int .i64 u117))] (mix _ sv115 _)) h114 from ?_)
      obtain ⟨k125, rr126, rfl, hb127, hr128⟩ := iter_step hk113
      clear hk113
      rw [hbd107] at hb127
      dsimp only at hb127
      unfold P_line_Lines_b3 at hb127
      refine w_seq ?_
      refine w_seq ?_
      refine w_reg ?_
      refine r_mv (r_cmp rfl rfl (cmp_geq _ _) (r_nil (q_t ?_)))
      refine ⟨_, rfl, fun hc129 => ?_, fun hc129 => ?_⟩
      · skip
        have hp130 := ifTd hb127 hc129
        clear hb127
        refine w_skip (q_t ?_)
        refine w_seq ?_
        refine w_block ?_
        refine w_seq ?_
        refine w_reg ?_
        refine r_ld na_int rfl ((K116.b p3).cell (i := 0) rfl) ?_
        obtain ⟨hn131, hp132⟩ := ifN hp130
        clear hp130
        refine r_mkC1 (c := (cI .i64)) (a := 0) sl_I64 ze_i64 rfl rfl (fun _ => rfl) rfl trivial (fun _ _ => trivial) rfl rfl (by decide) hn131 fun b138 v137 h135 I136 E133 hl140 hl141 => ?_
        have S134 := sp_one hl140 hl141
        have K142 := K116.no E133 S134 I136
        refine r_as (r_nil (q_t ?_))
        refine w_seq ?_
        refine w_reg ?_
        refine r_mv (r_mv ?_)
        obtain ⟨x143, hx144, hp145⟩ := obind hp132
        clear hp132
        refine r_ixO sl_I64 rfl (K142.o p0) rfl hx144 fun g146 hF147 => ?_
        refine r_stO (stEl_na na_i64 rfl rfl rfl) (K142.o p0) hF147 hx144 (show ((cI .i64)).rep _ 1 _ from rfl) fun h148 I150 U149 => ?_
        have K151 := K142.uO p0 U149 I150
        refine r_nil (q_t ?_)
        refine w_block ?_
        obtain ⟨ex152, hL153, hp154⟩ := obind hp145
        clear hp145
        obtain ⟨bd155, hbd156, hL157⟩ := iter_gen hL153
        clear hL153
        refine w_loop 1125899906580544 (fun x : ((List (List Int))) × (Value) × (List Nat) × (List (List Nat)) × (List Value) × ((List Int)) => []) (fun (k : Nat) (x : ((List (List Int))) × (Value) × (List Nat) × (List (List Nat)) × (List Value) × ((List Int))) (h' : Heap) => iter bd155 k (x.1, x.2.2.2.2.2) = some ex152 ∧ Kst h h' (((K151.L.set 1 (aO2 (cI .i64) 23 2 x.2.2.1 x.2.2.2.1 x.2.2.2.2.1 x.2.1 x.1)).set 0 (aO (cI .i64) 2 [b138] v137 x.2.2.2.2.2)).set 6 (aB 22 b55 [x.2.1]))) (by kernel_rfl) fuel ((u118, q119, q120, q121, q122, (sI (List.replicate (Int.toNat u87) (0 : Int)) u117 1)) : ((List (List Int))) × (Value) × (List Nat) × (List (List Nat)) × (List Value) × ((List Int))) ?_ trivial ?_
        · exact ⟨hL157, K151⟩
        rintro k159 ⟨u164, q165, q166, q167, q168, u169⟩ sv162 h161 ⟨hk160, K163⟩
        try dsimp only [Kst.L, List.set, selA, nthA] at K163
        refine (show W _ _ _ (setL [] (mix _ sv162 _)) h161 from ?_)
        obtain ⟨k173, rr174, rfl, hb175, hr176⟩ := iter_step hk160
        clear hk160
        rw [hbd156] at hb175
        dsimp only at hb175
        unfold P_line_Lines_b4 at hb175
        refine w_block ?_
        refine w_seq ?_
        refine w_seq ?_
        refine w_yield2 (l := rf_b) (by kernel_rfl) ?_
        refine r_mv (r_mv (r_nil ⟨rfl, _, rfl, ?_⟩))
        obtain ⟨ex177, hj178, hp179⟩ := obind hb175
        clear hb175
        refine YieldH.mono (K' := (fun xr h' => ∃ x : ((List (List Int))) × (Value) × (List Nat) × (List (List Nat)) × (List Value), x.1 = ex177 ∧ xr = .bool true ∧ Kst h h' ((K163.L.set 1 (aO2 (cI .i64) 23 2 x.2.2.1 x.2.2.2.1 x.2.2.2.2 x.2.1 x.1)).set 6 (aB 22 b55 [x.2.1])))) ?_ fun xv181 h182 hk183 => ?_
        · skip
          refine hY_rf _ _ _ (K163.ob p3) ?_
          refine v_reg ?_
          refine r_as (r_nil ?_)
          refine ⟨(K163.ob p3), ?_⟩
          obtain ⟨h184, hh186, U185, K187⟩ := K163.uob (o' := rf_ob) p3 dg1 dg2
          rw [hh186]
          refine v_block ?_
          refine v_seq ?_
          refine v_reg ?_
          refine r_ld na_MM rfl ((K187.b p7).cell (i := 0) rfl) (r_mv ?_)
          refine r_ld na_i64 rfl ((K187.b p9).cell (i := 0) rfl) ?_
          obtain ⟨x188, hx189, hp190⟩ := obind hj178
          clear hj178
          refine r_callE trivial (fun _ _ => trivial) rfl (P_line_norm_ok (K187.o2 p8).rd (K187.o p0).rd hx189) fun xv194 h192 E191 hk193 => ?_
          subst hk193
          have K195 := K187.e E191
          refine r_cmp rfl rfl (cmp_eql _ _) (r_nil (q_t ?_))
          refine ⟨_, rfl, fun hc196 => ?_, fun hc196 => ?_⟩
          · skip
            have hp197 := ifTd hp190 hc196
            clear hp190
            refine v_drawB (fun h' => UpT (q166 ++ []) h192 h') (by kernel_rfl) ?_
            have hB198 : UpT (q166 ++ []) h192 h192 := UpT.start (all_app (K195.o2 p1).notD all_nil)
            refine r_ldB na_MM rfl hB198 (fun h' hb => ((K195.b p6).upT hb (dj_app (K195.dj p6 p1 (by decide)) dj_nil)).cell (i := 0) rfl) (r_mv ?_)
            obtain ⟨x199, hx200, hp201⟩ := obind hp197
            clear hp197
            refine r_callE hB198 (fun _ E => hB198.thenE E) rfl (P_slices_Clone_ok (K195.o p0).rd hx200) fun xv205 h203 E202 hk204 => ?_
            obtain ⟨v206, F209, rfl, I207, S210⟩ := hk204
            have sz211 := E202.1
            have hB212 := hB198.thenE E202
            have K213 := K195.no E202 S210 I207
            have lo214 := S210.loAll 0 rfl
            obtain ⟨hn215, hp216⟩ := ifN hp201
            clear hp201
            refine r_pushR sl_MM ze_I64 rfl rfl hB212 (fun _ U => hB212.then U (fr_in rfl)) (fun _ => rfl) rfl (K213.o p0) (K213.o2 p2) (K213.dj p0 p2 (by decide)) (by decide) hn215 fun pp217 F218 v219 h220 I221 U222 hs223 => ?_
            have sz224 := U222.size
            have hB225 := hB212.then U222 (fr_in rfl)
            have K227 := K213.m2 p0 p2 (by decide) U222 I221 hs223
            refine r_stB [v219] na_MM rfl rfl (K227.o2 p2).isOne (K227.b p7) (Nat.le_of_ble_eq_true rfl) rfl fun h228 I230 U231 => ?_
            have sz232 := U231.1
            have K234 := K227.sb p7 U231 I230 rfl
            refine r_nil (q_b ?_)
            refine ⟨(K234.ob p4), ?_⟩
            obtain ⟨h235, hh237, U236, K238⟩ := K234.uob (o' := rf_ol) p4 dg2 dg1
            rw [hh237]
            refine ⟨(((u164 ++ [x199]), v219, F218, (q167 ++ [F209]), (q168 ++ [xv205])) : ((List (List Int))) × (Value) × (List Nat) × (List (List Nat)) × (List Value)), ?_, rfl, ?_⟩
            · exact Option.some.inj hp216
            · exact K238.sel [1, 2, 3, 4, 5, 6, 7, 8, 9, 10] (by decide)
          · skip
            have hp239 := ifFd hp190 hc196
            clear hp190
            refine v_skip (q_b ?_)
            refine ⟨(K195.ob p3), ?_⟩
            obtain ⟨h240, hh242, U241, K243⟩ := K195.uob (o' := rf_ol) p3 dg2 dg1
            rw [hh242]
            refine ⟨((u164, q165, q166, q167, q168) : ((List (List Int))) × (Value) × (List Nat) × (List (List Nat)) × (List Value)), ?_, rfl, ?_⟩
            · exact Option.some.inj hp239
            · exact K243
        obtain ⟨⟨u248, q249, q250, q251, q252⟩, hq244, rfl, K247⟩ := hk183
        try dsimp only [Kst.L, List.set, selA, nthA] at K247
        subst hq244
        have hp255 := hp179
        try dsimp only at hp255
        refine r_not rfl (r_nil (q_t ?_))
        refine w_false rfl ?_
        refine w_skip (q_t ?_)
        refine w_seq ?_
        refine w_reg ?_
        refine r_ld na_int rfl ((K247.b p4).cell (i := 0) rfl) (r_sub rfl rfl (r_as (r_nil (q_t ?_))))
        obtain ⟨ex256, hj257, hp258⟩ := obind hp255
        clear hp255
        refine w_join 2199006478400 (fun x : (Int) × ((List Int)) => [(6, (.int .i64 x.1))]) (fun (x : (Int) × ((List Int))) (h' : Heap) => ( (x.1, x.2)) = ex256 ∧ Kst h h' (K247.L.set 0 (aO (cI .i64) 2 [b138] v137 x.2))) (by kernel_rfl) ?_ ?_
        · skip
          refine w_block ?_
          obtain ⟨ex259, hL260, hp261⟩ := obind hj257
          clear hj257
          obtain ⟨bd262, hbd263, hL264⟩ := iter_gen hL260
          clear hL260
          refine w_loop 2199006478400 (fun x : (Int) × ((List Int)) => [(6, (.int .i64 x.1))]) (fun (k : Nat) (x : (Int) × ((List Int))) (h' : Heap) => iter bd262 k (x.1, x.2) = some ex259 ∧ Kst h h' (K247.L.set 0 (aO (cI .i64) 2 [b138] v137 x.2))) (by kernel_rfl) fuel (((w64 (u87 - 1)), u169) : (Int) × ((List Int))) ?_ ⟨rfl, trivial⟩ ?_
          · exact ⟨hL264, K247⟩
          rintro k265 ⟨u270, u271⟩ sv268 h267 ⟨hk266, K269⟩
          try dsimp only [Kst.L, List.set, selA, nthA] at K269
          refine (show W _ _ _ (setL [(6, (.int .i64 u270))] (mix _ sv268 _)) h267 from ?_)
          obtain ⟨k273, rr274, rfl, hb275, hr276⟩ := iter_step hk266
          clear hk266
          rw [hbd263] at hb275
          dsimp only at hb275
          unfold P_line_Lines_b7 at hb275
          obtain ⟨ex277, hj278, hp279⟩ := obind hb275
          clear hb275
          refine w_join 68702699520 (fun x : Unit => []) (fun (x : Unit) (h' : Heap) => (Sum.inl <| ()) = ex277 ∧ Kst h h' (K269.L)) (by kernel_rfl) ?_ ?_
          · skip
            refine w_seq ?_
            refine w_draw (by kernel_rfl) ?_
            refine r_mv (r_mv (r_cmp rfl rfl (cmp_gtr _ _) (r_mv ?_)))
            rcases Decidable.em (u117 < u270) with hc280 | hc280
            · skip
              have hp281 := ifT hj278 hc280
              clear hj278
              rw [show decide (u117 < u270) = true from decide_eq_true hc280]
              refine r_want 27 true (by kernel_rfl) rfl rfl (r_mv (r_want 27 true (by kernel_rfl) rfl rfl (r_mv (r_want 27 true (by kernel_rfl) rfl rfl ?_))))
              obtain ⟨x282, hx283, hp284⟩ := obind hp281
              clear hp281
              refine r_ixO sl_I64 rfl (K269.o p0) rfl hx283 fun g285 hF286 => ?_
              refine r_want 27 true (by kernel_rfl) rfl rfl ?_
              obtain ⟨cs287, hr288, hc289⟩ := (K269.o p0).cells hF286 hx283
              obtain rfl := hr288
              refine r_ld na_i64 rfl (hc289 0 _ rfl) (r_want 27 true (by kernel_rfl) rfl rfl ?_)
              refine r_ld na_i64 rfl ((K269.b p5).cell (i := 0) rfl) (r_want 27 true (by kernel_rfl) rfl rfl (r_sub rfl rfl (r_want 27 true (by kernel_rfl) rfl rfl (r_cmp rfl rfl (cmp_eql _ _) (r_pickT rfl (r_nil (q_t ?_)))))))
              refine ⟨_, rfl, fun hc290 => ?_, fun hc290 => ?_⟩
              · skip
                have hp291 := ifTd hp284 hc290
                clear hp284
                refine w_skip (q_t ?_)
                exact ⟨(() : Unit), ⟨Option.some.inj hp291, K269⟩, trivial⟩
              · skip
                have hp292 := ifFd hp284 hc290
                clear hp284
                have hq293 := Option.some.inj hp292
                subst hq293
                have hp295 := hp279
                try dsimp only at hp295
                have hq296 := Option.some.inj hp295
                subst hq296
                have hp297 := hr276
                change _ = ex259 at hp297
                subst hp297
                have hp298 := hp261
                try dsimp only at hp298
                refine w_exit (q_tx (q_tx (q_bx (q_t ?_))))
                exact ⟨((u270, u271) : (Int) × ((List Int))), ⟨Option.some.inj hp298, K269⟩, rfl, trivial⟩
            · skip
              have hp299 := ifF hj278 hc280
              clear hj278
              rw [show decide (u117 < u270) = false from decide_eq_false hc280]
              refine r_skip 27 false (by kernel_rfl) rfl rfl (r_skip 27 false (by kernel_rfl) rfl rfl (r_skip 27 false (by kernel_rfl) rfl rfl (r_skip 27 false (by kernel_rfl) rfl rfl (r_skip 27 false (by kernel_rfl) rfl rfl (r_skip 27 false (by kernel_rfl) rfl rfl (r_skip 27 false (by kernel_rfl) rfl rfl (r_pickF rfl (r_nil (q_t ?_)))))))))
              refine w_false rfl ?_
              have hq300 := Option.some.inj hp299
              subst hq300
              have hp302 := hp279
              try dsimp only at hp302
              have hq303 := Option.some.inj hp302
              subst hq303
              have hp304 := hr276
              change _ = ex259 at hp304
              subst hp304
              have hp305 := hp261
              try dsimp only at hp305
              refine w_exit (q_tx (q_tx (q_bx (q_t ?_))))
              exact ⟨((u270, u271) : (Int) × ((List Int))), ⟨Option.some.inj hp305, K269⟩, rfl, trivial⟩
          rintro ⟨⟩ sv308 h307 ⟨hk306, K309⟩
          try dsimp only [Kst.L, List.set, selA, nthA] at K309
          refine (show W _ _ _ (setL [] (mix _ sv308 _)) h307 from ?_)
          subst hk306
          have hp310 := hp279
          try dsimp only at hp310
          refine w_block ?_
          refine w_seq ?_
          refine w_reg ?_
          refine r_mv (r_mv ?_)
          obtain ⟨x311, hx312, hp313⟩ := obind hp310
          clear hp310
          refine r_ixO sl_I64 rfl (K309.o p0) rfl hx312 fun g314 hF315 => ?_
          refine r_stO (stEl_na na_i64 rfl rfl rfl) (K309.o p0) hF315 hx312 (show ((cI .i64)).rep _ 0 _ from rfl) fun h316 I318 U317 => ?_
          have K319 := K309.uO p0 U317 I318
          refine r_nil (q_t ?_)
          refine w_reg ?_
          refine r_mv (r_sub rfl rfl (r_as (r_nil (q_b (q_t ?_)))))
          have hq320 := Option.some.inj hp313
          subst hq320
          exact ⟨k273, (((w64 (u270 - 1)), (sI u271 u270 0)) : (Int) × ((List Int))), Nat.lt_succ_self _, ⟨hr276, K319⟩, rfl, trivial⟩
        rintro ⟨u325, u326⟩ sv323 h322 ⟨hk321, K324⟩
        try dsimp only [Kst.L, List.set, selA, nthA] at K324
        refine (show W _ _ _ (setL [(6, (.int .i64 u325))] (mix _ sv323 _)) h322 from ?_)
        subst hk321
        have hp328 := hp258
        try dsimp only at hp328
        refine w_seq ?_
        refine w_seq ?_
        refine w_reg ?_
        refine r_mv (r_mv (r_cmp rfl rfl (cmp_eql _ _) (r_nil (q_t ?_))))
        refine ⟨_, rfl, fun hc329 => ?_, fun hc329 => ?_⟩
        · skip
          have hp330 := ifTd hp328 hc329
          clear hp328
          have hq331 := Option.some.inj hp330
          subst hq331
          have hp332 := hr176
          change _ = ex152 at hp332
          subst hp332
          have hp333 := hp154
          try dsimp only at hp333
          refine w_exit (q_tx (q_bn (by decide) (q_tx (q_bx (q_b (q_t ?_))))))
          refine w_reg ?_
          refine r_mv (r_sub rfl rfl (r_as (r_nil (q_t ?_))))
          have hq334 := Option.some.inj hp333
          subst hq334
          exact ⟨k125, (((w64 (u117 - 1)), u248, q249, q250, q251, q252) : (Int) × ((List (List Int))) × (Value) × (List Nat) × (List (List Nat)) × (List Value)), Nat.lt_succ_self _, ⟨hr128, K324.sel [1, 2, 3, 4, 5, 6, 7, 8, 9] (by decide)⟩, rfl, trivial⟩
        · skip
          have hp335 := ifFd hp328 hc329
          clear hp328
          refine w_skip (q_t ?_)
          refine w_reg ?_
          refine r_mv (r_mv ?_)
          obtain ⟨x336, hx337, hp338⟩ := obind hp335
          clear hp335
          refine r_ixO sl_I64 rfl (K324.o p0) rfl hx337 fun g339 hF340 => ?_
          obtain ⟨cs341, hr342, hc343⟩ := (K324.o p0).cells hF340 hx337
          obtain rfl := hr342
          refine r_ld na_i64 rfl (hc343 0 _ rfl) (r_add rfl rfl (r_ixO sl_I64 rfl (K324.o p0) rfl hx337 fun g344 hF345 => ?_))
          refine r_stO (stEl_na na_i64 rfl rfl rfl) (K324.o p0) hF345 hx337 (show ((cI .i64)).rep _ (w64 (x336 + 1)) _ from rfl) fun h346 I348 U347 => ?_
          have K349 := K324.uO p0 U347 I348
          refine r_nil (q_b (q_t ?_))
          have hq350 := Option.some.inj hp338
          subst hq350
          exact ⟨k173, ((u248, q249, q250, q251, q252, (sI u326 u325 (w64 (x336 + 1)))) : ((List (List Int))) × (Value) × (List Nat) × (List (List Nat)) × (List Value) × ((List Int))), Nat.lt_succ_self _, ⟨hr176, K349⟩, trivial⟩
      · skip
        have hp351 := ifFd hb127 hc129
        clear hb127
        have hq352 := Option.some.inj hp351
        subst hq352
        have hp353 := hr128
        change _ = ex103 at hp353
        subst hp353
        have hp354 := hp105
        try dsimp only at hp354
        refine w_exit (q_tx (q_tx (q_bx ?_)))
        refine ⟨_, retV_none, ((u118, q119, q120, q121, q122) : ((List (List Int))) × (Value) × (List Nat) × (List (List Nat)) × (List Value)), ?_, rfl, ?_⟩
        · exact Option.some.inj hp354
        · exact K116
    obtain ⟨⟨u359, q360, q361, q362, q363⟩, hq355, rfl, K358⟩ := hk102
    try dsimp only [Kst.L, List.set, selA, nthA] at K358
    subst hq355
    have hp366 := hp97
    try dsimp only at hp366
    refine ⟨(K358.ob p2), ?_⟩
    obtain ⟨h367, hh369, U368, K370⟩ := K358.uob (o' := rf_oe) p2 dg1 dg3
    rw [hh369]
    refine q_t ?_
    refine v_seq ?_
    refine v_reg ?_
    refine r_ld na_MM rfl ((K370.b p5).cell (i := 0) rfl) (r_as (r_as (r_nil (q_t ?_))))
    refine v_ret ?_
    have hq371 := Option.some.inj hp366
    subst hq371
    refine ⟨(K370.ob p1), ?_⟩
    obtain ⟨h372, hh374, U373, K375⟩ := K370.uob (o' := (.deferred none)) p1 rfl rfl
    rw [hh374]
    exact ⟨_, retV_2, K375.x, _, _, _, _, rfl, (K375.o2 p0), K375.s.sel [0] (by decide)⟩
end Go.Proofs.YtiegjkmfpcgjjaaDoor
/-
  Plain: the checks of package line. Conditions stand in each statement.
-/
namespace Go.Proofs.YtiegjkmfpcgjjaaDoor
open Go Go.QF
set_option linter.unusedVariables false
set_option linter.unusedSimpArgs false
set_option maxRecDepth 100000
/-- the error of a matrix and a number; lim: more than 65536 vectors are refused -/
noncomputable def chkE (M : List (List Int)) (p : Int) (lim : Bool) : Int :=
  if isRed M = true then (if oddB p = true ∧ det M.length (ent M) % p ≠ 0 then (if lim = true ∧ 65536 < p ^ M.length then 7 else 0) else 20) else 6
theorem pts_loop {E : Type} {body : Int × Int → Option ((Int × Int) ⊕ (E ⊕ Unit))} {fuel n : Nat} {p : Int} {x : E} (hp : 2 ≤ p) (hp2 : p ≤ 9973) (hn : n ≤ 16) (hf : 100 < fuel)
    (hb : ∀ a b, body (a, b) = if b < (n : Int) then (if 65536 < w64 (a * p) then some (.inr (.inl x)) else some (.inl (w64 (a * p), w64 (b + 1)))) else some (.inr (.inr ()))) : Ok (iter body fuel (1, 0)) fun e => (e = .inl x ∧ 65536 < p ^ n) ∨ (e = .inr () ∧ p ^ n ≤ 65536) := by
  refine ok_iter (fun i s => s = (p ^ i, (i : Int)) ∧ i ≤ n ∧ p ^ i ≤ 65536) n ⟨by simp, Nat.zero_le _, by simp⟩ (by omega) fun i s hi hI => ?_
  obtain ⟨rfl, h1, h2⟩ := hI
  rw [hb]
  have hpos : 0 < p ^ i := Int.pow_pos (by omega)
  have hm : p ^ i * p ≤ 65536 * 9973 := Int.mul_le_mul h2 hp2 (by omega) (by omega)
  have hm0 : 0 ≤ p ^ i * p := Int.mul_nonneg (by omega) (by omega)
  have hs : p ^ (i + 1) = p ^ i * p := Int.pow_succ p i
  refine ok_if (fun h => ?_) fun h => ok_some (.inr ⟨rfl, by
    obtain rfl : i = n := by omega
    exact h2⟩)
  rw [wrap_ok (by omega) (by omega)]
  refine ok_if (fun h3 => ok_some (.inl ⟨rfl, ?_⟩)) fun h3 => ok_some ⟨by omega, by rw [w64_succ (by omega), hs], by omega, by rw [hs]; omega⟩
  have := pow_mono_exp (p := p) (by omega) (show i + 1 ≤ n by omega)
  omega
theorem odd_rng {p : Int} (h : oddB p = true) : 3 ≤ p ∧ p ≤ 9973 := by have := of_oddB h; omega
theorem lcheck_P {fuel : Nat} {M : List (List Int)} {p : Int} (hf : 2147483648 < fuel) : P_line_check fuel M p = some (chkE M p false) := by
  unfold P_line_check lllIsRedP chkE
  simp only [Option.bind_some]
  cases hr : isRed M with
  | false => rfl
  | true =>
    have R := (isRed_iff M).1 hr
    simp only [Bool.not_true, Bool.false_eq_true, reduceIte, false_and]
    apply ok_eq
    refine ok_bind (Q := fun ex => (ex = .inl 20 ∧ oddB p = false) ∨ (ex = .inr () ∧ oddB p = true)) ?_ fun ex hex => ?_
    · refine ok_if (fun h => ok_some (.inl ⟨rfl, (oddB_f (by omega)).symm⟩)) fun h => ok_if (fun h2 => ok_some (.inl ⟨rfl, (oddB_f (by omega)).symm⟩)) fun h2 => ?_
      unfold primeIsP
      simp only [Option.bind_some]
      refine ok_if (fun h3 => ok_some (.inl ⟨rfl, (oddB_f fun hc => ?_).symm⟩)) fun h3 => ok_some (.inr ⟨rfl, ?_⟩)
      · have h3 : primeB p = false := by simpa using h3
        exact not_of_primeB h3 ⟨by omega, hc.2.2⟩
      · have h3 : primeB p = true := by simpa using h3
        have := of_primeB h3
        have h4 := this.2.1
        exact (oddB_t ⟨by omega, by omega, this.2⟩).symm
    · rcases hex with ⟨rfl, ho⟩ | ⟨rfl, ho⟩
      · exact ok_some (by rw [if_neg (by simp [ho])])
      · have hb := odd_rng ho
        dsimp only
        have hM := redM_tab R
        have hd : P_modular_Det fuel M p = some (det M.length (ent M) % p, 0) := by
          conv => lhs; rw [hM]
          exact jdet_P R.1.1 R.1.2 (by omega) (by omega) hf
        rw [hd]
        simp only [Option.bind_some]
        rw [if_neg (by decide)]
        exact ok_if (fun h => ok_some (by rw [if_neg (by simp [h])])) fun h => ok_some (by rw [if_pos ⟨ho, h⟩])
theorem lsize_P {fuel : Nat} {M : List (List Int)} {p : Int} (hf : 2147483648 < fuel) : P_line_checkSize fuel M p = some (chkE M p true) := by
  unfold P_line_checkSize
  rw [lcheck_P hf]
  simp only [Option.bind_some]
  apply ok_eq
  refine ok_if (fun h => ok_some ?_) fun h => ?_
  · unfold chkE at h ⊢
    by_cases hr : isRed M = true
    · rw [if_pos hr] at h ⊢
      rw [if_pos hr]
      by_cases hg : oddB p = true ∧ det M.length (ent M) % p ≠ 0
      · rw [if_pos hg] at h; simp at h
      · rw [if_neg hg, if_neg hg]
    · rw [if_neg hr, if_neg hr]
  · have h : chkE M p false = 0 := by simpa using h
    unfold chkE at h
    by_cases hr : isRed M = true
    · rw [if_pos hr] at h
      by_cases hg : oddB p = true ∧ det M.length (ent M) % p ≠ 0
      · have R := (isRed_iff M).1 hr
        have hb := odd_rng hg.1
        have h8 := R.1.2
        refine ok_bind (pts_loop (n := M.length) (x := (7 : Int)) (by omega) hb.2 (by omega) (by omega) fun a b => rfl) fun ex hex => ?_
        rcases hex with ⟨rfl, h3⟩ | ⟨rfl, h3⟩
        · exact ok_some (by unfold chkE; rw [if_pos hr, if_pos hg, if_pos ⟨rfl, h3⟩])
        · exact ok_some (by unfold chkE; rw [if_pos hr, if_pos hg, if_neg (fun hh => absurd hh.2 (by omega))])
      · rw [if_neg hg] at h; simp at h
    · rw [if_neg hr] at h; simp at h
end Go.Proofs.YtiegjkmfpcgjjaaDoor
/-
  scenes and the sanity check of law 34, walked.
-/
namespace Go.Proofs.YtiegjkmfpcgjjaaDoor
open Go Go.QF
set_option linter.unusedVariables false
set_option linter.unusedSimpArgs false
set_option maxRecDepth 100000
set_option maxHeartbeats 4000000
def P_quadformmake_Vector_b1 (fuel : Nat) (a3 : (List Int)) (a5 : Int) (s102 : Int) (s103 : Int) (s104 : (List Int)) : Option ((Int × Int × (List Int)) ⊕ (((List Int)))) :=
  (if s102 < ((List.replicate (Int.toNat a5) (0 : Int)).length : Int) then (((if (a3.length : Int) ≤ s103 then (some ( (0, s103))) else ((gI a3 (w64 ((w64 (s103 + 1)) - 1))).bind fun x129 => (some ( ((w64 x129), (w64 (s103 + 1))))))) : Option (Int × Int)).bind fun (e135, e136) => ((gI s104 s102).bind fun x137 => (some (Sum.inl ((w64 (s102 + 1)), e136, (sI s104 s102 e135)))))) else (some (Sum.inr<|  s104)))
noncomputable def P_quadformlaw34_awake (fuel : Nat) : Option Bool :=
  ((P_line_Lines fuel ([([1, 0] : List Int), ([0, 1] : List Int)] : List (List Int)) 5).bind fun (x27, x28) => ((P_line_Lift fuel ([([1, 0] : List Int), ([0, 1] : List Int)] : List (List Int)) 5 ([1, 2] : List Int)).bind fun (x51, x52) => ((P_line_Formula fuel ([([1, 0, 0] : List Int), ([0, 1, 0] : List Int), ([0, 0, 1] : List Int)] : List (List Int)) 3).bind fun (x99, x100) => (if x28 = 0 then (if x52 = 0 then (if x100 = 0 then ((P_quadformref23_Same fuel x27 ([([1, 2] : List Int), ([1, 3] : List Int)] : List (List Int))).bind fun x139 => (if x139 = true then (if (x51.length : Int) = 2 then ((gI x51 0).bind fun x151 => (if x151 = 11 then ((gI x51 1).bind fun x159 => (if x159 = 2 then (some (decide (x99 = 4))) else (some false))) else (some false))) else (some false)) else (some false))) else (some false)) else (some false)) else (some false)))))
theorem P_quadformlaw34_awake_ok {fuel : Nat} {h : Heap}  {r : Bool} (HO : OffH h) (hp : P_quadformlaw34_awake fuel = some r) : CallH Tryd.prog 5 #[] h (fun x h' => Ext h h' ∧ x = .bool r) := by
  unfold P_quadformlaw34_awake at hp
  have K0 := Kst.k0 h
  refine calls_of_W (l := []) mx Tryd.func5 rfl rfl rfl rfl rfl (by kernel_rfl) ?_
  refine w_seq ?_
  refine w_reg ?_
  refine r_as (r_nil (q_t ?_))
  refine w_seq ?_
  refine w_reg ?_
  refine r_litI (κ := .i64) [1, 0] sl_I64 ze_i64 rfl rfl trivial (fun _ _ => trivial) rfl rfl rfl rfl fun b1 v2 h3 I4 E5 hl6 hl7 => ?_
  have S8 := sp_one hl6 hl7
  have K10 := K0.no E5 S8 I4
  refine r_litI (κ := .i64) [0, 1] sl_I64 ze_i64 rfl rfl trivial (fun _ _ => trivial) rfl rfl rfl rfl fun b11 v12 h13 I14 E15 hl16 hl17 => ?_
  have S18 := sp_one hl16 hl17
  have K20 := K10.no E15 S18 I14
  have K27 := (((K20.a0).grab p1).grab p0)
  refine r_litRows (c := (cI .i64)) (el := 2) [[b1], [b11]] [v2, v12] [([1, 0] : List Int), ([0, 1] : List Int)] sl_MM ze_I64 rfl rfl trivial (fun _ _ => trivial) rfl rfl rfl rfl (one_cons (K20.o p1).isOne (one_cons (K20.o p0).isOne one_nil)) ⟨(K20.o p1), (K20.o p0), trivial⟩ (by simpa using K27.ndT) fun b21 v22 h23 I24 E25 hs26 => ?_
  have K29 := K27.lit E25 I24 (by simpa using hs26)
  refine r_as (r_nil (q_t ?_))
  refine w_seq ?_
  refine w_reg ?_
  refine r_mv ?_
  obtain ⟨⟨x30, x31⟩, hx32, hp33⟩ := obind hp
  clear hp
  dsimp only at hp33
  refine r_callE trivial (fun _ _ => trivial) rfl (P_line_Lines_ok (K29.o2 p0).rd (HO.ext K29.x) hx32) fun xv37 h35 E34 hk36 => ?_
  obtain ⟨v38, F41, G42, rs43, rfl, I39, S44⟩ := hk36
  have K45 := K29.no2 E34 S44 I39
  refine r_mv (r_ext rfl rfl (r_ext rfl rfl (r_as (r_as (r_nil (q_t ?_))))))
  refine w_seq ?_
  refine w_reg ?_
  refine r_mv ?_
  refine r_litI (κ := .i64) [1, 2] sl_I64 ze_i64 rfl rfl trivial (fun _ _ => trivial) rfl rfl rfl rfl fun b46 v47 h48 I49 E50 hl51 hl52 => ?_
  have S53 := sp_one hl51 hl52
  have K55 := K45.no E50 S53 I49
  obtain ⟨⟨x56, x57⟩, hx58, hp59⟩ := obind hp33
  clear hp33
  dsimp only at hp59
  refine r_callE trivial (fun _ _ => trivial) rfl (P_line_Lift_ok (K55.o2 p2).rd (K55.o p0).rd (HO.ext K55.x) hx58) fun xv63 h61 E60 hk62 => ?_
  obtain ⟨v64, F67, rfl, I65, S68⟩ := hk62
  have K69 := K55.no E60 S68 I65
  refine r_mv (r_ext rfl rfl (r_ext rfl rfl (r_as (r_as (r_nil (q_t ?_))))))
  refine w_seq ?_
  refine w_reg ?_
  refine r_litI (κ := .i64) [1, 0, 0] sl_I64 ze_i64 rfl rfl trivial (fun _ _ => trivial) rfl rfl rfl rfl fun b70 v71 h72 I73 E74 hl75 hl76 => ?_
  have S77 := sp_one hl75 hl76
  have K79 := K69.no E74 S77 I73
  refine r_litI (κ := .i64) [0, 1, 0] sl_I64 ze_i64 rfl rfl trivial (fun _ _ => trivial) rfl rfl rfl rfl fun b80 v81 h82 I83 E84 hl85 hl86 => ?_
  have S87 := sp_one hl85 hl86
  have K89 := K79.no E84 S87 I83
  refine r_litI (κ := .i64) [0, 0, 1] sl_I64 ze_i64 rfl rfl trivial (fun _ _ => trivial) rfl rfl rfl rfl fun b90 v91 h92 I93 E94 hl95 hl96 => ?_
  have S97 := sp_one hl95 hl96
  have K99 := K89.no E94 S97 I93
  have K106 := ((((K99.a0).grab p2).grab p1).grab p0)
  refine r_litRows (c := (cI .i64)) (el := 2) [[b70], [b80], [b90]] [v71, v81, v91] [([1, 0, 0] : List Int), ([0, 1, 0] : List Int), ([0, 0, 1] : List Int)] sl_MM ze_I64 rfl rfl trivial (fun _ _ => trivial) rfl rfl rfl rfl (one_cons (K99.o p2).isOne (one_cons (K99.o p1).isOne (one_cons (K99.o p0).isOne one_nil))) ⟨(K99.o p2), (K99.o p1), (K99.o p0), trivial⟩ (by simpa using K106.ndT) fun b100 v101 h102 I103 E104 hs105 => ?_
  have K108 := K106.lit E104 I103 (by simpa using hs105)
  obtain ⟨⟨x109, x110⟩, hx111, hp112⟩ := obind hp59
  clear hp59
  dsimp only at hp112
  refine r_callE trivial (fun _ _ => trivial) rfl (P_line_Formula_ok (K108.o2 p0).rd (HO.ext K108.x) hx111) fun xv116 h114 E113 hk115 => ?_
  subst hk115
  have K117 := K108.e E113
  refine r_mv (r_ext rfl rfl (r_ext rfl rfl (r_as (r_as (r_nil (q_t ?_))))))
  refine w_seq ?_
  refine w_reg ?_
  refine r_mv (r_cmp rfl rfl (cmp_eql _ _) (r_mv ?_))
  rcases Decidable.em (x31 = 0) with hc118 | hc118
  · skip
    have hp119 := ifT hp112 hc118
    clear hp112
    rw [show decide (x31 = 0) = true from decide_eq_true hc118]
    refine r_want 32 true (by kernel_rfl) rfl rfl (r_mv (r_want 32 true (by kernel_rfl) rfl rfl (r_cmp rfl rfl (cmp_eql _ _) (r_pickT rfl (r_mv ?_)))))
    rcases Decidable.em (x57 = 0) with hc120 | hc120
    · skip
      have hp121 := ifT hp119 hc120
      clear hp119
      rw [show decide (x57 = 0) = true from decide_eq_true hc120]
      refine r_want 36 true (by kernel_rfl) rfl rfl (r_mv (r_want 36 true (by kernel_rfl) rfl rfl (r_cmp rfl rfl (cmp_eql _ _) (r_pickT rfl (r_mv ?_)))))
      rcases Decidable.em (x110 = 0) with hc122 | hc122
      · skip
        have hp123 := ifT hp121 hc122
        clear hp121
        rw [show decide (x110 = 0) = true from decide_eq_true hc122]
        refine r_want 40 true (by kernel_rfl) rfl rfl (r_mv (r_want 40 true (by kernel_rfl) rfl rfl ?_))
        refine r_litI (κ := .i64) [1, 2] sl_I64 ze_i64 rfl rfl trivial (fun _ _ => trivial) rfl rfl rfl rfl fun b124 v125 h126 I127 E128 hl129 hl130 => ?_
        have S131 := sp_one hl129 hl130
        have K133 := K117.no E128 S131 I127
        refine r_want 40 true (by kernel_rfl) rfl rfl ?_
        refine r_litI (κ := .i64) [1, 3] sl_I64 ze_i64 rfl rfl trivial (fun _ _ => trivial) rfl rfl rfl rfl fun b134 v135 h136 I137 E138 hl139 hl140 => ?_
        have S141 := sp_one hl139 hl140
        have K143 := K133.no E138 S141 I137
        refine r_want 40 true (by kernel_rfl) rfl rfl ?_
        have K150 := (((K143.a0).grab p1).grab p0)
        refine r_litRows (c := (cI .i64)) (el := 2) [[b124], [b134]] [v125, v135] [([1, 2] : List Int), ([1, 3] : List Int)] sl_MM ze_I64 rfl rfl trivial (fun _ _ => trivial) rfl rfl rfl rfl (one_cons (K143.o p1).isOne (one_cons (K143.o p0).isOne one_nil)) ⟨(K143.o p1), (K143.o p0), trivial⟩ (by simpa using K150.ndT) fun b144 v145 h146 I147 E148 hs149 => ?_
        have K152 := K150.lit E148 I147 (by simpa using hs149)
        refine r_want 40 true (by kernel_rfl) rfl rfl ?_
        obtain ⟨x153, hx154, hp155⟩ := obind hp123
        clear hp123
        refine r_callE trivial (fun _ _ => trivial) rfl (P_quadformref23_Same_ok (K152.o2 p9).rd (K152.o2 p0).rd hx154) fun xv159 h157 E156 hk158 => ?_
        subst hk158
        have K160 := K152.e E156
        refine r_pickT rfl (r_mv ?_)
        cases hc161 : x153
        · skip
          have hp162 := ifFb hp155 hc161
          refine r_skip 47 false (by kernel_rfl) rfl rfl (r_skip 47 false (by kernel_rfl) rfl rfl (r_skip 47 false (by kernel_rfl) rfl rfl (r_pickF rfl (r_mv (r_skip 52 false (by kernel_rfl) rfl rfl (r_skip 52 false (by kernel_rfl) rfl rfl (r_skip 52 false (by kernel_rfl) rfl rfl (r_skip 52 false (by kernel_rfl) rfl rfl (r_pickF rfl (r_mv (r_skip 58 false (by kernel_rfl) rfl rfl (r_skip 58 false (by kernel_rfl) rfl rfl (r_skip 58 false (by kernel_rfl) rfl rfl (r_skip 58 false (by kernel_rfl) rfl rfl (r_pickF rfl (r_mv (r_skip 64 false (by kernel_rfl) rfl rfl (r_skip 64 false (by kernel_rfl) rfl rfl (r_pickF rfl (r_as (r_nil (q_t ?_))))))))))))))))))))))
          refine w_ret ?_
          have hq163 := Option.some.inj hp162
          subst hq163
          exact ⟨_, retV_1, K160.x, rfl⟩
        · skip
          have hp164 := ifT hp155 hc161
          refine r_want 47 true (by kernel_rfl) rfl rfl (r_mv (r_want 47 true (by kernel_rfl) rfl rfl ?_))
          refine r_lenC sl_I64 rfl (K160.o p7).rd (r_want 47 true (by kernel_rfl) rfl rfl (r_cmp rfl rfl (cmp_eql _ _) (r_pickT rfl (r_mv ?_))))
          rcases Decidable.em ((x56.length : Int) = 2) with hc165 | hc165
          · skip
            have hp166 := ifT hp164 hc165
            clear hp164
            rw [show decide ((x56.length : Int) = 2) = true from decide_eq_true hc165]
            refine r_want 52 true (by kernel_rfl) rfl rfl (r_mv (r_want 52 true (by kernel_rfl) rfl rfl ?_))
            obtain ⟨x167, hx168, hp169⟩ := obind hp166
            clear hp166
            refine r_ixO sl_I64 rfl (K160.o p7) rfl hx168 fun g170 hF171 => ?_
            refine r_want 52 true (by kernel_rfl) rfl rfl ?_
            obtain ⟨cs172, hr173, hc174⟩ := (K160.o p7).cells hF171 hx168
            obtain rfl := hr173
            refine r_ld na_i64 rfl (hc174 0 _ rfl) (r_want 52 true (by kernel_rfl) rfl rfl (r_cmp rfl rfl (cmp_eql _ _) (r_pickT rfl (r_mv ?_))))
            rcases Decidable.em (x167 = 11) with hc175 | hc175
            · skip
              have hp176 := ifT hp169 hc175
              clear hp169
              rw [show decide (x167 = 11) = true from decide_eq_true hc175]
              refine r_want 58 true (by kernel_rfl) rfl rfl (r_mv (r_want 58 true (by kernel_rfl) rfl rfl ?_))
              obtain ⟨x177, hx178, hp179⟩ := obind hp176
              clear hp176
              refine r_ixO sl_I64 rfl (K160.o p7) rfl hx178 fun g180 hF181 => ?_
              refine r_want 58 true (by kernel_rfl) rfl rfl ?_
              obtain ⟨cs182, hr183, hc184⟩ := (K160.o p7).cells hF181 hx178
              obtain rfl := hr183
              refine r_ld na_i64 rfl (hc184 0 _ rfl) (r_want 58 true (by kernel_rfl) rfl rfl (r_cmp rfl rfl (cmp_eql _ _) (r_pickT rfl (r_mv ?_))))
              rcases Decidable.em (x177 = 2) with hc185 | hc185
              · skip
                have hp186 := ifT hp179 hc185
                clear hp179
                rw [show decide (x177 = 2) = true from decide_eq_true hc185]
                refine r_want 64 true (by kernel_rfl) rfl rfl (r_mv (r_want 64 true (by kernel_rfl) rfl rfl (r_cmp rfl rfl (cmp_eql _ _) (r_pickT rfl (r_as (r_nil (q_t ?_)))))))
                refine w_ret ?_
                have hq187 := Option.some.inj hp186
                subst hq187
                exact ⟨_, retV_1, K160.x, rfl⟩
              · skip
                have hp188 := ifF hp179 hc185
                clear hp179
                rw [show decide (x177 = 2) = false from decide_eq_false hc185]
                refine r_skip 64 false (by kernel_rfl) rfl rfl (r_skip 64 false (by kernel_rfl) rfl rfl (r_pickF rfl (r_as (r_nil (q_t ?_)))))
                refine w_ret ?_
                have hq189 := Option.some.inj hp188
                subst hq189
                exact ⟨_, retV_1, K160.x, rfl⟩
            · skip
              have hp190 := ifF hp169 hc175
              clear hp169
              rw [show decide (x167 = 11) = false from decide_eq_false hc175]
              refine r_skip 58 false (by kernel_rfl) rfl rfl (r_skip 58 false (by kernel_rfl) rfl rfl (r_skip 58 false (by kernel_rfl) rfl rfl (r_skip 58 false (by kernel_rfl) rfl rfl (r_pickF rfl (r_mv (r_skip 64 false (by kernel_rfl) rfl rfl (r_skip 64 false (by kernel_rfl) rfl rfl (r_pickF rfl (r_as (r_nil (q_t ?_)))))))))))
              refine w_ret ?_
              have hq191 := Option.some.inj hp190
              subst hq191
              exact ⟨_, retV_1, K160.x, rfl⟩
          · skip
            have hp192 := ifF hp164 hc165
            clear hp164
            rw [show decide ((x56.length : Int) = 2) = false from decide_eq_false hc165]
            refine r_skip 52 false (by kernel_rfl) rfl rfl (r_skip 52 false (by kernel_rfl) rfl rfl (r_skip 52 false (by kernel_rfl) rfl rfl (r_skip 52 false (by kernel_rfl) rfl rfl (r_pickF rfl (r_mv (r_skip 58 false (by kernel_rfl) rfl rfl (r_skip 58 false (by kernel_rfl) rfl rfl (r_skip 58 false (by kernel_rfl) rfl rfl (r_skip 58 false (by kernel_rfl) rfl rfl (r_pickF rfl (r_mv (r_skip 64 false (by kernel_rfl) rfl rfl (r_skip 64 false (by kernel_rfl) rfl rfl (r_pickF rfl (r_as (r_nil (q_t ?_)))))))))))))))))
            refine w_ret ?_
            have hq193 := Option.some.inj hp192
            subst hq193
            exact ⟨_, retV_1, K160.x, rfl⟩
      · skip
        have hp194 := ifF hp121 hc122
        clear hp121
        rw [show decide (x110 = 0) = false from decide_eq_false hc122]
        refine r_skip 40 false (by kernel_rfl) rfl rfl (r_skip 40 false (by kernel_rfl) rfl rfl (r_skip 40 false (by kernel_rfl) rfl rfl (r_skip 40 false (by kernel_rfl) rfl rfl (r_skip 40 false (by kernel_rfl) rfl rfl (r_pickF rfl (r_mv (r_skip 47 false (by kernel_rfl) rfl rfl (r_skip 47 false (by kernel_rfl) rfl rfl (r_skip 47 false (by kernel_rfl) rfl rfl (r_pickF rfl (r_mv (r_skip 52 false (by kernel_rfl) rfl rfl (r_skip 52 false (by kernel_rfl) rfl rfl (r_skip 52 false (by kernel_rfl) rfl rfl (r_skip 52 false (by kernel_rfl) rfl rfl (r_pickF rfl (r_mv (r_skip 58 false (by kernel_rfl) rfl rfl (r_skip 58 false (by kernel_rfl) rfl rfl (r_skip 58 false (by kernel_rfl) rfl rfl (r_skip 58 false (by kernel_rfl) rfl rfl (r_pickF rfl (r_mv (r_skip 64 false (by kernel_rfl) rfl rfl (r_skip 64 false (by kernel_rfl) rfl rfl (r_pickF rfl (r_as (r_nil (q_t ?_)))))))))))))))))))))))))))))
        refine w_ret ?_
        have hq195 := Option.some.inj hp194
        subst hq195
        exact ⟨_, retV_1, K117.x, rfl⟩
    · skip
      have hp196 := ifF hp119 hc120
      clear hp119
      rw [show decide (x57 = 0) = false from decide_eq_false hc120]
      refine r_skip 36 false (by kernel_rfl) rfl rfl (r_skip 36 false (by kernel_rfl) rfl rfl (r_pickF rfl (r_mv (r_skip 40 false (by kernel_rfl) rfl rfl (r_skip 40 false (by kernel_rfl) rfl rfl (r_skip 40 false (by kernel_rfl) rfl rfl (r_skip 40 false (by kernel_rfl) rfl rfl (r_skip 40 false (by kernel_rfl) rfl rfl (r_pickF rfl (r_mv (r_skip 47 false (by kernel_rfl) rfl rfl (r_skip 47 false (by kernel_rfl) rfl rfl (r_skip 47 false (by kernel_rfl) rfl rfl (r_pickF rfl (r_mv (r_skip 52 false (by kernel_rfl) rfl rfl (r_skip 52 false (by kernel_rfl) rfl rfl (r_skip 52 false (by kernel_rfl) rfl rfl (r_skip 52 false (by kernel_rfl) rfl rfl (r_pickF rfl (r_mv (r_skip 58 false (by kernel_rfl) rfl rfl (r_skip 58 false (by kernel_rfl) rfl rfl (r_skip 58 false (by kernel_rfl) rfl rfl (r_skip 58 false (by kernel_rfl) rfl rfl (r_pickF rfl (r_mv (r_skip 64 false (by kernel_rfl) rfl rfl (r_skip 64 false (by kernel_rfl) rfl rfl (r_pickF rfl (r_as (r_nil (q_t ?_)))))))))))))))))))))))))))))))))
      refine w_ret ?_
      have hq197 := Option.some.inj hp196
      subst hq197
      exact ⟨_, retV_1, K117.x, rfl⟩
  · skip
    have hp198 := ifF hp112 hc118
    clear hp112
    rw [show decide (x31 = 0) = false from decide_eq_false hc118]
    refine r_skip 32 false (by kernel_rfl) rfl rfl (r_skip 32 false (by kernel_rfl) rfl rfl (r_pickF rfl (r_mv (r_skip 36 false (by kernel_rfl) rfl rfl (r_skip 36 false (by kernel_rfl) rfl rfl (r_pickF rfl (r_mv (r_skip 40 false (by kernel_rfl) rfl rfl (r_skip 40 false (by kernel_rfl) rfl rfl (r_skip 40 false (by kernel_rfl) rfl rfl (r_skip 40 false (by kernel_rfl) rfl rfl (r_skip 40 false (by kernel_rfl) rfl rfl (r_pickF rfl (r_mv (r_skip 47 false (by kernel_rfl) rfl rfl (r_skip 47 false (by kernel_rfl) rfl rfl (r_skip 47 false (by kernel_rfl) rfl rfl (r_pickF rfl (r_mv (r_skip 52 false (by kernel_rfl) rfl rfl (r_skip 52 false (by kernel_rfl) rfl rfl (r_skip 52 false (by kernel_rfl) rfl rfl (r_skip 52 false (by kernel_rfl) rfl rfl (r_pickF rfl (r_mv (r_skip 58 false (by kernel_rfl) rfl rfl (r_skip 58 false (by kernel_rfl) rfl rfl (r_skip 58 false (by kernel_rfl) rfl rfl (r_skip 58 false (by kernel_rfl) rfl rfl (r_pickF rfl (r_mv (r_skip 64 false (by kernel_rfl) rfl rfl (r_skip 64 false (by kernel_rfl) rfl rfl (r_pickF rfl (r_as (r_nil (q_t ?_)))))))))))))))))))))))))))))))))))))
    refine w_ret ?_
    have hq199 := Option.some.inj hp198
    subst hq199
    exact ⟨_, retV_1, K117.x, rfl⟩
end Go.Proofs.YtiegjkmfpcgjjaaDoor
/-
  Plain: the sanity check of law 34 answers true. No condition.
-/
namespace Go.Proofs.YtiegjkmfpcgjjaaDoor
open Go Go.QF
set_option linter.unusedVariables false
set_option linter.unusedSimpArgs false
set_option maxRecDepth 100000
theorem modInv1 {fuel : Nat} {x p r : Int} (hp : 2 ≤ p ∧ p ≤ 2147483647) (h : IsInv p (x % p) r) : modInvP fuel [[x]] p = some ([[r]], 0) := by
  have hs : squareB [[x]] = true := decide_eq_true (by simp [Square, Valid, cols])
  have hm : modB p = true := decide_eq_true hp
  have hd : detS [[x]] p = x % p := by
    unfold detS
    rw [hs, hm]
    simp only [Bool.and_self, if_true]
    have : det [[x]].length (ent [[x]]) = x := by
      show det 1 (ent [[x]]) = x
      simp [det, ent, psum, sg]
    rw [this]
  unfold modInvP invS invE
  rw [hs, hm, hd, if_pos ⟨rfl, rfl, r, h⟩, if_pos rfl, if_pos rfl, if_pos ⟨r, h⟩, invM_eq h]
  have : adjF [[x]].length (ent (redM [[x]] p)) 0 0 = 1 := by
    show adjF 1 _ 0 0 = 1
    simp [adjF, cofF, det, psum, sg, setF, dl]
  have h3 : tab [[x]].length [[x]].length (fun i j => adjF [[x]].length (ent (redM [[x]] p)) i j * r % p) = [[r]] := by
    show tab 1 1 (fun i j => adjF 1 (ent (redM [[x]] p)) i j * r % p) = [[r]]
    have h4 : adjF 1 (ent (redM [[x]] p)) 0 0 * r % p = r := by
      rw [show adjF 1 (ent (redM [[x]] p)) 0 0 = 1 from this, Int.one_mul]
      exact Int.emod_eq_of_lt h.1 h.2.1
    simp [tab, h4]
  rw [h3]
theorem pr3' : Pr 3 := ⟨by omega, fun d h1 h2 => by
  obtain rfl : d = 2 := by omega
  decide⟩
theorem pr5' : Pr 5 := ⟨by omega, fun d h1 h2 => by
  rcases (by omega : d = 2 ∨ d = 3 ∨ d = 4) with rfl | rfl | rfl <;> decide⟩
theorem chk_I2 (lim : Bool) : chkE [[1, 0], [0, 1]] 5 lim = 0 := by
  have hr : isRed [[1, 0], [0, 1]] = true := by
    unfold isRed
    rw [← smallMB_t (M := [[1, 0], [0, 1]]) ⟨by decide, by decide, fun i j hi hj => by
      have hi : i < 2 := hi
      have hj : j < 2 := hj
      rcases (by omega : i = 0 ∨ i = 1) with rfl | rfl <;> rcases (by omega : j = 0 ∨ j = 1) with rfl | rfl <;> decide⟩]
    decide +kernel
  have ho : oddB 5 = true := (oddB_t ⟨by omega, by omega, pr5'⟩).symm
  unfold chkE
  rw [if_pos hr, if_pos ⟨ho, by decide +kernel⟩, if_neg (fun h => absurd h.2 (by decide))]
theorem chk_I3 (lim : Bool) : chkE [[1, 0, 0], [0, 1, 0], [0, 0, 1]] 3 lim = 0 := by
  have hr : isRed [[1, 0, 0], [0, 1, 0], [0, 0, 1]] = true := by
    unfold isRed
    rw [← smallMB_t (M := [[1, 0, 0], [0, 1, 0], [0, 0, 1]]) ⟨by decide, by decide, fun i j hi hj => by
      have hi : i < 3 := hi
      have hj : j < 3 := hj
      rcases (by omega : i = 0 ∨ i = 1 ∨ i = 2) with rfl | rfl | rfl <;> rcases (by omega : j = 0 ∨ j = 1 ∨ j = 2) with rfl | rfl | rfl <;> decide⟩]
    decide +kernel
  have ho : oddB 3 = true := (oddB_t ⟨by omega, by omega, pr3'⟩).symm
  unfold chkE
  rw [if_pos hr, if_pos ⟨ho, by decide +kernel⟩, if_neg (fun h => absurd h.2 (by decide))]
theorem iter_one {S E : Type} {body : S → Option (S ⊕ E)} {fuel : Nat} {s : S} {e : E} (h : body s = some (.inr e)) : iter body (fuel + 1) s = some e := by simp [iter, h]
theorem awL1 : P_line_Lines (bigZ + 1) [[1, 0], [0, 1]] 5 = some ([[1, 2], [1, 3]], 0) := by
  have hf : 2147483648 < bigZ + 1 := Nat.lt_of_le_of_lt (by decide) (Nat.lt_succ_self bigZ)
  unfold P_line_Lines
  rw [lsize_P hf, chk_I2]
  simp only [Option.bind_some]
  rw [if_neg (by decide)]
  decide +kernel
theorem awL2 : P_line_Formula (bigZ + 1) [[1, 0, 0], [0, 1, 0], [0, 0, 1]] 3 = some (4, 0) := by
  have hf : 2147483648 < bigZ + 1 := Nat.lt_of_le_of_lt (by decide) (Nat.lt_succ_self bigZ)
  unfold P_line_Formula
  rw [lsize_P hf, chk_I3]
  simp only [Option.bind_some]
  rw [if_neg (by decide)]
  decide +kernel
theorem awL3 : P_line_Lift (bigZ + 1) [[1, 0], [0, 1]] 5 [1, 2] = some ([11, 2], 0) := by
  have hf : 2147483648 < bigZ + 1 := Nat.lt_of_le_of_lt (by decide) (Nat.lt_succ_self bigZ)
  unfold P_line_Lift
  have h1 : P_line_isLine (bigZ + 1) [[1, 0], [0, 1]] 5 [1, 2] = some true := by decide +kernel
  have h2 : P_modular_Residues (bigZ + 1) [[1, 0], [0, 1]] (w64 (5 * 5)) = some ([[1, 0], [0, 1]], 0) := by decide +kernel
  have h3 : P_slices_Clone (bigZ + 1) [1, 2] = some [1, 2] := by decide +kernel
  rw [lcheck_P hf, chk_I2]
  simp only [Option.bind_some]
  rw [if_neg (by decide), h1]
  simp only [Option.bind_some]
  rw [if_neg (by decide), h2]
  simp only [Option.bind_some]
  rw [h3]
  simp only [Option.bind_some]
  have hb : P_line_Lift_b1 (bigZ + 1) 5 [1, 2] [[1, 0], [0, 1]] 0 [1, 2] = some (.inr [11, 2]) := by
    unfold P_line_Lift_b1
    have g1 : gI [[1, 0], [0, 1]] (0 : Int) = some ([1, 0] : List Int) := rfl
    have g2 : P_line_inner (bigZ + 1) [1, 0] [1, 2] 5 = some 1 := by decide +kernel
    have g3 : modInvP (bigZ + 1) [[w64 (2 * 1)]] 5 = some ([[3]], 0) := modInv1 (by omega) ⟨by omega, by omega, by decide⟩
    rw [if_pos (by decide), g1]
    simp only [Option.bind_some]
    rw [g2]
    simp only [Option.bind_some]
    rw [if_neg (by decide), g3]
    simp only [Option.bind_some]
    decide +kernel
  rw [iter_one hb]
  rfl
theorem awake34_true : P_quadformlaw34_awake (bigZ + 1) = some true := by
  unfold P_quadformlaw34_awake
  rw [awL1]
  simp only [Option.bind_some]
  rw [awL3]
  simp only [Option.bind_some]
  rw [awL2]
  simp only [Option.bind_some]
  decide +kernel
end Go.Proofs.YtiegjkmfpcgjjaaDoor
