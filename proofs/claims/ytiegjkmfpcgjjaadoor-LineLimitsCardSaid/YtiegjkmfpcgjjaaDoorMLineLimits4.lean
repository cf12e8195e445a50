/-
  Texts of a proof, joined. Conditions stand in each statement.
-/
import Derived.Test.YtiegjkmfpcgjjaaDoorMLineLimits3
set_option linter.unusedVariables false
set_option linter.unusedSimpArgs false
/-
  the law LineLimits, walked.
-/
namespace Go.Proofs.YtiegjkmfpcgjjaaDoor
open Go Go.QF
set_option linter.unusedVariables false
set_option linter.unusedSimpArgs false
set_option maxRecDepth 100000
set_option maxHeartbeats 4000000
noncomputable def P_quadformlaw34_LineLimits_b4 (fuel : Nat) (a1 : Int) (x235 : Int) (s284 : Int) (s285 : Int) : Option ((Int × Int) ⊕ ((Int))) :=
  (((if s285 < (w64 (1 + (Int.tmod (w64 a1) 8))) then (if s284 ≤ 65536 then (some (Sum.inl <| ())) else (some (Sum.inr <|  ()))) else (some (Sum.inr <|  ()))) : Option ((Unit) ⊕ (Unit))).bind (fun ex => match ex with | Sum.inl _ => (some (Sum.inl ((w64 (s284 * x235)), (w64 (s285 + 1))))) | Sum.inr (_) => (some (Sum.inr<|  s284))))
noncomputable def P_quadformlaw34_LineLimits_b2 (fuel : Nat) (a1 : Int) (e132 : (List (List Int))) (s232 : Int) : Option ((Int) ⊕ ((Bool) ⊕ (Unit))) :=
  (if s232 < (([3, 5, 7, 11, 41, 43, 251, 257, 9973] : List Int).length : Int) then ((gI ([3, 5, 7, 11, 41, 43, 251, 257, 9973] : List Int) s232).bind fun x235 => ((((iter (fun s => P_quadformlaw34_LineLimits_b4 fuel a1 x235 s.1 s.2) fuel (1, 0)).bind (fun (e298 : Int) => (some ( e298)))) : Option ((Int))).bind (fun (e299 : Int) => ((P_line_Formula fuel e132 x235).bind fun (x300, x301) => (if (!((decide (x301 = 7)) == (decide (65536 < e299)))) = true then (some (Sum.inr<| Sum.inl <| false)) else (if ¬ x301 = 0 then (if ¬ x301 = 7 then (some (Sum.inr<| Sum.inl <| false)) else (some (Sum.inl (w64 (s232 + 1))))) else (some (Sum.inl (w64 (s232 + 1)))))))))) else (some (Sum.inr<| Sum.inr <|  ())))
noncomputable def P_quadformlaw34_LineLimits_b1 (fuel : Nat) (a1 : Int) (s90 : Int) (s91 : (List (List Int))) : Option ((Int × (List (List Int))) ⊕ (((List (List Int))))) :=
  (if s90 < ((List.replicate (Int.toNat (w64 (1 + (Int.tmod (w64 a1) 8)))) ([] : List Int)).length : Int) then (if 0 ≤ (w64 (1 + (Int.tmod (w64 a1) 8))) ∧ (w64 (1 + (Int.tmod (w64 a1) 8))) ≤ 100000000 then ((gI s91 s90).bind fun x107 => ((gI (sI s91 s90 (List.replicate (Int.toNat (w64 (1 + (Int.tmod (w64 a1) 8)))) (0 : Int))) s90).bind fun x118 => ((gI x118 s90).bind fun x125 => (some (Sum.inl ((w64 (s90 + 1)), (sI (sI s91 s90 (List.replicate (Int.toNat (w64 (1 + (Int.tmod (w64 a1) 8)))) (0 : Int))) s90 (sI x118 s90 1)))))))) else none) else (some (Sum.inr<|  s91)))
noncomputable def P_quadformlaw34_LineLimits (fuel : Nat) (a1 : Int) : Option Bool :=
  (if 0 ≤ (w64 (1 + (Int.tmod (w64 a1) 8))) ∧ (w64 (1 + (Int.tmod (w64 a1) 8))) ≤ 100000000 then ((iter (fun s => P_quadformlaw34_LineLimits_b1 fuel a1 s.1 s.2) fuel (0, (List.replicate (Int.toNat (w64 (1 + (Int.tmod (w64 a1) 8)))) ([] : List Int)))).bind (fun (e132 : (List (List Int))) => ((iter (fun s => P_quadformlaw34_LineLimits_b2 fuel a1 e132 s) fuel 0).bind (fun ex => match ex with | Sum.inl e318 => (some e318) | Sum.inr (_) => ((P_quadformlaw34_awake fuel).bind fun x319 => (some x319)))))) else none)
theorem P_quadformlaw34_LineLimits_ok {fuel : Nat} {h : Heap} {a1 : Int} {r : Bool} (HO : OffH h) (hp : P_quadformlaw34_LineLimits fuel a1 = some r) : CallH Tryd.prog 3 #[(.int .u8 a1)] h (fun x h' => Ext h h' ∧ x = .bool r) := by
  unfold P_quadformlaw34_LineLimits at hp
  have K0 := Kst.k0 h
  refine calls_of_W (l := [_]) mx Tryd.func3 rfl rfl rfl rfl rfl (by kernel_rfl) ?_
  refine w_seq ?_
  refine w_reg ?_
  refine r_as (r_nil (q_t ?_))
  refine w_seq ?_
  refine w_reg ?_
  refine r_mv (r_cv it_u8 it_int rfl (r_rem rfl rfl (by decide) (r_add rfl rfl (r_as (r_nil (q_t ?_))))))
  refine w_seq ?_
  refine w_reg ?_
  refine r_mv ?_
  obtain ⟨hn2, hp3⟩ := ifN hp
  clear hp
  refine r_mkR (cI .i64) 2 sl_MM ze_I64 rfl trivial (fun _ _ => trivial) rfl rfl (by decide) hn2 fun F9 G10 rs11 v8 h6 I7 E4 S5 => ?_
  have K13 := K0.no2 E4 S5 I7
  refine r_as (r_nil (q_t ?_))
  refine w_seq ?_
  refine w_seq ?_
  refine w_reg ?_
  refine r_mv ?_
  refine r_lenR sl_MM rfl (K13.o2 p0).rd (r_mv (r_nil (q_t ?_)))
  refine w_block ?_
  obtain ⟨ex14, hL15, hp16⟩ := obind hp3
  clear hp3
  obtain ⟨bd17, hbd18, hL19⟩ := iter_gen hL15
  clear hL15
  refine w_loop 34358689824 (fun x : (Int) × ((List (List Int))) × (List Nat) × (List (List Nat)) × (List Value) => [(20, (.int .i64 x.1))]) (fun (k : Nat) (x : (Int) × ((List (List Int))) × (List Nat) × (List (List Nat)) × (List Value)) (h' : Heap) => iter bd17 k (x.1, x.2.1) = some ex14 ∧ Kst h h' (K13.L.set 0 (aO2 (cI .i64) 23 2 x.2.2.1 x.2.2.2.1 x.2.2.2.2 v8 x.2.1))) (by kernel_rfl) fuel ((0, (List.replicate (Int.toNat (w64 (1 + (Int.tmod (w64 a1) 8)))) ([] : List Int)), F9, G10, rs11) : (Int) × ((List (List Int))) × (List Nat) × (List (List Nat)) × (List Value)) ?_ ⟨rfl, trivial⟩ ?_
  · exact ⟨hL19, K13⟩
  rintro k21 ⟨u26, u27, q28, q29, q30⟩ sv24 h23 ⟨hk22, K25⟩
  try dsimp only [Kst.L, List.set, selA, nthA] at K25
  refine (show W _ _ _ (setL [(20, (.int .i64 u26))] (mix _ sv24 _)) h23 from ?_)
  obtain ⟨k33, rr34, rfl, hb35, hr36⟩ := iter_step hk22
  clear hk22
  rw [hbd18] at hb35
  dsimp only at hb35
  unfold P_quadformlaw34_LineLimits_b1 at hb35
  refine w_seq ?_
  refine w_reg ?_
  refine r_cmp rfl rfl (cmp_lss _ _) (r_nil (q_t ?_))
  refine w_seq ?_
  refine ⟨_, rfl, fun hc37 => ?_, fun hc37 => ?_⟩
  · skip
    have hp38 := ifTd hb35 hc37
    clear hb35
    refine w_skip (q_t ?_)
    refine w_seq ?_
    refine w_block ?_
    refine w_seq ?_
    refine w_reg ?_
    refine r_mv (r_as (r_nil (q_t ?_)))
    refine w_seq ?_
    refine w_reg ?_
    refine r_mv (r_mv (r_mv ?_))
    obtain ⟨hn39, hp40⟩ := ifN hp38
    clear hp38
    refine r_mkC1 (c := (cI .i64)) (a := 0) sl_I64 ze_i64 rfl rfl (fun _ => rfl) rfl trivial (fun _ _ => trivial) rfl rfl (by decide) hn39 fun b46 v45 h43 I44 E41 hl48 hl49 => ?_
    have S42 := sp_one hl48 hl49
    have K50 := K25.no E41 S42 I44
    obtain ⟨x51, hx52, hp53⟩ := obind hp40
    clear hp40
    refine r_ixR2 sl_MM rfl (K50.o2 p1) rfl hx52 fun b54 r55 hF56 hr57 hc58 => ?_
    refine r_stR na_I64 (K50.o2 p1) hx52 hF56 rfl rfl (K50.o p0) (K50.dj p0 p1 (by decide)) fun h59 I61 U60 hs62 => ?_
    have K64 := K50.m2 p0 p1 (by decide) U60 I61 (fun z hz => .inl (hs62 z hz))
    refine r_nil (q_t ?_)
    refine w_reg ?_
    refine r_mv (r_mv ?_)
    obtain ⟨x65, hx66, hp67⟩ := obind hp53
    clear hp53
    refine r_ixR2 sl_MM rfl (K64.o2 p1) rfl hx66 fun b68 r69 hF70 hr71 hc72 => ?_
    refine r_ld na_I64 rfl hc72 (r_mv ?_)
    obtain ⟨x74, hx75, hp76⟩ := obind hp67
    clear hp67
    refine r_ixO2 (m := u26) sl_I64 rfl (K64.o2 p1) hr71 hx66 rfl hx75 fun g77 hG78 => ?_
    refine r_stO2 (m := u26) (stEl_na na_i64 rfl rfl rfl) (K64.o2 p1) hG78 hx66 hx75 (show ((cI .i64)).rep _ 1 _ from rfl) fun h79 I81 U80 => ?_
    have K82 := K64.uO2 p1 U80 I81
    refine r_nil (q_b (q_t ?_))
    refine w_reg ?_
    refine r_add rfl rfl (r_mv (r_nil (q_t ?_)))
    have hq83 := Option.some.inj hp76
    subst hq83
    exact ⟨k33, (((w64 (u26 + 1)), (sI (sI u27 u26 (List.replicate (Int.toNat (w64 (1 + (Int.tmod (w64 a1) 8)))) (0 : Int))) u26 (sI x65 u26 1)), (b54 :: (q29.set (Int.toNat u26) [b46]).flatten), (q29.set (Int.toNat u26) [b46]), (q30.set (Int.toNat u26) v45)) : (Int) × ((List (List Int))) × (List Nat) × (List (List Nat)) × (List Value)), Nat.lt_succ_self _, ⟨hr36, K82.sel [1] (by decide)⟩, rfl, trivial⟩
  · skip
    have hp84 := ifFd hb35 hc37
    clear hb35
    have hq85 := Option.some.inj hp84
    subst hq85
    have hp86 := hr36
    change _ = ex14 at hp86
    subst hp86
    have hp87 := hp16
    try dsimp only at hp87
    refine w_exit (q_tx (q_tx (q_bx (q_t ?_))))
    refine w_seq ?_
    refine w_seq ?_
    refine w_reg ?_
    refine r_litI (κ := .i64) [3, 5, 7, 11, 41, 43, 251, 257, 9973] sl_I64 ze_i64 rfl rfl trivial (fun _ _ => trivial) rfl rfl rfl rfl fun b88 v89 h90 I91 E92 hl93 hl94 => ?_
    have S95 := sp_one hl93 hl94
    have K97 := K25.no E92 S95 I91
    refine r_lenC sl_I64 rfl (K97.o p0).rd (r_mv (r_nil (q_t ?_)))
    refine w_block ?_
    obtain ⟨ex98, hL99, hp100⟩ := obind hp87
    clear hp87
    obtain ⟨bd101, hbd102, hL103⟩ := iter_gen hL99
    clear hL99
    refine w_loop 9444732965601851477892 (fun x : (Int) => [(37, (.int .i64 x))]) (fun (k : Nat) (x : (Int)) (h' : Heap) => iter bd101 k x = some ex98 ∧ Kst h h' (K97.L)) (by kernel_rfl) fuel (0 : (Int)) ?_ ⟨rfl, trivial⟩ ?_
    · exact ⟨hL103, K97⟩
    rintro k104 u109 sv107 h106 ⟨hk105, K108⟩
    try dsimp only [Kst.L, List.set, selA, nthA] at K108
    refine (show W _ _ _ (setL [(37, (.int .i64 u109))] (mix _ sv107 _)) h106 from ?_)
    obtain ⟨k110, rr111, rfl, hb112, hr113⟩ := iter_step hk105
    clear hk105
    rw [hbd102] at hb112
    dsimp only at hb112
    unfold P_quadformlaw34_LineLimits_b2 at hb112
    refine w_seq ?_
    refine w_reg ?_
    refine r_cmp rfl rfl (cmp_lss _ _) (r_nil (q_t ?_))
    refine w_seq ?_
    refine ⟨_, rfl, fun hc114 => ?_, fun hc114 => ?_⟩
    · skip
      have hp115 := ifTd hb112 hc114
      clear hb112
      refine w_skip (q_t ?_)
      refine w_seq ?_
      refine w_block ?_
      refine w_seq ?_
      refine w_reg ?_
      obtain ⟨x116, hx117, hp118⟩ := obind hp115
      clear hp115
      refine r_ixO sl_I64 rfl (K108.o p0) rfl hx117 fun g119 hF120 => ?_
      obtain ⟨cs121, hr122, hc123⟩ := (K108.o p0).cells hF120 hx117
      obtain rfl := hr122
      refine r_ld na_i64 rfl (hc123 0 _ rfl) (r_as (r_nil (q_t ?_)))
      refine w_seq ?_
      refine w_reg ?_
      refine r_as (r_nil (q_t ?_))
      obtain ⟨ex124, hj125, hp126⟩ := obind hp118
      clear hp118
      refine w_join 9005000231486208 (fun x : (Int) => [(8, (.int .i64 x))]) (fun (x : (Int)) (h' : Heap) => ( x) = ex124 ∧ Kst h h' (K108.L)) (by kernel_rfl) ?_ ?_
      · skip
        refine w_seq ?_
        refine w_reg ?_
        refine r_as (r_nil (q_t ?_))
        refine w_block ?_
        obtain ⟨ex127, hL128, hp129⟩ := obind hj125
        clear hj125
        obtain ⟨bd130, hbd131, hL132⟩ := iter_gen hL128
        clear hL128
        refine w_loop 9005000231486208 (fun x : (Int) × (Int) => [(8, (.int .i64 x.1)), (9, (.int .i64 x.2))]) (fun (k : Nat) (x : (Int) × (Int)) (h' : Heap) => iter bd130 k (x.1, x.2) = some ex127 ∧ Kst h h' (K108.L)) (by kernel_rfl) fuel ((1, 0) : (Int) × (Int)) ?_ ⟨rfl, rfl, trivial⟩ ?_
        · exact ⟨hL132, K108⟩
        rintro k133 ⟨u138, u139⟩ sv136 h135 ⟨hk134, K137⟩
        try dsimp only [Kst.L, List.set, selA, nthA] at K137
        refine (show W _ _ _ (setL [(8, (.int .i64 u138)), (9, (.int .i64 u139))] (mix _ sv136 _)) h135 from ?_)
        obtain ⟨k140, rr141, rfl, hb142, hr143⟩ := iter_step hk134
        clear hk134
        rw [hbd131] at hb142
        dsimp only at hb142
        unfold P_quadformlaw34_LineLimits_b4 at hb142
        obtain ⟨ex144, hj145, hp146⟩ := obind hb142
        clear hb142
        refine w_join 279275953455104 (fun x : Unit => []) (fun (x : Unit) (h' : Heap) => (Sum.inl <| ()) = ex144 ∧ Kst h h' (K137.L)) (by kernel_rfl) ?_ ?_
        · skip
          refine w_seq ?_
          refine w_reg ?_
          refine r_mv (r_mv (r_cmp rfl rfl (cmp_lss _ _) (r_mv ?_)))
          rcases Decidable.em (u139 < (w64 (1 + (Int.tmod (w64 a1) 8)))) with hc147 | hc147
          · skip
            have hp148 := ifT hj145 hc147
            clear hj145
            rw [show decide (u139 < (w64 (1 + (Int.tmod (w64 a1) 8)))) = true from decide_eq_true hc147]
            refine r_want 44 true (by kernel_rfl) rfl rfl (r_mv (r_want 44 true (by kernel_rfl) rfl rfl (r_cmp rfl rfl (cmp_leq _ _) (r_pickT rfl (r_nil (q_t ?_))))))
            refine ⟨_, rfl, fun hc149 => ?_, fun hc149 => ?_⟩
            · skip
              have hp150 := ifTd hp148 hc149
              clear hp148
              refine w_skip (q_t ?_)
              exact ⟨(() : Unit), ⟨Option.some.inj hp150, K137⟩, trivial⟩
            · skip
              have hp151 := ifFd hp148 hc149
              clear hp148
              have hq152 := Option.some.inj hp151
              subst hq152
              have hp154 := hp146
              try dsimp only at hp154
              have hq155 := Option.some.inj hp154
              subst hq155
              have hp156 := hr143
              change _ = ex127 at hp156
              subst hp156
              have hp157 := hp129
              try dsimp only at hp157
              refine w_exit (q_tx (q_tx (q_bx (q_t ?_))))
              exact ⟨(u138 : (Int)), ⟨Option.some.inj hp157, K137⟩, rfl, trivial⟩
          · skip
            have hp158 := ifF hj145 hc147
            clear hj145
            rw [show decide (u139 < (w64 (1 + (Int.tmod (w64 a1) 8)))) = false from decide_eq_false hc147]
            refine r_skip 44 false (by kernel_rfl) rfl rfl (r_skip 44 false (by kernel_rfl) rfl rfl (r_pickF rfl (r_nil (q_t ?_))))
            refine w_false rfl ?_
            have hq159 := Option.some.inj hp158
            subst hq159
            have hp161 := hp146
            try dsimp only at hp161
            have hq162 := Option.some.inj hp161
            subst hq162
            have hp163 := hr143
            change _ = ex127 at hp163
            subst hp163
            have hp164 := hp129
            try dsimp only at hp164
            refine w_exit (q_tx (q_tx (q_bx (q_t ?_))))
            exact ⟨(u138 : (Int)), ⟨Option.some.inj hp164, K137⟩, rfl, trivial⟩
        rintro ⟨⟩ sv167 h166 ⟨hk165, K168⟩
        try dsimp only [Kst.L, List.set, selA, nthA] at K168
        refine (show W _ _ _ (setL [] (mix _ sv167 _)) h166 from ?_)
        subst hk165
        have hp169 := hp146
        try dsimp only at hp169
        refine w_seq ?_
        refine w_block ?_
        refine w_reg ?_
        refine r_mv (r_mv (r_mul rfl rfl (r_as (r_nil (q_b (q_t ?_))))))
        refine w_reg ?_
        refine r_mv (r_add rfl rfl (r_as (r_nil (q_t ?_))))
        have hq170 := Option.some.inj hp169
        subst hq170
        exact ⟨k140, (((w64 (u138 * x116)), (w64 (u139 + 1))) : (Int) × (Int)), Nat.lt_succ_self _, ⟨hr143, K168⟩, rfl, rfl, trivial⟩
      rintro u175 sv173 h172 ⟨hk171, K174⟩
      try dsimp only [Kst.L, List.set, selA, nthA] at K174
      refine (show W _ _ _ (setL [(8, (.int .i64 u175))] (mix _ sv173 _)) h172 from ?_)
      subst hk171
      have hp176 := hp126
      try dsimp only at hp176
      refine w_seq ?_
      refine w_reg ?_
      refine r_mv (r_mv ?_)
      obtain ⟨⟨x177, x178⟩, hx179, hp180⟩ := obind hp176
      clear hp176
      dsimp only at hp180
      refine r_callE trivial (fun _ _ => trivial) rfl (P_line_Formula_ok (K174.o2 p1).rd (HO.ext K174.x) hx179) fun xv184 h182 E181 hk183 => ?_
      subst hk183
      have K185 := K174.e E181
      refine r_mv (r_ext rfl rfl (r_ext rfl rfl (r_as (r_as (r_nil (q_t ?_))))))
      refine w_seq ?_
      refine w_reg ?_
      refine r_mv (r_cmp rfl rfl (cmp_eql _ _) (r_mv (r_cmp rfl rfl (cmp_gtr _ _) (r_neBool un_bool rfl rfl (r_mv ?_)))))
      cases hc186 : (!((decide (x178 = 7)) == (decide (65536 < u175))))
      · skip
        have hp187 := ifFb hp180 hc186
        refine r_want 64 false (by kernel_rfl) rfl rfl (r_mv (r_want 64 false (by kernel_rfl) rfl rfl (r_cmp rfl rfl (cmp_neq _ _) (r_want 64 false (by kernel_rfl) rfl rfl (r_mv ?_)))))
        rcases Decidable.em (¬ x178 = 0) with hc188 | hc188
        · skip
          have hp189 := ifT hp187 hc188
          clear hp187
          rw [show decide (¬ x178 = 0) = true from decide_eq_true hc188]
          refine r_want 67 true (by kernel_rfl) rfl rfl (r_mv (r_want 67 true (by kernel_rfl) rfl rfl (r_cmp rfl rfl (cmp_neq _ _) (r_want 64 false (by kernel_rfl) rfl rfl (r_pickT rfl (r_pickF rfl (r_nil (q_t ?_))))))))
          refine ⟨_, rfl, fun hc190 => ?_, fun hc190 => ?_⟩
          · skip
            have hp191 := ifTd hp189 hc190
            clear hp189
            refine w_seq ?_
            refine w_reg ?_
            refine r_as (r_nil (q_t ?_))
            have hq192 := Option.some.inj hp191
            subst hq192
            have hp193 := hr113
            change _ = ex98 at hp193
            subst hp193
            have hp194 := hp100
            try dsimp only at hp194
            refine w_ret (q_br (q_tr (q_tr (q_br (q_tr ?_)))))
            have hq195 := Option.some.inj hp194
            subst hq195
            exact ⟨_, retV_1, K185.x, rfl⟩
          · skip
            have hp196 := ifFd hp189 hc190
            clear hp189
            refine w_skip (q_b (q_t ?_))
            refine w_reg ?_
            refine r_add rfl rfl (r_mv (r_nil (q_t ?_)))
            have hq197 := Option.some.inj hp196
            subst hq197
            exact ⟨k110, ((w64 (u109 + 1)) : (Int)), Nat.lt_succ_self _, ⟨hr113, K185⟩, rfl, trivial⟩
        · skip
          have hp198 := ifF hp187 hc188
          clear hp187
          rw [show decide (¬ x178 = 0) = false from decide_eq_false hc188]
          refine r_skip 67 false (by kernel_rfl) rfl rfl (r_skip 67 false (by kernel_rfl) rfl rfl (r_want 64 false (by kernel_rfl) rfl rfl (r_pickF rfl (r_pickF rfl (r_nil (q_t ?_))))))
          refine w_false rfl ?_
          refine w_skip (q_b (q_t ?_))
          refine w_reg ?_
          refine r_add rfl rfl (r_mv (r_nil (q_t ?_)))
          have hq199 := Option.some.inj hp198
          subst hq199
          exact ⟨k110, ((w64 (u109 + 1)) : (Int)), Nat.lt_succ_self _, ⟨hr113, K185⟩, rfl, trivial⟩
      · skip
        have hp200 := ifT hp180 hc186
        refine r_skip 64 true (by kernel_rfl) rfl rfl (r_skip 64 true (by kernel_rfl) rfl rfl (r_skip 64 true (by kernel_rfl) rfl rfl (r_skipU 67 (by kernel_rfl) rfl (r_skipU 67 (by kernel_rfl) rfl (r_skip 64 true (by kernel_rfl) rfl rfl (r_pickT rfl (r_nil (q_t ?_))))))))
        refine w_true rfl ?_
        refine w_seq ?_
        refine w_reg ?_
        refine r_as (r_nil (q_t ?_))
        have hq201 := Option.some.inj hp200
        subst hq201
        have hp202 := hr113
        change _ = ex98 at hp202
        subst hp202
        have hp203 := hp100
        try dsimp only at hp203
        refine w_ret (q_br (q_tr (q_tr (q_br (q_tr ?_)))))
        have hq204 := Option.some.inj hp203
        subst hq204
        exact ⟨_, retV_1, K185.x, rfl⟩
    · skip
      have hp205 := ifFd hb112 hc114
      clear hb112
      have hq206 := Option.some.inj hp205
      subst hq206
      have hp207 := hr113
      change _ = ex98 at hp207
      subst hp207
      have hp208 := hp100
      try dsimp only at hp208
      refine w_exit (q_tx (q_tx (q_bx (q_t ?_))))
      refine w_seq ?_
      refine w_reg ?_
      obtain ⟨x209, hx210, hp211⟩ := obind hp208
      clear hp208
      refine r_callE trivial (fun _ _ => trivial) rfl (P_quadformlaw34_awake_ok (HO.ext K108.x) hx210) fun xv215 h213 E212 hk214 => ?_
      subst hk214
      have K216 := K108.e E212
      refine r_as (r_nil (q_t ?_))
      refine w_ret ?_
      have hq217 := Option.some.inj hp211
      subst hq217
      exact ⟨_, retV_1, K216.x, rfl⟩
end Go.Proofs.YtiegjkmfpcgjjaaDoor
/-
  Plain: the law LineLimits answers true. Conditions stand in each statement.
-/
namespace Go.Proofs.YtiegjkmfpcgjjaaDoor
open Go Go.QF
set_option linter.unusedVariables false
set_option linter.unusedSimpArgs false
set_option maxRecDepth 100000
/-- what Formula computes behind its checks -/
def restF (fuel : Nat) (a3 : List (List Int)) (a5 : Int) : Option (Int × Int) := (if (Int.tmod (a3.length : Int) 2) = 1 then ((P_line_power fuel a5 (w64 (2 * (w64 (Int.tdiv (a3.length : Int) 2))))).bind fun x18 => (if (w64 (a5 - 1)) ≠ 0 then (some ((w64 (Int.tdiv (w64 (x18 - 1)) (w64 (a5 - 1)))), 0)) else none)) else ((P_modular_Det fuel a3 a5).bind fun (x26, x27) => (((if (Int.tmod (w64 (Int.tdiv (a3.length : Int) 2)) 2) = 1 then (some ( (w64 (0 - x26)))) else (some ( x26))) : Option ((Int))).bind (fun (e40 : Int) => ((P_prime_Kronecker fuel e40 a5).bind fun (x41, x42) => ((P_line_power fuel a5 (w64 (Int.tdiv (a3.length : Int) 2))).bind fun x49 => ((P_line_power fuel a5 (w64 ((w64 (Int.tdiv (a3.length : Int) 2)) - 1))).bind fun x56 => (if (w64 (a5 - 1)) ≠ 0 then (some ((w64 (Int.tdiv (w64 ((w64 (x49 - x41)) * (w64 (x56 + x41)))) (w64 (a5 - 1)))), 0)) else none))))))))
theorem formula_eq (fuel : Nat) (M : List (List Int)) (p : Int) : P_line_Formula fuel M p = (P_line_checkSize fuel M p).bind fun x => if ¬ x = 0 then some (0, x) else restF fuel M p := rfl
def limP : List Int := [3, 5, 7, 11, 41, 43, 251, 257, 9973]
theorem pr_small {n : Int} (d : Nat) (hn : 2 ≤ n) (hd : 2 ≤ d) (hsq : n < d * d) (h : ∀ c, c < d → 2 ≤ c → ¬ n % (c : Int) = 0) : Pr n := pr_of_sqrt (d := d) hn (by omega) hsq fun c h1 h2 h3 => h c.toNat (by omega) (by omega) (by rw [show ((c.toNat : Nat) : Int) = c by omega]; exact h3)
theorem limP_odd : ∀ p ∈ limP, oddB p = true := by
  intro p hp
  have : 2 < p ∧ p ≤ 9973 ∧ Pr p := by
    simp only [limP, List.mem_cons, List.not_mem_nil, or_false] at hp
    rcases hp with rfl | rfl | rfl | rfl | rfl | rfl | rfl | rfl | rfl <;> refine ⟨by omega, by omega, ?_⟩
    · exact pr_small 2 (by decide) (by decide) (by decide) (by decide)
    · exact pr_small 3 (by decide) (by decide) (by decide) (by decide)
    · exact pr_small 3 (by decide) (by decide) (by decide) (by decide)
    · exact pr_small 4 (by decide) (by decide) (by decide) (by decide)
    · exact pr_small 7 (by decide) (by decide) (by decide) (by decide)
    · exact pr_small 7 (by decide) (by decide) (by decide) (by decide)
    · exact pr_small 16 (by decide) (by decide) (by decide) (by decide)
    · exact pr_small 17 (by decide) (by decide) (by decide) (by decide)
    · exact pr_small 100 (by decide) (by decide) (by decide) (by decide +kernel)
  exact (oddB_t this).symm
def idL (n : Nat) : List (List Int) := tab n n dl
theorem idL_small {n : Nat} (h1 : 1 ≤ n) (h8 : n ≤ 8) : SmallM (idL n) := by
  have hl : (idL n).length = n := tab_len ..
  refine ⟨by rw [hl]; exact ⟨h1, h8⟩, fun z hz => ?_, fun i j hi hj => ?_⟩
  · rw [hl]
    unfold idL at hz
    rw [tab_rowL] at hz
    obtain ⟨q, _, rfl⟩ := List.mem_map.1 hz
    exact rowL_len ..
  · rw [hl] at hi hj
    unfold idL
    rw [ent_tab hi hj, ent_tab hj hi]
    unfold dl
    by_cases h : i = j
    · subst h; simp
    · rw [if_neg h, if_neg (fun hh => h hh.symm)]; omega
theorem idL_red {n : Nat} (h1 : 1 ≤ n) (h8 : n ≤ 8) : isRed (idL n) = true := by
  have : (List.range 8).all (fun k => redB (idL (k + 1)).length (ent (idL (k + 1))) 1) = true := by decide +kernel
  have := List.all_eq_true.1 this (n - 1) (List.mem_range.2 (by omega))
  rw [show n - 1 + 1 = n by omega] at this
  unfold isRed
  rw [← smallMB_t (idL_small h1 h8), this]; rfl
theorem chk_id {n : Nat} {p : Int} (h1 : 1 ≤ n) (h8 : n ≤ 8) (hp : p ∈ limP) : chkE (idL n) p true = if 65536 < p ^ n then 7 else 0 := by
  have ho := limP_odd p hp
  have hb := odd_rng ho
  have hl : (idL n).length = n := tab_len ..
  have hd : det (idL n).length (ent (idL n)) = 1 := by
    rw [hl, ← det_id n]
    exact det_congr fun i j hi hj => ent_tab hi hj
  unfold chkE
  rw [if_pos (idL_red h1 h8), if_pos ⟨ho, by rw [hd, Int.emod_eq_of_lt (by omega) (by omega)]; decide⟩, hl]
  by_cases h : 65536 < p ^ n
  · rw [if_pos ⟨rfl, h⟩, if_pos h]
  · rw [if_neg (fun hh => h hh.2), if_neg h]
theorem rest_id : (List.range 8).all (fun k => limP.all fun p => decide (65536 < p ^ (k + 1)) || (match restF (bigZ + 1) (idL (k + 1)) p with | some (_, e) => decide (e = 0) | none => false)) = true := by decide +kernel
theorem formula_id {n : Nat} {p : Int} (h1 : 1 ≤ n) (h8 : n ≤ 8) (hp : p ∈ limP) : ∃ v, P_line_Formula (bigZ + 1) (idL n) p = some (v, if 65536 < p ^ n then 7 else 0) := by
  have hf : 2147483648 < bigZ + 1 := Nat.lt_of_le_of_lt (by decide) (Nat.lt_succ_self bigZ)
  rw [formula_eq, lsize_P hf, chk_id h1 h8 hp]
  simp only [Option.bind_some]
  by_cases h : 65536 < p ^ n
  · rw [if_pos h, if_pos (by decide)]; exact ⟨0, rfl⟩
  · rw [if_neg h, if_neg (by decide)]
    have h2 := List.all_eq_true.1 (List.all_eq_true.1 rest_id (n - 1) (List.mem_range.2 (by omega))) p hp
    rw [show n - 1 + 1 = n by omega, decide_eq_false h, Bool.false_or] at h2
    cases hr : restF (bigZ + 1) (idL n) p with
    | none => rw [hr] at h2; cases h2
    | some x =>
      rw [hr] at h2
      exact ⟨x.1, by rw [← of_decide_eq_true h2]⟩
theorem few_pow {fuel n : Nat} {p : Int} (hn : n ≤ 8) (hp : p ∈ limP) (r : Int) (hr : w64 (1 + Int.tmod (w64 r) 8) = n) (hf : 100 < fuel) : Ok (iter (fun s => P_quadformlaw34_LineLimits_b4 fuel r p s.1 s.2) fuel (1, 0)) fun e => (65536 < e) ↔ 65536 < p ^ n := by
  have hb := odd_rng (limP_odd p hp)
  refine ok_iter (fun i s => s = (p ^ i, (i : Int)) ∧ i ≤ n ∧ p ^ i ≤ 65536 * 9973 ∧ (∀ j, j < i → p ^ j ≤ 65536)) n ⟨by simp, Nat.zero_le _, by simp, fun j hj => absurd hj (Nat.not_lt_zero _)⟩ (by omega) fun i s hi hI => ?_
  obtain ⟨rfl, h1, h2, h3⟩ := hI
  unfold P_quadformlaw34_LineLimits_b4
  rw [hr]
  have hs : p ^ (i + 1) = p ^ i * p := Int.pow_succ p i
  have hpos : 0 < p ^ i := Int.pow_pos (by omega)
  refine ok_bind (Q := fun ex => (ex = .inl () ∧ i < n ∧ p ^ i ≤ 65536) ∨ (ex = .inr () ∧ (i = n ∨ 65536 < p ^ i))) ?_ fun ex hex => ?_
  · dsimp only
    exact ok_if (fun h => ok_if (fun h4 => ok_some (.inl ⟨rfl, by omega, h4⟩)) fun h4 => ok_some (.inr ⟨rfl, .inr (by omega)⟩)) fun h => ok_some (.inr ⟨rfl, .inl (by omega)⟩)
  · rcases hex with ⟨rfl, h4, h5⟩ | ⟨rfl, h4⟩
    · have hm : p ^ i * p ≤ 65536 * 9973 := Int.mul_le_mul h5 hb.2 (by omega) (by omega)
      have hm0 : 0 ≤ p ^ i * p := Int.mul_nonneg (by omega) (by omega)
      dsimp only
      rw [wrap_ok (by omega) (by omega)]
      exact ok_some ⟨by omega, by rw [w64_succ (by omega), hs], by omega, by rw [hs]; exact hm, fun j hj => by
        rcases Nat.lt_or_ge j i with h6 | h6
        · exact h3 j h6
        · obtain rfl : j = i := by omega
          exact h5⟩
    · refine ok_some ?_
      rcases h4 with rfl | h4
      · exact Iff.rfl
      · exact ⟨fun _ => Int.lt_of_lt_of_le h4 (pow_mono_exp (by omega) h1), fun _ => h4⟩
theorem LineLimits_true {k : Int} (hk : 0 ≤ k ∧ k < 256) : P_quadformlaw34_LineLimits (bigZ + 1) k = some true := by
  have hf2 : 100 < bigZ + 1 := Nat.lt_of_le_of_lt (by decide) (Nat.lt_succ_self bigZ)
  obtain ⟨n, hn, h1, h8⟩ : ∃ n : Nat, w64 (1 + Int.tmod (w64 k) 8) = n ∧ 1 ≤ n ∧ n ≤ 8 := by
    have e1 : w64 k = k := wrap_ok (by omega) (by omega)
    have e2 : Int.tmod k 8 = k % 8 := Int.tmod_eq_emod_of_nonneg hk.1
    rw [e1, e2, wrap_ok (by omega) (by omega)]
    exact ⟨(1 + k % 8).toNat, by omega, by omega, by omega⟩
  apply ok_eq
  unfold P_quadformlaw34_LineLimits
  rw [hn]
  refine ok_need (by omega) (ok_bind (Q := fun e => e = idL n) ?_ fun e he => ?_)
  · refine ok_iter (fun i s => s = ((i : Int), rowL n fun r => if r < i then rowL n (dl r) else []) ∧ i ≤ n) n ⟨by rw [show ((n : Int)).toNat = n from rfl, rowL_rep]; simp, Nat.zero_le _⟩ (by omega) fun i s hi hI => ?_
    obtain ⟨rfl, h2⟩ := hI
    unfold P_quadformlaw34_LineLimits_b1
    rw [hn, List.length_replicate]
    refine ok_if (fun h => ?_) fun h => ok_some ?_
    · have hi2 : i < n := by omega
      refine ok_need (by omega) (ok_get (rowL_get hi2) rfl ?_)
      have e3 : List.replicate ((n : Int)).toNat (0 : Int) = rowL n fun _ => 0 := rowL_rep n 0
      rw [e3, sI_nat, rowL_set]
      refine ok_get (rowL_get hi2) rfl ?_
      rw [if_pos rfl]
      refine ok_get (rowL_get hi2) rfl (ok_some ⟨by omega, ?_, by omega⟩)
      rw [w64_succ (by omega), sI_nat, rowL_set, sI_nat, rowL_set]
      refine Prod.ext rfl (rowL_congr fun r hr => ?_)
      by_cases h4 : r = i
      · subst h4
        rw [if_pos rfl, if_pos (by omega)]
        exact rowL_congr fun c hc => by unfold dl; by_cases h5 : c = r <;> simp [h5, Ne.symm]
      · rw [if_neg h4, if_neg h4]
        by_cases h5 : r < i
        · rw [if_pos h5, if_pos (by omega)]
        · rw [if_neg h5, if_neg (by omega)]
    · obtain rfl : i = n := by omega
      show _ = tab i i dl
      rw [tab_rowL]
      exact rowL_congr fun r hr => by rw [if_pos hr]
  · subst he
    refine ok_bind (Q := fun ex => ex = .inr ()) ?_ fun ex hex => ?_
    · refine ok_iter (fun i s => s = (i : Int) ∧ i ≤ 9) 9 ⟨rfl, by omega⟩ (by omega) fun i s hi hI => ?_
      obtain ⟨rfl, h2⟩ := hI
      unfold P_quadformlaw34_LineLimits_b2
      refine ok_if (fun h => ?_) fun h => ok_some rfl
      have hi2 : i < 9 := by have : (i : Int) < 9 := h; omega
      obtain ⟨p, hp, hpm⟩ : ∃ p, limP[i]? = some p ∧ p ∈ limP := ⟨limP[i]'hi2, List.getElem?_eq_getElem _, List.getElem_mem _⟩
      refine ok_get hp rfl (ok_bind (Q := fun e => (65536 < e) ↔ 65536 < p ^ n) (ok_bind (few_pow h8 hpm k hn hf2) fun e he => ok_some he) fun e he => ?_)
      obtain ⟨v, hv⟩ := formula_id h1 h8 hpm
      rw [hv]
      simp only [Option.bind_some]
      have hw : w64 ((i : Int) + 1) = ((i + 1 : Nat) : Int) := w64_succ (by omega)
      by_cases h6 : 65536 < p ^ n
      · rw [if_pos h6]
        simp only [he.2 h6, decide_true, BEq.rfl, Bool.not_true, Bool.false_eq_true, if_false]
        rw [if_pos (by decide), if_neg (by decide)]
        exact ok_some ⟨by omega, hw, by omega⟩
      · rw [if_neg h6]
        have h7 : ¬ 65536 < e := fun hh => h6 (he.1 hh)
        simp only [h7, decide_false]
        rw [if_neg (by simp), if_neg (by simp)]
        exact ok_some ⟨by omega, hw, by omega⟩
    · subst hex
      dsimp only
      rw [awake34_true]
      exact ok_some rfl
end Go.Proofs.YtiegjkmfpcgjjaaDoor
