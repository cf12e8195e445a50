/-
  The evaluator is sound: floating variables, control flow, results, calls.
-/
import Derived.Test.YtccgaemmdikhcaaDoorEw2
namespace Go.QF
open Go
set_option linter.unusedVariables false
set_option linter.unusedSimpArgs false
theorem getE_none : ∀ {l : EnvL} {t : Nat}, (∀ v, (t, v) ∉ l) → getE l t = .u := by
  intro l
  induction l with
  | nil => intro t _; rfl
  | cons q l ih =>
    obtain ⟨d, v⟩ := q
    intro t h
    have hne : t ≠ d := fun he => h v (by rw [he]; exact List.mem_cons_self ..)
    simp only [getE, beq_ne hne, cond_false]
    exact ih fun w hw => h w (List.mem_cons_of_mem _ hw)
theorem agA_ok {l l' : EnvL} : ∀ {ks : EnvL}, agA l l' ks = true → ∀ t v, (t, v) ∈ ks → getE l t = getE l' t := by
  intro ks
  induction ks with
  | nil => intro _ t v h; cases h
  | cons q ks ih =>
    obtain ⟨d, w⟩ := q
    intro h t v hm
    simp only [agA, Bool.and_eq_true] at h
    rcases List.mem_cons.1 hm with he | hm
    · cases he; exact veq_ok _ _ h.1
    · exact ih h.2 t v hm
theorem eqEnv_ok {l l' : EnvL} (h : eqEnv l l' = true) (t : Nat) : getE l t = getE l' t := by
  simp only [eqEnv, Bool.and_eq_true] at h
  by_cases h1 : ∃ v, (t, v) ∈ l
  · obtain ⟨v, hv⟩ := h1; exact agA_ok h.1 t v hv
  · by_cases h2 : ∃ v, (t, v) ∈ l'
    · obtain ⟨v, hv⟩ := h2; exact agA_ok h.2 t v hv
    · rw [getE_none fun v hv => h1 ⟨v, hv⟩, getE_none fun v hv => h2 ⟨v, hv⟩]
theorem eqHp_ok : ∀ {bs bs' : Hp}, eqHp bs bs' = true → bs = bs' := by
  intro bs
  induction bs with
  | nil => intro bs' h; cases bs' with | nil => rfl | cons => cases h
  | cons x bs ih =>
    intro bs' h
    cases bs' with
    | nil => cases x <;> cases h
    | cons y bs' =>
      cases x with
      | none =>
        cases y with
        | none => simp only [eqHp] at h; rw [ih h]
        | some => cases h
      | some b =>
        cases y with
        | none => cases h
        | some b' =>
          simp only [eqHp, Bool.and_eq_true, beq_iff_eq] at h
          obtain ⟨⟨⟨h1, h2⟩, h3⟩, h4⟩ := h
          rw [ih h4]
          obtain ⟨c, r, s⟩ := b
          obtain ⟨c', r', s'⟩ := b'
          simp only at h1 h2 h3
          rw [veqs_ok _ _ h1, h2, Nat.eq_of_beq_eq_true h3]
section
variable {P : Program} {h : Heap} {G : List (Nat × Nat)} {Q : EqT} {C : Calls'} {ops : Array Oper} {K : Env → Heap → Prop}
theorem now_ok (HQ : EqOk P Q) (HC : CallsOk P h G C) {m00 ms m : Mp} {H0 H : Heap} {L : Cl} (B0 : BL m00 L H0) (hm : Wle m00 m) (hpre : ∃ t, m = ms ++ none :: t) {l l' : EnvL} {bs bs' : Hp} {e : Env} (R : Rl h G m l bs e H) {d : Nat} {t : TypeId} {ty : TypeId} {pos : String} {af : Array Edge} {z : List V} {zn : Nat} (hz : zeE P t = some (zn, z)) {rest : List Oper}
    (hv : floNow P Q C G ops L ms.length d z rest l bs = some (l', bs')) (HK : ∀ m' e' H', Mle ms m' → Rl h G m' l' bs' e' H' → K e' H') : RL P (BL m00 L) true ops (⟨some d, .alloc t, ty, pos, af, none⟩ :: rest) e H K := by
  unfold floNow at hv
  cases hb : (holdsE bs L && holdsE (bs.set ms.length (some ⟨z, false, 0⟩)) L) with
  | false => rw [hb] at hv; cases hv
  | true =>
    rw [hb] at hv
    simp only [cond_true] at hv
    simp only [Bool.and_eq_true] at hb
    obtain ⟨t', rfl⟩ := hpre
    obtain ⟨i, zv, hi, hzz, hsi, hn, hby, hzr, hzs⟩ := zeE_ok hz
    have hk : (ms ++ none :: t')[ms.length]? = some none := by simp
    have hlr : LR (ms ++ none :: t') z zv.cells.toList := by have := lr_pre (ws := []) (hzr (ms ++ none :: t')); rwa [List.append_nil] at this
    have hres := R.heap.resv hk (t := t) hlr
    have hW := wle_resv hk (H.size, 0)
    have hgk : mg ((ms ++ none :: t').set ms.length (some (H.size, 0))) ms.length = some (H.size, 0) := by
      unfold mg; rw [List.getElem?_set_self (by simp)]
    refine r_alloc ⟨i, hi, hzz, by rw [hsi, hzs], rfl⟩ (B0.later hm R.heap hb.1) ⟨B0.later (hm.trans hW) hres hb.2, ?_⟩
    refine regS_ok HQ HC B0 rest _ _ _ _ _ (hm.trans hW) ⟨(R.env.mono hW).put (v := .p ms.length 0) ⟨(H.size, 0), hgk, rfl⟩ d, hres⟩ hv fun m' e' H' hm' R' => HK m' e' H' ?_ R'
    obtain ⟨u, rfl⟩ := hm'.pre
    exact ⟨⟨some (H.size, 0) :: (t' ++ u), by simp [List.set_append_right]⟩⟩
theorem isRd_or {o : Op} (h : isRd o = true) : kindOf o = .pure ∨ kindOf o = .read := by
  unfold isRd at h
  cases hk : kindOf o <;> rw [hk] at h <;> first | exact .inl rfl | exact .inr rfl | cases h
theorem bothE_ok {a b : Option (EnvL × Hp)} {l : EnvL} {bs : Hp} (h : bothE a b = some (l, bs)) : a = some (l, bs) ∧ ∃ l2, b = some (l2, bs) ∧ ∀ t, getE l2 t = getE l t := by
  unfold bothE at h
  split at h
  · rename_i l1 b1 l2 b2
    cases hb : (eqEnv l1 l2 && eqHp b1 b2) with
    | false => rw [hb] at h; cases h
    | true =>
      rw [hb] at h; cases h
      simp only [Bool.and_eq_true] at hb
      exact ⟨rfl, l2, by rw [eqHp_ok hb.2], fun t => (eqEnv_ok hb.1 t).symm⟩
  · cases h
theorem floE_ok (HQ : EqOk P Q) (HC : CallsOk P h G C) {n f d : Nat} {t ty : TypeId} {pos : String} {af : Array Edge} (hof : ops[f]? = some ⟨some d, .alloc t, ty, pos, af, none⟩) (S : FlSpec n ops f ⟨some d, .alloc t, ty, pos, af, none⟩) (hst : stOf ops true = true) {m00 ms : Mp} {H0 : Heap} {L : Cl} (B0 : BL m00 L H0) {z : List V} {zn : Nat} (hz : zeE P t = some (zn, z))
    {T : List Oper} {IT : List Nat} (hT : IT.map (fun i => ops[i]?) = T.map some) : ∀ (R : List Oper) (IR : List Nat), IR.map (fun i => ops[i]?) = R.map some → (∀ i ∈ IR, i < f) → ∀ (m : Mp) (l : EnvL) (bs : Hp) (e : Env) (H : Heap) (l' : EnvL) (bs' : Hp), (∃ t, m = ms ++ none :: t) → Wle m00 m → Rl h G m l bs e H →
      floE P Q C G ops L ms.length d z T R l bs = some (l', bs') → (∀ m' e' H', Mle ms m' → Rl h G m' l' bs' e' H' → K e' H') → LF P (BL m00 L) true ops f IT IR e H K := by
  have hsf := (S.fs.spec hof).2.1
  intro R
  induction R with
  | nil =>
    intro IR hIR hlt m l bs e H l' bs' hpre hm RR hv HK
    have : IR = [] := by cases IR with | nil => rfl | cons => cases hIR
    subst this
    refine LI_of_RL (f :: IT) (⟨some d, .alloc t, ty, pos, af, none⟩ :: T) (by simp [hof, hT]) e H (now_ok HQ HC B0 hm hpre RR hz hv HK)
  | cons o R ih =>
    intro IR hIR hlt m l bs e H l' bs' hpre hm RR hv HK
    cases IR with
    | nil => cases hIR
    | cons i IR =>
      simp only [List.map_cons, List.cons.injEq] at hIR
      obtain ⟨hoi, hIR⟩ := hIR
      have hif : i < f := hlt i (List.mem_cons_self ..)
      have hlt' : ∀ j ∈ IR, j < f := fun j hj => hlt j (List.mem_cons_of_mem _ hj)
      have hso := (S.fs.spec hoi).2.1
      -- what the step gives, and what is to be shown
      have close : ∀ (l2 : EnvL) (bs2 : Hp), (∀ l3 bs3, floE P Q C G ops L ms.length d z T R l2 bs2 = some (l3, bs3) → (∀ m' e' H', Mle ms m' → Rl h G m' l3 bs3 e' H' → K e' H') → RL P (BL m00 L) true ops [o] e H (fun e' h' => LF P (BL m00 L) true ops f IT IR e' h' K)) →
          (bif isRd o.op then floE P Q C G ops L ms.length d z T R l2 bs2 else bothE (floE P Q C G ops L ms.length d z T R l2 bs2) (floNow P Q C G ops L ms.length d z (o :: (R ++ T)) l bs)) = some (l', bs') → LF P (BL m00 L) true ops f IT (i :: IR) e H K := by
        intro l2 bs2 hstep hv
        cases hrd : isRd o.op with
        | true =>
          rw [hrd] at hv
          simp only [cond_true] at hv
          have hg := hstep l' bs' hv HK
          exact LF.lift hof hsf hoi hso (indep_comm (by have := S.dn i o hoi hif (isRd_or hrd); rw [hst] at this; exact this)) hg
        | false =>
          rw [hrd] at hv
          simp only [cond_false] at hv
          obtain ⟨h1, l3, h2, h3⟩ := bothE_ok hv
          have hg := hstep l' bs' h1 HK
          refine ⟨?_, by simp only [hoi]; exact hg⟩
          refine LI_of_RL (f :: i :: (IR ++ IT)) (⟨some d, .alloc t, ty, pos, af, none⟩ :: o :: (R ++ T)) (by simp [hof, hoi, hT, hIR]) e H (now_ok HQ HC B0 hm hpre RR hz h2 fun m' e' H' hm' R' => HK m' e' H' hm' ⟨fun t => ?_, R'.heap⟩)
          rw [← h3 t]; exact R'.env t
      have nx : ∀ (l2 : EnvL) (bs2 : Hp) l3 bs3, floE P Q C G ops L ms.length d z T R l2 bs2 = some (l3, bs3) → (∀ m' e' H', Mle ms m' → Rl h G m' l3 bs3 e' H' → K e' H') → Nx P (BL m00 L) true ops [] (fun e' h' => LF P (BL m00 L) true ops f IT IR e' h' K) h G m l2 bs2 := by
        intro l2 bs2 l3 bs3 hf hK m' e' H' hm' R'
        refine ih IR hIR hlt' m' l2 bs2 e' H' l3 bs3 ?_ (hm.trans hm'.w) R' hf hK
        obtain ⟨t', rfl⟩ := hpre
        obtain ⟨u, rfl⟩ := hm'.pre
        exact ⟨t' ++ u, by simp⟩
      obtain ⟨dst, op, ty', pos', af', g⟩ := o
      unfold floE at hv
      split at hv
      · rename_i hw
        split at hv
        · rename_i l2 bs2 hs
          simp only at hv
          cases hk : kindOf op with
          | pure =>
            simp only [hk, cond_true] at hv
            exact close l2 bs2 (fun l3 bs3 hf hK => wantE_ok RR hw (stepE_ok HQ HC RR hs (fun hh => by rw [hk] at hh; cases hh) (fun hh => by rw [hk] at hh; cases hh) (nx l2 bs2 l3 bs3 hf hK))) hv
          | wr =>
            simp only [hk, cond_true] at hv
            exact close l2 bs2 (fun l3 bs3 hf hK => wantE_ok RR hw (stepE_ok HQ HC RR hs (fun hh => by rw [hk] at hh; cases hh) (fun hh => by rw [hk] at hh; cases hh) (nx l2 bs2 l3 bs3 hf hK))) hv
          | read =>
            simp only [hk] at hv
            cases hb : (holdsE bs L && rdOk P L G l l2 ⟨dst, op, ty', pos', af', g⟩) with
            | false => rw [hb] at hv; cases hv
            | true =>
              rw [hb] at hv
              simp only [cond_true] at hv
              simp only [Bool.and_eq_true] at hb
              exact close l2 bs2 (fun l3 bs3 hf hK => wantE_ok RR hw (rd_ok HQ HC B0 hm RR hk hs hb.1 hb.2 (nx l2 bs2 l3 bs3 hf hK))) hv
          | eff =>
            simp only [hk] at hv
            cases hb : (holdsE bs L && holdsE bs2 L) with
            | false => rw [hb] at hv; cases hv
            | true =>
              rw [hb] at hv
              simp only [cond_true] at hv
              simp only [Bool.and_eq_true] at hb
              exact close l2 bs2 (fun l3 bs3 hf hK => wantE_ok RR hw (stepE_ok HQ HC RR hs (fun hh => by rw [hk] at hh; cases hh) (fun _ => ⟨B0.later hm RR.heap hb.1, fun m' H' hm' hR => B0.later (hm.trans hm'.w) hR hb.2⟩) (nx l2 bs2 l3 bs3 hf hK))) hv
        · cases hv
      · rename_i hw
        exact close _ bs (fun l3 bs3 hf hK => skipE_ok RR hw (nx _ bs l3 bs3 hf hK)) hv
      · cases hv
theorem findF_ok : ∀ {r : List Oper} {j f d : Nat} {t : TypeId}, findF r j = some (f, d, t) → j ≤ f ∧ ∃ ty pos af, r[f - j]? = some ⟨some d, .alloc t, ty, pos, af, none⟩ := by
  intro r
  induction r with
  | nil => intro j f d t h; cases h
  | cons o r ih =>
    intro j f d t h
    unfold findF at h
    split at h
    · rename_i d' t' ty pos af; cases h; exact ⟨Nat.le_refl _, ty, pos, af, by simp⟩
    · obtain ⟨h1, ty, pos, af, h2⟩ := ih h
      exact ⟨by omega, ty, pos, af, by rw [show f - j = f - (j + 1) + 1 by omega, List.getElem?_cons_succ]; exact h2⟩
/-! ### code -/
/-- The code run in any way leads to Q. -/
def SW (P : Program) (n : Nat) (c : Code) (K : Exit → Env → Heap → Prop) (e : Env) (H : Heap) : Prop :=
  ∀ (a : Act) (w : World) (K' : Exit → Act → World → Prop), Rep n e a → w.heap = H → (∀ x e' a' w', Rep n e' a' → Same w w' → K x e' w'.heap → K' x a' w') → c.wp P K' a w
theorem regX_ok (hmx : P.follows .mixedOrders = true) (HQ : EqOk P Q) (HC : CallsOk P h G C) {n id : Nat} {draw : Bool} {l l' : EnvL} {bs bs' : Hp} (hv : regX P Q C G n ops draw l bs = some (l', bs')) {m : Mp} {e : Env} {H : Heap} (R : Rl h G m l bs e H) {K : Exit → Env → Heap → Prop} (HK : ∀ m' e' H', Mle m m' → Rl h G m' l' bs' e' H' → K .normal e' H') : SW P n (.region id ops draw) K e H := by
  unfold regX at hv
  · cases hok : regOk n ops draw with
    | true =>
      rw [hok] at hv
      simp only [cond_true] at hv
      have fin : (∃ B, RL P B (stOf ops draw) ops ops.toList e H (K .normal)) → SW P n (.region id ops draw) K e H := by
        rintro ⟨B, hB⟩ a w K' r hw hK'
        subst hw
        exact wp_region_of_RL hmx hok r hB (fun e' a' w' r' s k => hK' _ _ _ _ r' s k)
      cases hst : stOf ops draw with
      | false =>
        rw [hst] at hv
        exact fin ⟨fun _ => True, by rw [hst]; exact regE_ok HQ HC ops.toList m l bs e H R hv HK⟩
      | true =>
        rw [hst] at hv
        simp only [cond_true] at hv
        cases hh : holdsE bs (lookE P Q G ops l bs) with
        | false => rw [hh] at hv; cases hv
        | true =>
          rw [hh] at hv
          simp only [cond_true] at hv
          exact fin ⟨BL m (lookE P Q G ops l bs), by rw [hst]; exact regS_ok HQ HC (H0 := H) (holdsE_ok R.heap hh) ops.toList m l bs e H (.refl m) R hv HK⟩
    | false =>
      rw [hok] at hv
      simp only [cond_false] at hv
      cases hd : (draw && stOf ops true) with
      | false => rw [hd] at hv; cases hv
      | true =>
        rw [hd] at hv
        simp only [cond_true] at hv
        simp only [Bool.and_eq_true] at hd
        obtain ⟨rfl, hst⟩ := hd
        split at hv
        · rename_i f d t hf
          split at hv
          · rename_i zn z hz
            cases hb : (floatOk n ops f && holdsE bs (lookE P Q G ops l bs)) with
            | false => rw [hb] at hv; cases hv
            | true =>
              rw [hb] at hv
              simp only [cond_true] at hv
              simp only [Bool.and_eq_true] at hb
              obtain ⟨_, ty, pos, af, hof'⟩ := findF_ok hf
              have hof : ops[f]? = some ⟨some d, .alloc t, ty, pos, af, none⟩ := by rw [Nat.sub_zero] at hof'; simpa using hof'
              obtain ⟨of, hof2, S⟩ := floatOk_spec hb.1
              rw [hof] at hof2; cases hof2
              have hfl : f < ops.size := (Array.getElem?_eq_some_iff.1 hof).1
              intro a w K' r hw hK'
              subst hw
              have R0 : Rl h G (m ++ [none]) l (bs ++ [none]) e w.heap := ⟨R.env.mono (Mle.mk ⟨_, rfl⟩).w, R.heap.foretell⟩
              have hB0 : BL m (lookE P Q G ops l bs) w.heap := holdsE_ok R.heap hb.2
              have hlen : bs.length = m.length := R.heap.len.symm
              rw [hlen] at hv
              refine wp_region_float (B := BL m (lookE P Q G ops l bs)) (K := K .normal) hmx hb.1 r ?_ (fun e' a' w' r' s k => hK' _ _ _ _ r' s k)
              rw [hst]
              refine floE_ok HQ HC hof S hst hB0 hz (T := ops.toList.drop (f + 1)) ?_ (ops.toList.take f) (List.range f) ?_ (fun i hi => List.mem_range.1 hi) (m ++ [none]) l (bs ++ [none]) e w.heap l' bs' ⟨[], rfl⟩ (Mle.mk ⟨_, rfl⟩).w R0 hv HK
              · apply List.ext_getElem?
                intro j
                simp only [List.getElem?_map, List.getElem?_drop, Array.getElem?_toList]
                rcases Nat.lt_or_ge j (ops.size - f - 1) with hj | hj
                · rw [List.getElem?_range' hj]
                  have : f + 1 + j < ops.size := by omega
                  simp [this]
                · rw [List.getElem?_eq_none (by simpa using hj)]
                  have : ops[f + 1 + j]? = none := Array.getElem?_eq_none (by omega)
                  simp [this]
              · apply List.ext_getElem?
                intro j
                simp only [List.getElem?_map, List.getElem?_take, Array.getElem?_toList]
                rcases Nat.lt_or_ge j f with hj | hj
                · rw [List.getElem?_range hj, if_pos hj]
                  have : j < ops.size := by omega
                  simp [this]
                · rw [List.getElem?_eq_none (by simpa using hj), if_neg (by omega)]
                  rfl
          · cases hv
        · cases hv
theorem codeE_ok (hmx : P.follows .mixedOrders = true) (HQ : EqOk P Q) (HC : CallsOk P h G C) {nt : Nat} : ∀ (n : Nat) (c : Code) (l : EnvL) (bs : Hp) (x : Exit) (l' : EnvL) (bs' : Hp), codeE P Q C G nt n c l bs = some (x, l', bs') → ∀ m e H, Rl h G m l bs e H → ∀ K : Exit → Env → Heap → Prop, (∀ m' e' H', Mle m m' → Rl h G m' l' bs' e' H' → K x e' H') → SW P nt c K e H := by
  intro n
  induction n using Nat.strongRecOn with
  | ind n ihs =>
    intro c l bs x l' bs' hv m e H R K HK a w K' r hw hK'
    cases n with
    | zero => cases hv
    | succ n =>
    have ih := ihs n (Nat.lt_succ_self n)
    cases c
    case skip => simp only [codeE] at hv; cases hv; exact wp_skip (hK' _ _ _ _ r (.refl w) (by rw [hw]; exact HK m e H (.refl m) R))
    case exit => simp only [codeE] at hv; cases hv; exact wp_exit (hK' _ _ _ _ r (.refl w) (by rw [hw]; exact HK m e H (.refl m) R))
    case ret => simp only [codeE] at hv; cases hv; exact wp_ret (hK' _ _ _ _ r (.refl w) (by rw [hw]; exact HK m e H (.refl m) R))
    case label => simp only [codeE] at hv; cases hv; exact wp_label (hK' _ _ _ _ r (.refl w) (by rw [hw]; exact HK m e H (.refl m) R))
    case region id ops draw =>
      simp only [codeE] at hv
      split at hv
      · rename_i l2 bs2 h2; cases hv; exact regX_ok hmx HQ HC h2 R HK a w K' r hw hK'
      · cases hv
    case seq c1 c2 =>
      simp only [codeE] at hv
      split at hv
      · rename_i l2 bs2 h2
        refine wp_seq (ih c1 l bs _ l2 bs2 h2 m e H R (fun x e' H' => x = .normal ∧ ∃ m', Mle m m' ∧ Rl h G m' l2 bs2 e' H') (fun m' e' H' hm R' => ⟨rfl, m', hm, R'⟩) a w _ r hw fun ex e' a' w' r' s k => ?_)
        obtain ⟨rfl, m', hm, R'⟩ := k
        exact ih c2 l2 bs2 x l' bs' hv m' e' w'.heap R' K (fun m2 e2 H2 hm2 R2 => HK m2 e2 H2 (hm.trans hm2) R2) a' w' _ r' rfl fun x2 e2 a2 w2 r2 s2 k2 => hK' _ _ _ _ r2 (s.trans s2) k2
      · rename_i rr hne
        refine wp_seq (ih c1 l bs x l' bs' hv m e H R (fun x' e' H' => x' = x ∧ K x e' H') (fun m' e' H' hm R' => ⟨rfl, HK m' e' H' hm R'⟩) a w _ r hw fun ex e' a' w' r' s k => ?_)
        obtain ⟨rfl, k⟩ := k
        cases ex <;> first | exact hK' _ _ _ _ r' s k | exact absurd hv (hne _ _)
    case cond c x1 y1 =>
      simp only [codeE] at hv
      split at hv
      · rename_i h2
        exact wp_cond_split (t := true) (by rw [r.eval]; exact evE_ok R h2) (fun _ => ih x1 l bs x l' bs' hv m e H R K HK a w K' r hw hK') (fun hh => by cases hh)
      · rename_i h2
        exact wp_cond_split (t := false) (by rw [r.eval]; exact evE_ok R h2) (fun hh => by cases hh) (fun _ => ih y1 l bs x l' bs' hv m e H R K HK a w K' r hw hK')
      · cases hv
    case block id c =>
      simp only [codeE] at hv
      split at hv
      · rename_i id' l2 bs2 h2
        refine wp_block (ih c l bs _ l2 bs2 h2 m e H R (fun x' e' H' => x' = .exit id' ∧ K x e' H') (fun m' e' H' hm R' => ?_) a w _ r hw fun ex e' a' w' r' s k => ?_)
        · refine ⟨rfl, ?_⟩
          cases hb : Nat.beq id' id
          · rw [hb] at hv; cases hv; exact HK m' e' H' hm R'
          · rw [hb] at hv; cases hv; exact HK m' e' H' hm R'
        · obtain ⟨rfl, k⟩ := k
          cases hb : Nat.beq id' id
          · rw [hb] at hv; cases hv
            have hne : id' ≠ id := fun he => by rw [he, Nat.beq_refl] at hb; cases hb
            simp only [Exit.inBlock, hne, if_false]; exact hK' _ _ _ _ r' s k
          · rw [hb] at hv; cases hv
            cases Nat.eq_of_beq_eq_true hb
            simp only [Exit.inBlock, if_true]; exact hK' _ _ _ _ r' s k
      · rename_i rr hne
        refine wp_block (ih c l bs x l' bs' hv m e H R (fun x' e' H' => x' = x ∧ K x e' H') (fun m' e' H' hm R' => ⟨rfl, HK m' e' H' hm R'⟩) a w _ r hw fun ex e' a' w' r' s k => ?_)
        obtain ⟨rfl, k⟩ := k
        cases ex <;> first | exact hK' _ _ _ _ r' s k | exact absurd hv (hne _ _ _)
    case loop c =>
      refine wp_loop_ghost (fun k a' w' => ∃ m' l2 bs2 e', Mle m m' ∧ Rl h G m' l2 bs2 e' w'.heap ∧ codeE P Q C G nt k (.loop c) l2 bs2 = some (x, l', bs') ∧ k ≤ n + 1 ∧ Rep nt e' a' ∧ Same w w') (n + 1) ⟨m, l, bs, e, .refl m, by rw [hw]; exact R, hv, Nat.le_refl _, r, .refl w⟩ ?_
      rintro k1 a1 w1 ⟨m1, l1, bs1, e1, hm1, R1, hv1, hk1, r1, s1⟩
      cases k1 with
      | zero => cases hv1
      | succ k =>
        simp only [codeE] at hv1
        have ihk := ihs k (by omega)
        split at hv1
        · rename_i l2 bs2 h2
          refine ihk c l1 bs1 _ l2 bs2 h2 m1 e1 w1.heap R1 (fun x' e' H' => x' = .normal ∧ ∃ m', Mle m1 m' ∧ Rl h G m' l2 bs2 e' H') (fun m' e' H' hm R' => ⟨rfl, m', hm, R'⟩) a1 w1 _ r1 rfl fun ex e' a' w' r' s k' => ?_
          obtain ⟨rfl, m', hm, R'⟩ := k'
          exact ⟨k, Nat.lt_succ_self k, m', l2, bs2, e', hm1.trans hm, R', hv1, by omega, r', s1.trans s⟩
        · rename_i rr hne
          refine ihk c l1 bs1 x l' bs' hv1 m1 e1 w1.heap R1 (fun x' e' H' => x' = x ∧ K x e' H') (fun m' e' H' hm R' => ⟨rfl, HK m' e' H' (hm1.trans hm) R'⟩) a1 w1 _ r1 rfl fun ex e' a' w' r' s k' => ?_
          obtain ⟨rfl, k'⟩ := k'
          cases ex <;> first | exact hK' _ _ _ _ r' (s1.trans s) k' | exact absurd hv1 (hne _ _)
    case scope c =>
      simp only [codeE] at hv
      split at hv
      · cases hv
      · rename_i rr hne
        refine wp_scope_straight (ih c l bs x l' bs' hv m e H R (fun x' e' H' => x' = x ∧ K x e' H') (fun m' e' H' hm R' => ⟨rfl, HK m' e' H' hm R'⟩) a w _ r hw fun ex e' a' w' r' s k => ?_)
        obtain ⟨rfl, k⟩ := k
        cases ex <;> first | exact hK' _ _ _ _ r' s k | exact absurd hv (hne _ _ _)
    all_goals (simp only [codeE] at hv; cases hv)
/-! ### results -/
theorem run_loadVar1 {t : TypeId} (ht : NaT P t) {a : Addr} {v : Value} (w : World) (hc : cellH w.heap a = some v) : (loadVar t a).run P w = .ok v w := by
  obtain ⟨⟨d, hd, hna⟩, _⟩ := ht
  have hc' : w.cell? a = some v := hc
  have h2 := a_run (P := P) hd w
  rw [hna] at h2
  simp [loadVar, h2, hc']
theorem retEs_ok {m : Mp} {l : EnvL} {bs : Hp} {e : Env} {H : Heap} (R : Rl h G m l bs e H) : ∀ {rs : List ResultVar} {vs : List V}, retEs P l bs rs = some vs → ∃ us, rels m vs us ∧ ∀ (tmps : Array Value) (w : World), (∀ t, tmps.getD t undef = e t) → w.heap = H →
    (rs.mapM (fun r : ResultVar => match r with | .tmp t => (pure (tmps.getD t undef) : Sem Value) | .cell a t => do loadVar t (← asAddr (tmps.getD a undef)))).run P w = .ok us w := by
  intro rs
  induction rs with
  | nil => intro vs hv; cases hv; exact ⟨[], rfl, fun tmps w _ _ => by simp⟩
  | cons r rs ih =>
    intro vs hv
    unfold retEs at hv
    split at hv
    · rename_i v ws h1 h2
      cases hv
      obtain ⟨us, q1, q2⟩ := ih h2
      have key : ∃ u, rel m v u ∧ ∀ (tmps : Array Value) (w : World), (∀ t, tmps.getD t undef = e t) → w.heap = H → ((fun r : ResultVar => match r with | .tmp t => (pure (tmps.getD t undef) : Sem Value) | .cell a t => do loadVar t (← asAddr (tmps.getD a undef))) r).run P w = .ok u w := by
        cases r with
        | tmp t =>
          simp only [ret1] at h1
          cases h1
          exact ⟨e t, R.env t, fun tmps w hg _ => by simp only [hg t]; rfl⟩
        | cell t ty =>
          simp only [ret1] at h1
          split at h1
          · rename_i b o hx ht
            obtain ⟨r, u, hr, hu, hrel⟩ := R.heap.cell h1
            have hp := R.env t
            rw [hx] at hp
            obtain ⟨r', hr', hp⟩ := hp
            rw [hr] at hr'; cases hr'
            refine ⟨u, hrel, fun tmps w hg hw => ?_⟩
            have h3 := run_loadVar1 (P := P) (tyE_na ht) w (a := ⟨r.1, o, none⟩) (by rw [hw]; exact hu)
            have h4 : tmps.getD t undef = .pointer (some ⟨r.1, o, none⟩) := (hg t).trans hp
            simp only [h4]
            simp [asAddr, h3]
          · rename_i b o n hx ht
            split at h1
            · rename_i ws' hc
              cases h1
              have hp := R.env t
              rw [hx] at hp
              obtain ⟨r, hr, hp⟩ := hp
              obtain ⟨us', c1, c2, c3⟩ := R.heap.cells hr hc
              refine ⟨.agg us'.toArray, ⟨us', c1, rfl⟩, fun tmps w hg hw => ?_⟩
              have h3 := run_loadVarA (P := P) (tyE_ag ht) c2 w (a := ⟨r.1, o, none⟩) (fun i u hu => by rw [add_off, hw]; exact c3 i u hu)
              have h4 : tmps.getD t undef = .pointer (some ⟨r.1, o, none⟩) := (hg t).trans hp
              simp only [h4]
              simp [asAddr, h3]
            · cases h1
          · cases h1
      obtain ⟨u, hu, hrun⟩ := key
      refine ⟨u :: us, ⟨u, us, rfl, hu, q1⟩, fun tmps w hg hw => ?_⟩
      have h5 := hrun tmps w hg hw
      have h6 := q2 tmps w hg hw
      rw [List.mapM_cons]
      simp only [Sem.run_bind, h5, Result.andThen, h6]
      rfl
    · cases hv
theorem retE_ok {m : Mp} {l : EnvL} {bs : Hp} {e : Env} {H : Heap} (R : Rl h G m l bs e H) {rs : List ResultVar} {v : V} (hv : retE P l bs rs = some v) : ∃ u, rel m v u ∧ RetV P rs e H u := by
  unfold retE at hv
  have run : ∀ {vs : List V} {us : List Value}, rels m vs us → (∀ (tmps : Array Value) (w : World), (∀ t, tmps.getD t undef = e t) → w.heap = H →
    (rs.mapM (fun r : ResultVar => match r with | .tmp t => (pure (tmps.getD t undef) : Sem Value) | .cell a t => do loadVar t (← asAddr (tmps.getD a undef)))).run P w = .ok us w) → RetV P rs e H (if h : us.toArray.size = 1 then us.toArray[0] else .tuple us.toArray) := by
    intro vs us _ hrun fn tmps w hr hg hw
    have := hrun tmps w hg hw
    simp only [results, hr]
    rw [List.mapM_toArray]
    simp only [Sem.run_bind, map_eq_pure_bind, Result.andThen]
    erw [this]
    rfl
  split at hv
  · rename_i v' h1
    cases hv
    obtain ⟨us, q1, q2⟩ := retEs_ok R h1
    have := run q1 q2
    obtain ⟨y, ys, rfl, h2, h3⟩ := q1
    cases h3
    exact ⟨y, h2, this⟩
  · rename_i vs hne h1
    cases hv
    obtain ⟨us, q1, q2⟩ := retEs_ok R h1
    have := run q1 q2
    have hl := rels_len q1
    have hn1 : ¬ us.toArray.size = 1 := by
      intro h1'
      simp only [List.size_toArray] at h1'
      rw [h1'] at hl
      obtain ⟨a, ha⟩ := List.length_eq_one_iff.1 hl
      subst ha
      exact hne a rfl
    rw [dif_neg hn1] at this
    exact ⟨_, ⟨us, q1, rfl⟩, this⟩
  · cases hv
/-! ### calls -/
def fnOk (P : Program) (f : FuncId) : Bool := match P.funcs[f]? with
  | some fn => !(fn.name == "runtime.NumGoroutine")
  | none => false
def allOk (P : Program) : List FuncId → Bool
  | [] => true
  | f :: L => fnOk P f && allOk P L
theorem allOk_mem {L : List FuncId} (hL : allOk P L = true) {f : FuncId} (hf : memN L f = true) : fnOk P f = true := by
  induction L with
  | nil => cases hf
  | cons g L ih =>
    simp only [allOk, Bool.and_eq_true] at hL
    unfold memN at hf
    cases hb : Nat.beq g f with
    | true => cases Nat.eq_of_beq_eq_true hb; exact hL.1
    | false => rw [hb] at hf; exact ih hL.2 hf
theorem args_get : ∀ (vs : List V) (k t : Nat), getE (argsE k vs) t = if k ≤ t then (vs[t - k]?).getD .u else .u := by
  intro vs
  induction vs with
  | nil => intro k t; simp [argsE, getE]
  | cons v vs ih =>
    intro k t
    simp only [argsE, getE]
    cases hb : Nat.beq t k with
    | true => cases Nat.eq_of_beq_eq_true hb; simp
    | false =>
      have hne : t ≠ k := fun he => by rw [he, Nat.beq_refl] at hb; cases hb
      simp only [cond_false, ih]
      by_cases hk : k ≤ t
      · rw [if_pos hk, if_pos (by omega), show t - k = t - (k + 1) + 1 by omega, List.getElem?_cons_succ]
      · rw [if_neg hk, if_neg (by omega)]
theorem args_ok {m : Mp} {vs : List V} {args : List Value} (hr : rels m vs args) : ER m (argsE 0 vs) (lenv args) := by
  intro t
  rw [args_get, lenv_get, if_pos (Nat.zero_le t), Nat.sub_zero]
  obtain ⟨hl, h2⟩ := rels_iff.1 hr
  cases hx : vs[t]? with
  | none =>
    have : args[t]? = none := by rw [List.getElem?_eq_none_iff] at hx ⊢; omega
    rw [this]; rfl
  | some x =>
    obtain ⟨u, hu, hru⟩ := h2 t x hx
    rw [hu]; exact hru
theorem calls_of_SW {f : FuncId} {fn : Func} {c : Code} {l : List Value} {H : Heap} {K : Value → Heap → Prop}
    (hf : P.funcs[f]? = some fn) (hn : (fn.name == "runtime.NumGoroutine") = false) (hb : fn.body = some c) (hl : Nat.ble l.length fn.ntmps = true)
    (HW : SW P fn.ntmps c (retQ P fn.results.toList K) (lenv l) H) : CallH P f l.toArray H K := by
  refine ⟨⟨fn, hf, hn, by simp [hb]⟩, fun w hw => ?_⟩
  subst hw
  have hl := Nat.le_of_ble_eq_true hl
  refine calls_of_wp hf hb (HW _ w _ ⟨?_, rfl, fun t => ?_⟩ rfl fun x e' a' w' r s k => ?_)
  · simp; omega
  · rw [lenv_get]
    simp only [Array.getD_eq_getD_getElem?]
    rw [Array.getElem?_append]
    split
    · simp
    · rename_i hge
      simp at hge
      simp only [List.size_toArray]
      rw [List.getElem?_eq_none hge]
      rw [Array.getElem?_replicate]
      split <;> rfl
  · cases x with
    | normal => obtain ⟨v, hv, hk⟩ := k; exact ⟨r.defers, v, hv fn _ w' (by simp) r.get rfl, v, rfl, s, hk⟩
    | ret => obtain ⟨v, hv, hk⟩ := k; exact ⟨r.defers, v, hv fn _ w' (by simp) r.get rfl, v, rfl, s, hk⟩
    | exit id => exact k.elim
    | goto l => exact k.elim
    | panic ch => exact k.elim
    | outgrown => exact k.elim
theorem callE_all (hmx : P.follows .mixedOrders = true) (HQ : EqOk P Q) {L : List FuncId} (hL : allOk P L = true) (h : Heap) (fuel : Nat) : ∀ d, CallsOk P h G (callE P Q L G fuel d) := by
  intro d
  induction d with
  | zero => intro f vs bs v bs' hv; cases hv
  | succ d ih =>
    intro f vs bs v bs' hv m H args hR hrel
    unfold callE at hv
    cases hm : memN L f with
    | false => rw [hm] at hv; cases hv
    | true =>
      rw [hm] at hv
      simp only [cond_true] at hv
      have hok := allOk_mem hL hm
      unfold fnOk at hok
      split at hv
      · rename_i fn hfn
        rw [hfn] at hok
        simp only [Bool.not_eq_true'] at hok
        split at hv
        · rename_i c hc
          cases hb : Nat.ble vs.length fn.ntmps with
          | false => rw [hb] at hv; cases hv
          | true =>
            rw [hb] at hv
            simp only [cond_true] at hv
            have hl := rels_len hrel
            refine calls_of_SW (fn := fn) (c := c) hfn hok hc (by rw [← hl]; exact hb) ?_
            have R : Rl h G m (argsE 0 vs) bs (lenv args) H := ⟨args_ok hrel, hR⟩
            split at hv
            · rename_i l bs2 h2
              split at hv
              · rename_i v2 hr
                cases hv
                refine codeE_ok hmx HQ ih fuel c _ bs _ l bs' h2 m _ H R _ fun m' e' H' hm' R' => ?_
                obtain ⟨u, hu, hret⟩ := retE_ok (P := P) R' hr
                exact ⟨u, hret, m', hm', R'.heap, hu⟩
              · cases hv
            · rename_i l bs2 h2
              split at hv
              · rename_i v2 hr
                cases hv
                refine codeE_ok hmx HQ ih fuel c _ bs _ l bs' h2 m _ H R _ fun m' e' H' hm' R' => ?_
                obtain ⟨u, hu, hret⟩ := retE_ok (P := P) R' hr
                exact ⟨u, hret, m', hm', R'.heap, hu⟩
              · cases hv
            · cases hv
        · cases hv
      · cases hv
end
end Go.QF
