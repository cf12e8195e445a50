/-
  The evaluator's operations that touch no heap are sound.
-/
import Derived.Test.YtccgaemmdikhcaaDoorEw3
namespace Go.QF
open Go
set_option linter.unusedVariables false
set_option linter.unusedSimpArgs false
/-! ### types -/
theorem slE_ok {P : Program} {t el s : Nat} (h : slE P t = some (el, s)) : SlT P t el s := by
  unfold slE at h
  split at h
  · rename_i el' hu
    split at h
    · rename_i i hi; cases h; exact ⟨hu, i, hi, rfl⟩
    · cases h
  · cases h
theorem tyE_na {P : Program} {t : Nat} (h : tyE P t = some (false, 1)) : NaT P t := by
  unfold tyE at h
  split at h
  · rename_i d i hd hi; simp at h; exact ⟨⟨d, hd, h.1⟩, i, hi, h.2⟩
  · cases h
theorem tyE_ag {P : Program} {t s : Nat} (h : tyE P t = some (true, s)) : AgT P t s := by
  unfold tyE at h
  split at h
  · rename_i d i hd hi; simp at h; exact ⟨⟨d, hd, h.1⟩, i, hi, h.2⟩
  · cases h
theorem tyE_sz {P : Program} {t s : Nat} {b : Bool} (h : tyE P t = some (b, s)) : ∃ i, P.info? t = some i ∧ i.size = s := by
  unfold tyE at h
  split at h
  · rename_i d i hd hi; simp at h; exact ⟨i, hi, h.2⟩
  · cases h
theorem intE_ok {P : Program} {t : Nat} {k : IntKind} (h : intE P t = some k) : IntT P t k := by
  unfold intE at h
  split at h
  · rename_i k' hk; cases h; exact hk
  · cases h
theorem fdE_ok {P : Program} {t f off sz : Nat} (h : fdE P t f = some (off, sz)) : ∃ ft, FdT P t f off ft ∧ (P.info? ft).map (·.size) = some sz := by
  unfold fdE at h
  split at h
  · rename_i fs hu
    split at h
    · rename_i fd hf
      split at h
      · rename_i i hi; cases h; exact ⟨fd.type, ⟨fs, fd, hu, hf, rfl, rfl⟩, by rw [hi]; rfl⟩
      · cases h
    · cases h
  · cases h
theorem toV_ok {v : Value} {x : V} (m : Mp) (h : toV v = some x) : rel m x v := by
  unfold toV at h
  split at h <;> first | (cases h; rfl) | cases h
theorem toVs_ok (m : Mp) : ∀ {l : List Value} {vs : List V}, toVs l = some vs → rels m vs l := by
  intro l
  induction l with
  | nil => intro vs h; cases h; rfl
  | cons x l ih =>
    intro vs h
    unfold toVs at h
    split at h
    · rename_i v ws h1 h2; cases h; exact ⟨x, l, rfl, toV_ok m h1, ih h2⟩
    · cases h
theorem zeE_ok {P : Program} {t n : Nat} {vs : List V} (h : zeE P t = some (n, vs)) : ∃ i z, P.info? t = some i ∧ i.zero = some z ∧ i.size = n ∧ n = vs.length ∧ i.bytes ≤ 1000 ∧ (∀ m, rels m vs z.cells.toList) ∧ z.cells.size = n := by
  unfold zeE at h
  split at h
  · rename_i i hi
    split at h
    · rename_i z hz
      split at h
      · rename_i ws hw
        cases hc : (Nat.beq i.size ws.length && Nat.ble i.bytes 1000) with
        | false => rw [hc] at h; cases h
        | true =>
          rw [hc] at h; cases h
          simp only [Bool.and_eq_true] at hc
          have h1 := Nat.eq_of_beq_eq_true hc.1
          have h2 := fun m => toVs_ok m hw
          refine ⟨i, z, hi, hz, rfl, h1, Nat.le_of_ble_eq_true hc.2, h2, ?_⟩
          have := rels_len (h2 [])
          rw [h1, this]; simp
      · cases h
    · cases h
  · cases h
/-! ### environments -/
theorem beq_ne {a b : Nat} (h : a ≠ b) : Nat.beq a b = false := by
  cases hb : Nat.beq a b with
  | false => rfl
  | true => exact absurd (Nat.eq_of_beq_eq_true hb) h
theorem getE_put (l : EnvL) (d : Nat) (v : V) (t : Nat) : getE (putE l d v) t = bif Nat.beq t d then v else getE l t := rfl
def ER (m : Mp) (l : EnvL) (e : Env) : Prop := ∀ t, rel m (getE l t) (e t)
theorem ER.put {m : Mp} {l : EnvL} {e : Env} (R : ER m l e) {v : V} {u : Value} (h : rel m v u) (d : Nat) : ER m (putE l d v) (e.set d u) := by
  intro t
  rw [getE_put]
  unfold Env.set
  cases Nat.beq t d
  · exact R t
  · exact h
theorem ER.mono {m m' : Mp} (hm : Wle m m') {l : EnvL} {e : Env} (R : ER m l e) : ER m' l e := fun t => rel_mono hm _ _ (R t)
structure Rl (h : Heap) (G : List (Nat × Nat)) (m : Mp) (l : EnvL) (bs : Hp) (e : Env) (H : Heap) : Prop where
  env : ER m l e
  heap : HR h G m bs H
theorem evE_ok {h : Heap} {G : List (Nat × Nat)} {m : Mp} {l : EnvL} {bs : Hp} {e : Env} {H : Heap} (R : Rl h G m l bs e H) {o : Operand} {x : V} (hx : evE G l o = some x) : rel m x (e.ev o) := by
  cases o with
  | tmp t => cases hx; exact R.env t
  | const v => exact toV_ok m hx
  | global g =>
    simp only [evE] at hx
    split at hx
    · rename_i k hk
      cases hx
      obtain ⟨c, hc⟩ := R.heap.glob g k hk
      exact ⟨(g, c), hc, rfl⟩
    · cases hx
  | func f => cases hx; exact ⟨[], rfl, rfl⟩
theorem evEs_ok {h : Heap} {G : List (Nat × Nat)} {m : Mp} {l : EnvL} {bs : Hp} {e : Env} {H : Heap} (R : Rl h G m l bs e H) : ∀ {os : List Operand} {xs : List V}, evEs G l os = some xs → rels m xs (os.map e.ev) := by
  intro os
  induction os with
  | nil => intro xs hx; cases hx; rfl
  | cons o os ih =>
    intro xs hx
    unfold evEs at hx
    split at hx
    · rename_i x ys h1 h2; cases hx; exact ⟨_, _, rfl, evE_ok R h1, ih h2⟩
    · cases hx
theorem add_off (b o n : Nat) : (Addr.mk b o none).add n = ⟨b, o + n, none⟩ := by
  unfold Addr.add
  split
  · rename_i h; subst h; rfl
  · rfl
section
variable {P : Program} {B : Heap → Prop} {st : Bool} {ops : Array Oper} {rest : List Oper} {K : Env → Heap → Prop} {h : Heap} {G : List (Nat × Nat)} {m : Mp} {l : EnvL} {bs bs' : Hp} {e : Env} {H : Heap} {d : Nat} {v : V} {ty : TypeId} {pos : String} {af : Array Edge}
/-- What is asked of the rest. -/
def Nx (P : Program) (B : Heap → Prop) (st : Bool) (ops : Array Oper) (rest : List Oper) (K : Env → Heap → Prop) (h : Heap) (G : List (Nat × Nat)) (m : Mp) (l : EnvL) (bs : Hp) : Prop :=
  ∀ m' e' H', Mle m m' → Rl h G m' l bs e' H' → RL P B st ops rest e' H' K
theorem nx_pure (R : Rl h G m l bs e H) {u : Value} (hr : rel m v u) (HK : Nx P B st ops rest K h G m (putE l d v) bs) : RL P B st ops rest (e.set d u) H K :=
  HK m _ H (.refl m) ⟨R.env.put hr d, R.heap⟩
/-- What the table of equalities must satisfy. -/
def EqOk (P : Program) (Q : EqT) : Prop := ∀ t xs ys r, Q t xs ys = some r → P.eqGuardType P.depth t = false ∧ ∀ (m : Mp) us ws, rels m xs us → rels m ys ws → ∀ w, (Op.equal t (.agg us.toArray) (.agg ws.toArray)).run P w = .ok r w
theorem run_eqNil {t el : TypeId} {a : Option Addr} {n c : Nat} (ht : P.underlying t = some (.slice el)) (w : World) : (Op.equal t (.slice a n c) (.slice none 0 0)).run P w = .ok a.isNone w := by
  show (Op.equalIn (9999 + 1) t _ _).run P w = _
  rw [Op.equalIn]
  cases a <;> simp [u_run ht]
theorem nil_ok {op : BinOp} {t t2 el : TypeId} {x y : Operand} {a : Option Addr} {n c : Nat} (ht : P.underlying t = some (.slice el)) (hx : e.ev x = .slice a n c) (hy : e.ev y = .slice none 0 0) (hv : eqvE op a.isNone = some v) (H' : ∀ u, rel m v u → RL P B st ops rest (e.set d u) H K) :
    RL P B st ops (⟨some d, .binOp op t x y t2, ty, pos, af, none⟩ :: rest) e H K := by
  unfold eqvE at hv
  split at hv
  · cases hv
    refine r_pure (v := .bool a.isNone) rfl rfl (fun w => ?_) (H' _ rfl)
    have hr := run_eqNil (P := P) (a := a) (n := n) (c := c) ht w
    simp [execOp, hx, hy, eqGuard, binOp, hr]
  · cases hv
    refine r_pure (v := .bool !a.isNone) rfl rfl (fun w => ?_) (H' _ rfl)
    have hr := run_eqNil (P := P) (a := a) (n := n) (c := c) ht w
    simp [execOp, hx, hy, eqGuard, binOp, hr]
  · cases hv
theorem binE_ok {Q : EqT} (HQ : EqOk P Q) (R : Rl h G m l bs e H) {op : BinOp} {t t2 : TypeId} {x y : Operand} {a b : V} (hx : rel m a (e.ev x)) (hy : rel m b (e.ev y)) (hv : binE P Q op t a b = some v) (HK : Nx P B st ops rest K h G m (putE l d v) bs) :
    RL P B st ops (⟨some d, .binOp op t x y t2, ty, pos, af, none⟩ :: rest) e H K := by
  have fin : ∀ {u : Value}, rel m v u → RL P B st ops rest (e.set d u) H K := fun hr => nx_pure R hr HK
  unfold binE at hv
  split at hv
  · rename_i k a k' b
    replace hx : e.ev x = .int k a := hx
    replace hy : e.ev y = .int k' b := hy
    split at hv
    · rename_i n
      cases hb : Nat.ble n k.bits with
      | false => rw [hb] at hv; cases hv
      | true => rw [hb] at hv; cases hv; exact r_shl hx hy (Nat.le_of_ble_eq_true hb) (fin rfl)
    · rename_i n
      cases hb : Nat.ble n k.bits with
      | false => rw [hb] at hv; cases hv
      | true => rw [hb] at hv; cases hv; exact r_shr hx hy (Nat.le_of_ble_eq_true hb) (fin rfl)
    · split at hv
      · rename_i hk
        subst hk
        unfold arithE at hv
        split at hv
        · cases hv; exact r_add hx hy (fin rfl)
        · cases hv; exact r_sub hx hy (fin rfl)
        · cases hv; exact r_mul hx hy (fin rfl)
        · split at hv
          · cases hv
          · rename_i hb; cases hv; exact r_quo hx hy hb (fin rfl)
        · split at hv
          · cases hv
          · rename_i hb; cases hv; exact r_rem hx hy hb (fin rfl)
        · cases hv; exact r_bits hx hy (.inl rfl) (fun w => rfl) (fin rfl)
        · cases hv; exact r_bits hx hy (.inr (.inl rfl)) (fun w => rfl) (fin rfl)
        · cases hv; exact r_bits hx hy (.inr (.inr (.inl rfl))) (fun w => rfl) (fin rfl)
        · split at hv
          · rename_i r hr; cases hv; exact r_cmp hx hy hr (fin rfl)
          · cases hv
      · cases hv
  · rename_i a b
    replace hx : e.ev x = .bool a := hx
    replace hy : e.ev y = .bool b := hy
    split at hv
    · rename_i ht; cases hv; exact r_eqBool ht hx hy (fin rfl)
    · rename_i ht; cases hv; exact r_neBool ht hx hy (fin rfl)
    · cases hv
  · rename_i xs ys
    obtain ⟨us, hu1, hx⟩ := hx
    obtain ⟨ws, hw1, hy⟩ := hy
    split at hv
    · rename_i r hr
      obtain ⟨hg, hq⟩ := HQ _ _ _ _ hr
      unfold eqvE at hv
      split at hv
      · cases hv; exact r_eqA hg hx hy (hq m us ws hu1 hw1) (fin rfl)
      · cases hv; exact r_neA hg hx hy (hq m us ws hu1 hw1) (fin rfl)
      · cases hv
    · cases hv
  · replace hy : e.ev y = .slice none 0 0 := hy
    split at hv
    · rename_i r el hr ht
      unfold nilE at hr
      split at hr
      · cases hr
        have hx : e.ev x = .slice none 0 0 := hx
        exact nil_ok ht hx hy hv fun u hu => fin hu
      · cases hr
        obtain ⟨q, _, hx⟩ := hx
        exact nil_ok ht hx hy hv fun u hu => fin hu
      · cases hr
        obtain ⟨q, _, _, hx⟩ := hx
        exact nil_ok ht hx hy hv fun u hu => fin hu
      · cases hr
    · cases hv
  · cases hv
/-! ### slices -/
theorem run_slice {t el s : Nat} {a : Option Addr} {n cap : Nat} (hT : SlT P t el s) {lo hi mx : Option Value} {k hh mm : Nat} (w : World)
    (hb : (Instr.sliceBounds true n cap lo hi mx).run P w = .ok (k, hh, mm) w) : (Instr.sliceAt t (.slice a n cap) lo hi mx).run P w = .ok (.slice (if mm = k then a else a.map (·.add (k * s))) (hh - k) (mm - k)) w := by
  obtain ⟨hu, i, hi', hs⟩ := hT
  simp [Instr.sliceAt, Instr.slice, u_run hu, hb, s_run hi', hs]
def OptR (m : Mp) (e : Env) : Option Nat → Option Operand → Prop
  | none, o => o = none
  | some n, o => ∃ x k, o = some x ∧ e.ev x = .int k (n : Int)
theorem optE_ok (R : Rl h G m l bs e H) {o : Option Operand} {r : Option Nat} (hv : optE G l o = some r) : OptR m e r o := by
  cases o with
  | none => cases hv; rfl
  | some x =>
    simp only [optE] at hv
    split at hv
    · rename_i k n hx; cases hv; exact ⟨x, k, rfl, evE_ok R hx⟩
    · cases hv
theorem run_bound {k : IntKind} {n y : Nat} {code : BoundsCode} (hn : n ≤ y) (w : World) : (Instr.sliceBound (.int k (n : Int)) y code).run P w = .ok n w := by
  have : (n : Int) ≤ (y : Int) := by omega
  simp [Instr.sliceBound, asIntOf, this]
theorem run_bounds {lo hi mx : Option Operand} {lo' hi' mx' : Option Nat} {n cap k hh mm : Nat} (h1 : OptR m e lo' lo) (h2 : OptR m e hi' hi) (h3 : OptR m e mx' mx) (hm : mx'.getD cap = mm) (hhh : hi'.getD n = hh) (hk : lo'.getD 0 = k)
    (hno : hi' = none → mx' = none) (a1 : mm ≤ cap) (a2 : hh ≤ mm) (a3 : k ≤ hh) (w : World) : (Instr.sliceBounds true n cap (lo.map e.ev) (hi.map e.ev) (mx.map e.ev)).run P w = .ok (k, hh, mm) w := by
  unfold Instr.sliceBounds
  cases mx' with
  | none =>
    cases h3
    simp only [Option.getD_none] at hm
    subst hm
    cases hi' with
    | none =>
      cases h2
      simp only [Option.getD_none] at hhh
      subst hhh
      cases lo' with
      | none => cases h1; simp only [Option.getD_none] at hk; subst hk; simp
      | some x =>
        obtain ⟨o, kk, rfl, he⟩ := h1
        simp only [Option.getD_some] at hk; subst hk
        simp [he, run_bound a3]
    | some y =>
      obtain ⟨o, kk, rfl, he⟩ := h2
      simp only [Option.getD_some] at hhh; subst hhh
      cases lo' with
      | none => cases h1; simp only [Option.getD_none] at hk; subst hk; simp [he, run_bound a2]
      | some x =>
        obtain ⟨o', kk', rfl, he'⟩ := h1
        simp only [Option.getD_some] at hk; subst hk
        simp [he, he', run_bound a2, run_bound a3]
  | some z =>
    obtain ⟨oz, kz, rfl, hez⟩ := h3
    simp only [Option.getD_some] at hm; subst hm
    cases hi' with
    | none => have := hno rfl; cases this
    | some y =>
      obtain ⟨o, kk, rfl, he⟩ := h2
      simp only [Option.getD_some] at hhh; subst hhh
      cases lo' with
      | none => cases h1; simp only [Option.getD_none] at hk; subst hk; simp [he, hez, run_bound a1, run_bound a2]
      | some x =>
        obtain ⟨o', kk', rfl, he'⟩ := h1
        simp only [Option.getD_some] at hk; subst hk
        simp [he, he', hez, run_bound a1, run_bound a2, run_bound a3]
theorem r_slice {t el s : Nat} {x : Operand} {lo hi mx : Option Operand} {a : Option Addr} {n cap k hh mm : Nat} (hT : SlT P t el s) (hx : e.ev x = .slice a n cap) (hb : ∀ w, (Instr.sliceBounds true n cap (lo.map e.ev) (hi.map e.ev) (mx.map e.ev)).run P w = .ok (k, hh, mm) w)
    (HR : RL P B st ops rest (e.set d (.slice (if mm = k then a else a.map (·.add (k * s))) (hh - k) (mm - k))) H K) : RL P B st ops (⟨some d, .slice t x lo hi mx, ty, pos, af, none⟩ :: rest) e H K :=
  r_pure (v := .slice (if mm = k then a else a.map (·.add (k * s))) (hh - k) (mm - k)) rfl rfl (fun w => by
    have := run_slice (P := P) hT (a := a) w (hb w)
    simp only [execOp, hx]
    simp [this]) HR
theorem sliceE_ok (R : Rl h G m l bs e H) {t el sz : Nat} (hT : SlT P t el sz) {x : Operand} {lo hi mx : Option Operand} {lo' hi' mx' : Option Nat} {a : V} (hx : rel m a (e.ev x)) (h1 : OptR m e lo' lo) (h2 : OptR m e hi' hi) (h3 : OptR m e mx' mx) (hv : sliceE sz a lo' hi' mx' = some v) (hno : hi' = none → mx' = none)
    (HK : Nx P B st ops rest K h G m (putE l d v) bs) : RL P B st ops (⟨some d, .slice t x lo hi mx, ty, pos, af, none⟩ :: rest) e H K := by
  have fin : ∀ {u : Value}, rel m v u → RL P B st ops rest (e.set d u) H K := fun hr => nx_pure R hr HK
  unfold sliceE at hv
  split at hv
  · cases hv
    have hx : e.ev x = .slice none 0 0 := hx
    exact r_slice hT hx (run_bounds (k := 0) (hh := 0) (mm := 0) h1 h2 h3 rfl rfl rfl hno (by omega) (by omega) (by omega)) (fin rfl)
  · rename_i b n
    cases hv
    obtain ⟨r, hr1, hr2, hx⟩ := hx
    refine r_slice hT hx (run_bounds (k := 0) (hh := n) (mm := r.2) h1 h2 h3 rfl rfl rfl hno (by omega) (by omega) (by omega)) (fin ⟨r, hr1, hr2, ?_⟩)
    split
    · rename_i h0; simp [h0]
    · simp [add_off]
  · rename_i b n hh
    cases hb : Nat.ble hh n with
    | false => rw [hb] at hv; cases hv
    | true =>
      rw [hb] at hv; cases hv
      have hb := Nat.le_of_ble_eq_true hb
      obtain ⟨r, hr1, hr2, hx⟩ := hx
      refine r_slice hT hx (run_bounds (k := 0) (hh := hh) (mm := r.2) h1 h2 h3 rfl rfl rfl hno (by omega) (by omega) (by omega)) (fin ⟨r, hr1, by omega, ?_⟩)
      split
      · rename_i h0; simp [h0]
      · simp [add_off]
  · rename_i b n hh mm
    cases hb : (Nat.ble hh mm && Nat.ble mm n) with
    | false => rw [hb] at hv; cases hv
    | true =>
      rw [hb] at hv; cases hv
      simp only [Bool.and_eq_true] at hb
      have hb1 := Nat.le_of_ble_eq_true hb.1
      have hb2 := Nat.le_of_ble_eq_true hb.2
      obtain ⟨r, hr1, hr2, hx⟩ := hx
      refine r_slice hT hx (run_bounds (k := 0) (hh := hh) (mm := mm) h1 h2 h3 rfl rfl rfl hno (by omega) (by omega) (by omega)) (fin ⟨r, hr1, ?_⟩)
      split
      · rename_i h0; simp [h0]
      · simp [add_off]
  · rename_i b o n c
    simp only at hv
    generalize hmm : mx'.getD c = mm at hv
    generalize hhh : hi'.getD n = hh at hv
    generalize hkk : lo'.getD 0 = k at hv
    cases hb : (Nat.ble mm c && Nat.ble hh mm && Nat.ble k hh) with
    | false => rw [hb] at hv; cases hv
    | true =>
      rw [hb] at hv; cases hv
      simp only [Bool.and_eq_true] at hb
      have hb1 := Nat.le_of_ble_eq_true hb.1.1
      have hb2 := Nat.le_of_ble_eq_true hb.1.2
      have hb3 := Nat.le_of_ble_eq_true hb.2
      obtain ⟨r, hr1, hx⟩ := hx
      refine r_slice hT hx (run_bounds (k := k) (hh := hh) (mm := mm) h1 h2 h3 hmm hhh hkk hno hb1 hb2 hb3) (fin ⟨r, hr1, ?_⟩)
      split
      · rename_i h0; subst h0; rw [Nat.beq_refl]; rfl
      · rename_i h0; rw [beq_ne h0]; simp [add_off]
  · cases hv
    have hx : e.ev x = .slice none 0 0 := hx
    exact r_slice hT hx (run_bounds (k := 0) (hh := 0) (mm := 0) h1 h2 h3 rfl rfl rfl hno (by omega) (by omega) (by omega)) (fin rfl)
  · cases hv
    have hx : e.ev x = .slice none 0 0 := hx
    exact r_slice hT hx (run_bounds (k := 0) (hh := 0) (mm := 0) h1 h2 h3 rfl rfl rfl hno (by omega) (by omega) (by omega)) (fin rfl)
  · cases hv
end
end Go.QF
