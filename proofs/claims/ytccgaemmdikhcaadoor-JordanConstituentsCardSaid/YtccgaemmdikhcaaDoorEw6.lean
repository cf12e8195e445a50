/-
  The evaluator's operations are sound.
-/
import Derived.Test.YtccgaemmdikhcaaDoorEw5
namespace Go.QF
open Go
set_option linter.unusedVariables false
set_option linter.unusedSimpArgs false
/-- What a table of calls must satisfy. -/
def CallsOk (P : Program) (h : Heap) (G : List (Nat × Nat)) (C : Calls') : Prop :=
  ∀ f vs bs v bs', C f vs bs = some (v, bs') → ∀ m H args, HR h G m bs H → rels m vs args → CallH P f args.toArray H fun x H' => ∃ m', Mle m m' ∧ HR h G m' bs' H' ∧ rel m' v x
section
variable {P : Program} {B : Heap → Prop} {st : Bool} {ops : Array Oper} {rest : List Oper} {K : Env → Heap → Prop} {h : Heap} {G : List (Nat × Nat)} {m : Mp} {l : EnvL} {bs bs' : Hp} {e : Env} {H : Heap} {d : Nat} {v : V} {ty : TypeId} {pos : String} {af : Array Edge}
theorem nx_push (R : Rl h G m l bs e H) {c : List V} {cs : Array Value} {t sz cap : Nat} {u : Value} (hc : LR m c cs.toList) (hs : sz ≠ 0 → cs.size = cap * sz) (hv : rel (m ++ [some (H.size, cap)]) v u) (HK : Nx P B st ops rest K h G m (putE l d v) (bs ++ [some ⟨c, false, sz⟩])) :
    RL P B st ops rest (e.set d u) (H.push (.cells cs t (0, 0))) K :=
  HK _ _ _ (mle_push _ _) ⟨(R.env.mono (mle_push _ _).w).put hv d, R.heap.push hc hs⟩
theorem at_len (R : HR h G m bs H) (r : Nat × Nat) : mg (m ++ [some r]) bs.length = some r := by rw [← R.len]; exact mg_last _ _
/-- A value's slot. -/
theorem slot_rel {x : V} {u : Value} {b o n : Nat} (hs : slotE x = some (b, o, n)) (hx : rel m x u) : ∃ r c, mg m b = some r ∧ n ≤ n ∧ u = .slice (some ⟨r.1, o, none⟩) n c := by
  unfold slotE at hs
  split at hs
  · cases hs; obtain ⟨r, h1, h2⟩ := hx; exact ⟨r, _, h1, Nat.le_refl _, h2⟩
  · cases hs; obtain ⟨r, h1, _, h2⟩ := hx; exact ⟨r, _, h1, Nat.le_refl _, h2⟩
  · cases hs
theorem stE_ok (R : Rl h G m l bs e H) {t : TypeId} {x y : Operand} (hv : stE P G l bs t x y = some bs') (HK : Nx P B st ops rest K h G m l bs') : RL P B st ops (⟨none, .store t x y, ty, pos, af, none⟩ :: rest) e H K := by
  unfold stE at hv
  split at hv
  · rename_i b o v fl n hx hy ht
    cases hb : Nat.beq v.cells.length n with
    | false => rw [hb] at hv; cases hv
    | true =>
      rw [hb] at hv
      simp only [cond_true] at hv
      have hb := Nat.eq_of_beq_eq_true hb
      obtain ⟨i, hi, hsz⟩ := tyE_sz ht
      obtain ⟨r, hr, hx⟩ := evE_ok R hx
      have hc := cells_rel (evE_ok R hy)
      refine r_wr rfl rfl fun w hw => ?_
      subst hw
      obtain ⟨h1, h2, h3⟩ := R.heap.set hr hv hc
      have hl := rels_len hc
      simp only [Array.length_toList] at hl
      have hrun : (execOp e.ev ⟨none, .store t x y, ty, pos, af, none⟩).run P w = .ok .skip (w.setCells r.1 o (e.ev y).cells.toList) := by
        have := @h1 P
        simp only [execOp, Instr.storeAt, hx, Instr.sureAddr]
        simp [storeVar, s_run hi, hsz, ← hb, hl, this]
      rw [hrun]
      exact ⟨h3, HK m e _ (.refl m) ⟨R.env, h2⟩⟩
  · cases hv
theorem callE_ok {C : Calls'} (HC : CallsOk P h G C) (R : Rl h G m l bs e H) {f : FuncId} {c : Operand} {xs : List Operand} {ts : Array TypeId} {vs cl : List V} (hB : B H) (hB' : ∀ m' H', Mle m m' → HR h G m' bs' H' → B H') (hf : evE G l c = some (.f f cl)) (hx : evEs G l xs = some vs) (hc : C f (vs ++ cl) bs = some (v, bs'))
    (HK : Nx P B st ops rest K h G m (putE l d v) bs') : RL P B st ops (⟨some d, .call ⟨.value c, xs.toArray, ts⟩, ty, pos, af, none⟩ :: rest) e H K := by
  obtain ⟨cs, h1, h2⟩ := evE_ok R hf
  have h3 := evEs_ok R hx
  refine r_callc hB h2 rfl (HC f (vs ++ cl) bs v bs' hc m H _ R.heap (rels_app h3 h1)) fun x H' hk => ?_
  obtain ⟨m', hm, hH, hr⟩ := hk
  exact ⟨hB' m' H' hm hH, HK m' _ H' hm ⟨(R.env.mono hm.w).put hr d, hH⟩⟩
theorem ldE_ok (R : Rl h G m l bs e H) {t : TypeId} {x : Operand} {b o : Nat} (hx : evE G l x = some (.p b o)) (ht : tyE P t = some (false, 1)) (hv : cellE bs b o = some v) (HK : Nx P B false ops rest K h G m (putE l d v) bs) : RL P B false ops (⟨some d, .load t x, ty, pos, af, none⟩ :: rest) e H K := by
  obtain ⟨r, hr, hx⟩ := evE_ok R hx
  obtain ⟨r', u, hr', hu, hrel⟩ := R.heap.cell hv
  rw [hr] at hr'; cases hr'
  exact r_ld (tyE_na ht) hx hu (nx_pure R hrel HK)
theorem ldAE_ok (R : Rl h G m l bs e H) {t : TypeId} {x : Operand} {b o n : Nat} {vs : List V} (hx : evE G l x = some (.p b o)) (ht : tyE P t = some (true, n)) (hv : cellsE bs b o n = some vs) (HK : Nx P B false ops rest K h G m (putE l d (.a vs)) bs) : RL P B false ops (⟨some d, .load t x, ty, pos, af, none⟩ :: rest) e H K := by
  obtain ⟨r, hr, hx⟩ := evE_ok R hx
  obtain ⟨us, h1, h2, h3⟩ := R.heap.cells hr hv
  exact r_ldA us (tyE_ag ht) h2 hx (fun i u hu => by rw [add_off]; exact h3 i u hu) (nx_pure R (v := .a vs) ⟨us, h1, rfl⟩ HK)
theorem r_copy {s x : Operand} {t t2 : TypeId} {u : Value} (hB : B H) (hrun : ∀ w, w.heap = H → ∃ w', (Builtin.copy_ #[t, t2] ty #[e.ev s, e.ev x]).run P w = .ok u w' ∧ Same w w' ∧ B w'.heap ∧ RL P B st ops rest (e.set d u) w'.heap K) :
    RL P B st ops (⟨some d, .call ⟨.builtin .copy, #[s, x], #[t, t2]⟩, ty, pos, af, none⟩ :: rest) e H K := by
  refine r_eff rfl rfl hB fun w hw => ?_
  obtain ⟨w', h1, h2, h3, h4⟩ := hrun w hw
  have : (execOp e.ev ⟨some d, .call ⟨.builtin .copy, #[s, x], #[t, t2]⟩, ty, pos, af, none⟩).run P w = .ok (.value u) w' := by
    simp [execOp, resolve, invoke, builtin, h1]
  rw [this]
  exact ⟨h2, h3, h4⟩
theorem r_append {s x : Operand} {t t2 : TypeId} (hB : B H) (hrun : ∀ w, w.heap = H → ∃ u w', (Builtin.append_ #[t, t2] ty #[e.ev s, e.ev x]).run P w = .ok u w' ∧ Same w w' ∧ B w'.heap ∧ RL P B st ops rest (e.set d u) w'.heap K) :
    RL P B st ops (⟨some d, .call ⟨.builtin .append, #[s, x], #[t, t2]⟩, ty, pos, af, none⟩ :: rest) e H K := by
  refine r_eff rfl rfl hB fun w hw => ?_
  obtain ⟨u, w', h1, h2, h3, h4⟩ := hrun w hw
  have : (execOp e.ev ⟨some d, .call ⟨.builtin .append, #[s, x], #[t, t2]⟩, ty, pos, af, none⟩).run P w = .ok (.value u) w' := by
    simp [execOp, resolve, invoke, builtin, h1]
  rw [this]
  exact ⟨h2, h3, h4⟩
theorem copyE_ok (R : Rl h G m l bs e H) {s x : Operand} {t t2 : TypeId} {el sz b o n b2 o2 n2 : Nat} {sv xv : V} {vs : List V} (hB : B H) (hB' : ∀ m' H', Mle m m' → HR h G m' bs' H' → B H') (hs : evE G l s = some sv) (hx : evE G l x = some xv) (hT : slE P t = some (el, sz)) (h1 : slotE sv = some (b, o, n)) (h2 : slotE xv = some (b2, o2, n2))
    (hc : cellsE bs b2 o2 (Nat.min n2 n * sz) = some vs) (hset : setE bs b o vs = some bs') (HK : Nx P B st ops rest K h G m (putE l d (.i .i64 (.ofNat (Nat.min n2 n)))) bs') : RL P B st ops (⟨some d, .call ⟨.builtin .copy, #[s, x], #[t, t2]⟩, ty, pos, af, none⟩ :: rest) e H K := by
  obtain ⟨r, c, hr, _, hsv⟩ := slot_rel h1 (evE_ok R hs)
  obtain ⟨r2, c2, hr2, _, hxv⟩ := slot_rel h2 (evE_ok R hx)
  obtain ⟨us, q1, q2, q3⟩ := R.heap.cells hr2 hc
  obtain ⟨hu, i, hi, hsz⟩ := slE_ok hT
  refine r_copy (u := .int .i64 (.ofNat (Nat.min n2 n))) hB fun w hw => ?_
  subst hw
  obtain ⟨p1, p2, p3⟩ := R.heap.set hr hset q1
  refine ⟨_, ?_, p3, hB' m _ (.refl m) p2, HK m _ _ (.refl m) ⟨R.env.put (v := .i .i64 (.ofNat (Nat.min n2 n))) rfl d, p2⟩⟩
  have hfc := run_firstCells_some (P := P) w i.size (Nat.min n2 n) ⟨r2.1, o2, none⟩ n2 c2 us (by rw [q2, hsz]) (fun j v hv => by rw [add_off]; exact q3 j v hv)
  have p1 := @p1 P
  rw [hsv, hxv]
  simp [Builtin.copy_, u_run hu, s_run hi, Builtin.lenOf, hfc, p1, goInt]
/-- Nothing is appended. -/
theorem run_append0 {t el sz : Nat} (hT : SlT P t el sz) {base : Option Addr} {n cap : Nat} {x : Value} (hn : n ≤ cap) (hx : Builtin.lenOf x = pure 0) (w : World) (hc : (Builtin.firstCells sz 0 x).run P w = .ok #[] w) : (Builtin.append_ #[t, t] ty #[.slice base n cap, x]).run P w = .ok (.slice base n cap) w := by
  obtain ⟨hu, i, hi, hsz⟩ := hT
  subst hsz
  cases base with
  | none => simp [Builtin.append_, u_run hu, s_run hi, hx, hn, hc]
  | some a => simp [Builtin.append_, u_run hu, s_run hi, hx, hn, hc, storeCells]
theorem elems_zero (R : HR h G m bs H) {sz : Nat} {x : V} {u : Value} {vs : List V} (hv : elemsE bs sz x = some (0, vs)) (hx : rel m x u) : Builtin.lenOf u = pure 0 ∧ ∀ w : World, w.heap = H → (Builtin.firstCells sz 0 u).run P w = .ok #[] w := by
  unfold elemsE at hv
  split at hv
  · have hx : u = .slice none 0 0 := hx
    subst hx
    exact ⟨rfl, fun w _ => run_firstCells_none (P := P) w sz 0 0 0⟩
  · split at hv
    · rename_i b o n hs
      split at hv
      · rename_i ws hw
        cases hv
        obtain ⟨r, c, hr, _, rfl⟩ := slot_rel hs hx
        exact ⟨rfl, fun w _ => run_firstCells_some (P := P) w sz 0 ⟨r.1, o, none⟩ 0 c [] (by simp) (fun j v hj => by simp at hj)⟩
      · cases hv
    · cases hv
theorem elems_pos (R : HR h G m bs H) {sz n : Nat} {x : V} {u : Value} {vs : List V} (hv : elemsE bs sz x = some (n, vs)) (hn : n ≠ 0) (hx : rel m x u) : ∃ a c us, u = .slice (some a) n c ∧ rels m vs us ∧ us.length = n * sz ∧ ∀ i y, us[i]? = some y → cellH H (a.add i) = some y := by
  unfold elemsE at hv
  split at hv
  · cases hv; exact absurd rfl hn
  · split at hv
    · rename_i b o n' hs
      split at hv
      · rename_i ws hw
        cases hv
        obtain ⟨r, c, hr, _, rfl⟩ := slot_rel hs hx
        obtain ⟨us, q1, q2, q3⟩ := R.cells hr hw
        exact ⟨⟨r.1, o, none⟩, c, us, rfl, q1, q2, fun i y hy => by rw [add_off]; exact q3 i y hy⟩
      · cases hv
    · cases hv
/-- A new row that holds what was appended. -/
theorem nx_grow (R : Rl h G m l bs e H) {w : World} (hw : w.heap = H) {need cap sz el : Nat} {vs : List V} {us : List Value} {z : Array Value} (hm : rels m vs us) (hl : us.length = need * sz) (hz : z.size = sz) (hc : need ≤ cap)
    (HK : Nx P B st ops rest K h G m (putE l d (.g bs.length need)) (bs ++ [some ⟨vs, false, sz⟩])) (hB' : ∀ m' H', Mle m m' → HR h G m' (bs ++ [some ⟨vs, false, sz⟩]) H' → B H') :
    Same w (w.drew.alloc (.cells (us.toArray ++ Builtin.zeroCells z (cap - need)) el)) ∧ B (w.drew.alloc (.cells (us.toArray ++ Builtin.zeroCells z (cap - need)) el)).heap ∧
      RL P B st ops rest (e.set d (.slice (some ⟨w.heap.size, 0, none⟩) need cap)) (w.drew.alloc (.cells (us.toArray ++ Builtin.zeroCells z (cap - need)) el)).heap K := by
  subst hw
  have hH : (w.drew.alloc (.cells (us.toArray ++ Builtin.zeroCells z (cap - need)) el)).heap = w.heap.push (.cells (us.toArray ++ Builtin.zeroCells z (cap - need)) el (0, 0)) := rfl
  rw [hH]
  have hlr : LR m vs (us.toArray ++ Builtin.zeroCells z (cap - need)).toList := by
    simp only [Array.toList_append]
    exact lr_pre hm
  have hsz : sz ≠ 0 → (us.toArray ++ Builtin.zeroCells z (cap - need)).size = cap * sz := fun _ => by
    have : need * sz ≤ cap * sz := Nat.mul_le_mul_right sz hc
    rw [Array.size_append, size_zeroCells, hz, List.size_toArray, hl, Nat.sub_mul]
    omega
  refine ⟨⟨rfl, rfl, rfl⟩, hB' _ _ (mle_push _ (w.heap.size, cap)) (R.heap.push hlr hsz), ?_⟩
  exact nx_push R (v := .g bs.length need) hlr hsz ⟨(w.heap.size, cap), at_len R.heap _, hc, rfl⟩ HK
theorem appE_ok (R : Rl h G m l bs e H) {s x : Operand} {t el sz : Nat} {sv xv : V} {z : List V} (hB : B H) (hB' : ∀ m' H', Mle m m' → HR h G m' bs' H' → B H') (hs : evE G l s = some sv) (hx : evE G l x = some xv) (hT : slE P t = some (el, sz)) (hz : zeE P el = some (sz, z)) (hsz : sz ≠ 0) (hv : appE bs sz sv xv = some (v, bs'))
    (HK : Nx P B st ops rest K h G m (putE l d v) bs') : RL P B st ops (⟨some d, .call ⟨.builtin .append, #[s, x], #[t, t]⟩, ty, pos, af, none⟩ :: rest) e H K := by
  replace hs := evE_ok R hs
  replace hx := evE_ok R hx
  replace hT := slE_ok hT
  obtain ⟨i, zv, hi, hzz, hsi, _, hby, _, hzs⟩ := zeE_ok hz
  have hT' := hT
  obtain ⟨hu, i0, hi0, hs0⟩ := hT'
  rw [hi] at hi0; cases hi0
  unfold appE at hv
  split at hv
  · rename_i n news hel
    cases hc : (allOne news && Nat.ble n 1000000) with
    | false => rw [hc] at hv; cases hv
    | true =>
      rw [hc] at hv
      simp only [cond_true] at hv
      simp only [Bool.and_eq_true] at hc
      have hn6 := Nat.le_of_ble_eq_true hc.2
      have zero : ∀ {base : Option Addr} {k cap : Nat}, n = 0 → e.ev s = .slice base k cap → k ≤ cap → v = sv → bs' = bs → RL P B st ops (⟨some d, .call ⟨.builtin .append, #[s, x], #[t, t]⟩, ty, pos, af, none⟩ :: rest) e H K := by
        intro base k cap h0 he hk hv' hb'
        subst h0; subst hv'; subst hb'
        obtain ⟨h1, h2⟩ := elems_zero (P := P) R.heap hel hx
        refine r_append hB fun w hw => ⟨e.ev s, w, ?_, .refl w, by rw [hw]; exact hB, by rw [hw]; exact nx_pure R hs HK⟩
        rw [he]
        exact run_append0 hT hk h1 w (h2 w hw)
      have hbb : n * i.bytes ≤ 1000000 * 1000 := Nat.mul_le_mul hn6 hby
      split at hv
      · have hs : e.ev s = .slice none 0 0 := hs
        cases h0 : Nat.beq n 0 with
        | true => rw [h0] at hv; cases hv; exact zero (Nat.eq_of_beq_eq_true h0) hs (Nat.le_refl _) rfl rfl
        | false =>
          rw [h0] at hv; cases hv
          have hn : n ≠ 0 := fun he => by subst he; cases h0
          obtain ⟨a, c, us, hxv, q1, q2, q3⟩ := elems_pos R.heap hel hn hx
          refine r_append hB fun w hw => ?_
          have hr := run_append_nil (P := P) w t ty el i zv hu hi hzz a n c us (by rw [q2, hsi]) (fun j y hj => by rw [cell?_eq, hw]; exact q3 j y hj) (by omega) (by omega) (by omega)
          rw [hs, hxv]
          refine ⟨_, _, hr, ?_⟩
          exact nx_grow R hw (sz := sz) q1 q2 (by rw [hzs]) (grownCap_ge w n 0 el) HK hB'
      · rename_i b o len cap
        obtain ⟨r, hr1, hs⟩ := hs
        cases hroom : Nat.ble (len + n) cap with
        | true =>
          rw [hroom] at hv
          simp only [cond_true] at hv
          cases h0 : Nat.beq n 0 with
          | true =>
            rw [h0] at hv; cases hv
            have := Nat.le_of_ble_eq_true hroom
            exact zero (Nat.eq_of_beq_eq_true h0) hs (by omega) rfl rfl
          | false => rw [h0] at hv; cases hv
        | false =>
          rw [hroom] at hv
          simp only [cond_false] at hv
          split at hv
          · rename_i olds ho
            cases hc2 : (allOne olds && Nat.ble len 1000000) with
            | false => rw [hc2] at hv; cases hv
            | true =>
              rw [hc2] at hv; cases hv
              simp only [Bool.and_eq_true] at hc2
              have hl6 := Nat.le_of_ble_eq_true hc2.2
              have hlt : cap < len + n := by
                rcases Nat.lt_or_ge cap (len + n) with h1 | h1
                · exact h1
                · rw [Nat.ble_eq_true_of_le h1] at hroom; cases hroom
              obtain ⟨os, p1, p2, p3⟩ := R.heap.cells hr1 ho
              by_cases hn : n = 0
              · subst hn
                -- cannot be: a slice's length is at most its capacity
                obtain ⟨h1, h2⟩ := elems_zero (P := P) R.heap hel hx
                have hnews : news = [] := by
                  unfold elemsE at hel
                  split at hel
                  · cases hel; rfl
                  · split at hel
                    · split at hel
                      · rename_i hw; cases hel; rw [Nat.zero_mul] at hw; cases hw; rfl
                      · cases hel
                    · cases hel
                subst hnews
                refine r_append hB fun w hw => ?_
                have hfit : Builtin.nextslicecap (len + 0) cap * i.bytes ≤ 281474976710656 := growslice_fits (by omega) (by have : len * i.bytes ≤ 1000000 * 1000 := Nat.mul_le_mul hl6 hby; simp; omega)
                have hfo := run_firstCells_some (P := P) w.drew i.size len ⟨r.1, o, none⟩ len cap os (by rw [p2, hsi]) (fun j y hj => by rw [add_off]; show w.cell? _ = _; rw [cell?_eq, hw]; exact p3 j y hj)
                have hfx := h2 w.drew hw
                have hnn : ¬ (len ≤ cap) := by omega
                have h63' : ¬ (9223372036854775807 < ((len : Int))) := by omega
                have h48' : ¬ (281474976710656 < Builtin.nextslicecap len cap * i.bytes) := by simp at hfit; omega
                subst hsi
                have hr : (Builtin.append_ #[t, t] ty #[.slice (some ⟨r.1, o, none⟩) len cap, e.ev x]).run P w = .ok (.slice (some ⟨w.heap.size, 0, none⟩) (len + 0) (grownCap w (len + 0) cap el)) (w.drew.alloc (.cells ((os ++ []).toArray ++ Builtin.zeroCells zv.cells (grownCap w (len + 0) cap el - (len + 0))) el)) := by
                  simp [Builtin.append_, u_run hu, sizeOf, typeInfo, zeroValue, hi, hzz, h1, hnn, h63', h48', Question.forced, hfo, hfx, newRow, grownCap]
                rw [hs]
                refine ⟨_, _, hr, ?_⟩
                exact nx_grow R hw (sz := i.size) (rels_app p1 (show rels m [] [] from rfl)) (by simp [p2]) (by rw [hzs]) (grownCap_ge w _ cap el) HK hB'
              · obtain ⟨a, c, us, hxv, q1, q2, q3⟩ := elems_pos R.heap hel hn hx
                refine r_append hB fun w hw => ?_
                have hll : (len + n) * i.bytes ≤ 2000000 * 1000 := Nat.mul_le_mul (by omega) hby
                have hr := run_append_grow (P := P) w t ty el i zv hu hi hzz ⟨r.1, o, none⟩ len cap os (by rw [p2, hsi]) (fun j y hj => by rw [add_off, cell?_eq, hw]; exact p3 j y hj) a n c us (by rw [q2, hsi]) (fun j y hj => by rw [cell?_eq, hw]; exact q3 j y hj)
                  hlt (by omega) (growslice_fits hlt (by omega))
                rw [hs, hxv]
                refine ⟨_, _, hr, ?_⟩
                have := nx_grow R hw (sz := sz) (el := el) (z := zv.cells) (rels_app p1 q1) (by rw [List.length_append, p2, q2, Nat.add_mul]) (by rw [hzs]) (grownCap_ge w _ cap el) HK hB'
                rw [← List.append_toArray] at this
                exact this
          · cases hv
      · rename_i b len
        obtain ⟨r, hr1, hr2, hs⟩ := hs
        cases h0 : Nat.beq n 0 with
        | true => rw [h0] at hv; cases hv; exact zero (Nat.eq_of_beq_eq_true h0) hs hr2 rfl rfl
        | false =>
          rw [h0] at hv
          simp only [cond_false] at hv
          have hn : n ≠ 0 := fun he => by subst he; cases h0
          split at hv
          · rename_i bk olds hbk ho
            cases hc2 : (allOne olds && Nat.ble len 1000000 && !bk.ro && Nat.beq bk.sz sz) with
            | false => rw [hc2] at hv; cases hv
            | true =>
              rw [hc2] at hv; cases hv
              simp only [Bool.and_eq_true, Bool.not_eq_true'] at hc2
              obtain ⟨⟨⟨hone, hl6⟩, hro⟩, hbz⟩ := hc2
              have hl6 := Nat.le_of_ble_eq_true hl6
              have hbz := Nat.eq_of_beq_eq_true hbz
              have hbk := blkE_eq hbk
              obtain ⟨os, p1, p2, p3⟩ := R.heap.cells hr1 ho
              obtain ⟨a, c, us, hxv, q1, q2, q3⟩ := elems_pos R.heap hel hn hx
              have hll : (len + n) * i.bytes ≤ 2000000 * 1000 := Nat.mul_le_mul (by omega) hby
              refine r_append hB fun w hw => ?_
              by_cases hroom : len + n ≤ r.2
              · subst hw
                obtain ⟨r', b1, b2, b3, b4⟩ := R.heap.blk b bk hbk
                rw [hr1] at b1; cases b1
                obtain ⟨b5, cs, tt, b6, b7⟩ := b4 hro
                have b7 := b7 (by rw [hbz]; exact hsz)
                rw [hbz] at b7
                have hmul : (len + n) * sz ≤ r.2 * sz := Nat.mul_le_mul_right sz hroom
                rw [Nat.add_mul] at hmul
                obtain ⟨cs', h2, h3, h4, h5⟩ := setCells_heap r.1 us (len * sz) w cs tt (0, 0) b6 (by omega)
                have hrun := run_append_room_cells (P := P) w t ty el i hu hi r.1 0 len r.2 a n c us (by rw [q2, hsi]) (fun j y hj => by rw [cell?_eq]; exact q3 j y hj) (allOne_rel q1 hc.1) hroom
                  (fun j hj => by have : 0 + len * i.size + j < cs.size := by rw [hsi]; omega
                                  rw [cell?_eq]; simp only [cellH, b6]; simp; omega)
                  (fun j hj => by rw [frozen?_eq]; simp [frozenH, b6])
                rw [Nat.zero_add, hsi] at hrun
                rw [hs, hxv]
                refine ⟨_, _, hrun, h5, ?_⟩
                have hosl := rels_len p1
                have hlr : LR m (olds ++ news) cs'.toList := by
                  rw [h3]
                  have hol : LR m olds cs.toList := fun k y hy => by
                    obtain ⟨_, hlr⟩ := rels_iff.1 p1
                    obtain ⟨u, hu', hru⟩ := hlr k y hy
                    refine ⟨u, ?_, hru⟩
                    have := p3 k u hu'
                    rw [Nat.zero_add] at this
                    simp only [cellH, b6] at this
                    simpa using this
                  obtain ⟨hnl, hnr⟩ := rels_iff.1 q1
                  intro k y hy
                  rw [over_get]
                  rcases Nat.lt_or_ge k olds.length with hk | hk
                  · rw [List.getElem?_append_left hk] at hy
                    rw [if_neg (by omega)]
                    exact hol k y hy
                  · rw [List.getElem?_append_right hk] at hy
                    have hk2 := (List.getElem?_eq_some_iff.1 hy).1
                    rw [if_pos ⟨by omega, by omega, by simp; omega⟩, show k - len * sz = k - olds.length by omega]
                    exact hnr _ y hy
                have HR2 := R.heap.repl hbk hro hr1 b6 h4 h2 (by have := congrArg List.length h3; rw [over_len] at this; simpa using this) hlr
                have hb3 : (bs.set b (some ⟨olds ++ news, bk.ro, bk.sz⟩))[b]? = some (some ⟨olds ++ news, bk.ro, bk.sz⟩) := List.getElem?_set_self (List.getElem?_eq_some_iff.1 hbk).1
                have HR3 := HR2.move hb3 hr1
                rw [List.set_set, hro, hbz] at HR3
                refine ⟨hB' _ _ (mle_push m r) HR3, HK _ _ _ (mle_push m r) ⟨(R.env.mono (mle_push m r).w).put (v := .g bs.length (len + n)) ⟨r, at_len R.heap r, hroom, rfl⟩ d, HR3⟩⟩
              · have hr := run_append_grow (P := P) w t ty el i zv hu hi hzz ⟨r.1, 0, none⟩ len r.2 os (by rw [p2, hsi]) (fun j y hj => by rw [add_off, cell?_eq, hw]; exact p3 j y hj) a n c us (by rw [q2, hsi]) (fun j y hj => by rw [cell?_eq, hw]; exact q3 j y hj)
                  (by omega) (by omega) (growslice_fits (by omega) (by omega))
                rw [hs, hxv]
                refine ⟨_, _, hr, ?_⟩
                have Rk : Rl h G m l (bs.set b none) e H := ⟨R.env, R.heap.kill b⟩
                have hlen : (bs.set b none).length = bs.length := by simp
                have := nx_grow Rk hw (P := P) (B := B) (st := st) (ops := ops) (rest := rest) (K := K) (d := d) (sz := sz) (el := el) (z := zv.cells) (rels_app p1 q1) (by rw [List.length_append, p2, q2, Nat.add_mul]) (by rw [hzs]) (grownCap_ge w _ r.2 el) (by rw [hlen]; exact HK) hB'
                rw [← List.append_toArray] at this
                exact this
          · cases hv
      · cases hv
  · cases hv
end
end Go.QF
