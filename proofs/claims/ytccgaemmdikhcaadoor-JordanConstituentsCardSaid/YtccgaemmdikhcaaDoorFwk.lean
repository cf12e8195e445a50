/-
  A small calculus of weakest preconditions over the kit's 'Code.wp': frames are functions from slots to values, the state is the heap alone, and a region that draws its order is walked in the order of its text where a closed check allows it. No condition.
-/
import Derived.Calls
import Derived.Orders
import Derived.KernelRfl
import Derived.Tactics
import Derived.OwnWalk
import Derived.Scope
import Derived.Deep.LoopGhost
namespace Go.QF
open Go
set_option linter.unusedVariables false

abbrev Heap := Array Obj
abbrev Env := Nat → Value

def Env.set (e : Env) (d : Nat) (v : Value) : Env := fun t => bif Nat.beq t d then v else e t
def Env.put (e : Env) : Option Nat → Value → Env
  | some d, v => e.set d v
  | none, _ => e
def Env.ev (e : Env) : Operand → Value
  | .tmp t => e t
  | .const v => v
  | .global g => .pointer (some ⟨g, 0, none⟩)
  | .func f => .func (.func f) #[] #[]

/-- A slot that takes over another operand's value. -/
def Env.mv (e : Env) (d : Nat) (x : Operand) : Env := fun t => bif Nat.beq t d then e.ev x else e t
theorem Env.mv_eq (e : Env) (d : Nat) (x : Operand) : e.mv d x = e.set d (e.ev x) := rfl

theorem Env.set_same (e : Env) (d : Nat) (v : Value) : e.set d v d = v := by
  have h : Nat.beq d d = true := Nat.beq_eq.mpr rfl
  simp only [Env.set, h, cond_true]
theorem Env.set_other (e : Env) {d t : Nat} (v : Value) (h : t ≠ d) : e.set d v t = e t := by
  have h : Nat.beq t d = false := by
    cases hb : Nat.beq t d
    · rfl
    · exact absurd (Nat.eq_of_beq_eq_true hb) h
  simp only [Env.set, h, cond_false]

/-- The array of a frame's slots holds what the function says. -/
structure Rep (n : Nat) (e : Env) (a : Act) : Prop where
  size : a.tmps.size = n
  defers : a.defers = []
  get : ∀ t, a.tmps.getD t undef = e t

theorem Rep.eval {n : Nat} {e : Env} {a : Act} (r : Rep n e a) : a.eval = e.ev := by
  funext x
  cases x with
  | tmp t => exact r.get t
  | _ => rfl

theorem Rep.put {n : Nat} {e : Env} {a : Act} (r : Rep n e a) (d : Option Nat) (v : Value) (hd : ∀ x, d = some x → x < n) :
    Rep n (e.put d v) (a.put d v) := by
  cases d with
  | none => exact r
  | some d =>
    have hdn := hd d rfl
    refine ⟨by simp [Act.put, r.size], by simp [Act.put, r.defers], fun t => ?_⟩
    show (a.tmps.setIfInBounds d v).getD t undef = e.set d v t
    by_cases h : t = d
    · subst h
      rw [Env.set_same]
      simp [Array.getD_eq_getD_getElem?, r.size, hdn]
    · rw [Env.set_other e v h, ← r.get t]
      simp only [Array.getD_eq_getD_getElem?]
      rw [Array.getElem?_setIfInBounds_ne (fun he => h he.symm)]

/-- Two worlds that part in their heaps and counts of draws alone. -/
structure Same (w w' : World) : Prop where
  os : w'.os = w.os
  tape : w'.tape = w.tape
  output : w'.output = w.output
theorem Same.refl (w : World) : Same w w := ⟨rfl, rfl, rfl⟩
theorem Same.trans {a b c : World} (h : Same a b) (k : Same b c) : Same a c := ⟨k.os.trans h.os, k.tape.trans h.tape, k.output.trans h.output⟩

/-! ### Operations -/
inductive Kind where
  | pure | read | eff | wr

def kindOf : Op → Kind
  | .move _ | .assign _ | .pick .. | .binOp .. | .unOp .. | .convert .. | .fieldAddr .. | .field .. | .indexAddr .. | .index .. | .extract .. | .slice .. | .nilCheck _ | .makeInterface .. | .makeFunc .. | .build .. => .pure
  | .call { callee := .builtin .len, .. } => .pure
  | .call { callee := .builtin .min, .. } => .pure
  | .call { callee := .builtin .max, .. } => .pure
  | .load .. => .read
  | .store .. => .wr
  | _ => .eff

def PureRun (P : Program) (ρ : Operand → Value) (o : Oper) (v : Value) : Prop := ∀ w, (execOp ρ o).run P w = .ok (.value v) w
/-- As a read: its value is the same in every heap of the family B. -/
def StRun (P : Program) (B : Heap → Prop) (ρ : Operand → Value) (o : Oper) (v : Value) : Prop := ∀ w : World, B w.heap → (execOp ρ o).run P w = .ok (.value v) w
def ReadRun (P : Program) (ρ : Operand → Value) (o : Oper) (h : Heap) (v : Value) : Prop := ∀ w, w.heap = h → (execOp ρ o).run P w = .ok (.value v) w
def EffPost (P : Program) (w : World) (K : Value → Heap → Prop) : Result Next → Prop
  | .ok (.value v) w' => Same w w' ∧ K v w'.heap
  | .ok .skip w' => Same w w' ∧ K undef w'.heap
  | .ok (.enter f args) w' => Same w w' ∧ Calls P f args w' fun en w'' => ∃ v, en = .returned v ∧ Same w' w'' ∧ K v w''.heap
  | _ => False
def EffRun (P : Program) (ρ : Operand → Value) (o : Oper) (h : Heap) (K : Value → Heap → Prop) : Prop := ∀ w, w.heap = h → EffPost P w K ((execOp ρ o).run P w)

theorem EffPost.mono {P : Program} {w : World} {K K' : Value → Heap → Prop} (hK : ∀ v h, K v h → K' v h) {r : Result Next} (h : EffPost P w K r) : EffPost P w K' r := by
  cases r with
  | ok n w' =>
    cases n <;> simp only [EffPost] at h ⊢ <;>
      first
        | exact ⟨h.1, hK _ _ h.2⟩
        | exact ⟨h.1, Calls.mono h.2 fun en w'' ⟨v, he, hs, hk⟩ => ⟨v, he, hs, hK _ _ hk⟩⟩
  | halt x w' => exact h

theorem EffRun.mono {P : Program} {ρ : Operand → Value} {o : Oper} {h : Heap} {K K' : Value → Heap → Prop} (hK : ∀ v h, K v h → K' v h) (H : EffRun P ρ o h K) : EffRun P ρ o h K' :=
  fun w hw => (H w hw).mono hK

def aWorld (h : Heap) : World := { heap := h, tape := fun _ _ => 0, drawn := 0, os := default, output := #[] }

theorem EffPost.some {P : Program} {w : World} {K : Value → Heap → Prop} {r : Result Next} (h : EffPost P w K r) : ∃ v h', K v h' := by
  cases r with
  | ok n w' =>
    cases n <;> simp only [EffPost] at h <;>
      first
        | exact ⟨_, _, h.2⟩
        | (obtain ⟨en, w'', fr, ⟨v, _, _, hk⟩, _⟩ := h.2 []; exact ⟨_, _, hk⟩)
  | halt x w' => exact h.elim

theorem EffRun.some {P : Program} {ρ : Operand → Value} {o : Oper} {h : Heap} {K : Value → Heap → Prop} (H : EffRun P ρ o h K) : ∃ v h', K v h' := (H (aWorld h) rfl).some

def SOp (P : Program) (B : Heap → Prop) (st : Bool) (o : Oper) (e : Env) (h : Heap) (K : Env → Heap → Prop) : Prop :=
  match kindOf o.op, st with
  | .pure, _ => ∃ v, PureRun P e.ev o v ∧ K (e.put o.dst v) h
  | .read, false => ∃ v, ReadRun P e.ev o h v ∧ K (e.put o.dst v) h
  | .read, true => ∃ v, B h ∧ StRun P B e.ev o v ∧ K (e.put o.dst v) h
  | .eff, _ => B h ∧ EffRun P e.ev o h fun v h' => B h' ∧ K (e.put o.dst v) h'
  | .wr, _ => EffRun P e.ev o h fun v h' => K (e.put o.dst v) h'

theorem SOp.mono {P : Program} {B : Heap → Prop} {st : Bool} {o : Oper} {e : Env} {h : Heap} {K K' : Env → Heap → Prop} (hK : ∀ v h', K (e.put o.dst v) h' → K' (e.put o.dst v) h') (H : SOp P B st o e h K) : SOp P B st o e h K' := by
  unfold SOp at *
  split at H
  · obtain ⟨v, hv, hk⟩ := H; exact ⟨v, hv, hK _ _ hk⟩
  · obtain ⟨v, hv, hk⟩ := H; exact ⟨v, hv, hK _ _ hk⟩
  · obtain ⟨v, hb, hv, hk⟩ := H; exact ⟨v, hb, hv, hK _ _ hk⟩
  · exact ⟨H.1, H.2.mono fun v h' hk => ⟨hk.1, hK _ _ hk.2⟩⟩
  · exact H.mono fun v h' hk => hK _ _ hk

def yieldE (ops : Array Oper) (e : Env) (j : Nat) : Option Bool :=
  match (ops[j]?).bind (·.dst) with
  | some t => match e t with
    | .bool b => some b
    | _ => none
  | none => none

theorem Rep.yields {n : Nat} {e : Env} {a : Act} (r : Rep n e a) (ops : Array Oper) : yielded ops a.tmps = yieldE ops e := by
  funext j
  unfold yielded yieldE
  cases h : (ops[j]?).bind (·.dst) with
  | none => rfl
  | some t =>
    have hg := r.get t
    simp only [Option.bind_some]
    rw [← hg]
    rcases Nat.lt_or_ge t a.tmps.size with hl | hl
    · simp only [Array.getD_eq_getD_getElem?, Array.getElem?_eq_getElem hl, Option.getD_some]
      cases a.tmps[t] <;> rfl
    · simp [Array.getD_eq_getD_getElem?, Array.getElem?_eq_none hl, undef]

def GOp (P : Program) (B : Heap → Prop) (st : Bool) (ops : Array Oper) (o : Oper) (e : Env) (h : Heap) (K : Env → Heap → Prop) : Prop :=
  if Region.wanted o (yieldE ops e) = true then SOp P B st o e h K else K (e.put o.dst undef) h

theorem GOp.mono {P : Program} {B : Heap → Prop} {st : Bool} {ops : Array Oper} {o : Oper} {e : Env} {h : Heap} {K K' : Env → Heap → Prop} (hK : ∀ v h', K (e.put o.dst v) h' → K' (e.put o.dst v) h') (H : GOp P B st ops o e h K) : GOp P B st ops o e h K' := by
  unfold GOp at *
  split
  · rename_i hw; rw [if_pos hw] at H; exact H.mono hK
  · rename_i hw; rw [if_neg hw] at H; exact hK _ _ H

def LI (P : Program) (B : Heap → Prop) (st : Bool) (ops : Array Oper) : List Nat → Env → Heap → (Env → Heap → Prop) → Prop
  | [], e, h, K => K e h
  | i :: l, e, h, K => match ops[i]? with
    | none => LI P B st ops l e h K
    | some o => GOp P B st ops o e h fun e' h' => LI P B st ops l e' h' K

def RL (P : Program) (B : Heap → Prop) (st : Bool) (ops : Array Oper) : List Oper → Env → Heap → (Env → Heap → Prop) → Prop
  | [], e, h, K => K e h
  | o :: l, e, h, K => GOp P B st ops o e h fun e' h' => RL P B st ops l e' h' K

theorem RL_LI {P : Program} {B : Heap → Prop} {st : Bool} {ops : Array Oper} {K : Env → Heap → Prop} (l : List Oper) : ∀ (k : Nat), (∀ j, l[j]? = ops[k + j]?) → ∀ e h, RL P B st ops l e h K → LI P B st ops (List.range' k l.length) e h K := by
  induction l with
  | nil => intro k _ e h H; exact H
  | cons o l ih =>
    intro k hk e h H
    have h0 : ops[k]? = some o := by simpa using (hk 0).symm
    have ih' := ih (k + 1) (fun j => by have := hk (j + 1); simpa [Nat.add_assoc, Nat.add_comm 1 j] using this)
    simp only [List.length_cons, List.range'_succ, LI, h0]
    exact GOp.mono (fun v h' hr => ih' _ _ hr) H

theorem wpOp_of_GOp {P : Program} {B : Heap → Prop} {st : Bool} {ops : Array Oper} {Q : Exit → Act → World → Prop} {i : Nat} {o : Oper} {n : Nat} {e : Env} {a : Act} {w : World} {K : Env → Heap → Prop} {K' : Act → World → Prop}
    (hi : ops[i]? = some o) (hd : ∀ x, o.dst = some x → x < n) (r : Rep n e a) (H : GOp P B st ops o e w.heap K)
    (hK : ∀ e' a' w', Rep n e' a' → Same w w' → K e' w'.heap → K' a' w') : wpOp P ops Q i K' a w := by
  unfold wpOp
  simp only [hi]
  unfold GOp at H
  rw [r.yields ops]
  split
  · rename_i hw
    rw [if_pos hw] at H
    refine .inl ?_
    unfold Oper.wp
    rw [r.eval]
    have eff : ∀ {K : Value → Heap → Prop}, EffRun P e.ev o w.heap K → (∀ v h', K v h' → ∀ a' w', Rep n (e.put o.dst v) a' → Same w w' → w'.heap = h' → K' a' w') → o.upon P a K' Q ((execOp e.ev o).run P w) := by
      intro K H hK
      have H' := H w rfl
      generalize (execOp e.ev o).run P w = res at H'
      cases res with
      | ok nx w' =>
        cases nx <;> simp only [EffPost] at H' <;> simp only [Oper.upon]
        case value v => exact hK _ _ H'.2 _ _ (r.put _ _ hd) H'.1 rfl
        case skip => exact hK _ _ H'.2 _ _ (r.put _ _ hd) H'.1 rfl
        case enter f args =>
          refine Calls.mono H'.2 fun en w'' ⟨v, he, hs, hk⟩ => ?_
          subst he
          exact hK _ _ hk _ _ (r.put _ _ hd) (H'.1.trans hs) rfl
      | halt x w' => exact H'.elim
    unfold SOp at H
    split at H
    · obtain ⟨v, hv, hk⟩ := H
      rw [hv w]
      exact hK _ _ _ (r.put _ _ hd) (.refl w) hk
    · obtain ⟨v, hv, hk⟩ := H
      rw [hv w rfl]
      exact hK _ _ _ (r.put _ _ hd) (.refl w) hk
    · obtain ⟨v, hb, hv, hk⟩ := H
      rw [hv w hb]
      exact hK _ _ _ (r.put _ _ hd) (.refl w) hk
    · exact eff H.2 fun v h' hk a' w' r' s' hh => hK _ _ _ r' s' (by rw [hh]; exact hk.2)
    · exact eff H fun v h' hk a' w' r' s' hh => hK _ _ _ r' s' (by rw [hh]; exact hk)
  · rename_i hw
    rw [if_neg hw] at H
    exact hK _ _ _ (r.put _ _ hd) (.refl w) H

/-! ### The order of a region's operations -/
/-- In every order that the edges allow, operation i comes ahead of operation j. -/
def reach (ops : Array Oper) : Nat → Nat → Nat → Bool
  | 0, _, _ => false
  | n + 1, i, j => match ops[j]? with
    | none => false
    | some o => o.after.any fun ed => Region.binds .any ed && (Nat.beq ed.on i || reach ops n i ed.on)

def indep (st : Bool) (ops : Array Oper) (x y : Oper) : Bool :=
  x.apart ops y && match kindOf x.op, kindOf y.op with
    | .pure, _ => true
    | _, .pure => true
    | .read, .read => true
    | .read, .eff => st
    | .eff, .read => st
    | _, _ => false

def noSel (o : Oper) : Bool := match o.op with | .select .. => false | _ => true

def bitN (m i : Nat) : Bool := Nat.beq (Nat.land (Nat.shiftRight m i) 1) 1
/-- The operations that come ahead of one, as bits. -/
def anc1 (acc : List Nat) (o : Oper) : Nat := o.after.toList.foldl (fun m ed => bif Region.binds .any ed then Nat.lor m (Nat.lor (Nat.shiftLeft 1 ed.on) (acc.getD ed.on 0)) else m) 0
def ancGo : List Oper → List Nat → List Nat
  | [], acc => acc
  | o :: l, acc => ancGo l (acc ++ [anc1 acc o])
def ancs (ops : Array Oper) : List Nat := ancGo ops.toList []
def ahead (ops : Array Oper) (i j : Nat) : Bool := bitN ((ancs ops).getD j 0) i

/-- A load stands beside a call, an append or an allocation, and the edges leave their order open. -/
def stOf (ops : Array Oper) : Bool → Bool
  | false => false
  | true => (List.range ops.size).any fun j => (List.range j).any fun i => match ops[i]?, ops[j]? with
    | some oi, some oj => (match kindOf oi.op, kindOf oj.op with | .read, .eff => true | .eff, .read => true | _, _ => false) && !ahead ops i j
    | _, _ => false

def regOk (n : Nat) (ops : Array Oper) (draw : Bool) : Bool :=
  (List.range ops.size).all fun j => match ops[j]? with
    | none => false
    | some oj => (match oj.dst with | some d => decide (d < n) | none => true) && noSel oj &&
      (!draw || (oj.after.all (fun ed => !Region.binds .any ed || decide (ed.on < j)) &&
        (List.range j).all fun i => match ops[i]? with
          | none => false
          | some oi => ahead ops i j || (indep false ops oi oj || (indep true ops oi oj && stOf ops true))))

theorem bit_lor (a b i : Nat) : bitN (Nat.lor a b) i = (bitN a i || bitN b i) := by
  have h : ∀ m, bitN m i = m.testBit i := fun m => by
    unfold bitN
    rw [Nat.testBit]
    show Nat.beq (m >>> i &&& 1) 1 = (1 &&& (m >>> i) != 0)
    rw [Nat.and_comm]
    rcases Nat.mod_two_eq_zero_or_one (m >>> i) with h | h <;> simp [Nat.one_and_eq_mod_two, h] <;> rfl
  rw [h, h, h]
  exact Nat.testBit_or a b i
theorem bit_shl (k i : Nat) (h : bitN (Nat.shiftLeft 1 k) i = true) : k = i := by
  have h2 : ∀ m, bitN m i = m.testBit i := fun m => by
    unfold bitN
    rw [Nat.testBit]
    show Nat.beq (m >>> i &&& 1) 1 = (1 &&& (m >>> i) != 0)
    rw [Nat.and_comm]
    rcases Nat.mod_two_eq_zero_or_one (m >>> i) with h | h <;> simp [Nat.one_and_eq_mod_two, h] <;> rfl
  rw [h2] at h
  have h3 : (1 <<< k).testBit i = true := h
  rw [Nat.one_shiftLeft, Nat.testBit_two_pow] at h3
  simpa using h3
theorem bit_zero (i : Nat) : bitN 0 i = false := by
  unfold bitN
  show Nat.beq (0 >>> i &&& 1) 1 = false
  rw [Nat.zero_shiftRight]; rfl
theorem anc1_spec {acc : List Nat} {o : Oper} {i : Nat} (h : bitN (anc1 acc o) i = true) : ∃ ed ∈ o.after, Region.binds .any ed = true ∧ (ed.on = i ∨ bitN (acc.getD ed.on 0) i = true) := by
  have key : ∀ (l : List Edge) (m : Nat), bitN (l.foldl (fun m ed => bif Region.binds .any ed then Nat.lor m (Nat.lor (Nat.shiftLeft 1 ed.on) (acc.getD ed.on 0)) else m) m) i = true → bitN m i = true ∨ ∃ ed ∈ l, Region.binds .any ed = true ∧ (ed.on = i ∨ bitN (acc.getD ed.on 0) i = true) := by
    intro l
    induction l with
    | nil => intro m h; exact .inl h
    | cons ed l ih =>
      intro m h
      rcases ih _ h with h1 | ⟨ed', hm, hh⟩
      · dsimp only at h1
        cases hb : Region.binds .any ed with
        | false => rw [hb] at h1; exact .inl h1
        | true =>
          rw [hb] at h1
          simp only [cond_true] at h1
          rw [bit_lor, bit_lor, Bool.or_eq_true, Bool.or_eq_true] at h1
          rcases h1 with h1 | h1 | h1
          · exact .inl h1
          · exact .inr ⟨ed, List.mem_cons_self .., hb, .inl (bit_shl _ _ h1)⟩
          · exact .inr ⟨ed, List.mem_cons_self .., hb, .inr h1⟩
      · exact .inr ⟨ed', List.mem_cons_of_mem _ hm, hh⟩
  rcases key _ 0 h with h1 | ⟨ed, hm, hh⟩
  · rw [bit_zero] at h1; cases h1
  · exact ⟨ed, by simpa using hm, hh⟩
theorem ancGo_spec {ops : Array Oper} : ∀ (l : List Oper) (acc : List Nat), (∀ k, l[k]? = ops[acc.length + k]?) → (∀ j i, bitN (acc.getD j 0) i = true → ∃ n, reach ops n i j = true) → ∀ j i, bitN ((ancGo l acc).getD j 0) i = true → ∃ n, reach ops n i j = true := by
  intro l
  induction l with
  | nil => intro acc _ hacc; exact hacc
  | cons o l ih =>
    intro acc hk hacc
    refine ih _ (fun k => by have := hk (k + 1); simp only [List.getElem?_cons_succ] at this; rw [this]; simp; congr 1; omega) fun j i hb => ?_
    rcases Nat.lt_trichotomy j acc.length with hj | hj | hj
    · rw [List.getD_eq_getElem?_getD, List.getElem?_append_left hj, ← List.getD_eq_getElem?_getD] at hb
      exact hacc j i hb
    · subst hj
      rw [List.getD_eq_getElem?_getD, List.getElem?_append_right (Nat.le_refl _)] at hb
      simp only [Nat.sub_self, List.getElem?_cons_zero, Option.getD_some] at hb
      obtain ⟨ed, hm, hbd, hh⟩ := anc1_spec hb
      have ho : ops[acc.length]? = some o := by have := hk 0; simpa using this.symm
      rcases hh with rfl | hh
      · refine ⟨1, ?_⟩
        simp only [reach, ho]
        refine Array.any_eq_true'.2 ⟨ed, hm, ?_⟩
        rw [hbd, Nat.beq_refl]; rfl
      · obtain ⟨n, hn⟩ := hacc _ _ hh
        refine ⟨n + 1, ?_⟩
        simp only [reach, ho]
        refine Array.any_eq_true'.2 ⟨ed, hm, ?_⟩
        rw [hbd, hn, Bool.or_true]; rfl
    · rw [List.getD_eq_getElem?_getD, List.getElem?_eq_none (by simp; omega)] at hb
      simp only [Option.getD_none] at hb
      rw [bit_zero] at hb; cases hb
theorem ahead_reach {ops : Array Oper} {i j : Nat} (h : ahead ops i j = true) : ∃ n, reach ops n i j = true :=
  ancGo_spec ops.toList [] (by simp) (fun j i hb => by rw [List.getD_eq_getElem?_getD, List.getElem?_nil, Option.getD_none, bit_zero] at hb; cases hb) j i h
theorem indep_mono {ops : Array Oper} {x y : Oper} {b : Bool} (h : indep false ops x y = true) : indep b ops x y = true := by
  unfold indep at h ⊢
  rw [Bool.and_eq_true] at h ⊢
  refine ⟨h.1, ?_⟩
  cases hx : kindOf x.op <;> cases hy : kindOf y.op <;> simp_all

section
variable {P : Program} {ops : Array Oper}

theorem Env.put_comm (e : Env) {x y : Option Nat} (v u : Value) (h : ∀ d, x = some d → y ≠ some d) :
    (e.put x v).put y u = (e.put y u).put x v := by
  cases x with
  | none => rfl
  | some d =>
    cases y with
    | none => rfl
    | some d' =>
      have hne : d ≠ d' := fun he => h d rfl (he ▸ rfl)
      funext t
      show (e.set d v).set d' u t = (e.set d' u).set d v t
      by_cases h1 : t = d
      · subst h1; rw [Env.set_other _ _ hne, Env.set_same, Env.set_same]
      · by_cases h2 : t = d'
        · subst h2; rw [Env.set_same, Env.set_other _ _ h1, Env.set_same]
        · rw [Env.set_other _ _ h2, Env.set_other _ _ h1, Env.set_other _ _ h1, Env.set_other _ _ h2]

theorem Env.ev_put {e : Env} {d : Option Nat} {v : Value} {x : Operand} (h : ∀ k, d = some k → x ≠ .tmp k) : (e.put d v).ev x = e.ev x := by
  cases d with
  | none => rfl
  | some k =>
    cases x with
    | tmp t => exact Env.set_other e v (fun he => h k rfl (he ▸ rfl))
    | _ => rfl

theorem execOp_putE (o : Oper) (hs : noSel o = true) (e : Env) (d : Option Nat) (v : Value) (h : ∀ k, d = some k → k ∉ o.looksAt ops) :
    execOp (e.put d v).ev o = execOp e.ev o :=
  execOp_congr o (fun cs b he => by simp [noSel, he] at hs) fun x hx => Env.ev_put fun k hk hxk => h k hk (by
    subst hxk
    exact List.mem_append_left _ (List.mem_filterMap.2 ⟨.tmp k, by simpa using hx, rfl⟩))

theorem wanted_putE (o : Oper) (e : Env) (d : Option Nat) (v : Value) (h : ∀ k, d = some k → k ∉ o.looksAt ops) :
    Region.wanted o (yieldE ops (e.put d v)) = Region.wanted o (yieldE ops e) := by
  cases d with
  | none => rfl
  | some k =>
    unfold Region.wanted
    cases hg : o.guard with
    | none => rfl
    | some gw =>
      obtain ⟨g, want⟩ := gw
      have hy : yieldE ops (e.put (some k) v) g = yieldE ops e g := by
        unfold yieldE
        cases ht : (ops[g]?).bind (·.dst) with
        | none => rfl
        | some t =>
          have hne : t ≠ k := fun he => h k rfl (by subst he; simp [Oper.looksAt, hg, ht])
          show (match e.set k v t with | .bool b => some b | _ => none) = _
          rw [Env.set_other e v hne]
      simp only [hy]

/-- Two operations that do not look at one another and do not both touch memory may change places. -/
theorem SOp.swap {B : Heap → Prop} {st : Bool} {x y : Oper} {e : Env} {h : Heap} {K : Env → Heap → Prop}
    (hk : (match kindOf x.op, kindOf y.op with | .pure, _ => true | _, .pure => true | .read, .read => true | .read, .eff => st | .eff, .read => st | _, _ => false) = true)
    (ey : ∀ (e : Env) v, execOp (e.put x.dst v).ev y = execOp e.ev y) (ex : ∀ (e : Env) v, execOp (e.put y.dst v).ev x = execOp e.ev x)
    (pc : ∀ (e : Env) v u, (e.put x.dst v).put y.dst u = (e.put y.dst u).put x.dst v)
    (H1 : SOp P B st x e h fun e' h' => SOp P B st y e' h' K) : SOp P B st y e h fun e' h' => SOp P B st x e' h' K := by
  unfold SOp at H1 ⊢
  have un : ∀ {u u2 : Value} {w : World}, (execOp e.ev y).run P w = .ok (.value u) w → (execOp e.ev y).run P w = .ok (.value u2) w → u2 = u := by
    intro u u2 w a1 a2
    rw [a1] at a2
    injection a2 with a2 _
    injection a2 with a2
    exact a2.symm
  cases kx : kindOf x.op with
  | pure =>
    simp only [kx] at H1
    obtain ⟨v, hv, hh⟩ := H1
    have hv' : ∀ u, PureRun P (e.put y.dst u).ev x v := fun u w => by rw [ex]; exact hv w
    cases ky : kindOf y.op with
    | pure =>
      simp only [ky] at hh
      obtain ⟨u, hu, hh⟩ := hh
      exact ⟨u, fun w => by rw [← ey e v]; exact hu w, v, hv' u, by rw [← pc]; exact hh⟩
    | read =>
      cases st with
      | false =>
        simp only [ky] at hh
        obtain ⟨u, hu, hh⟩ := hh
        exact ⟨u, fun w hw => by rw [← ey e v]; exact hu w hw, v, hv' u, by rw [← pc]; exact hh⟩
      | true =>
        simp only [ky] at hh
        obtain ⟨u, hb, hu, hh⟩ := hh
        exact ⟨u, hb, fun w hw => by rw [← ey e v]; exact hu w hw, v, hv' u, by rw [← pc]; exact hh⟩
    | eff =>
      simp only [ky] at hh
      refine ⟨hh.1, fun w hw => ?_⟩
      have := hh.2 w hw
      rw [ey e v] at this
      exact this.mono fun u h' hk => ⟨hk.1, v, hv' u, by rw [← pc]; exact hk.2⟩
    | wr =>
      simp only [ky] at hh
      intro w hw
      have := hh w hw
      rw [ey e v] at this
      exact this.mono fun u h' hk => ⟨v, hv' u, by rw [← pc]; exact hk⟩
  | read =>
    cases st with
    | false =>
      simp only [kx] at H1
      obtain ⟨v, hv, hh⟩ := H1
      cases ky : kindOf y.op with
      | pure =>
        simp only [ky] at hh
        obtain ⟨u, hu, hh⟩ := hh
        exact ⟨u, fun w => by rw [← ey e v]; exact hu w, v, fun w hw => by rw [ex]; exact hv w hw, by rw [← pc]; exact hh⟩
      | read =>
        simp only [ky] at hh
        obtain ⟨u, hu, hh⟩ := hh
        exact ⟨u, fun w hw => by rw [← ey e v]; exact hu w hw, v, fun w hw => by rw [ex]; exact hv w hw, by rw [← pc]; exact hh⟩
      | eff => rw [kx, ky] at hk; cases hk
      | wr => rw [kx, ky] at hk; cases hk
    | true =>
      simp only [kx] at H1
      obtain ⟨v, hb, hv, hh⟩ := H1
      have hv' : ∀ u, StRun P B (e.put y.dst u).ev x v := fun u w hw => by rw [ex]; exact hv w hw
      cases ky : kindOf y.op with
      | pure =>
        simp only [ky] at hh
        obtain ⟨u, hu, hh⟩ := hh
        exact ⟨u, fun w => by rw [← ey e v]; exact hu w, v, hb, hv' u, by rw [← pc]; exact hh⟩
      | read =>
        simp only [ky] at hh
        obtain ⟨u, hb2, hu, hh⟩ := hh
        exact ⟨u, hb2, fun w hw => by rw [← ey e v]; exact hu w hw, v, hb, hv' u, by rw [← pc]; exact hh⟩
      | eff =>
        simp only [ky] at hh
        refine ⟨hh.1, fun w hw => ?_⟩
        have := hh.2 w hw
        rw [ey e v] at this
        exact this.mono fun u h' hk => ⟨hk.1, v, hk.1, hv' u, by rw [← pc]; exact hk.2⟩
      | wr => rw [kx, ky] at hk; cases hk
  | eff =>
    simp only [kx] at H1
    obtain ⟨hb, H1⟩ := H1
    cases ky : kindOf y.op with
    | pure =>
      simp only [ky] at H1
      obtain ⟨v0, h0, _, u, hu, _⟩ := H1.some
      have hu' : PureRun P e.ev y u := fun w => by rw [← ey e v0]; exact hu w
      refine ⟨u, hu', hb, fun w hw => ?_⟩
      rw [ex]
      refine (H1 w hw).mono fun v h' ⟨hb', u2, hu2, hk⟩ => ⟨hb', ?_⟩
      have : u2 = u := un (hu' (aWorld h)) (by rw [← ey e v]; exact hu2 _)
      subst this
      rw [← pc]; exact hk
    | read =>
      cases st with
      | false => rw [kx, ky] at hk; cases hk
      | true =>
        simp only [ky] at H1
        obtain ⟨v0, h0, _, u, _, hu, _⟩ := H1.some
        have hu' : StRun P B e.ev y u := fun w hw => by rw [← ey e v0]; exact hu w hw
        refine ⟨u, hb, hu', hb, fun w hw => ?_⟩
        rw [ex]
        refine (H1 w hw).mono fun v h' ⟨hb', u2, _, hu2, hk⟩ => ⟨hb', ?_⟩
        have : u2 = u := un (hu' (aWorld h) hb) (by rw [← ey e v]; exact hu2 _ hb)
        subst this
        rw [← pc]; exact hk
    | eff => rw [kx, ky] at hk; cases hk
    | wr => rw [kx, ky] at hk; cases hk
  | wr =>
    simp only [kx] at H1
    cases ky : kindOf y.op with
    | pure =>
      simp only [ky] at H1
      obtain ⟨v0, h0, u, hu, _⟩ := H1.some
      have hu' : PureRun P e.ev y u := fun w => by rw [← ey e v0]; exact hu w
      refine ⟨u, hu', fun w hw => ?_⟩
      rw [ex]
      refine (H1 w hw).mono fun v h' ⟨u2, hu2, hk⟩ => ?_
      have : u2 = u := un (hu' (aWorld h)) (by rw [← ey e v]; exact hu2 _)
      subst this
      rw [← pc]; exact hk
    | read => rw [kx, ky] at hk; cases hk
    | eff => rw [kx, ky] at hk; cases hk
    | wr => rw [kx, ky] at hk; cases hk

theorem SOp.congr {B : Heap → Prop} {st : Bool} {x : Oper} {e e2 : Env} {h : Heap} {K K2 : Env → Heap → Prop} (he : execOp e2.ev x = execOp e.ev x) (hK : ∀ v h', K (e.put x.dst v) h' → K2 (e2.put x.dst v) h')
    (H : SOp P B st x e h K) : SOp P B st x e2 h K2 := by
  unfold SOp at H ⊢
  cases kx : kindOf x.op with
  | pure => simp only [kx] at H; obtain ⟨v, hv, hh⟩ := H; exact ⟨v, fun w => by rw [he]; exact hv w, hK _ _ hh⟩
  | read =>
    cases st with
    | false => simp only [kx] at H; obtain ⟨v, hv, hh⟩ := H; exact ⟨v, fun w hw => by rw [he]; exact hv w hw, hK _ _ hh⟩
    | true => simp only [kx] at H; obtain ⟨v, hb, hv, hh⟩ := H; exact ⟨v, hb, fun w hw => by rw [he]; exact hv w hw, hK _ _ hh⟩
  | eff => simp only [kx] at H; exact ⟨H.1, fun w hw => by rw [he]; exact (H.2 w hw).mono fun v h' hk => ⟨hk.1, hK _ _ hk.2⟩⟩
  | wr => simp only [kx] at H; exact fun w hw => by rw [he]; exact (H w hw).mono fun v h' hk => hK _ _ hk

theorem GOp.swap {B : Heap → Prop} {st : Bool} {x y : Oper} (hx : noSel x = true) (hy : noSel y = true) (hi : indep st ops x y = true) {e : Env} {h : Heap} {K : Env → Heap → Prop}
    (H : GOp P B st ops x e h fun e' h' => GOp P B st ops y e' h' K) : GOp P B st ops y e h fun e' h' => GOp P B st ops x e' h' K := by
  simp only [indep, Bool.and_eq_true] at hi
  obtain ⟨hap, hk⟩ := hi
  obtain ⟨h1, h2, h3⟩ := Oper.apart_spec hap
  have wy : ∀ (e : Env) v, Region.wanted y (yieldE ops (e.put x.dst v)) = Region.wanted y (yieldE ops e) := fun e v => wanted_putE y e x.dst v h1
  have wx : ∀ (e : Env) v, Region.wanted x (yieldE ops (e.put y.dst v)) = Region.wanted x (yieldE ops e) := fun e v => wanted_putE x e y.dst v h3
  have ey : ∀ (e : Env) v, execOp (e.put x.dst v).ev y = execOp e.ev y := fun e v => execOp_putE (ops := ops) y hy e x.dst v h1
  have ex : ∀ (e : Env) v, execOp (e.put y.dst v).ev x = execOp e.ev x := fun e v => execOp_putE (ops := ops) x hx e y.dst v h3
  have pc : ∀ (e : Env) v u, (e.put x.dst v).put y.dst u = (e.put y.dst u).put x.dst v := fun e v u => Env.put_comm e v u h2
  unfold GOp at H ⊢
  by_cases hwx : Region.wanted x (yieldE ops e) = true
  · rw [if_pos hwx] at H
    by_cases hwy : Region.wanted y (yieldE ops e) = true
    · rw [if_pos hwy]
      have H1 : SOp P B st x e h fun e' h' => SOp P B st y e' h' K := H.mono fun v h' hh => by rw [wy, if_pos hwy] at hh; exact hh
      refine (SOp.swap hk ey ex pc H1).mono fun u h' hh => ?_
      rw [wx, if_pos hwx]; exact hh
    · rw [if_neg hwy]
      dsimp only
      rw [wx, if_pos hwx]
      refine SOp.congr (ex e undef) (fun v h' hh => ?_) H
      rw [wy, if_neg hwy] at hh
      rw [← pc]; exact hh
  · rw [if_neg hwx] at H
    by_cases hwy : Region.wanted y (yieldE ops e) = true
    · rw [if_pos hwy]
      rw [wy, if_pos hwy] at H
      refine SOp.congr (ey e undef).symm (fun v h' hh => ?_) H
      rw [wx, if_neg hwx, ← pc]; exact hh
    · rw [if_neg hwy]
      dsimp only
      rw [wy, if_neg hwy] at H
      rw [wx, if_neg hwx, ← pc]; exact H

theorem LI.mono {B : Heap → Prop} {st : Bool} {l : List Nat} {e : Env} {h : Heap} {K K' : Env → Heap → Prop} (hK : ∀ e h, K e h → K' e h) (H : LI P B st ops l e h K) : LI P B st ops l e h K' := by
  induction l generalizing e h with
  | nil => exact hK _ _ H
  | cons i l ih =>
    simp only [LI] at H ⊢
    split
    · rename_i hn; simp only [hn] at H; exact ih H
    · rename_i o ho; simp only [ho] at H; exact H.mono fun v h' hh => ih hh

/-- An operation may be taken ahead of those that it is independent of. -/
theorem LI.bubble {B : Heap → Prop} {st : Bool} {i : Nat} {oi : Oper} (hi : ops[i]? = some oi) (hsi : noSel oi = true) (R1 : List Nat) : ∀ {R2 : List Nat} {e : Env} {h : Heap} {K : Env → Heap → Prop},
    (∀ k ∈ R1, ∃ ok, ops[k]? = some ok ∧ noSel ok = true ∧ indep st ops ok oi = true) → LI P B st ops (R1 ++ i :: R2) e h K → LI P B st ops (i :: (R1 ++ R2)) e h K := by
  induction R1 with
  | nil => intro R2 e h K _ H; exact H
  | cons k R1 ih =>
    intro R2 e h K hind H
    obtain ⟨ok, hok, hsk, hik⟩ := hind k (List.mem_cons_self ..)
    simp only [List.cons_append, LI, hok] at H
    have H2 : GOp P B st ops ok e h fun e' h' => LI P B st ops (i :: (R1 ++ R2)) e' h' K := H.mono fun v h' hh => ih (fun k' hk' => hind k' (List.mem_cons_of_mem _ hk')) hh
    simp only [LI, hi] at H2
    have H3 := GOp.swap hsk hsi hik H2
    simp only [LI, hi, List.cons_append, hok]
    exact H3

theorem regOk_spec {n : Nat} {draw : Bool} (H : regOk n ops draw = true) {j : Nat} {oj : Oper} (hj : ops[j]? = some oj) :
    (∀ d, oj.dst = some d → d < n) ∧ noSel oj = true ∧ (draw = true → (∀ ed ∈ oj.after, Region.binds .any ed = true → ed.on < j) ∧
      ∀ i oi, i < j → ops[i]? = some oi → (∃ n, reach ops n i j = true) ∨ indep (stOf ops true) ops oi oj = true) := by
  have hlt : j < ops.size := (Array.getElem?_eq_some_iff.1 hj).1
  unfold regOk at H
  have H := List.all_eq_true.1 H j (List.mem_range.2 hlt)
  simp only [hj, Bool.and_eq_true] at H
  obtain ⟨⟨h1, h2⟩, h3⟩ := H
  refine ⟨fun d hd => by simpa [hd] using h1, h2, fun hdr => ?_⟩
  subst hdr
  simp only [Bool.not_true, Bool.false_or, Bool.and_eq_true] at h3
  obtain ⟨h4, h5⟩ := h3
  refine ⟨fun ed hed hbd => ?_, fun i oi hij hoi => ?_⟩
  · have := Array.all_eq_true_iff_forall_mem.1 h4 ed hed
    simpa [hbd] using this
  · have := List.all_eq_true.1 h5 i (List.mem_range.2 hij)
    simp only [hoi, Bool.or_eq_true, Bool.and_eq_true] at this
    rcases this with h | h | ⟨h, hst⟩
    · exact .inl (ahead_reach h)
    · exact .inr (indep_mono h)
    · rw [hst]; exact .inr h

/-- What is listed with all that it waits for holds all that comes ahead of it. -/
theorem reach_listed {L : Nat → Prop} (hL : ∀ j oj, L j → ops[j]? = some oj → ∀ ed ∈ oj.after, Region.binds .any ed = true → L ed.on) : ∀ (n i j : Nat) (oj : Oper), ops[j]? = some oj →
    (∀ ed ∈ oj.after, Region.binds .any ed = true → L ed.on) → reach ops n i j = true → L i := by
  intro n
  induction n with
  | zero => intro i j oj _ _ h; cases h
  | succ n ih =>
    intro i j oj hoj hall h
    simp only [reach, hoj] at h
    obtain ⟨ed, hed, hb⟩ := Array.any_eq_true'.1 h
    simp only [Bool.and_eq_true, Bool.or_eq_true] at hb
    have hl := hall ed hed hb.1
    rcases hb.2 with he | hr
    · rw [← Nat.eq_of_beq_eq_true he]; exact hl
    · cases n with
      | zero => cases hr
      | succ n =>
        cases ho : ops[ed.on]? with
        | none => simp [reach, ho] at hr
        | some o2 => exact ih i ed.on o2 ho (fun ed2 h2 hb2 => hL _ _ hl ho ed2 h2 hb2) hr

theorem wpAny_of_LI {B : Heap → Prop} {n : Nat} {Q : Exit → Act → World → Prop} (hok : regOk n ops true = true) : ∀ (fuel : Nat) (R : List Nat) (listed : Array Bool) (e : Env) (a : Act) (w : World) (K : Env → Heap → Prop),
    R.length = fuel → List.Pairwise (· < ·) R → listed.size = ops.size → (∀ j, j ∈ R ↔ (j < ops.size ∧ listed.getD j true = false)) →
    (∀ j oj, listed.getD j false = true → ops[j]? = some oj → ∀ ed ∈ oj.after, Region.binds .any ed = true → listed.getD ed.on false = true) →
    Rep n e a → LI P B (stOf ops true) ops R e w.heap K → (∀ e' a' w', Rep n e' a' → Same w w' → K e' w'.heap → Q .normal a' w') →
    wpAny P .any ops Q fuel listed a w := by
  intro fuel
  induction fuel with
  | zero =>
    intro R listed e a w K hlen _ _ hmem _ r H hK
    obtain rfl : R = [] := List.length_eq_zero_iff.1 hlen
    refine ⟨?_, hK _ _ _ r (.refl w) H⟩
    refine List.eq_nil_iff_forall_not_mem.2 fun j hj => ?_
    obtain ⟨hjl, oj, hoj, _⟩ := mem_ready.1 hj
    have := (hmem j).2 ⟨(Array.getElem?_eq_some_iff.1 hoj).1, hjl⟩
    cases this
  | succ fuel ih =>
    intro R listed e a w K hlen hpw hsz hmem hcl r H hK
    constructor
    · intro hr
      exfalso
      cases R with
      | nil => simp at hlen
      | cons j R =>
        obtain ⟨hjs, hjl⟩ := (hmem j).1 (List.mem_cons_self ..)
        obtain ⟨oj, hoj⟩ : ∃ oj, ops[j]? = some oj := ⟨ops[j], Array.getElem?_eq_getElem hjs⟩
        have : j ∈ Region.ready .any ops listed := mem_ready.2 ⟨hjl, oj, hoj, fun ed hed hbd => by
          obtain ⟨_, _, hd⟩ := regOk_spec hok hoj
          have hlt := (hd rfl).1 ed hed hbd
          cases hl : listed.getD ed.on false with
          | true => rfl
          | false =>
            exfalso
            have hs : ed.on < ops.size := Nat.lt_trans hlt hjs
            have hm : ed.on ∈ j :: R := (hmem ed.on).2 ⟨hs, by
              have h' : ed.on < listed.size := by omega
              simp [h'] at hl ⊢; exact hl⟩
            rcases List.mem_cons.1 hm with he | he
            · omega
            · have := (List.pairwise_cons.1 hpw).1 _ he
              omega⟩
        rw [hr] at this
        cases this
    · intro i hi
      obtain ⟨hil, oi, hoi, hall⟩ := mem_ready.1 hi
      have his : i < ops.size := (Array.getElem?_eq_some_iff.1 hoi).1
      have hiR : i ∈ R := (hmem i).2 ⟨his, hil⟩
      obtain ⟨R1, R2, rfl⟩ := List.append_of_mem hiR
      obtain ⟨hdi, hsi, hdri⟩ := regOk_spec hok hoi
      have hpw' := List.pairwise_append.1 hpw
      have hb : LI P B (stOf ops true) ops (i :: (R1 ++ R2)) e w.heap K := by
        refine LI.bubble hoi hsi R1 (fun k hk => ?_) H
        have hki : k < i := hpw'.2.2 k hk i (List.mem_cons_self ..)
        have hks : k < ops.size := Nat.lt_trans hki his
        obtain ⟨ok, hok'⟩ : ∃ ok, ops[k]? = some ok := ⟨ops[k], Array.getElem?_eq_getElem hks⟩
        refine ⟨ok, hok', (regOk_spec hok hok').2.1, ?_⟩
        rcases (hdri rfl).2 k ok hki hok' with ⟨nre, hre⟩ | h
        · exfalso
          have h1 : listed.getD k false = true := reach_listed (L := fun j => listed.getD j false = true) hcl nre k i oi hoi hall hre
          have h2 := ((hmem k).1 (List.mem_append_left _ hk)).2
          have hks' : k < listed.size := by omega
          simp [hks'] at h1 h2
          rw [h1] at h2; cases h2
        · exact h
      simp only [LI, hoi] at hb
      refine wpOp_of_GOp hoi hdi r hb fun e' a' w' r' hs hk => ?_
      have his' : i < listed.size := by omega
      refine ih (R1 ++ R2) _ e' a' w' K ?_ ?_ ?_ ?_ ?_ r' hk (fun e2 a2 w2 r2 s2 k2 => hK _ _ _ r2 (hs.trans s2) k2)
      · simp at hlen ⊢; omega
      · refine List.pairwise_append.2 ⟨hpw'.1, (List.pairwise_cons.1 hpw'.2.1).2, fun x hx y hy => hpw'.2.2 x hx y (List.mem_cons_of_mem _ hy)⟩
      · simp [hsz]
      · intro j
        have hm := hmem j
        constructor
        · intro hj
          have hj' : j ∈ R1 ++ i :: R2 := by
            rcases List.mem_append.1 hj with h | h
            · exact List.mem_append_left _ h
            · exact List.mem_append_right _ (List.mem_cons_of_mem _ h)
          obtain ⟨h1, h2⟩ := hm.1 hj'
          have hne : i ≠ j := by
            intro he
            subst he
            rcases List.mem_append.1 hj with h | h
            · have := hpw'.2.2 i h i (List.mem_cons_self ..); omega
            · have := (List.pairwise_cons.1 hpw'.2.1).1 i h; omega
          exact ⟨h1, by rw [getD_set_ne true hne]; exact h2⟩
        · rintro ⟨h1, h2⟩
          have hne : i ≠ j := by
            intro he
            subst he
            simp [his'] at h2
          rw [getD_set_ne true hne] at h2
          have := hm.2 ⟨h1, h2⟩
          rcases List.mem_append.1 this with h | h
          · exact List.mem_append_left _ h
          · rcases List.mem_cons.1 h with h | h
            · exact absurd h.symm hne
            · exact List.mem_append_right _ h
      · intro j oj hj hoj ed hed hbd
        by_cases hij : i = j
        · subst hij
          rw [hoi] at hoj
          injection hoj with hoj
          subst hoj
          exact getD_set_true (hall ed hed hbd)
        · rw [getD_set_ne false hij] at hj
          exact getD_set_true (hcl j oj hj hoj ed hed hbd)

theorem wp_region_of_RL {B : Heap → Prop} {n : Nat} (hmx : P.follows .mixedOrders = true) {id : Nat} {draw : Bool} {Q : Exit → Act → World → Prop} {e : Env} {a : Act} {w : World} {K : Env → Heap → Prop} (hok : regOk n ops draw = true) (r : Rep n e a)
    (H : RL P B (stOf ops draw) ops ops.toList e w.heap K) (hK : ∀ e' a' w', Rep n e' a' → Same w w' → K e' w'.heap → Q .normal a' w') : (Code.region id ops draw).wp P Q a w := by
  have HL : LI P B (stOf ops draw) ops (List.range ops.size) e w.heap K := by
    rw [List.range_eq_range', ← Array.length_toList]
    exact RL_LI ops.toList 0 (by simp) e _ H
  cases draw with
  | true =>
    refine wp_region_draw fun t => ?_
    simp only [Region.schedule, hmx, Bool.true_or, if_true]
    exact wpAny_sound ops.size t _ a _ (wpAny_of_LI hok ops.size (List.range ops.size) (Array.replicate ops.size false) e a { w with drawn := w.drawn + 1 } K (by simp)
        List.pairwise_lt_range (by simp) (fun j => by
          simp only [List.mem_range]
          constructor
          · intro h; exact ⟨h, by simp [h]⟩
          · exact fun h => h.1)
        (fun j oj hj _ => by
          exfalso
          rcases Nat.lt_or_ge j ops.size with h' | h'
          · simp [h'] at hj
          · simp [h'] at hj) r HL
        (fun e' a' w' r' hs hk => hK e' a' w' r' ⟨hs.os, hs.tape, hs.output⟩ hk))
  | false =>
    refine wp_region ?_
    have : ∀ (l : List Nat) (e : Env) (a : Act) (w : World) (K : Env → Heap → Prop), Rep n e a → LI P B (stOf ops false) ops l e w.heap K → (∀ e' a' w', Rep n e' a' → Same w w' → K e' w'.heap → Q .normal a' w') → wpOps P ops Q l a w := by
      intro l
      induction l with
      | nil => intro e a w K r H hK; exact hK _ _ _ r (.refl w) H
      | cons i l ih =>
        intro e a w K r H hK
        rw [wpOps_cons]
        simp only [LI] at H
        cases hoi : ops[i]? with
        | none =>
          simp only [hoi] at H
          unfold wpOp
          simp only [hoi]
          exact ih e a w K r H hK
        | some oi =>
          simp only [hoi] at H
          refine wpOp_of_GOp hoi (regOk_spec hok hoi).1 r H fun e' a' w' r' hs hk => ?_
          exact ih e' a' w' K r' hk fun e2 a2 w2 r2 s2 k2 => hK _ _ _ r2 (hs.trans s2) k2
    exact this _ e a w K r HL hK
end

/-! ### Code -/
def thenQ (K : Env → Heap → Prop) (Q : Exit → Env → Heap → Prop) : Exit → Env → Heap → Prop
  | .normal => K
  | x => Q x
def blockQ (id : Nat) (Q : Exit → Env → Heap → Prop) : Exit → Env → Heap → Prop
  | .exit id' => if id' = id then Q .normal else Q (.exit id')
  | x => Q x

def scopeQ (Q : Exit → Env → Heap → Prop) : Exit → Env → Heap → Prop
  | .goto _ => fun _ _ => False
  | x => Q x

def W (P : Program) : Code → (Exit → Env → Heap → Prop) → Env → Heap → Prop
  | .skip, Q, e, h => Q .normal e h
  | .region _ ops draw, Q, e, h => ∃ B, RL P B (stOf ops draw) ops ops.toList e h (Q .normal)
  | .seq a b, Q, e, h => W P a (thenQ (fun e h => W P b Q e h) Q) e h
  | .cond c x y, Q, e, h => ∃ b, e.ev c = .bool b ∧ (b = true → W P x Q e h) ∧ (b = false → W P y Q e h)
  | .block id c, Q, e, h => W P c (blockQ id Q) e h
  | .loop c, Q, e, h => ∃ (I : Nat → Env → Heap → Prop) (n : Nat), I n e h ∧ ∀ n e h, I n e h → W P c (thenQ (fun e' h' => ∃ n', n' < n ∧ I n' e' h') Q) e h
  | .exit id, Q, e, h => Q (.exit id) e h
  | .ret, Q, e, h => Q .ret e h
  | .scope c, Q, e, h => W P c (scopeQ Q) e h
  | .label _, Q, e, h => Q .normal e h
  | _, _, _, _ => False

def okC (n : Nat) : Code → Bool
  | .region _ ops draw => regOk n ops draw
  | .seq a b => okC n a && okC n b
  | .cond _ a b => okC n a && okC n b
  | .block _ c => okC n c
  | .loop c => okC n c
  | .scope c => okC n c
  | .skip | .exit _ | .ret | .label _ => true
  | _ => false

theorem RL.mono {P : Program} {B : Heap → Prop} {st : Bool} {ops : Array Oper} {l : List Oper} {e : Env} {h : Heap} {K K' : Env → Heap → Prop} (hK : ∀ e h, K e h → K' e h) (H : RL P B st ops l e h K) : RL P B st ops l e h K' := by
  induction l generalizing e h with
  | nil => exact hK _ _ H
  | cons o l ih => exact GOp.mono (fun v h' hh => ih hh) H

theorem W.mono {P : Program} {c : Code} : ∀ {Q Q' : Exit → Env → Heap → Prop} {e : Env} {h : Heap}, (∀ x e h, Q x e h → Q' x e h) → W P c Q e h → W P c Q' e h := by
  induction c with
  | skip => intro Q Q' e h hQ H; exact hQ _ _ _ H
  | region id ops draw => intro Q Q' e h hQ H; obtain ⟨B, H⟩ := H; exact ⟨B, RL.mono (fun e h hk => hQ _ _ _ hk) H⟩
  | seq a b iha ihb =>
    intro Q Q' e h hQ H
    refine iha (fun x e h hx => ?_) H
    cases x <;> first | exact hQ _ _ _ hx | exact ihb hQ hx
  | cond c x y ihx ihy =>
    intro Q Q' e h hQ H
    obtain ⟨b, hb, h1, h2⟩ := H
    exact ⟨b, hb, fun hh => ihx hQ (h1 hh), fun hh => ihy hQ (h2 hh)⟩
  | block id c ih =>
    intro Q Q' e h hQ H
    refine ih (fun x e h hx => ?_) H
    cases x <;> first | exact hQ _ _ _ hx | skip
    rename_i id'
    by_cases hid : id' = id
    · simp only [blockQ, hid, if_true] at hx ⊢; exact hQ _ _ _ hx
    · simp only [blockQ, hid, if_false] at hx ⊢; exact hQ _ _ _ hx
  | loop c ih =>
    intro Q Q' e h hQ H
    obtain ⟨I, n, h0, hI⟩ := H
    refine ⟨I, n, h0, fun n e h hi => ih (fun x e h hx => ?_) (hI n e h hi)⟩
    cases x <;> first | exact hQ _ _ _ hx | exact hx
  | exit id => intro Q Q' e h hQ H; exact hQ _ _ _ H
  | ret => intro Q Q' e h hQ H; exact hQ _ _ _ H
  | rangeFunc => intro Q Q' e h _ H; exact H.elim
  | scope c ih =>
    intro Q Q' e h hQ H
    refine ih (fun x e h hx => ?_) H
    cases x <;> first | exact hQ _ _ _ hx | exact hx
  | label => intro Q Q' e h hQ H; exact hQ _ _ _ H
  | goto => intro Q Q' e h _ H; exact H.elim
  | refuse => intro Q Q' e h _ H; exact H.elim

theorem W.sound {P : Program} (hmx : P.follows .mixedOrders = true) {n : Nat} {c : Code} : ∀ {Q : Exit → Env → Heap → Prop} {Q' : Exit → Act → World → Prop} {e : Env} {a : Act} {w : World}, okC n c = true → Rep n e a → W P c Q e w.heap →
    (∀ x e' a' w', Rep n e' a' → Same w w' → Q x e' w'.heap → Q' x a' w') → c.wp P Q' a w := by
  induction c with
  | skip => intro Q Q' e a w _ r H hQ; exact wp_skip (hQ _ _ _ _ r (.refl w) H)
  | region id ops draw => intro Q Q' e a w hok r H hQ; obtain ⟨B, H⟩ := H; exact wp_region_of_RL hmx hok r H (fun e' a' w' r' s k => hQ _ _ _ _ r' s k)
  | seq x y ihx ihy =>
    intro Q Q' e a w hok r H hQ
    simp only [okC, Bool.and_eq_true] at hok
    refine wp_seq (ihx hok.1 r H fun ex e' a' w' r' s k => ?_)
    cases ex <;> first | exact hQ _ _ _ _ r' s k | exact ihy hok.2 r' k fun ex2 e2 a2 w2 r2 s2 k2 => hQ _ _ _ _ r2 (s.trans s2) k2
  | cond c x y ihx ihy =>
    intro Q Q' e a w hok r H hQ
    simp only [okC, Bool.and_eq_true] at hok
    obtain ⟨b, hb, h1, h2⟩ := H
    refine wp_cond_split (t := b) (by rw [r.eval]; exact hb) (fun hh => ihx hok.1 r (h1 hh) hQ) (fun hh => ihy hok.2 r (h2 hh) hQ)
  | block id c ih =>
    intro Q Q' e a w hok r H hQ
    refine wp_block (ih hok r H fun ex e' a' w' r' s k => ?_)
    cases ex <;> first | exact hQ _ _ _ _ r' s k | skip
    rename_i id'
    by_cases hid : id' = id
    · simp only [blockQ, Exit.inBlock, hid, if_true] at k ⊢; exact hQ _ _ _ _ r' s k
    · simp only [blockQ, Exit.inBlock, hid, if_false] at k ⊢; exact hQ _ _ _ _ r' s k
  | loop c ih =>
    intro Q Q' e a w hok r H hQ
    obtain ⟨I, k, h0, hI⟩ := H
    refine wp_loop_ghost (fun k a' w' => ∃ e', Rep n e' a' ∧ Same w w' ∧ I k e' w'.heap) k ⟨e, r, .refl w, h0⟩ fun k1 a1 w1 ⟨e1, r1, s1, i1⟩ => ?_
    refine ih hok r1 (hI k1 e1 w1.heap i1) fun ex e' a' w' r' s k => ?_
    cases ex <;> first | exact hQ _ _ _ _ r' (s1.trans s) k | skip
    obtain ⟨k2, hlt, hk⟩ := k
    exact ⟨k2, hlt, e', r', s1.trans s, hk⟩
  | exit id => intro Q Q' e a w _ r H hQ; exact wp_exit (hQ _ _ _ _ r (.refl w) H)
  | ret => intro Q Q' e a w _ r H hQ; exact wp_ret (hQ _ _ _ _ r (.refl w) H)
  | rangeFunc => intro Q Q' e a w _ _ H; exact H.elim
  | scope c ih =>
    intro Q Q' e a w hok r H hQ
    refine wp_scope_straight (ih hok r H fun ex e' a' w' r' s k => ?_)
    cases ex <;> first | exact hQ _ _ _ _ r' s k | exact k.elim
  | label => intro Q Q' e a w _ r H hQ; exact wp_label (hQ _ _ _ _ r (.refl w) H)
  | goto => intro Q Q' e a w _ _ H; exact H.elim
  | refuse => intro Q Q' e a w _ _ H; exact H.elim

/-! ### What a piece of code writes -/
def inM (m t : Nat) : Bool := Nat.beq (Nat.land (Nat.shiftRight m t) 1) 1
def mix (m : Nat) (s e : Env) : Env := fun t => bif inM m t then s t else e t

def wrIn (m : Nat) : Code → Bool
  | .region _ ops _ => ops.toList.all fun o => match o.dst with | some d => inM m d | none => true
  | .seq a b => wrIn m a && wrIn m b
  | .cond _ a b => wrIn m a && wrIn m b
  | .block _ c => wrIn m c
  | .loop c => wrIn m c
  | .scope c => wrIn m c
  | _ => true

def setL : List (Nat × Value) → Env → Env
  | [], e => e
  | (t, v) :: l, e => (setL l e).set t v
def Agree : List (Nat × Value) → Env → Prop
  | [], _ => True
  | (t, v) :: l, e => e t = v ∧ Agree l e
theorem Agree.setL {l : List (Nat × Value)} {e : Env} (h : Agree l e) : setL l e = e := by
  induction l with
  | nil => rfl
  | cons x l ih =>
    obtain ⟨t, v⟩ := x
    obtain ⟨h1, h2⟩ := h
    show (QF.setL l e).set t v = e
    rw [ih h2]
    funext u
    by_cases hu : u = t
    · subst hu; rw [Env.set_same, h1]
    · rw [Env.set_other _ _ hu]

theorem mix_of_out {m : Nat} {s e : Env} (h : ∀ t, inM m t = false → s t = e t) : mix m s e = s := by
  funext t
  unfold mix
  cases hm : inM m t
  · exact (h t hm).symm
  · rfl

theorem RL.frame {P : Program} {B : Heap → Prop} {st : Bool} {ops : Array Oper} {m : Nat} {l : List Oper} {e : Env} {h : Heap} {K : Env → Heap → Prop} (hm : (l.all fun o => match o.dst with | some d => inM m d | none => true) = true)
    (H : RL P B st ops l e h K) : RL P B st ops l e h fun e' h' => K e' h' ∧ ∀ t, inM m t = false → e' t = e t := by
  induction l generalizing e h with
  | nil => exact ⟨H, fun _ _ => rfl⟩
  | cons o l ih =>
    simp only [List.all_cons, Bool.and_eq_true] at hm
    refine GOp.mono (fun v h' hh => ?_) H
    refine RL.mono (fun e2 h2 hk => ⟨hk.1, fun t ht => ?_⟩) (ih hm.2 hh)
    rw [hk.2 t ht]
    cases hd : o.dst with
    | none => rfl
    | some d =>
      have h1 := hm.1
      simp only [hd] at h1
      exact Env.set_other _ _ (fun he => by subst he; rw [h1] at ht; cases ht)

theorem W.frame {P : Program} {m : Nat} {c : Code} : ∀ {Q : Exit → Env → Heap → Prop} {e : Env} {h : Heap}, wrIn m c = true → W P c Q e h → W P c (fun x e' h' => Q x e' h' ∧ ∀ t, inM m t = false → e' t = e t) e h := by
  induction c with
  | skip => intro Q e h _ H; exact ⟨H, fun _ _ => rfl⟩
  | region id ops draw => intro Q e h hm H; obtain ⟨B, H⟩ := H; exact ⟨B, RL.frame hm H⟩
  | seq a b iha ihb =>
    intro Q e h hm H
    simp only [wrIn, Bool.and_eq_true] at hm
    refine W.mono (c := a) (fun x e1 h1 hx => ?_) (iha hm.1 H)
    obtain ⟨hx, hf⟩ := hx
    cases x <;> first | exact ⟨hx, hf⟩ | exact W.mono (c := b) (fun x e2 h2 hy => ⟨hy.1, fun t ht => (hy.2 t ht).trans (hf t ht)⟩) (ihb hm.2 hx)
  | cond c x y ihx ihy =>
    intro Q e h hm H
    simp only [wrIn, Bool.and_eq_true] at hm
    obtain ⟨b, hb, h1, h2⟩ := H
    exact ⟨b, hb, fun hh => ihx hm.1 (h1 hh), fun hh => ihy hm.2 (h2 hh)⟩
  | block id c ih =>
    intro Q e h hm H
    refine W.mono (c := c) (fun x e1 h1 hx => ?_) (ih hm H)
    obtain ⟨hx, hf⟩ := hx
    cases x <;> first | exact ⟨hx, hf⟩ | skip
    rename_i id'
    by_cases hid : id' = id
    · simp only [blockQ, hid, if_true] at hx ⊢; exact ⟨hx, hf⟩
    · simp only [blockQ, hid, if_false] at hx ⊢; exact ⟨hx, hf⟩
  | loop c ih =>
    intro Q e h hm H
    obtain ⟨I, k, h0, hI⟩ := H
    refine ⟨fun k e1 h1 => I k e1 h1 ∧ ∀ t, inM m t = false → e1 t = e t, k, ⟨h0, fun _ _ => rfl⟩, fun k1 e1 h1 hi => ?_⟩
    refine W.mono (fun x e2 h2 hx => ?_) (ih hm (hI k1 e1 h1 hi.1))
    obtain ⟨hx, hf⟩ := hx
    cases x <;> first | exact ⟨hx, fun t ht => (hf t ht).trans (hi.2 t ht)⟩ | (obtain ⟨k2, hlt, hk⟩ := hx; exact ⟨k2, hlt, hk, fun t ht => (hf t ht).trans (hi.2 t ht)⟩)
  | exit id => intro Q e h _ H; exact ⟨H, fun _ _ => rfl⟩
  | ret => intro Q e h _ H; exact ⟨H, fun _ _ => rfl⟩
  | rangeFunc => intro Q e h _ H; exact H.elim
  | scope c ih =>
    intro Q e h hm H
    refine W.mono (c := c) (fun x e1 h1 hx => ?_) (ih hm H)
    obtain ⟨hx, hf⟩ := hx
    cases x <;> first | exact ⟨hx, hf⟩ | exact hx
  | label => intro Q e h _ H; exact ⟨H, fun _ _ => rfl⟩
  | goto => intro Q e h _ H; exact H.elim
  | refuse => intro Q e h _ H; exact H.elim

section
variable {P : Program} {Q : Exit → Env → Heap → Prop} {e : Env} {h : Heap}
theorem w_skip (H : Q .normal e h) : W P .skip Q e h := H
theorem w_ret (H : Q .ret e h) : W P .ret Q e h := H
theorem w_exit {id : Nat} (H : Q (.exit id) e h) : W P (.exit id) Q e h := H
theorem w_seq {a b : Code} (H : W P a (thenQ (fun e h => W P b Q e h) Q) e h) : W P (.seq a b) Q e h := H
theorem w_block {id : Nat} {c : Code} (H : W P c (blockQ id Q) e h) : W P (.block id c) Q e h := H
theorem w_scope {c : Code} (H : W P c (scopeQ Q) e h) : W P (.scope c) Q e h := H
theorem w_label {l : Nat} (H : Q .normal e h) : W P (.label l) Q e h := H
/-- A region in the order of its text. -/
theorem w_reg {id : Nat} {l : List Oper} (H : RL P (fun _ => True) false l.toArray l e h (Q .normal)) : W P (.region id l.toArray false) Q e h := ⟨_, H⟩
/-- A region that draws its order, no load beside a call. -/
theorem w_draw {id : Nat} {l : List Oper} (hst : stOf l.toArray true = false) (H : RL P (fun _ => True) false l.toArray l e h (Q .normal)) : W P (.region id l.toArray true) Q e h :=
  ⟨_, by rw [hst]; exact H⟩
/-- A region that draws its order, loads beside calls: the calls stay in the family B of heaps, and each load reads the same in all of it. -/
theorem w_drawB {id : Nat} {l : List Oper} (B : Heap → Prop) (hst : stOf l.toArray true = true) (H : RL P B true l.toArray l e h (Q .normal)) : W P (.region id l.toArray true) Q e h :=
  ⟨B, by rw [hst]; exact H⟩
theorem w_true {c : Operand} {x y : Code} (hc : e.ev c = .bool true) (H : W P x Q e h) : W P (.cond c x y) Q e h := ⟨true, hc, fun _ => H, fun hh => by cases hh⟩
theorem w_false {c : Operand} {x y : Code} (hc : e.ev c = .bool false) (H : W P y Q e h) : W P (.cond c x y) Q e h := ⟨false, hc, (fun hh => by cases hh), fun _ => H⟩
/-- A loop: x is what the rounds carry; 'live x' names the slots that are read again and what they hold; every slot outside the mask m holds what it held. The number k bounds the rounds to come. -/
theorem w_loop {c : Code} {X : Type} (m : Nat) (live : X → List (Nat × Value)) (J : Nat → X → Heap → Prop) (hm : wrIn m c = true) (k0 : Nat) (x0 : X) (h0 : J k0 x0 h) (hl : Agree (live x0) e)
    (H : ∀ k x s h', J k x h' → W P c (thenQ (fun e' h'' => ∃ k' x', k' < k ∧ J k' x' h'' ∧ Agree (live x') e') Q) (setL (live x) (mix m s e)) h') : W P (.loop c) Q e h := by
  refine ⟨fun k e1 h1 => (∃ x, J k x h1 ∧ Agree (live x) e1) ∧ ∀ t, inM m t = false → e1 t = e t, k0, ⟨⟨x0, h0, hl⟩, fun _ _ => rfl⟩, fun k e1 h1 hi => ?_⟩
  obtain ⟨⟨x, hJ, hA⟩, hf1⟩ := hi
  have he : setL (live x) (mix m e1 e) = e1 := by rw [mix_of_out hf1]; exact hA.setL
  have H1 := H k x e1 h1 hJ
  rw [he] at H1
  refine W.mono (fun y e2 h2 hx => ?_) (W.frame hm H1)
  obtain ⟨hx, hf⟩ := hx
  cases y <;> first | exact hx | skip
  obtain ⟨k', x', hlt, hJ', hA'⟩ := hx
  exact ⟨k', hlt, ⟨x', hJ', hA'⟩, fun t ht => (hf t ht).trans (hf1 t ht)⟩
/-- Ways that meet again. -/
theorem w_join {a b : Code} {X : Type} (m : Nat) (live : X → List (Nat × Value)) (J : X → Heap → Prop) (hm : wrIn m a = true) (H : W P a (thenQ (fun e' h' => ∃ x, J x h' ∧ Agree (live x) e') Q) e h)
    (H2 : ∀ x s h', J x h' → W P b Q (setL (live x) (mix m s e)) h') : W P (.seq a b) Q e h := by
  refine w_seq (W.mono (fun x e1 h1 hx => ?_) (W.frame hm H))
  obtain ⟨hx, hf⟩ := hx
  cases x <;> first | exact hx | skip
  obtain ⟨x, hJ, hA⟩ := hx
  have he : setL (live x) (mix m e1 e) = e1 := by rw [mix_of_out hf]; exact hA.setL
  have := H2 x e1 h1 hJ
  rw [he] at this
  exact this
end

section
variable {P : Program} {Q : Exit → Env → Heap → Prop} {K : Env → Heap → Prop} {e : Env} {h : Heap}
theorem q_t (H : K e h) : thenQ K Q .normal e h := H
theorem q_b {id : Nat} (H : Q .normal e h) : blockQ id Q .normal e h := H
theorem q_s (H : Q .normal e h) : scopeQ Q .normal e h := H
theorem q_tx {id : Nat} (H : Q (.exit id) e h) : thenQ K Q (.exit id) e h := H
theorem q_bx {id : Nat} (H : Q .normal e h) : blockQ id Q (.exit id) e h := by simp only [blockQ, if_true]; exact H
theorem q_bn {id id' : Nat} (hne : id' ≠ id) (H : Q (.exit id') e h) : blockQ id Q (.exit id') e h := by simp only [blockQ, if_neg hne]; exact H
theorem q_sx {id : Nat} (H : Q (.exit id) e h) : scopeQ Q (.exit id) e h := H
theorem q_tr (H : Q .ret e h) : thenQ K Q .ret e h := H
theorem q_br {id : Nat} (H : Q .ret e h) : blockQ id Q .ret e h := H
theorem q_sr (H : Q .ret e h) : scopeQ Q .ret e h := H
end

/-! ### Calls -/
def Callable (P : Program) (f : FuncId) : Prop := ∃ fn, P.funcs[f]? = some fn ∧ (fn.name == "runtime.NumGoroutine") = false ∧ fn.body.isNone = false

def CallH (P : Program) (f : FuncId) (args : Array Value) (h : Heap) (K : Value → Heap → Prop) : Prop :=
  Callable P f ∧ ∀ w : World, w.heap = h → Calls P f args w fun en w' => ∃ v, en = .returned v ∧ Same w w' ∧ K v w'.heap

theorem CallH.mono {P : Program} {f : FuncId} {args : Array Value} {h : Heap} {K K' : Value → Heap → Prop} (H : CallH P f args h K) (hK : ∀ v h', K v h' → K' v h') : CallH P f args h K' :=
  ⟨H.1, fun w hw => Calls.mono (H.2 w hw) fun en w' ⟨v, he, hs, hk⟩ => ⟨v, he, hs, hK _ _ hk⟩⟩

def lenv : List Value → Env
  | [], _ => undef
  | v :: _, 0 => v
  | _ :: l, t + 1 => lenv l t

theorem lenv_get (l : List Value) (t : Nat) : lenv l t = (l[t]?).getD undef := by
  induction l generalizing t with
  | nil => simp [lenv]
  | cons v l ih =>
    cases t with
    | zero => simp [lenv]
    | succ t => simp [lenv, ih]

/-- What a function hands back: its results' slots, or cells behind them. -/
def RetV (P : Program) (rs : List ResultVar) (e : Env) (h : Heap) (v : Value) : Prop :=
  ∀ (fn : Func) (tmps : Array Value) (w : World), fn.results = rs.toArray → (∀ t, tmps.getD t undef = e t) → w.heap = h → (results fn tmps).run P w = .ok v w

theorem retV_none {P : Program} {e : Env} {h : Heap} : RetV P [] e h (.tuple #[]) := fun fn tmps w hr _ _ => by simp [results, hr]
theorem retV_1 {P : Program} {e : Env} {h : Heap} {t : Tmp} : RetV P [.tmp t] e h (e t) := fun fn tmps w hr hg _ => by rw [← hg t]; simp [results, hr]
theorem retV_2 {P : Program} {e : Env} {h : Heap} {t u : Tmp} : RetV P [.tmp t, .tmp u] e h (.tuple #[e t, e u]) := fun fn tmps w hr hg _ => by rw [← hg t, ← hg u]; simp [results, hr]
theorem retV_3 {P : Program} {e : Env} {h : Heap} {t u v : Tmp} : RetV P [.tmp t, .tmp u, .tmp v] e h (.tuple #[e t, e u, e v]) := fun fn tmps w hr hg _ => by rw [← hg t, ← hg u, ← hg v]; simp [results, hr]

def retQ (P : Program) (rs : List ResultVar) (K : Value → Heap → Prop) : Exit → Env → Heap → Prop
  | .normal, e, h | .ret, e, h => ∃ v, RetV P rs e h v ∧ K v h
  | _, _, _ => False

theorem calls_of_W {P : Program} (hmx : P.follows .mixedOrders = true) {f : FuncId} {fn : Func} {c : Code} {rs : List ResultVar} {n : Nat} {l : List Value} {h : Heap} {K : Value → Heap → Prop}
    (hf : P.funcs[f]? = some fn) (hn : (fn.name == "runtime.NumGoroutine") = false) (hb : fn.body = some c) (hr : fn.results = rs.toArray) (hnt : fn.ntmps = n) (hl : Nat.ble l.length n = true) (hok : okC n c = true)
    (H : W P c (retQ P rs K) (lenv l) h) : CallH P f l.toArray h K := by
  refine ⟨⟨fn, hf, hn, by simp [hb]⟩, fun w hw => ?_⟩
  subst hw
  have hl := Nat.le_of_ble_eq_true hl
  refine calls_of_wp hf hb (W.sound hmx (n := n) hok ⟨?_, rfl, fun t => ?_⟩ H fun x e' a' w' r s k => ?_)
  · simp [hnt]; omega
  · rw [lenv_get]
    simp only [Array.getD_eq_getD_getElem?]
    rw [Array.getElem?_append]
    split
    · simp
    · rename_i hge
      simp at hge
      simp only [List.size_toArray]
      rw [List.getElem?_eq_none hge]
      rw [Array.getElem?_replicate]
      split <;> rfl
  · cases x with
    | normal => obtain ⟨v, hv, hk⟩ := k; exact ⟨r.defers, v, hv fn _ w' hr r.get rfl, v, rfl, s, hk⟩
    | ret => obtain ⟨v, hv, hk⟩ := k; exact ⟨r.defers, v, hv fn _ w' hr r.get rfl, v, rfl, s, hk⟩
    | exit id => exact k.elim
    | goto l => exact k.elim
    | panic ch => exact k.elim
    | outgrown => exact k.elim

end Go.QF
