/-
  The rules of the single operations, over any program: what each needs of the frame and of the heap, and what it leaves. No condition.
-/
import Derived.Test.YtccgaemmdikhcaaDoorFwk
namespace Go.QF
open Go
set_option linter.unusedVariables false
set_option linter.unusedSimpArgs false

/-! ### The heap -/
def cellH (h : Heap) (a : Addr) : Option Value :=
  match h[a.block]? with
  | some (.cells c _ _) => if a.spot.isSome then none else c[a.off]?
  | _ => none
def frozenH (h : Heap) (a : Addr) : Bool :=
  match h[a.block]? with
  | some (.cells _ _ (lo, hi)) => lo ≤ a.off && a.off < hi
  | _ => false
def setH (h : Heap) (a : Addr) (v : Value) : Heap :=
  h.modify a.block fun
    | .cells c elem frozen => .cells (if a.spot.isSome then c else c.setIfInBounds a.off v) elem frozen
    | o => o
theorem cell?_eq (w : World) (a : Addr) : w.cell? a = cellH w.heap a := rfl
theorem frozen?_eq (w : World) (a : Addr) : w.frozen? a = frozenH w.heap a := rfl

/-! ### Types, as the rules ask of them -/
def SlT (P : Program) (t el s : Nat) : Prop := P.underlying t = some (.slice el) ∧ ∃ i, P.info? el = some i ∧ i.size = s
def isAggD : TypeDesc → Bool
  | .struct _ | .array _ _ => true
  | _ => false
def NaT (P : Program) (t : Nat) : Prop := (∃ d, P.underlying t = some d ∧ isAggD d = false) ∧ ∃ i, P.info? t = some i ∧ i.size = 1
/-- A struct or an array type of so many cells. -/
def AgT (P : Program) (t s : Nat) : Prop := (∃ d, P.underlying t = some d ∧ isAggD d = true) ∧ ∃ i, P.info? t = some i ∧ i.size = s
/-- What a new element looks like: its cells when zero, how many bytes. -/
def ZeT (P : Program) (t : Nat) (zero : Value) (bytes : Nat) : Prop := ∃ i, P.info? t = some i ∧ i.zero = some zero ∧ i.size = zero.cells.size ∧ i.bytes = bytes
def IntT (P : Program) (t : Nat) (k : IntKind) : Prop := P.underlying t = some (.int k)
/-- The offset and the type of a struct's field. -/
def FdT (P : Program) (t f off ft : Nat) : Prop := ∃ fs fd, P.underlying t = some (.struct fs) ∧ fs[f]? = some fd ∧ fd.offset = off ∧ fd.type = ft

section
variable {P : Program} {t : TypeId}
theorem u_run {d : TypeDesc} (h : P.underlying t = some d) (w : World) : (underlying t).run P w = .ok d w := by simp [underlying, h]
theorem i_run {i : TypeInfo} (h : P.info? t = some i) (w : World) : (typeInfo t).run P w = .ok i w := by simp [typeInfo, h]
theorem s_run {i : TypeInfo} (h : P.info? t = some i) (w : World) : (sizeOf t).run P w = .ok i.size w := by simp [sizeOf, i_run h]
theorem z_run {i : TypeInfo} {v : Value} (h : P.info? t = some i) (hz : i.zero = some v) (w : World) : (zeroValue t).run P w = .ok v w := by simp [zeroValue, i_run h, hz]
theorem a_run {d : TypeDesc} (h : P.underlying t = some d) (w : World) : (isAgg t).run P w = .ok (isAggD d) w := by
  cases d <;> simp [isAgg, u_run h, isAggD]
end

section
variable {P : Program} {B : Heap → Prop} {st : Bool} {ops : Array Oper} {rest : List Oper} {e : Env} {h : Heap} {K : Env → Heap → Prop}
variable {d : Nat} {ty : TypeId} {pos : String} {af : Array Edge}

theorem r_nil (H : K e h) : RL P B st ops [] e h K := H

theorem r_pure {o : Oper} {v : Value} (hg : o.guard = none) (hk : kindOf o.op = .pure) (hv : PureRun P e.ev o v) (H : RL P B st ops rest (e.put o.dst v) h K) : RL P B st ops (o :: rest) e h K := by
  show GOp P B st ops o e h _
  unfold GOp
  rw [if_pos (by simp [Region.wanted, hg])]
  unfold SOp
  rw [hk]
  exact ⟨v, hv, H⟩

theorem r_eff {o : Oper} (hg : o.guard = none) (hk : kindOf o.op = .eff) (hb : B h) (hv : EffRun P e.ev o h fun v h' => B h' ∧ RL P B st ops rest (e.put o.dst v) h' K) : RL P B st ops (o :: rest) e h K := by
  show GOp P B st ops o e h _
  unfold GOp
  rw [if_pos (by simp [Region.wanted, hg])]
  unfold SOp
  rw [hk]
  exact ⟨hb, hv⟩

theorem r_wr {o : Oper} (hg : o.guard = none) (hk : kindOf o.op = .wr) (hv : EffRun P e.ev o h fun v h' => RL P B st ops rest (e.put o.dst v) h' K) : RL P B st ops (o :: rest) e h K := by
  show GOp P B st ops o e h _
  unfold GOp
  rw [if_pos (by simp [Region.wanted, hg])]
  unfold SOp
  rw [hk]
  exact hv

/-- A guarded operation that is not wanted. -/
theorem r_skip {dst : Option Nat} {op : Op} {j : Nat} {want : Bool} (t : Nat) (b : Bool) (ht : (ops[j]?).bind (·.dst) = some t) (hv : e t = .bool b) (hb : (b == want) = false)
    (H : RL P B st ops rest (e.put dst undef) h K) : RL P B st ops (⟨dst, op, ty, pos, af, some (j, want)⟩ :: rest) e h K := by
  show GOp P B st ops _ e h _
  unfold GOp
  rw [if_neg]
  · exact H
  · simp only [Region.wanted, yieldE, ht, hv]
    cases b <;> cases want <;> simp_all

/-- A guarded operation whose guard was not carried out. -/
theorem r_skipU {dst : Option Nat} {op : Op} {j : Nat} {want : Bool} (t : Nat) (ht : (ops[j]?).bind (·.dst) = some t) (hv : e t = undef)
    (H : RL P B st ops rest (e.put dst undef) h K) : RL P B st ops (⟨dst, op, ty, pos, af, some (j, want)⟩ :: rest) e h K := by
  show GOp P B st ops _ e h _
  unfold GOp
  rw [if_neg]
  · exact H
  · simp only [Region.wanted, yieldE, ht, hv, undef]
    simp
/-- A guarded operation that is wanted. -/
theorem r_want {dst : Option Nat} {op : Op} {j : Nat} {want : Bool} (t : Nat) (b : Bool) (ht : (ops[j]?).bind (·.dst) = some t) (hv : e t = .bool b) (hb : (b == want) = true)
    (H : RL P B st ops (⟨dst, op, ty, pos, af, none⟩ :: rest) e h K) : RL P B st ops (⟨dst, op, ty, pos, af, some (j, want)⟩ :: rest) e h K := by
  have H : GOp P B st ops ⟨dst, op, ty, pos, af, none⟩ e h _ := H
  show GOp P B st ops _ e h _
  unfold GOp at H ⊢
  rw [if_pos (by simp [Region.wanted])] at H
  rw [if_pos]
  · exact H
  · simp only [Region.wanted, yieldE, ht, hv]
    cases b <;> cases want <;> simp_all

theorem r_mv {x : Operand} (H : RL P B st ops rest (e.mv d x) h K) : RL P B st ops (⟨some d, .move x, ty, pos, af, none⟩ :: rest) e h K :=
  r_pure (v := e.ev x) rfl rfl (fun w => rfl) H
theorem r_as {x : Operand} (H : RL P B st ops rest (e.mv d x) h K) : RL P B st ops (⟨some d, .assign x, ty, pos, af, none⟩ :: rest) e h K :=
  r_pure (v := e.ev x) rfl rfl (fun w => rfl) H
theorem r_pickT {c x y : Operand} (hc : e.ev c = .bool true) (H : RL P B st ops rest (e.mv d x) h K) : RL P B st ops (⟨some d, .pick c x y, ty, pos, af, none⟩ :: rest) e h K :=
  r_pure (v := e.ev x) rfl rfl (fun w => by simp only [execOp, hc]; rfl) H
theorem r_pickF {c x y : Operand} (hc : e.ev c = .bool false) (H : RL P B st ops rest (e.mv d y) h K) : RL P B st ops (⟨some d, .pick c x y, ty, pos, af, none⟩ :: rest) e h K :=
  r_pure (v := e.ev y) rfl rfl (fun w => by simp only [execOp, hc]; rfl) H
theorem r_len {x : Operand} {t el s n c : Nat} {a : Option Addr} (hT : SlT P t el s) (hx : e.ev x = .slice a n c) (H : RL P B st ops rest (e.set d (.int .i64 n)) h K) :
    RL P B st ops (⟨some d, .call ⟨.builtin .len, #[x], #[t]⟩, ty, pos, af, none⟩ :: rest) e h K :=
  r_pure (v := .int .i64 n) rfl rfl (fun w => by
    obtain ⟨hu, _⟩ := hT
    simp [execOp, resolve, invoke, builtin, Builtin.len_, u_run hu, hx, goInt]) H

/-! integers -/
theorem r_add {x y : Operand} {t t2 : TypeId} {k : IntKind} {a b : Int} (hx : e.ev x = .int k a) (hy : e.ev y = .int k b) (H : RL P B st ops rest (e.set d (.int k (k.wrap (a + b)))) h K) :
    RL P B st ops (⟨some d, .binOp .add t x y t2, ty, pos, af, none⟩ :: rest) e h K :=
  r_pure (v := .int k (k.wrap (a + b))) rfl rfl (fun w => by simp [execOp, hx, hy, eqGuard, binOp, Op.intArith]) H
theorem r_sub {x y : Operand} {t t2 : TypeId} {k : IntKind} {a b : Int} (hx : e.ev x = .int k a) (hy : e.ev y = .int k b) (H : RL P B st ops rest (e.set d (.int k (k.wrap (a - b)))) h K) :
    RL P B st ops (⟨some d, .binOp .sub t x y t2, ty, pos, af, none⟩ :: rest) e h K :=
  r_pure (v := .int k (k.wrap (a - b))) rfl rfl (fun w => by simp [execOp, hx, hy, eqGuard, binOp, Op.intArith]) H
theorem r_mul {x y : Operand} {t t2 : TypeId} {k : IntKind} {a b : Int} (hx : e.ev x = .int k a) (hy : e.ev y = .int k b) (H : RL P B st ops rest (e.set d (.int k (k.wrap (a * b)))) h K) :
    RL P B st ops (⟨some d, .binOp .mul t x y t2, ty, pos, af, none⟩ :: rest) e h K :=
  r_pure (v := .int k (k.wrap (a * b))) rfl rfl (fun w => by simp [execOp, hx, hy, eqGuard, binOp, Op.intArith]) H
theorem r_quo {x y : Operand} {t t2 : TypeId} {k : IntKind} {a b : Int} (hx : e.ev x = .int k a) (hy : e.ev y = .int k b) (hb : b ≠ 0) (H : RL P B st ops rest (e.set d (.int k (k.wrap (a.tdiv b)))) h K) :
    RL P B st ops (⟨some d, .binOp .quo t x y t2, ty, pos, af, none⟩ :: rest) e h K :=
  r_pure (v := .int k (k.wrap (a.tdiv b))) rfl rfl (fun w => by simp [execOp, hx, hy, eqGuard, binOp, Op.intDiv, hb]) H
theorem r_rem {x y : Operand} {t t2 : TypeId} {k : IntKind} {a b : Int} (hx : e.ev x = .int k a) (hy : e.ev y = .int k b) (hb : b ≠ 0) (H : RL P B st ops rest (e.set d (.int k (a.tmod b))) h K) :
    RL P B st ops (⟨some d, .binOp .rem t x y t2, ty, pos, af, none⟩ :: rest) e h K :=
  r_pure (v := .int k (a.tmod b)) rfl rfl (fun w => by simp [execOp, hx, hy, eqGuard, binOp, Op.intDiv, hb]) H

/-- The outcome of a comparison. -/
def cmpI (op : BinOp) (a b : Int) : Option Bool :=
  match op with
  | .eql => some (a == b) | .neq => some (a != b) | .lss => some (decide (a < b)) | .leq => some (decide (a ≤ b)) | .gtr => some (decide (a > b)) | .geq => some (decide (a ≥ b))
  | _ => none
theorem r_cmp {op : BinOp} {x y : Operand} {t t2 : TypeId} {k : IntKind} {a b : Int} {r : Bool} (hx : e.ev x = .int k a) (hy : e.ev y = .int k b) (hr : cmpI op a b = some r) (H : RL P B st ops rest (e.set d (.bool r)) h K) :
    RL P B st ops (⟨some d, .binOp op t x y t2, ty, pos, af, none⟩ :: rest) e h K :=
  r_pure (v := .bool r) rfl rfl (fun w => by
    cases op <;> simp only [cmpI] at hr <;> first | (injection hr with hr; subst hr; simp [execOp, hx, hy, eqGuard, binOp, Op.intCmp]; done) | cases hr) H
/-- A comparison, both ways. -/
theorem r_if {op : BinOp} {x y : Operand} {t t2 : TypeId} {k : IntKind} {a b : Int} {r : Bool} (hx : e.ev x = .int k a) (hy : e.ev y = .int k b) (hr : cmpI op a b = some r)
    (HT : r = true → RL P B st ops rest (e.set d (.bool true)) h K) (HF : r = false → RL P B st ops rest (e.set d (.bool false)) h K) :
    RL P B st ops (⟨some d, .binOp op t x y t2, ty, pos, af, none⟩ :: rest) e h K := by
  refine r_cmp hx hy hr ?_
  cases r
  · exact HF rfl
  · exact HT rfl

theorem r_neg {x : Operand} {t : TypeId} {k : IntKind} {a : Int} (hx : e.ev x = .int k a) (H : RL P B st ops rest (e.set d (.int k (k.wrap (0 - a)))) h K) :
    RL P B st ops (⟨some d, .unOp .neg t x, ty, pos, af, none⟩ :: rest) e h K :=
  r_pure (v := .int k (k.wrap (0 - a))) rfl rfl (fun w => by simp [execOp, hx, Op.unary, Op.intArith]) H
theorem r_not {x : Operand} {t : TypeId} {b : Bool} (hx : e.ev x = .bool b) (H : RL P B st ops rest (e.set d (.bool !b)) h K) :
    RL P B st ops (⟨some d, .unOp .not t x, ty, pos, af, none⟩ :: rest) e h K :=
  r_pure (v := .bool !b) rfl rfl (fun w => by simp [execOp, hx, Op.unary]) H
theorem r_cv {x : Operand} {src dst : TypeId} {k k' : IntKind} {a : Int} (hs : IntT P src k') (hd : IntT P dst k) (hx : e.ev x = .int k' a) (H : RL P B st ops rest (e.set d (.int k (k.wrap a))) h K) :
    RL P B st ops (⟨some d, .convert src dst x, ty, pos, af, none⟩ :: rest) e h K :=
  r_pure (v := .int k (k.wrap a)) rfl rfl (fun w => by
    unfold IntT at hs hd
    simp [execOp, hx, convert, u_run hs, u_run hd, Conv.intToInt]) H
theorem r_ext {x : Operand} {vs : Array Value} {i : Nat} {v : Value} (hx : e.ev x = .tuple vs) (hv : vs[i]? = some v) (H : RL P B st ops rest (e.set d v) h K) :
    RL P B st ops (⟨some d, .extract x i, ty, pos, af, none⟩ :: rest) e h K :=
  r_pure (v := v) rfl rfl (fun w => by simp [execOp, hx, Instr.extract, hv]) H

/-! addresses, loads, stores -/
theorem r_ix {x i : Operand} {t el s : Nat} {a : Addr} {len cap : Nat} {k : IntKind} {n : Int} (hT : SlT P t el s) (hx : e.ev x = .slice (some a) len cap) (hi : e.ev i = .int k n) (h0 : 0 ≤ n) (h1 : n < len)
    (H : RL P B st ops rest (e.set d (.pointer (some (a.add (n.toNat * s))))) h K) : RL P B st ops (⟨some d, .indexAddr t x i, ty, pos, af, none⟩ :: rest) e h K :=
  r_pure (v := .pointer (some (a.add (n.toNat * s)))) rfl rfl (fun w => by
    obtain ⟨hu, i, hi', hs⟩ := hT
    simp [execOp, hx, hi, Instr.indexAt, asIntOf, u_run hu, s_run hi', hs, h0, h1]) H

theorem run_load1 {t : TypeId} (ht : NaT P t) {a : Addr} {v : Value} (w : World) (hc : cellH w.heap a = some v) (ρ : Operand → Value) (x : Operand) (hx : ρ x = .pointer (some a)) (o : Oper) (ho : o.op = .load t x) :
    (execOp ρ o).run P w = .ok (.value v) w := by
  obtain ⟨⟨d, hd, hna⟩, _⟩ := ht
  have hc' : w.cell? a = some v := hc
  have h2 := a_run (P := P) hd w
  rw [hna] at h2
  simp [execOp, ho, Instr.loadAt, hx, Instr.sureAddr, loadVar, h2, hc']

theorem r_ld {x : Operand} {t : TypeId} {a : Addr} {v : Value} (ht : NaT P t) (hx : e.ev x = .pointer (some a)) (hc : cellH h a = some v) (H : RL P B false ops rest (e.set d v) h K) :
    RL P B false ops (⟨some d, .load t x, ty, pos, af, none⟩ :: rest) e h K := by
  show GOp P B false ops _ e h _
  unfold GOp
  rw [if_pos (by simp [Region.wanted])]
  exact ⟨v, fun w hw => run_load1 ht w (by rw [hw]; exact hc) _ x hx _ rfl, H⟩
theorem r_ldB {x : Operand} {t : TypeId} {a : Addr} {v : Value} (ht : NaT P t) (hx : e.ev x = .pointer (some a)) (hb : B h) (hc : ∀ h', B h' → cellH h' a = some v) (H : RL P B true ops rest (e.set d v) h K) :
    RL P B true ops (⟨some d, .load t x, ty, pos, af, none⟩ :: rest) e h K := by
  show GOp P B true ops _ e h _
  unfold GOp
  rw [if_pos (by simp [Region.wanted])]
  exact ⟨v, hb, fun w hw => run_load1 ht w (hc _ hw) _ x hx _ rfl, H⟩

def isOne : Value → Bool
  | .agg _ => false
  | .tuple _ => false
  | _ => true
theorem run_store1 {a : Addr} {v v0 : Value} {w : World} (h1 : isOne v = true) (hc : w.cell? a = some v0) (hf : w.frozen? a = false) : (store a v).run P w = .ok () (w.setCell a v) := by
  unfold store
  cases v <;> first | (simp only [Sem.run, hc, hf]; rfl) | (simp [isOne] at h1)
theorem r_st {x y : Operand} {t : TypeId} {a : Addr} {v v0 : Value} (ht : NaT P t) (hx : e.ev x = .pointer (some a)) (hy : e.ev y = v) (h1 : isOne v = true) (hc : cellH h a = some v0) (hf : frozenH h a = false)
    (H : RL P B st ops rest e (setH h a v) K) : RL P B st ops (⟨none, .store t x y, ty, pos, af, none⟩ :: rest) e h K := by
  refine r_wr rfl rfl fun w hw => ?_
  subst hw
  obtain ⟨_, i, hi, hsz⟩ := ht
  have hc' : w.cell? a = some v0 := hc
  have hf' : w.frozen? a = false := hf
  have hcl : v.cells = #[v] := by cases v <;> first | rfl | cases h1
  have hrun : (execOp e.ev ⟨none, .store t x y, ty, pos, af, none⟩).run P w = .ok .skip (w.setCell a v) := by
    simp only [execOp, Instr.storeAt, hx, Instr.sureAddr, hy]
    have h2 := run_store1 (P := P) h1 hc' hf'
    simp [storeVar, s_run hi, hcl, hsz, storeCells, Addr.add, h2]
  rw [hrun]
  exact ⟨⟨rfl, rfl, rfl⟩, H⟩

/-! calls -/
theorem run_callFunc {f : FuncId} (hc : Callable P f) (args : Array Value) (w : World) : (callFunc f args).run P w = .ok (.enter f args) w := by
  obtain ⟨fn, hf, hn, hb⟩ := hc
  show (Sem.bind program _).run P w = _
  show Sem.run P (match P.funcs[f]? with | none => _ | some fn => _) w = _
  rw [hf]
  show Sem.run P (if (fn.name == "runtime.NumGoroutine") = true then _ else _) w = _
  rw [if_neg (by simp [hn]), if_neg (by simp [hb])]
  rfl

theorem eff_call {f : FuncId} {args : Array Value} {ρ : Operand → Value} {o : Oper} {K' : Value → Heap → Prop} (hrun : ∀ w, (execOp ρ o).run P w = .ok (.enter f args) w) (HC : CallH P f args h K') : EffRun P ρ o h K' := by
  intro w hw
  rw [hrun w]
  exact ⟨.refl w, HC.2 w hw⟩

theorem r_call {f : FuncId} {xs : List Operand} {ts : Array TypeId} {l : List Value} {K' : Value → Heap → Prop} (hb : B h) (hxs : xs.map e.ev = l) (HC : CallH P f l.toArray h K')
    (H : ∀ v h', K' v h' → B h' ∧ RL P B st ops rest (e.set d v) h' K) : RL P B st ops (⟨some d, .call ⟨.value (.func f), xs.toArray, ts⟩, ty, pos, af, none⟩ :: rest) e h K := by
  refine r_eff rfl rfl hb (eff_call (f := f) (args := l.toArray) (fun w => ?_) (HC.mono H))
  have := run_callFunc HC.1 l.toArray w
  simp only [execOp, resolve, List.map_toArray, hxs, Env.ev, Deferred.ofValue, pure, bind, Sem.bind, invoke, Array.append_empty, Array.empty_append]
  exact this
/-- A call of a function value. -/
theorem r_callc {f : FuncId} {c : Operand} {xs : List Operand} {ts : Array TypeId} {l cl : List Value} {K' : Value → Heap → Prop} (hb : B h) (hc : e.ev c = .func (.func f) #[] cl.toArray) (hxs : xs.map e.ev = l) (HC : CallH P f (l ++ cl).toArray h K')
    (H : ∀ v h', K' v h' → B h' ∧ RL P B st ops rest (e.set d v) h' K) : RL P B st ops (⟨some d, .call ⟨.value c, xs.toArray, ts⟩, ty, pos, af, none⟩ :: rest) e h K := by
  refine r_eff rfl rfl hb (eff_call (f := f) (args := (l ++ cl).toArray) (fun w => ?_) (HC.mono H))
  have := run_callFunc HC.1 (l ++ cl).toArray w
  simp only [execOp, resolve, List.map_toArray, hxs, hc, Deferred.ofValue, pure, bind, Sem.bind, invoke, Array.empty_append, List.append_toArray]
  exact this
end
end Go.QF
