/-
  More rules of operations: literals of slices and structs, boxes, fields, whole structs loaded and stored, pieces of slices, function values. No condition.
-/
import Derived.Test.YtccgaemmdikhcaaDoorHeap
namespace Go.QF
open Go
set_option linter.unusedVariables false
set_option linter.unusedSimpArgs false

theorem slT_mk {P : Program} {t el s : Nat} (hu : P.underlying t = some (.slice el)) (hi : (P.info? el).map (·.size) = some s) : SlT P t el s := by
  refine ⟨hu, ?_⟩
  cases h : P.info? el with
  | none => rw [h] at hi; cases hi
  | some i => rw [h] at hi; exact ⟨i, rfl, by simpa using hi⟩
theorem naT_mk {P : Program} {t : Nat} {d : TypeDesc} (hu : P.underlying t = some d) (hd : isAggD d = false) (hi : (P.info? t).map (·.size) = some 1) : NaT P t := by
  refine ⟨⟨d, hu, hd⟩, ?_⟩
  cases h : P.info? t with
  | none => rw [h] at hi; cases hi
  | some i => rw [h] at hi; exact ⟨i, rfl, by simpa using hi⟩
theorem agT_mk {P : Program} {t s : Nat} {d : TypeDesc} (hu : P.underlying t = some d) (hd : isAggD d = true) (hi : (P.info? t).map (·.size) = some s) : AgT P t s := by
  refine ⟨⟨d, hu, hd⟩, ?_⟩
  cases h : P.info? t with
  | none => rw [h] at hi; cases hi
  | some i => rw [h] at hi; exact ⟨i, rfl, by simpa using hi⟩
theorem zeT_mk {P : Program} {t bytes : Nat} {z : Value} (hi : (P.info? t).map (fun i => (i.zero, i.size, i.bytes)) = some (some z, z.cells.size, bytes)) : ZeT P t z bytes := by
  cases h : P.info? t with
  | none => rw [h] at hi; cases hi
  | some i =>
    rw [h] at hi
    simp only [Option.map_some, Option.some.injEq, Prod.mk.injEq] at hi
    exact ⟨i, h, hi.1, hi.2.1, hi.2.2⟩

def partsOf : Nat → List Value → List (Nat × Value)
  | _, [] => []
  | k, v :: l => (k, v) :: partsOf (k + 1) l

theorem cells_one {v : Value} (h1 : isOne v = true) : v.cells = #[v] := by cases v <;> first | rfl | cases h1

theorem fill_parts (l : List Value) : ∀ (pre old : List Value), (∀ u ∈ l, isOne u = true) → old.length = l.length →
    Instr.fill (fun i => some (i * 1, 1)) (pre ++ old).toArray (partsOf pre.length l) = some (pre ++ l).toArray := by
  induction l with
  | nil =>
    intro pre old _ ho
    obtain rfl : old = [] := List.eq_nil_of_length_eq_zero ho
    simp [partsOf, Instr.fill]
  | cons v l ih =>
    intro pre old h1 ho
    cases old with
    | nil => simp at ho
    | cons o old =>
      have hc := cells_one (h1 v (List.mem_cons_self ..))
      simp only [partsOf, Instr.fill, hc]
      have hs : ¬ ((#[v].size ≠ 1 || decide (pre.length * 1 + #[v].size > (pre ++ o :: old).toArray.size)) = true) := by simp
      rw [if_neg hs]
      have hset : (#[v].zipIdx.foldl (fun cs (x : Value × Nat) => cs.setIfInBounds (pre.length * 1 + x.2) x.1) (pre ++ o :: old).toArray) = ((pre ++ [v]) ++ old).toArray := by
        simp
      have := ih (pre ++ [v]) old (fun u hu => h1 u (List.mem_cons_of_mem _ hu)) (by simpa using ho)
      simp only [List.length_append, List.length_cons, List.length_nil, Nat.zero_add] at this
      rw [show pre ++ v :: l = pre ++ [v] ++ l by simp]
      rw [← this]
      congr 1

section
variable {P : Program} {B : Heap → Prop} {st : Bool} {ops : Array Oper} {rest : List Oper} {e : Env} {h : Heap} {K : Env → Heap → Prop}
variable {d : Nat} {ty : TypeId} {pos : String} {af : Array Edge}

/-- '[]T{..}', its elements of one cell each. -/
theorem r_bs {t el bytes n : Nat} {z : Value} {parts : List (Nat × Operand)} (l : List Value) (hT : SlT P t el 1) (hz : ZeT P el z bytes) (h1 : isOne z = true) (hb : B h) (hn : l.length = n) (hn2 : n ≤ 16777216) (hpos : 0 < n) (hp : (parts.map fun (i, x) => (i, e.ev x)) = partsOf 0 l)
    (hone : ∀ u ∈ l, isOne u = true) (H : B (h.push (.cells l.toArray el (0, 0))) ∧ RL P B st ops rest (e.set d (.slice (some ⟨h.size, 0, none⟩) n n)) (h.push (.cells l.toArray el (0, 0))) K) :
    RL P B st ops (⟨some d, .buildSlice t n parts.toArray, ty, pos, af, none⟩ :: rest) e h K := by
  refine r_eff rfl rfl hb fun w hw => ?_
  subst hw
  obtain ⟨hu, i0, hi0, hs0⟩ := hT
  obtain ⟨i, hi, hzz, hsz, hby⟩ := hz
  rw [hi] at hi0; injection hi0 with hi0; subst hi0
  have hf := fill_parts l [] (List.replicate n z) hone (by simp [hn])
  simp only [List.nil_append, List.length_nil, Nat.mul_one] at hf
  have hmade : (Array.range n).map (fun x => z.cells[x % z.cells.size]!) = (List.replicate n z).toArray := madeCells_one z h1 n
  have hne : ¬ n = 0 := by omega
  have : (execOp e.ev ⟨some d, .buildSlice t n parts.toArray, ty, pos, af, none⟩).run P w = .ok (.value (.slice (some ⟨w.heap.size, 0, none⟩) n n)) (w.alloc (.cells l.toArray el)) := by
    simp only [execOp, List.map_toArray]
    rw [hp]
    have h3 : ¬ (n * i.size > 2 ^ 24) := by rw [hs0]; omega
    have h4 : ¬ (n * i.size = 0) := by rw [hs0]; omega
    simp only [Instr.buildSlice, Sem.run_bind, u_run hu, Result.andThen, s_run hi, if_neg h3, if_neg h4, z_run hi hzz]
    have hp1 : Sem.run P (pure z.cells : Sem (Array Value)) w = .ok z.cells w := rfl
    simp only [hp1, hs0, Nat.mul_one]
    rw [hmade, hf]
    simp [newRow]
  rw [this]
  exact ⟨⟨rfl, rfl, rfl⟩, H⟩

theorem r_box {x : Operand} {t : Nat} {v : Value} (hb : B h) (hx : e.ev x = v) (H : B (h.push (.cells v.cells t (0, 0))) ∧ RL P B st ops rest (e.set d (.pointer (some ⟨h.size, 0, none⟩))) (h.push (.cells v.cells t (0, 0))) K) :
    RL P B st ops (⟨some d, .box t x, ty, pos, af, none⟩ :: rest) e h K := by
  refine r_eff rfl rfl hb fun w hw => ?_
  subst hw
  have : (execOp e.ev ⟨some d, .box t x, ty, pos, af, none⟩).run P w = .ok (.value (.pointer (some ⟨w.heap.size, 0, none⟩))) (w.alloc (.cells v.cells t)) := by
    simp [execOp, hx, Instr.box, newVar, newRow]
  rw [this]
  exact ⟨⟨rfl, rfl, rfl⟩, H⟩
theorem r_alloc {t bytes : Nat} {z : Value} (hz : ZeT P t z bytes) (hb : B h) (H : B (h.push (.cells z.cells t (0, 0))) ∧ RL P B st ops rest (e.set d (.pointer (some ⟨h.size, 0, none⟩))) (h.push (.cells z.cells t (0, 0))) K) :
    RL P B st ops (⟨some d, .alloc t, ty, pos, af, none⟩ :: rest) e h K := by
  refine r_eff rfl rfl hb fun w hw => ?_
  subst hw
  obtain ⟨i, hi, hzz, hsz, hby⟩ := hz
  have : (execOp e.ev ⟨some d, .alloc t, ty, pos, af, none⟩).run P w = .ok (.value (.pointer (some ⟨w.heap.size, 0, none⟩))) (w.alloc (.cells z.cells t)) := by
    simp [execOp, Instr.alloc, z_run hi hzz, newVar, newRow]
  rw [this]
  exact ⟨⟨rfl, rfl, rfl⟩, H⟩
theorem r_build {t : Nat} {parts : List (Nat × Operand)} {v : Value} (hv : ∀ w, (Instr.build t (parts.map fun (i, x) => (i, e.ev x)).toArray).run P w = .ok v w) (H : RL P B st ops rest (e.set d v) h K) :
    RL P B st ops (⟨some d, .build t parts.toArray, ty, pos, af, none⟩ :: rest) e h K :=
  r_pure (v := v) rfl rfl (fun w => by simp only [execOp, List.map_toArray, Sem.run_bind, hv w]; rfl) H
theorem r_nc {x : Operand} {a : Addr} (hx : e.ev x = .pointer (some a)) (H : RL P B st ops rest (e.set d (.pointer (some a))) h K) :
    RL P B st ops (⟨some d, .nilCheck x, ty, pos, af, none⟩ :: rest) e h K :=
  r_pure (v := .pointer (some a)) rfl rfl (fun w => by simp [execOp, hx]) H
theorem r_fa {x : Operand} {t f off ft fs : Nat} {a : Addr} (hf : FdT P t f off ft) (hs : (P.info? ft).map (·.size) = some fs) (hfs : fs ≠ 0) (hx : e.ev x = .pointer (some a)) (H : RL P B st ops rest (e.set d (.pointer (some (a.add off)))) h K) :
    RL P B st ops (⟨some d, .fieldAddr t x f, ty, pos, af, none⟩ :: rest) e h K :=
  r_pure (v := .pointer (some (a.add off))) rfl rfl (fun w => by
    obtain ⟨fds, fd, hu, hfd, ho, hft⟩ := hf
    subst hft
    cases hi : P.info? fd.type with
    | none => rw [hi] at hs; cases hs
    | some i =>
      rw [hi] at hs
      have hs' : i.size = fs := by simpa using hs
      simp [execOp, hx, Instr.fieldAt, u_run hu, hfd, Instr.sureAddr, fieldPlace, s_run hi, hs', hfs, ho]) H
theorem r_idx {x i : Operand} {t : Nat} {cs : Array Value} {v u : Value} (hv : ∀ w, (Instr.index t (e.ev x) (e.ev i)).run P w = .ok u w) (H : RL P B st ops rest (e.set d u) h K) :
    RL P B st ops (⟨some d, .index t x i, ty, pos, af, none⟩ :: rest) e h K :=
  r_pure (v := u) rfl rfl (fun w => by simp only [execOp, Sem.run_bind, hv w]; rfl) H
theorem r_fd {x : Operand} {t f : Nat} {u : Value} (hv : ∀ w, (Instr.field t (e.ev x) f).run P w = .ok u w) (H : RL P B st ops rest (e.set d u) h K) :
    RL P B st ops (⟨some d, .field t x f, ty, pos, af, none⟩ :: rest) e h K :=
  r_pure (v := u) rfl rfl (fun w => by simp only [execOp, Sem.run_bind, hv w]; rfl) H
theorem r_mf {f : Fn} {cs : List Operand} {l : List Value} (hcs : cs.map e.ev = l) (H : RL P B st ops rest (e.set d (.func f #[] l.toArray)) h K) :
    RL P B st ops (⟨some d, .makeFunc f #[] cs.toArray, ty, pos, af, none⟩ :: rest) e h K :=
  r_pure (v := .func f #[] l.toArray) rfl rfl (fun w => by simp [execOp, Instr.makeFunc, hcs]) H

/-! a whole struct -/
theorem run_loadCells {a : Addr} {w : World} (l : List Value) : ∀ (k : Nat) (acc : Array Value), (∀ i u, l[i]? = some u → w.cell? (a.add (k + i)) = some u) → (loadCellsFrom a k l.length acc).run P w = .ok (acc ++ l.toArray) w := by
  induction l with
  | nil => intro k acc _; simp [loadCellsFrom]
  | cons v l ih =>
    intro k acc hc
    have h0 := hc 0 v rfl
    have ih' := ih (k + 1) (acc.push v) (fun i u hu => by have := hc (i + 1) u (by simpa using hu); rw [show k + 1 + i = k + (i + 1) by omega]; exact this)
    simp only [Nat.add_zero] at h0
    simp [loadCellsFrom, h0, ih']
theorem run_loadA {t s : Nat} (ht : AgT P t s) {a : Addr} {l : List Value} (hl : l.length = s) (w : World) (hc : ∀ i u, l[i]? = some u → cellH w.heap (a.add i) = some u) (ρ : Operand → Value) (x : Operand) (hx : ρ x = .pointer (some a)) (o : Oper) (ho : o.op = .load t x) :
    (execOp ρ o).run P w = .ok (.value (.agg l.toArray)) w := by
  obtain ⟨⟨dd, hd, hag⟩, i, hi, hsz⟩ := ht
  have h1 := run_loadCells (P := P) (a := a) (w := w) l 0 #[] (fun i u hu => by rw [Nat.zero_add]; exact hc i u hu)
  rw [hl, ← hsz] at h1
  have h2 := a_run (P := P) hd w
  rw [hag] at h2
  simp only [execOp, ho, Instr.loadAt, hx, Instr.sureAddr, loadVar]
  simp [h2, s_run hi, loadCells, h1]
theorem r_ldA {x : Operand} {t s : Nat} {a : Addr} (l : List Value) (ht : AgT P t s) (hl : l.length = s) (hx : e.ev x = .pointer (some a)) (hc : ∀ i u, l[i]? = some u → cellH h (a.add i) = some u) (H : RL P B false ops rest (e.set d (.agg l.toArray)) h K) :
    RL P B false ops (⟨some d, .load t x, ty, pos, af, none⟩ :: rest) e h K := by
  show GOp P B false ops _ e h _
  unfold GOp
  rw [if_pos (by simp [Region.wanted])]
  exact ⟨_, fun w hw => run_loadA ht hl w (by rw [hw]; exact hc) _ x hx _ rfl, H⟩
theorem r_ldAB {x : Operand} {t s : Nat} {a : Addr} (l : List Value) (ht : AgT P t s) (hl : l.length = s) (hx : e.ev x = .pointer (some a)) (hb : B h) (hc : ∀ h', B h' → ∀ i u, l[i]? = some u → cellH h' (a.add i) = some u) (H : RL P B true ops rest (e.set d (.agg l.toArray)) h K) :
    RL P B true ops (⟨some d, .load t x, ty, pos, af, none⟩ :: rest) e h K := by
  show GOp P B true ops _ e h _
  unfold GOp
  rw [if_pos (by simp [Region.wanted])]
  exact ⟨_, hb, fun w hw => run_loadA ht hl w (hc _ hw) _ x hx _ rfl, H⟩

/-! pieces of slices: 's[:k]', 's[k:]' -/
theorem r_slTo {x y : Operand} {t el s : Nat} {a : Option Addr} {n cap k : Nat} {kk : IntKind} (hT : SlT P t el s) (hx : e.ev x = .slice a n cap) (hy : e.ev y = .int kk (k : Int)) (hk : k ≤ cap) (H : RL P B st ops rest (e.set d (.slice a k cap)) h K) :
    RL P B st ops (⟨some d, .slice t x none (some y) none, ty, pos, af, none⟩ :: rest) e h K :=
  r_pure (v := .slice a k cap) rfl rfl (fun w => by
    obtain ⟨hu, i, hi, hs⟩ := hT
    have h1 : (k : Int) ≤ (cap : Int) := by omega
    have ha : (if cap = 0 then a else Option.map (fun x => x.add (0 * i.size)) a) = a := by
      split
      · rfl
      · cases a <;> simp [Addr.add]
    simp [execOp, hx, hy, Instr.sliceAt, Instr.slice, u_run hu, Instr.sliceBounds, Instr.sliceBound, asIntOf, h1, s_run hi, Addr.add]
    intro hlt; omega) H
theorem r_slFrom {x y : Operand} {t el s : Nat} {a : Option Addr} {n cap k : Nat} {kk : IntKind} (hT : SlT P t el s) (hx : e.ev x = .slice a n cap) (hy : e.ev y = .int kk (k : Int)) (hk : k ≤ n) (hn : n ≤ cap)
    (H : RL P B st ops rest (e.set d (.slice (if cap = k then a else a.map (·.add (k * s))) (n - k) (cap - k))) h K) :
    RL P B st ops (⟨some d, .slice t x (some y) none none, ty, pos, af, none⟩ :: rest) e h K :=
  r_pure (v := .slice (if cap = k then a else a.map (·.add (k * s))) (n - k) (cap - k)) rfl rfl (fun w => by
    obtain ⟨hu, i, hi, hs⟩ := hT
    have h1 : (k : Int) ≤ (n : Int) := by omega
    simp [execOp, hx, hy, Instr.sliceAt, Instr.slice, u_run hu, Instr.sliceBounds, Instr.sliceBound, asIntOf, h1, s_run hi, hs]
    intro hlt; omega) H
end
end Go.QF
