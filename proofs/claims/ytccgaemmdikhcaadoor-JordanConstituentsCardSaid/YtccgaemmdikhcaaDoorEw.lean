/-
  The evaluator of code at fixed inputs over an unknown heap: its values, its heap, its steps. Definitions alone.
-/
import Derived.Test.YtccgaemmdikhcaaDoorEv
namespace Go.QF
open Go
set_option linter.unusedVariables false
/-- A value whose blocks are numbered by the evaluator. -/
inductive V where
  | u | b (x : Bool) | i (k : IntKind) (n : Int) | p (blk off : Nat) | s (blk off len cap : Nat) | g (blk len : Nat) | sn | fn
  | f (id : FuncId) (c : List V) | a (l : List V) | t (l : List V)
/-- A block: the cells that are known, whether it may be written, and the cells of an element where the block may grow. -/
structure Bk where
  c : List V
  ro : Bool
  sz : Nat
abbrev Hp := List (Option Bk)
abbrev EnvL := List (Nat × V)
def nth {α : Type} : List α → Nat → Option α
  | [], _ => none
  | x :: _, 0 => some x
  | _ :: l, k + 1 => nth l k
def getE : EnvL → Nat → V
  | [], _ => .u
  | (d, v) :: l, t => bif Nat.beq t d then v else getE l t
def putE (l : EnvL) (d : Nat) (v : V) : EnvL := (d, v) :: l
def blkE (bs : Hp) (k : Nat) : Option Bk := match nth bs k with | some (some b) => some b | _ => none
def cellE (bs : Hp) (k o : Nat) : Option V := match blkE bs k with | some b => nth b.c o | none => none
def V.cells : V → List V
  | .a l => l
  | v => [v]
def V.one : V → Bool
  | .a _ => false
  | .t _ => false
  | .u => false
  | _ => true
/-- Constants of the program text. -/
def toV : Value → Option V
  | .bool x => some (.b x)
  | .int k n => some (.i k n)
  | .slice none 0 0 => some .sn
  | .nilFunc => some .fn
  | _ => none
def toVs : List Value → Option (List V)
  | [] => some []
  | x :: l => match toV x, toVs l with | some v, some vs => some (v :: vs) | _, _ => none
def lookG : List (Nat × Nat) → Nat → Option Nat
  | [], _ => none
  | (g, k) :: l, x => bif Nat.beq x g then some k else lookG l x
def evE (G : List (Nat × Nat)) (l : EnvL) : Operand → Option V
  | .tmp t => some (getE l t)
  | .const v => toV v
  | .global g => match lookG G g with | some k => some (.p k 0) | none => none
  | .func f => some (.f f [])
def evEs (G : List (Nat × Nat)) (l : EnvL) : List Operand → Option (List V)
  | [] => some []
  | o :: os => match evE G l o, evEs G l os with | some x, some xs => some (x :: xs) | _, _ => none
/-! ### types -/
def slE (P : Program) (t : TypeId) : Option (Nat × Nat) :=
  match P.underlying t with
  | some (.slice el) => match P.info? el with | some i => some (el, i.size) | none => none
  | _ => none
def tyE (P : Program) (t : TypeId) : Option (Bool × Nat) :=
  match P.underlying t, P.info? t with
  | some d, some i => some (isAggD d, i.size)
  | _, _ => none
def intE (P : Program) (t : TypeId) : Option IntKind := match P.underlying t with | some (.int k) => some k | _ => none
/-- A type's size, bytes and the cells of its zero value. -/
def zeE (P : Program) (t : TypeId) : Option (Nat × List V) :=
  match P.info? t with
  | some i => match i.zero with
    | some z => match toVs z.cells.toList with | some vs => bif Nat.beq i.size vs.length && Nat.ble i.bytes 1000 then some (i.size, vs) else none | none => none
    | none => none
  | none => none
def fdE (P : Program) (t : TypeId) (f : Nat) : Option (Nat × Nat) :=
  match P.underlying t with
  | some (.struct fs) => match fs[f]? with
    | some fd => match P.info? fd.type with | some i => some (fd.offset, i.size) | none => none
    | none => none
  | _ => none
/-! ### pure operations -/
def arithE (op : BinOp) (k : IntKind) (a b : Int) : Option V :=
  match op with
  | .add => some (.i k (k.wrap (a + b)))
  | .sub => some (.i k (k.wrap (a - b)))
  | .mul => some (.i k (k.wrap (a * b)))
  | .quo => if b = 0 then none else some (.i k (k.wrap (a.tdiv b)))
  | .rem => if b = 0 then none else some (.i k (a.tmod b))
  | .and => some (.i k (k.wrap (BitVec.ofInt k.bits a &&& BitVec.ofInt k.bits b).toNat))
  | .or => some (.i k (k.wrap (BitVec.ofInt k.bits a ||| BitVec.ofInt k.bits b).toNat))
  | .xor => some (.i k (k.wrap (BitVec.ofInt k.bits a ^^^ BitVec.ofInt k.bits b).toNat))
  | op => match cmpI op a b with | some r => some (.b r) | none => none
/-- How structs are held against one another. -/
abbrev EqT := TypeId → List V → List V → Option Bool
def nilE : V → Option Bool
  | .sn => some true
  | .s _ _ _ _ => some false
  | .g _ _ => some false
  | _ => none
def eqvE (op : BinOp) (r : Bool) : Option V := match op with
  | .eql => some (.b r)
  | .neq => some (.b !r)
  | _ => none
def binE (P : Program) (Q : EqT) (op : BinOp) (t : TypeId) : V → V → Option V
  | .i k a, .i k' b => match op, b with
    | .shl, .ofNat n => bif Nat.ble n k.bits then some (.i k (k.wrap (a * 2 ^ n))) else none
    | .shr, .ofNat n => bif Nat.ble n k.bits then some (.i k (a / 2 ^ n)) else none
    | op, b => if k = k' then arithE op k a b else none
  | .b a, .b b => match P.underlying t, op with
    | some .bool, .eql => some (.b (a == b))
    | some .bool, .neq => some (.b (!(a == b)))
    | _, _ => none
  | .a xs, .a ys => match Q t xs ys with | some r => eqvE op r | none => none
  | x, .sn => match nilE x, P.underlying t with | some r, some (.slice _) => eqvE op r | _, _ => none
  | _, _ => none
/-- The part of a struct or array value. -/
def partE (P : Program) (t : TypeId) (cs : List V) (off : Nat) : Option V :=
  match tyE P t with
  | some (false, 1) => nth cs off
  | _ => none
/-- The cells from off on are replaced. -/
def over {α : Type} : List α → Nat → List α → List α
  | l, 0, [] => l
  | [], _, _ => []
  | _ :: l, 0, v :: vs => v :: over l 0 vs
  | x :: l, k + 1, vs => x :: over l k vs
def fillE (place : Nat → Option (Nat × Nat)) : List V → List (Nat × V) → Option (List V)
  | cells, [] => some cells
  | cells, (i, v) :: rest => match place i with
    | none => none
    | some (off, size) => bif Nat.beq v.cells.length size && Nat.ble (off + size) cells.length then fillE place (over cells off v.cells) rest else none
def partsE (G : List (Nat × Nat)) (l : EnvL) : List (Nat × Operand) → Option (List (Nat × V))
  | [] => some []
  | (i, x) :: ps => match evE G l x, partsE G l ps with | some v, some vs => some ((i, v) :: vs) | _, _ => none
def repE {α : Type} (z : List α) : Nat → List α
  | 0 => []
  | n + 1 => z ++ repE z n
def cellsE (bs : Hp) (b o : Nat) : Nat → Option (List V)
  | 0 => some []
  | n + 1 => match cellE bs b o, cellsE bs b (o + 1) n with | some v, some vs => some (v :: vs) | _, _ => none
def allOne : List V → Bool
  | [] => true
  | v :: l => v.one && allOne l
/-- Cells of a block are set. -/
def setE (bs : Hp) (k o : Nat) (vs : List V) : Option Hp := match blkE bs k with
  | some b => bif !b.ro && allOne vs && Nat.ble (o + vs.length) b.c.length then some (bs.set k (some ⟨over b.c o vs, b.ro, b.sz⟩)) else none
  | none => none
/-- The elements of a slice's value: where it lies, its length. -/
def slotE : V → Option (Nat × Nat × Nat)
  | .s b o n _ => some (b, o, n)
  | .g b n => some (b, 0, n)
  | _ => none
/-- The cells of a slice's elements. -/
def elemsE (bs : Hp) (sz : Nat) : V → Option (Nat × List V)
  | .sn => some (0, [])
  | v => match slotE v with
    | some (b, o, n) => match cellsE bs b o (n * sz) with | some vs => some (n, vs) | none => none
    | none => none
def appE (bs : Hp) (sz : Nat) (s x : V) : Option (V × Hp) :=
  match elemsE bs sz x with
  | some (n, news) => bif allOne news && Nat.ble n 1000000 then (match s with
    | .sn => bif Nat.beq n 0 then some (.sn, bs) else some (.g bs.length n, bs ++ [some ⟨news, false, sz⟩])
    | .s b o len cap => bif Nat.ble (len + n) cap then (bif Nat.beq n 0 then some (.s b o len cap, bs) else none) else
        (match cellsE bs b o (len * sz) with
        | some olds => bif allOne olds && Nat.ble len 1000000 then some (.g bs.length (len + n), bs ++ [some ⟨olds ++ news, false, sz⟩]) else none
        | none => none)
    | .g b len => bif Nat.beq n 0 then some (.g b len, bs) else
        (match blkE bs b, cellsE bs b 0 (len * sz) with
        | some bk, some olds => bif allOne olds && Nat.ble len 1000000 && !bk.ro && Nat.beq bk.sz sz then
            some (.g bs.length (len + n), bs.set b none ++ [some ⟨olds ++ news, false, sz⟩]) else none
        | _, _ => none)
    | _ => none) else none
  | none => none
def optE (G : List (Nat × Nat)) (l : EnvL) : Option Operand → Option (Option Nat)
  | none => some none
  | some x => match evE G l x with | some (.i _ (.ofNat n)) => some (some n) | _ => none
def sliceE (sz : Nat) : V → Option Nat → Option Nat → Option Nat → Option V
  | .sn, none, none, none => some .sn
  | .g b n, none, none, none => some (.g b n)
  | .g b n, none, some h, none => bif Nat.ble h n then some (.g b h) else none
  | .g b n, none, some h, some m => bif Nat.ble h m && Nat.ble m n then some (.s b 0 h m) else none
  | .s b o n c, lo, hi, mx =>
    let m := mx.getD c
    let h := hi.getD n
    let k := lo.getD 0
    bif Nat.ble m c && Nat.ble h m && Nat.ble k h then some (.s b (bif Nat.beq m k then o else o + k * sz) (h - k) (m - k)) else none
  | .sn, none, some 0, some 0 => some .sn
  | .sn, none, some 0, none => some .sn
  | _, _, _, _ => none
def Calls' := FuncId → List V → Hp → Option (V × Hp)
/-- One operation: its value and the heap behind it. -/
def opE (P : Program) (Q : EqT) (C : Calls') (G : List (Nat × Nat)) (l : EnvL) (bs : Hp) : Op → Option (V × Hp)
  | .move x => match evE G l x with | some v => some (v, bs) | none => none
  | .assign x => match evE G l x with | some v => some (v, bs) | none => none
  | .pick c x y => match evE G l c with
    | some (.b true) => (match evE G l x with | some v => some (v, bs) | none => none)
    | some (.b false) => (match evE G l y with | some v => some (v, bs) | none => none)
    | _ => none
  | .extract x i => match evE G l x with | some (.t vs) => (match nth vs i with | some v => some (v, bs) | none => none) | _ => none
  | .binOp op t x y _ => match evE G l x, evE G l y with | some a, some b => (match binE P Q op t a b with | some v => some (v, bs) | none => none) | _, _ => none
  | .unOp .not _ x => match evE G l x with | some (.b c) => some (.b !c, bs) | _ => none
  | .unOp .neg _ x => match evE G l x with | some (.i k a) => some (.i k (k.wrap (0 - a)), bs) | _ => none
  | .convert src dst x => match evE G l x, intE P src, intE P dst with
    | some (.i k a), some k', some k2 => if k = k' then some (.i k2 (k2.wrap a), bs) else none
    | _, _, _ => none
  | .nilCheck x => match evE G l x with | some (.p b o) => some (.p b o, bs) | _ => none
  | .fieldAddr t x f => match evE G l x, fdE P t f with
    | some (.p b o), some (off, _ + 1) => some (.p b (o + off), bs)
    | _, _ => none
  | .indexAddr t x i => match evE G l x, evE G l i, slE P t with
    | some v, some (.i _ (.ofNat j)), some (_, sz) => (match slotE v with
      | some (b, o, n) => bif Nat.blt j n then some (.p b (o + j * sz), bs) else none
      | none => none)
    | _, _, _ => none
  | .index t x i => match evE G l x, evE G l i, P.underlying t with
    | some (.a cs), some (.i _ (.ofNat j)), some (.array n el) => bif Nat.blt j n then (match partE P el cs j with | some v => some (v, bs) | none => none) else none
    | _, _, _ => none
  | .makeFunc (.func f) ⟨[]⟩ ⟨cs⟩ => match evEs G l cs with | some vs => some (.f f vs, bs) | none => none
  | .build t ⟨ps⟩ => match zeE P t, partsE G l ps with
    | some (_, z), some vs => (match P.underlying t with
      | some (.struct fs) => bif fs.toList.all (fun f => (P.info? f.type).isSome) then (match fillE (fdE P t) z vs with | some cs => some (.a cs, bs) | none => none) else none
      | some (.array _ el) => (match P.info? el with | some i => (match fillE (fun k => some (k * i.size, i.size)) z vs with | some cs => some (.a cs, bs) | none => none) | none => none)
      | _ => none)
    | _, _ => none
  | .slice t x lo hi mx => match evE G l x, slE P t, optE G l lo, optE G l hi, optE G l mx with
    | some v, some (_, sz), some lo, some hi, some mx => bif hi.isNone && mx.isSome then none else (match sliceE sz v lo hi mx with | some r => some (r, bs) | none => none)
    | _, _, _, _, _ => none
  | .load t x => match evE G l x, tyE P t with
    | some (.p b o), some (false, 1) => (match cellE bs b o with | some v => some (v, bs) | none => none)
    | some (.p b o), some (true, n) => (match cellsE bs b o n with | some vs => some (.a vs, bs) | none => none)
    | _, _ => none
  | .alloc t => match zeE P t with | some (_, z) => some (.p bs.length 0, bs ++ [some ⟨z, false, 0⟩]) | none => none
  | .box t x => match evE G l x with | some v => some (.p bs.length 0, bs ++ [some ⟨v.cells, false, 0⟩]) | none => none
  | .makeSlice t x y => match slE P t, evE G l x, evE G l y with
    | some (el, sz), some (.i .i64 (.ofNat n)), some (.i .i64 (.ofNat m)) => (match zeE P el with
      | some (_, z) => bif Nat.beq n m && Nat.ble n 100000 then some (.s bs.length 0 n n, bs ++ [some ⟨repE z n, false, 0⟩]) else none
      | none => none)
    | _, _, _ => none
  | .buildSlice t n ⟨ps⟩ => match slE P t, partsE G l ps with
    | some (el, sz), some vs => (match zeE P el with
      | some (k + 1, z) => bif Nat.ble n 1000 && Nat.ble sz 1000 && Nat.beq (k + 1) sz then (match fillE (fun k => some (k * sz, sz)) (repE z n) vs with
        | some cs => some (.s bs.length 0 n n, bs ++ [some ⟨cs, false, 0⟩])
        | none => none) else none
      | _ => none)
    | _, _ => none
  | .call ⟨.builtin .len, ⟨[x]⟩, ⟨[t]⟩⟩ => match evE G l x, slE P t with
    | some .sn, some _ => some (.i .i64 (.ofNat 0), bs)
    | some v, some _ => (match slotE v with | some (_, _, n) => some (.i .i64 (.ofNat n), bs) | none => none)
    | _, _ => none
  | .call ⟨.builtin .append, ⟨[s, x]⟩, ⟨[t, t2]⟩⟩ => match evE G l s, evE G l x, slE P t with
    | some s, some x, some (el, sz) => (match zeE P el with
      | some (k + 1, _) => bif Nat.beq t t2 && Nat.beq (k + 1) sz then appE bs sz s x else none
      | _ => none)
    | _, _, _ => none
  | .call ⟨.builtin .copy, ⟨[s, x]⟩, ⟨[t, t2]⟩⟩ => match evE G l s, evE G l x, slE P t with
    | some s, some x, some (el, sz) => (match slotE s, slotE x with
      | some (b, o, n), some (b2, o2, n2) => (match cellsE bs b2 o2 (Nat.min n2 n * sz) with
        | some vs => (match setE bs b o vs with | some bs' => some (.i .i64 (.ofNat (Nat.min n2 n)), bs') | none => none)
        | none => none)
      | _, _ => none)
    | _, _, _ => none
  | .call ⟨.value c, ⟨xs⟩, _⟩ => match evE G l c, evEs G l xs with
    | some (.f f cl), some vs => C f (vs ++ cl) bs
    | _, _ => none
  | _ => none
def wantE (ops : Array Oper) (l : EnvL) : Option (Nat × Bool) → Option Bool
  | none => some true
  | some (j, w) => match (ops[j]?).bind (·.dst) with
    | some t => match getE l t with | .b b => some (b == w) | .u => some false | _ => none
    | none => none
def putO (l : EnvL) : Option Nat → V → EnvL
  | some d, v => putE l d v
  | none, _ => l
def stE (P : Program) (G : List (Nat × Nat)) (l : EnvL) (bs : Hp) (t : TypeId) (x y : Operand) : Option Hp :=
  match evE G l x, evE G l y, tyE P t with
  | some (.p b o), some v, some (_, n) => bif Nat.beq v.cells.length n then setE bs b o v.cells else none
  | _, _, _ => none
def stepE (P : Program) (Q : EqT) (C : Calls') (G : List (Nat × Nat)) (l : EnvL) (bs : Hp) (o : Oper) : Option (EnvL × Hp) :=
  match o.dst with
  | some d => (match opE P Q C G l bs o.op with | some (v, bs') => some (putE l d v, bs') | none => none)
  | none => (match o.op with | .store t x y => (match stE P G l bs t x y with | some bs' => some (l, bs') | none => none) | _ => none)
def regE (P : Program) (Q : EqT) (C : Calls') (G : List (Nat × Nat)) (ops : Array Oper) : List Oper → EnvL → Hp → Option (EnvL × Hp)
  | [], l, bs => some (l, bs)
  | o :: rest, l, bs => match wantE ops l o.guard with
    | some true => (match stepE P Q C G l bs o with
      | some (l', bs') => regE P Q C G ops rest l' bs'
      | none => none)
    | some false => regE P Q C G ops rest (putO l o.dst .u) bs
    | none => none
def ieq : Int → Int → Bool
  | .ofNat a, .ofNat b => Nat.beq a b
  | .negSucc a, .negSucc b => Nat.beq a b
  | _, _ => false
mutual
def veq : V → V → Bool
  | .u, .u => true
  | .b x, .b y => x == y
  | .i k n, .i k' n' => decide (k = k') && ieq n n'
  | .p b o, .p b' o' => Nat.beq b b' && Nat.beq o o'
  | .s b o n c, .s b' o' n' c' => Nat.beq b b' && Nat.beq o o' && Nat.beq n n' && Nat.beq c c'
  | .g b n, .g b' n' => Nat.beq b b' && Nat.beq n n'
  | .sn, .sn => true
  | .fn, .fn => true
  | .f i c, .f i' c' => Nat.beq i i' && veqs c c'
  | .a l, .a l' => veqs l l'
  | .t l, .t l' => veqs l l'
  | _, _ => false
def veqs : List V → List V → Bool
  | [], [] => true
  | x :: l, y :: l' => veq x y && veqs l l'
  | _, _ => false
end
abbrev Cl := List (Nat × Nat × List V)
/-- The cells that a region reads hold what they held. -/
def holdsE (bs : Hp) : Cl → Bool
  | [] => true
  | (b, o, vs) :: L => Nat.ble 1 vs.length && (match cellsE bs b o vs.length with | some ws => veqs ws vs | none => false) && holdsE bs L
def inL (b o : Nat) (vs : List V) : Cl → Bool
  | [] => false
  | (b', o', vs') :: L => (Nat.beq b b' && Nat.beq o o' && veqs vs vs') || inL b o vs L
def loadsE (G : List (Nat × Nat)) (ops : Array Oper) (lF : EnvL) : List Oper → Cl
  | [] => []
  | o :: rest => match o.op, o.dst with
    | .load t x, some d => (match wantE ops lF o.guard, evE G lF x with | some true, some (.p b k) => (b, k, (getE lF d).cells) :: loadsE G ops lF rest | _, _ => loadsE G ops lF rest)
    | _, _ => loadsE G ops lF rest
def rdOk (P : Program) (L : Cl) (G : List (Nat × Nat)) (l l' : EnvL) (o : Oper) : Bool := match o.op, o.dst with
  | .load t x, some d => (match evE G l x, tyE P t with
    | some (.p b k), some (false, 1) => inL b k [getE l' d] L
    | some (.p b k), some (true, _) => (match getE l' d with | .a vs => inL b k vs L | _ => false)
    | _, _ => false)
  | _, _ => false
/-- A region whose loads may change places with its calls. -/
def regS (P : Program) (Q : EqT) (C : Calls') (G : List (Nat × Nat)) (ops : Array Oper) (L : Cl) : List Oper → EnvL → Hp → Option (EnvL × Hp)
  | [], l, bs => some (l, bs)
  | o :: rest, l, bs => match wantE ops l o.guard with
    | some true => (match stepE P Q C G l bs o with
      | some (l', bs') => bif (match kindOf o.op with | .read => holdsE bs L && rdOk P L G l l' o | .eff => holdsE bs L && holdsE bs' L | _ => true) then regS P Q C G ops L rest l' bs' else none
      | none => none)
    | some false => regS P Q C G ops L rest (putO l o.dst .u) bs
    | none => none
end Go.QF
