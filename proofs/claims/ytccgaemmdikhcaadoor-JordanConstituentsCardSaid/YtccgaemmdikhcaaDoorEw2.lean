/-
  The evaluator of code at fixed inputs: control flow and calls. Definitions alone.
-/
import Derived.Test.YtccgaemmdikhcaaDoorEw8
import Derived.Test.YtccgaemmdikhcaaDoorFlo2
namespace Go.QF
open Go
set_option linter.unusedVariables false
/-! ### a region in which a new variable floats -/
def agA (l l' : EnvL) : EnvL → Bool
  | [] => true
  | (t, _) :: ks => veq (getE l t) (getE l' t) && agA l l' ks
def eqEnv (l l' : EnvL) : Bool := agA l l' l && agA l l' l'
def eqHp : Hp → Hp → Bool
  | [], [] => true
  | none :: bs, none :: bs' => eqHp bs bs'
  | some b :: bs, some b' :: bs' => veqs b.c b'.c && (b.ro == b'.ro) && Nat.beq b.sz b'.sz && eqHp bs bs'
  | _, _ => false
def floNow (P : Program) (Q : EqT) (C : Calls') (G : List (Nat × Nat)) (ops : Array Oper) (L : Cl) (k d : Nat) (z : List V) (rest : List Oper) (l : EnvL) (bs : Hp) : Option (EnvL × Hp) :=
  bif holdsE bs L && holdsE (bs.set k (some ⟨z, false, 0⟩)) L then regS P Q C G ops L rest (putE l d (.p k 0)) (bs.set k (some ⟨z, false, 0⟩)) else none
def isRd (o : Op) : Bool := match kindOf o with | .pure => true | .read => true | _ => false
def bothE (a b : Option (EnvL × Hp)) : Option (EnvL × Hp) := match a, b with
  | some (l1, b1), some (l2, b2) => bif eqEnv l1 l2 && eqHp b1 b2 then some (l1, b1) else none
  | _, _ => none
def floE (P : Program) (Q : EqT) (C : Calls') (G : List (Nat × Nat)) (ops : Array Oper) (L : Cl) (k d : Nat) (z : List V) (T : List Oper) : List Oper → EnvL → Hp → Option (EnvL × Hp)
  | [], l, bs => floNow P Q C G ops L k d z T l bs
  | o :: R, l, bs => match wantE ops l o.guard with
    | some true => (match stepE P Q C G l bs o with
      | some (l', bs') => bif (match kindOf o.op with | .read => holdsE bs L && rdOk P L G l l' o | .eff => holdsE bs L && holdsE bs' L | _ => true) then
          (bif isRd o.op then floE P Q C G ops L k d z T R l' bs' else bothE (floE P Q C G ops L k d z T R l' bs') (floNow P Q C G ops L k d z (o :: (R ++ T)) l bs))
          else none
      | none => none)
    | some false => bif isRd o.op then floE P Q C G ops L k d z T R (putO l o.dst .u) bs else bothE (floE P Q C G ops L k d z T R (putO l o.dst .u) bs) (floNow P Q C G ops L k d z (o :: (R ++ T)) l bs)
    | none => none
def findF : List Oper → Nat → Option (Nat × Nat × TypeId)
  | [], _ => none
  | o :: r, j => match o with
    | ⟨some d, .alloc t, _, _, _, none⟩ => some (j, d, t)
    | _ => findF r (j + 1)
/-- A first look at a region: what it reads ahead of its calls. -/
def preE (P : Program) (Q : EqT) (G : List (Nat × Nat)) (ops : Array Oper) (bs : Hp) : List Oper → EnvL → EnvL
  | [], l => l
  | o :: r, l => bif isRd o.op then (match wantE ops l o.guard with
      | some true => (match stepE P Q (fun _ _ _ => none) G l bs o with | some (l', _) => preE P Q G ops bs r l' | none => preE P Q G ops bs r (putO l o.dst .u))
      | _ => preE P Q G ops bs r (putO l o.dst .u)) else preE P Q G ops bs r (putO l o.dst .u)
def lookE (P : Program) (Q : EqT) (G : List (Nat × Nat)) (ops : Array Oper) (l : EnvL) (bs : Hp) : Cl := loadsE G ops (preE P Q G ops bs ops.toList l) ops.toList
def regX (P : Program) (Q : EqT) (C : Calls') (G : List (Nat × Nat)) (n : Nat) (ops : Array Oper) (draw : Bool) (l : EnvL) (bs : Hp) : Option (EnvL × Hp) :=
  bif regOk n ops draw then
      (bif stOf ops draw then (bif holdsE bs (lookE P Q G ops l bs) then regS P Q C G ops (lookE P Q G ops l bs) ops.toList l bs else none) else regE P Q C G ops ops.toList l bs)
    else (bif draw && stOf ops true then (match findF ops.toList 0 with
      | some (f, d, t) => (match zeE P t with
        | some (_, z) => bif floatOk n ops f && holdsE bs (lookE P Q G ops l bs) then floE P Q C G ops (lookE P Q G ops l bs) bs.length d z (ops.toList.drop (f + 1)) (ops.toList.take f) l (bs ++ [none]) else none
        | none => none)
      | none => none) else none)
def codeE (P : Program) (Q : EqT) (C : Calls') (G : List (Nat × Nat)) (nt : Nat) : Nat → Code → EnvL → Hp → Option (Exit × EnvL × Hp)
  | 0, _, _, _ => none
  | n + 1, .skip, l, bs => some (.normal, l, bs)
  | n + 1, .region _ ops draw, l, bs => match regX P Q C G nt ops draw l bs with | some (l', bs') => some (.normal, l', bs') | none => none
  | n + 1, .seq a b, l, bs => match codeE P Q C G nt n a l bs with | some (.normal, l', bs') => codeE P Q C G nt n b l' bs' | r => r
  | n + 1, .cond c x y, l, bs => match evE G l c with | some (.b true) => codeE P Q C G nt n x l bs | some (.b false) => codeE P Q C G nt n y l bs | _ => none
  | n + 1, .block id c, l, bs => match codeE P Q C G nt n c l bs with | some (.exit id', l', bs') => bif Nat.beq id' id then some (.normal, l', bs') else some (.exit id', l', bs') | r => r
  | n + 1, .loop c, l, bs => match codeE P Q C G nt n c l bs with | some (.normal, l', bs') => codeE P Q C G nt n (.loop c) l' bs' | r => r
  | n + 1, .exit id, l, bs => some (.exit id, l, bs)
  | n + 1, .ret, l, bs => some (.ret, l, bs)
  | n + 1, .scope c, l, bs => match codeE P Q C G nt n c l bs with | some (.goto _, _, _) => none | r => r
  | n + 1, .label _, l, bs => some (.normal, l, bs)
  | _ + 1, _, _, _ => none
def ret1 (P : Program) (l : EnvL) (bs : Hp) : ResultVar → Option V
  | .tmp t => some (getE l t)
  | .cell t ty => match getE l t, tyE P ty with
    | .p b o, some (false, 1) => cellE bs b o
    | .p b o, some (true, n) => match cellsE bs b o n with | some vs => some (.a vs) | none => none
    | _, _ => none
def retEs (P : Program) (l : EnvL) (bs : Hp) : List ResultVar → Option (List V)
  | [] => some []
  | r :: rs => match ret1 P l bs r, retEs P l bs rs with | some v, some vs => some (v :: vs) | _, _ => none
def retE (P : Program) (l : EnvL) (bs : Hp) (rs : List ResultVar) : Option V := match retEs P l bs rs with
  | some [v] => some v
  | some vs => some (.t vs)
  | none => none
def argsE : Nat → List V → EnvL
  | _, [] => []
  | k, v :: vs => (k, v) :: argsE (k + 1) vs
def memN : List Nat → Nat → Bool
  | [], _ => false
  | x :: l, y => bif Nat.beq x y then true else memN l y
def callE (P : Program) (Q : EqT) (L : List FuncId) (G : List (Nat × Nat)) (fuel : Nat) : Nat → Calls'
  | 0, _, _, _ => none
  | d + 1, f, vs, bs => bif memN L f then (match P.funcs[f]? with
    | some fn => (match fn.body with
      | some c => bif Nat.ble vs.length fn.ntmps then (match codeE P Q (callE P Q L G fuel d) G fn.ntmps fuel c (argsE 0 vs) bs with
        | some (.normal, l, bs') => (match retE P l bs' fn.results.toList with | some v => some (v, bs') | none => none)
        | some (.ret, l, bs') => (match retE P l bs' fn.results.toList with | some v => some (v, bs') | none => none)
        | _ => none) else none
      | none => none)
    | none => none) else none
end Go.QF
