/-
  Texts of a proof, joined. Conditions stand in each statement.
-/
import Derived.KernelRfl
import Derived.Calls
import Derived.Orders
import Derived.Tactics
import Derived.OwnWalk
import Derived.Scope
import Derived.Deep.LoopGhost
import Derived.Laws.MakeOwn
import Derived.Test.YtegoafpaljeobaaGreatDoorProg
import Derived.Test.YtegoafpaljeobaaGreatDoorCards
import Derived.Test.YtegoafpaljeobaaGreatDoorTie
import Derived.ProofKit
import Derived.OpenShut
import Derived.ShutString
import Derived.ChangeOld
import Derived.Below
import Derived.Carry
import Derived.Deep.Matrix
import Derived.Deep.DeepHandedRow
import Derived.Lib.LaidTab
import Derived.Deep.Strs
set_option linter.unusedVariables false
set_option linter.unusedSimpArgs false
set_option maxRecDepth 100000
open Go
variable {ts:Array TypeId} {st draw want:Bool} {f:FuncId} {p a d:Int} {k k' kk κ:IntKind} {M:List (List Int)} {Gs Fs:List (List Nat)} {parts:List (Nat × Operand)} {D F G A:List Nat} {xs:List Operand} {l rs:List Value} {t i j id el s g er bytes off C ei tb ty el0:Nat} {S:Nat->Prop} {x y:Operand} {dst:Option Nat} {P:Program} {X α:Type} {t2 src:TypeId} {v r xv:Value} {w:World}
namespace Go.QF
theorem AHx {p:Prop} (h:p:=by omega):p:=h
theorem AHz {p:Prop} (h:p:=by decide):p:=h
theorem AIb {p:Prop} (h:p:=by kernel_rfl):p:=h
theorem AI9 {p:Prop} (h:p:=by simp):p:=h
abbrev AIe:=Nat->Nat->Int
abbrev AH8:=Array Obj
abbrev Env:=Nat->Value
def Env.set (e:Env) (d:Nat) (v:Value):Env:=λt=>bif Nat.beq t d then v else e t
def Env.put (e:Env):Option Nat->Value->Env
 | some d,v=>e.set d v
 | none,_=>e
def Env.ev (e:Env):Operand->Value
 | .tmp t=>e t
 | .const v=>v
 | .global g=> .pointer (some ⟨g,0,none⟩)
 | .func f=> .func (.func f) #[] #[]
def Env.mv (e:Env) (d:Nat) (x:Operand):Env:=λt=>bif Nat.beq t d then e.ev x else e t
theorem Env.set_same (e:Env) (d:Nat) (v:Value):e.set d v d=v:=by
 have h:Nat.beq d d=true:=Nat.beq_eq.mpr rfl;simp only [Env.set,h,cond_true]
theorem Env.set_other (e:Env) {d:Nat} (v:Value) (h:t≠d):e.set d v t=e t:=by
 have h:Nat.beq t d=false:=by
  cases hb:Nat.beq t d
  ·rfl
  simp_all
 simp only [Env.set,h,cond_false]
structure Rep (n:Nat) (e:Env) (a:Act):Prop where
 size:a.tmps.size=n
 defers:a.defers=[]
 get:∀ t,a.tmps.getD t undef=e t
theorem Rep.eval {n:Nat} {e:Env} {a:Act} (r:Rep n e a):a.eval=e.ev:=by
 funext x
 cases x with
 | tmp t=>exact r.get t
 | _=>rfl
theorem Rep.put {n:Nat} {e:Env} {a:Act} (r:Rep n e a) (d:Option Nat) (v:Value) (hd:∀ x,d=some x->x < n):
 Rep n (e.put d v) (a.put d v):=by
 cases d with
 | none=>exact r
 | some d=>
   have hdn:=hd d rfl
   refine ⟨by simp [Act.put,r.size],by simp [Act.put,r.defers],λt=>?_⟩
   show (a.tmps.setIfInBounds d v).getD t undef=e.set d v t
   by_cases h:t=d
   ·subst h
    rw [Env.set_same]
    simp [Array.getD_eq_getD_getElem?,r.size,hdn]
   ·rw [Env.set_other e v h,<- r.get t]
    simp only [Array.getD_eq_getD_getElem?]
    grind
structure Same (w w':World):Prop where
 os:w'.os=w.os
 tape:w'.tape=w.tape
 output:w'.output=w.output
theorem Same.refl (w:World):Same w w:=⟨rfl,rfl,rfl⟩
theorem Same.trans {a b c:World} (h:Same a b) (k:Same b c):Same a c:=⟨k.os.trans h.os,k.tape.trans h.tape,k.output.trans h.output⟩
inductive Kind where
 | pure | read | eff | wr
def kindOf:Op->Kind
 | .move _ | .assign _ | .pick .. | .binOp .. | .unOp .. | .convert .. | .fieldAddr .. | .field .. | .indexAddr .. | .index .. | .extract .. | .slice .. | .nilCheck _ | .makeInterface .. | .makeFunc .. | .build .. => .pure
 | .call { callee:= .builtin .len,.. } => .pure
 | .call { callee:= .builtin .min,.. } => .pure
 | .call { callee:= .builtin .max,.. } => .pure
 | .load .. => .read
 | .store .. => .wr
 | _=> .eff
def Agc (P:Program) (ρ:Operand->Value) (o:Oper) (v:Value):Prop:= ∀ w,(execOp ρ o).run P w= .ok (.value v) w
def Awc (P:Program) (B:AH8->Prop) (ρ:Operand->Value) (o:Oper) (v:Value):Prop:= ∀ w:World,B w.heap->(execOp ρ o).run P w= .ok (.value v) w
def A0u (P:Program) (ρ:Operand->Value) (o:Oper) (h:AH8) (v:Value):Prop:= ∀ w,w.heap=h->(execOp ρ o).run P w= .ok (.value v) w
def AY9 (P:Program) (w:World) (K:Value->AH8->Prop):Result Next->Prop
 | .ok (.value v) w'=>Same w w'/\K v w'.heap
 | .ok .skip w'=>Same w w'/\K undef w'.heap
 | .ok (.enter f args) w'=>Same w w'/\Calls P f args w' λen w''=> ∃ v,en= .returned v/\Same w' w''/\K v w''.heap
 | _=>False
def AZs (P:Program) (ρ:Operand->Value) (o:Oper) (h:AH8) (K:Value->AH8->Prop):Prop:= ∀ w,w.heap=h->AY9 P w K ((execOp ρ o).run P w)
theorem AY9.mono {P:Program} {w:World} {K K':Value->AH8->Prop} (hK:∀ v h,K v h->K' v h) {r:Result Next} (h:AY9 P w K r):AY9 P w K' r:=by
 cases r with
 | ok n w'=>
   cases n <;> simp only [AY9] at h ⊢ <;>
    first
     | exact ⟨h.1,hK _ _ h.2⟩
     | exact ⟨h.1,Calls.mono h.2 λen w'' ⟨v,he,hs,hk⟩=>⟨v,he,hs,hK _ _ hk⟩⟩
 | halt x w'=>exact h
theorem AZs.mono {P:Program} {ρ:Operand->Value} {o:Oper} {h:AH8} {K K':Value->AH8->Prop} (hK:∀ v h,K v h->K' v h) (H:AZs P ρ o h K):AZs P ρ o h K':=
 λw hw=>(H w hw).mono hK
def AWu (h:AH8):World:= { heap:=h,tape:=λ_ _=>0,drawn:=0,os:=default,output:= #[] }
theorem AY9.some {K:Value->AH8->Prop} {r:Result Next} (h:AY9 P w K r):∃ v h',K v h':=by
 cases r with
 | ok n w'=>
   cases n <;> simp only [AY9] at h <;>
    first
     | exact ⟨_,_,h.2⟩
     | (obtain ⟨en,w'',fr,⟨v,_,_,hk⟩,_⟩:=h.2 [];grind)
 | halt x w'=>exact h.elim
theorem AZs.some {P:Program} {ρ:Operand->Value} {o:Oper} {h:AH8} {K:Value->AH8->Prop} (H:AZs P ρ o h K):∃ v h',K v h':=(H (AWu h) rfl).some
def SOp (P:Program) (B:AH8->Prop) (st:Bool) (o:Oper) (e:Env) (h:AH8) (K:Env->AH8->Prop):Prop:=
 match kindOf o.op,st with
 | .pure,_=> ∃ v,Agc P e.ev o v/\K (e.put o.dst v) h
 | .read,false=> ∃ v,A0u P e.ev o h v/\K (e.put o.dst v) h
 | .read,true=> ∃ v,B h/\Awc P B e.ev o v/\K (e.put o.dst v) h
 | .eff,_=>B h/\AZs P e.ev o h λv h'=>B h'/\K (e.put o.dst v) h'
 | .wr,_=>AZs P e.ev o h λv h'=>K (e.put o.dst v) h'
theorem SOp.mono {P:Program} {B:AH8->Prop} {st:Bool} {o:Oper} {e:Env} {h:AH8} {K K':Env->AH8->Prop} (hK:∀ v h',K (e.put o.dst v) h'->K' (e.put o.dst v) h') (H:SOp P B st o e h K):SOp P B st o e h K':=by
 unfold SOp at *;split at H
 ·grind
 ·grind
 ·grind
 ·exact ⟨H.1,H.2.mono λv h' hk=>⟨hk.1,hK _ _ hk.2⟩⟩
 ·exact H.mono λv h' hk=>hK _ _ hk
def ASn (ops:Array Oper) (e:Env) (j:Nat):Option Bool:=
 match (ops[j]?).bind (·.dst) with
 | some t=>match e t with
   | .bool b=>some b
   | _=>none
 | none=>none
theorem Rep.yields {n:Nat} {e:Env} {a:Act} (r:Rep n e a) (ops:Array Oper):yielded ops a.tmps=ASn ops e:=by
 funext j;unfold yielded ASn
 cases h:(ops[j]?).bind (·.dst) with
 | none=>rfl
 | some t=>
   have hg:=r.get t
   simp only [Option.bind_some]
   rw [<- hg]
   rcases Nat.lt_or_ge t a.tmps.size with hl | hl
   ·simp only [Array.getD_eq_getD_getElem?,Array.getElem?_eq_getElem hl,Option.getD_some]
    grind
   ·simp [Array.getD_eq_getD_getElem?,Array.getElem?_eq_none hl,undef]
def GOp (P:Program) (B:AH8->Prop) (st:Bool) (ops:Array Oper) (o:Oper) (e:Env) (h:AH8) (K:Env->AH8->Prop):Prop:=
 if Region.wanted o (ASn ops e)=true then SOp P B st o e h K else K (e.put o.dst undef) h
theorem GOp.mono {P:Program} {B:AH8->Prop} {st:Bool} {ops:Array Oper} {o:Oper} {e:Env} {h:AH8} {K K':Env->AH8->Prop} (hK:∀ v h',K (e.put o.dst v) h'->K' (e.put o.dst v) h') (H:GOp P B st ops o e h K):GOp P B st ops o e h K':=by
 unfold GOp at *;split
 ·rename_i hw;rw [if_pos hw] at H;exact H.mono hK
 grind
def LI (P:Program) (B:AH8->Prop) (st:Bool) (ops:Array Oper):List Nat->Env->AH8->(Env->AH8->Prop)->Prop
 | [],e,h,K=>K e h
 | i :: l,e,h,K=>match ops[i]? with
   | none=>LI P B st ops l e h K
   | some o=>GOp P B st ops o e h λe' h'=>LI P B st ops l e' h' K
def RL (P:Program) (B:AH8->Prop) (st:Bool) (ops:Array Oper):List Oper->Env->AH8->(Env->AH8->Prop)->Prop
 | [],e,h,K=>K e h
 | o :: l,e,h,K=>GOp P B st ops o e h λe' h'=>RL P B st ops l e' h' K
theorem A60 {B:AH8->Prop} {ops:Array Oper} {K:Env->AH8->Prop} (l:List Oper):∀ (k:Nat),(∀ j,l[j]? =ops[k + j]?)-> ∀ e h,RL P B st ops l e h K->LI P B st ops (List.range' k l.length) e h K:=by
 induction l with
 | nil=>intro k _ e h H;exact H
 | cons o l ih=>
   intro k hk e h H
   have h0:ops[k]? =some o:=by simpa using (hk 0).symm
   have ih':=ih (k + 1) (λj=>by have:=hk<|j + 1;grind)
   simp only [List.length_cons,List.range'_succ,LI,h0]
   exact GOp.mono (λv h' hr=>ih' _ _ hr) H
theorem ATx {B:AH8->Prop} {ops:Array Oper} {Q:Exit->Act->World->Prop} {o:Oper} {n:Nat} {e:Env} {a:Act} {K:Env->AH8->Prop} {K':Act->World->Prop}
 (hi:ops[i]? =some o) (hd:∀ x,o.dst=some x->x < n) (r:Rep n e a) (H:GOp P B st ops o e w.heap K)
 (hK:∀ e' a' w',Rep n e' a'->Same w w'->K e' w'.heap->K' a' w'):wpOp P ops Q i K' a w:=by
 unfold wpOp;simp only [hi];unfold GOp at H;rw [r.yields ops];split
 ·rename_i hw;rw [if_pos hw] at H;refine .inl ?_;unfold Oper.wp;rw [r.eval]
  have eff:∀ {K:Value->AH8->Prop},AZs P e.ev o w.heap K->(∀ v h',K v h'-> ∀ a' w',Rep n (e.put o.dst v) a'->Same w w'->w'.heap=h'->K' a' w')->o.upon P a K' Q ((execOp e.ev o).run P w):=by
   intro K H hK
   have H':=H w rfl
   generalize (execOp e.ev o).run P w=res at H'
   cases res with
   | ok nx w'=>
     cases nx <;> simp only [AY9] at H' <;> simp only [Oper.upon]
     case value v=>exact hK _ _ H'.2 _ _ (r.put _ _ hd) H'.1 rfl
     case skip=>exact hK _ _ H'.2 _ _ (r.put _ _ hd) H'.1 rfl
     case enter f args=>
      refine Calls.mono H'.2 λen w'' ⟨v,he,hs,hk⟩=>?_
      subst he
      exact hK _ _ hk _ _ (r.put _ _ hd) (H'.1.trans hs) rfl
   | halt x w'=>exact H'.elim
  unfold SOp at H;split at H
  ·obtain ⟨v,hv,hk⟩:=H;rw [hv w];exact hK _ _ _ (r.put _ _ hd) (.refl w) hk
  ·obtain ⟨v,hv,hk⟩:=H;rw [hv w rfl];exact hK _ _ _ (r.put _ _ hd) (.refl w) hk
  ·obtain ⟨v,hb,hv,hk⟩:=H;rw [hv w hb];exact hK _ _ _ (r.put _ _ hd) (.refl w) hk
  ·grind
  grind
 ·rename_i hw;rw [if_neg hw] at H;exact hK _ _ _ (r.put _ _ hd) (.refl w) H
def reach (ops:Array Oper):Nat->Nat->Nat->Bool
 | 0,_,_=>false
 | n + 1,i,j=>match ops[j]? with
   | none=>false
   | some o=>o.after.any λed=>Region.binds .any ed && (Nat.beq ed.on i || reach ops n i ed.on)
def indep (st:Bool) (ops:Array Oper) (x y:Oper):Bool:=
 x.apart ops y && match kindOf x.op,kindOf y.op with
  | .pure,_=>true
  | _,.pure=>true
  | .read,.read=>true
  | .read,.eff=>st
  | .eff,.read=>st
  | _,_=>false
def ARa (o:Oper):Bool:=match o.op with | .select .. =>false | _=>true
def Ado (m i:Nat):Bool:=Nat.beq (Nat.land (Nat.shiftRight m i) 1) 1
def A61 (acc:List Nat) (o:Oper):Nat:=o.after.toList.foldl (λm ed=>bif Region.binds .any ed then Nat.lor m (Nat.lor (Nat.shiftLeft 1 ed.on)<|acc.getD ed.on 0) else m) 0
def Awd:List Oper->List Nat->List Nat
 | [],acc=>acc
 | o :: l,acc=>Awd l<|acc ++ [A61 acc o]
def A8a (ops:Array Oper):List Nat:=Awd ops.toList []
def ahead (ops:Array Oper) (i j:Nat):Bool:=Ado ((A8a ops).getD j 0) i
def AYt (ops:Array Oper):Bool->Bool
 | false=>false
 | true=>(List.range ops.size).any λj=>(List.range j).any λi=>match ops[i]?,ops[j]? with
   | some oi,some oj=>(match kindOf oi.op,kindOf oj.op with | .read,.eff=>true | .eff,.read=>true | _,_=>false) && !ahead ops i j
   | _,_=>false
def Ali (n:Nat) (ops:Array Oper) (draw:Bool):Bool:=
 (List.range ops.size).all λj=>match ops[j]? with
   | none=>false
   | some oj=>(match oj.dst with | some d=>decide (d < n) | none=>true) && ARa oj &&
     (!draw || (oj.after.all (λed=> !Region.binds .any ed || decide (ed.on < j)) &&
       (List.range j).all λi=>match ops[i]? with
         | none=>false
         | some oi=>ahead ops i j || (indep false ops oi oj || (indep true ops oi oj && AYt ops true))))
theorem Asm (a b i:Nat):Ado (Nat.lor a b) i=(Ado a i || Ado b i):=by
 have h:∀ m,Ado m i=m.testBit i:=λm=>by
  unfold Ado
  rw [Nat.testBit]
  show Nat.beq (m >>> i &&& 1) 1=(1 &&& (m >>> i) != 0)
  rw [Nat.and_comm]
  rcases Nat.mod_two_eq_zero_or_one (m >>> i) with h | h <;> simp [Nat.one_and_eq_mod_two,h] <;> rfl
 simp_all
theorem A0v (k i:Nat) (h:Ado (Nat.shiftLeft 1 k) i=true):k=i:=by
 have h2:∀ m,Ado m i=m.testBit i:=λm=>by
  unfold Ado
  rw [Nat.testBit]
  show Nat.beq (m >>> i &&& 1) 1=(1 &&& (m >>> i) != 0)
  rw [Nat.and_comm]
  rcases Nat.mod_two_eq_zero_or_one (m >>> i) with h | h <;> simp [Nat.one_and_eq_mod_two,h] <;> rfl
 rw [h2] at h;have h3:(1 <<< k).testBit i=true:=h;rw [Nat.one_shiftLeft,Nat.testBit_two_pow] at h3;simpa using h3
theorem Ajm (i:Nat):Ado 0 i=false:=by
 unfold Ado;show Nat.beq (0 >>> i &&& 1) 1=false;rw [Nat.zero_shiftRight];rfl
theorem Auk {acc:List Nat} {o:Oper} (h:Ado (A61 acc o) i=true):∃ ed∈o.after,Region.binds .any ed=true/\(ed.on=i∨Ado (acc.getD ed.on 0) i=true):=by
 have key:∀ (l:List Edge) (m:Nat),Ado (l.foldl (λm ed=>bif Region.binds .any ed then Nat.lor m (Nat.lor (Nat.shiftLeft 1 ed.on)<|acc.getD ed.on 0) else m) m) i=true->Ado m i=true∨ ∃ ed∈l,Region.binds .any ed=true/\(ed.on=i∨Ado (acc.getD ed.on 0) i=true):=by
  intro l
  induction l with
  | nil=>grind
  | cons ed l ih=>
    intro m h
    rcases ih _ h with h1 | ⟨ed',hm,hh⟩
    ·dsimp only at h1
     cases hb:Region.binds .any ed with
     | false=>grind
     | true=>
       rw [hb] at h1
       simp only [cond_true] at h1
       rw [Asm,Asm,Bool.or_eq_true,Bool.or_eq_true] at h1
       rcases h1 with h1 | h1 | h1
       ·exact .inl h1
       ·exact .inr ⟨ed,List.mem_cons_self ..,hb,.inl<|A0v _ _ h1⟩
       grind
    grind
 rcases key _ 0 h with h1 | ⟨ed,hm,hh⟩
 ·rw [Ajm] at h1;cases h1
 grind
theorem Aqu {ops:Array Oper}:∀ (l:List Oper) (acc:List Nat),(∀ k,l[k]? =ops[acc.length + k]?)->(∀ j i,Ado (acc.getD j 0) i=true-> ∃ n,reach ops n i j=true)-> ∀ j i,Ado ((Awd l acc).getD j 0) i=true-> ∃ n,reach ops n i j=true:=by
 intro l
 induction l with
 | nil=>intro acc _ hacc;exact hacc
 | cons o l ih=>
   intro acc hk hacc
   refine ih _ (λk=>by have:=hk<|k + 1;grind) λj i hb=>?_
   rcases Nat.lt_trichotomy j acc.length with hj | hj | hj
   ·rw [List.getD_eq_getElem?_getD,List.getElem?_append_left hj,<- List.getD_eq_getElem?_getD] at hb
    grind
   ·subst hj
    rw [List.getD_eq_getElem?_getD,List.getElem?_append_right<|Nat.le_refl _] at hb
    simp only [Nat.sub_self,List.getElem?_cons_zero,Option.getD_some] at hb
    obtain ⟨ed,hm,hbd,hh⟩:=Auk hb
    have ho:ops[acc.length]? =some o:=by have:=hk 0;grind
    rcases hh with rfl | hh
    ·refine ⟨1,?_⟩
     simp only [reach,ho]
     refine Array.any_eq_true'.2 ⟨ed,hm,?_⟩
     simp_all
    ·obtain ⟨n,hn⟩:=hacc _ _ hh
     refine ⟨n + 1,?_⟩
     simp only [reach,ho]
     refine Array.any_eq_true'.2 ⟨ed,hm,?_⟩
     grind
   ·rw [List.getD_eq_getElem?_getD,List.getElem?_eq_none (by simp;omega)] at hb
    simp only [Option.getD_none] at hb
    rw [Ajm] at hb;cases hb
theorem AYa {ops:Array Oper} (h:ahead ops i j=true):∃ n,reach ops n i j=true:=
 Aqu ops.toList [] AI9 (λj i hb=>by rw [List.getD_eq_getElem?_getD,List.getElem?_nil,Option.getD_none,Ajm] at hb;cases hb) j i h
theorem Aqv {ops:Array Oper} {x y:Oper} {b:Bool} (h:indep false ops x y=true):indep b ops x y=true:=by
 unfold indep at h ⊢;grind
section
variable {P:Program} {ops:Array Oper}
theorem Env.put_comm (e:Env) {x y:Option Nat} (v u:Value) (h:∀ d,x=some d->y≠some d):
 (e.put x v).put y u=(e.put y u).put x v:=by
 cases x with
 | none=>rfl
 | some d=>
   cases y with
   | none=>rfl
   | some d'=>
     have hne:d≠d':=λhe=>h d rfl (he ▸ rfl)
     funext t
     show (e.set d v).set d' u t=(e.set d' u).set d v t
     by_cases h1:t=d
     ·subst h1;rw [Env.set_other _ _ hne,Env.set_same,Env.set_same]
     ·by_cases h2:t=d'
      ·subst h2;rw [Env.set_same,Env.set_other _ _ h1,Env.set_same]
      ·rw [Env.set_other _ _ h2,Env.set_other _ _ h1,Env.set_other _ _ h1,Env.set_other _ _ h2]
theorem Env.ev_put {e:Env} {d:Option Nat} (h:∀ k,d=some k->x≠ .tmp k):(e.put d v).ev x=e.ev x:=by
 cases d with
 | none=>rfl
 | some k=>
   cases x with
   | tmp t=>exact Env.set_other e v (λhe=>h k rfl (he ▸ rfl))
   | _=>rfl
theorem Adv (o:Oper) (hs:ARa o=true) (e:Env) (d:Option Nat) (v:Value) (h:∀ k,d=some k->k ∉ o.looksAt ops):
 execOp (e.put d v).ev o=execOp e.ev o:=
 execOp_congr o (λcs b he=>by simp [ARa,he] at hs) λx hx=>Env.ev_put λk hk hxk=>h k hk (by
  subst hxk
  exact List.mem_append_left _<|List.mem_filterMap.2 ⟨.tmp k,by simpa using hx,rfl⟩)
theorem Adw (o:Oper) (e:Env) (d:Option Nat) (v:Value) (h:∀ k,d=some k->k ∉ o.looksAt ops):
 Region.wanted o (ASn ops<|e.put d v)=Region.wanted o (ASn ops e):=by
 cases d with
 | none=>rfl
 | some k=>
   unfold Region.wanted
   cases hg:o.guard with
   | none=>rfl
   | some gw=>
     obtain ⟨g,want⟩:=gw
     have hy:ASn ops (e.put (some k) v) g=ASn ops e g:=by
      unfold ASn
      cases ht:(ops[g]?).bind (·.dst) with
      | none=>rfl
      | some t=>
        have hne:t≠k:=λhe=>h k rfl (by subst he;simp [Oper.looksAt,hg,ht])
        show (match e.set k v t with | .bool b=>some b | _=>none)=_
        rw [Env.set_other e v hne]
     simp only [hy]
theorem SOp.swap {B:AH8->Prop} {x y:Oper} {e:Env} {h:AH8} {K:Env->AH8->Prop}
 (hk:(match kindOf x.op,kindOf y.op with | .pure,_=>true | _,.pure=>true | .read,.read=>true | .read,.eff=>st | .eff,.read=>st | _,_=>false)=true)
 (ey:∀ (e:Env) v,execOp (e.put x.dst v).ev y=execOp e.ev y) (ex:∀ (e:Env) v,execOp (e.put y.dst v).ev x=execOp e.ev x)
 (pc:∀ (e:Env) v u,(e.put x.dst v).put y.dst u=(e.put y.dst u).put x.dst v)
 (H1:SOp P B st x e h λe' h'=>SOp P B st y e' h' K):SOp P B st y e h λe' h'=>SOp P B st x e' h' K:=by
 unfold SOp at H1 ⊢
 have un:∀ {u u2:Value} {w:World},(execOp e.ev y).run P w= .ok (.value u) w->(execOp e.ev y).run P w= .ok (.value u2) w->u2=u:=by
  grind
 cases kx:kindOf x.op with
 | pure=>
   simp only [kx] at H1;obtain ⟨v,hv,hh⟩:=H1;have hv':∀ u,Agc P (e.put y.dst u).ev x v:=λu w=>by rw [ex];exact hv w
   cases ky:kindOf y.op with
   | pure=>
     simp only [ky] at hh;obtain ⟨u,hu,hh⟩:=hh;exact ⟨u,λw=>by rw [<- ey e v];exact hu w,v,hv' u,by grind⟩
   | read=>
     cases st with
     | false=>
       simp only [ky] at hh;obtain ⟨u,hu,hh⟩:=hh;exact ⟨u,λw hw=>by rw [<- ey e v];exact hu w hw,v,hv' u,by grind⟩
     | true=>
       simp only [ky] at hh;obtain ⟨u,hb,hu,hh⟩:=hh;exact ⟨u,hb,λw hw=>by rw [<- ey e v];exact hu w hw,v,hv' u,by grind⟩
   | eff=>
     simp only [ky] at hh;refine ⟨hh.1,λw hw=>?_⟩;have:=hh.2 w hw;rw [ey e v] at this;exact this.mono λu h' hk=>⟨hk.1,v,hv' u,by grind⟩
   | wr=>
     simp only [ky] at hh;intro w hw;have:=hh w hw;rw [ey e v] at this;exact this.mono λu h' hk=>⟨v,hv' u,by grind⟩
 | read=>
   cases st with
   | false=>
     simp only [kx] at H1;obtain ⟨v,hv,hh⟩:=H1;cases ky:kindOf y.op with
     | pure=>
       simp only [ky] at hh;obtain ⟨u,hu,hh⟩:=hh;exact ⟨u,λw=>by rw [<- ey e v];exact hu w,v,λw hw=>by rw [ex];exact hv w hw,by grind⟩
     | read=>
       simp only [ky] at hh;obtain ⟨u,hu,hh⟩:=hh;exact ⟨u,λw hw=>by rw [<- ey e v];exact hu w hw,v,λw hw=>by rw [ex];exact hv w hw,by grind⟩
     | eff=>grind
     | wr=>grind
   | true=>
     simp only [kx] at H1;obtain ⟨v,hb,hv,hh⟩:=H1;have hv':∀ u,Awc P B (e.put y.dst u).ev x v:=λu w hw=>by rw [ex];exact hv w hw
     cases ky:kindOf y.op with
     | pure=>
       simp only [ky] at hh;obtain ⟨u,hu,hh⟩:=hh;exact ⟨u,λw=>by rw [<- ey e v];exact hu w,v,hb,hv' u,by grind⟩
     | read=>
       simp only [ky] at hh;obtain ⟨u,hb2,hu,hh⟩:=hh;exact ⟨u,hb2,λw hw=>by rw [<- ey e v];exact hu w hw,v,hb,hv' u,by grind⟩
     | eff=>
       simp only [ky] at hh;refine ⟨hh.1,λw hw=>?_⟩;have:=hh.2 w hw;rw [ey e v] at this;exact this.mono λu h' hk=>⟨hk.1,v,hk.1,hv' u,by grind⟩
     | wr=>grind
 | eff=>
   simp only [kx] at H1;obtain ⟨hb,H1⟩:=H1;cases ky:kindOf y.op with
   | pure=>
     simp only [ky] at H1;obtain ⟨v0,h0,_,u,hu,_⟩:=H1.some;have hu':Agc P e.ev y u:=λw=>by rw [<- ey e v0];exact hu w
     refine ⟨u,hu',hb,λw hw=>?_⟩;rw [ex];refine (H1 w hw).mono λv h' ⟨hb',u2,hu2,hk⟩=>⟨hb',?_⟩;have:u2=u:=un (hu'<|AWu h) (by rw [<- ey e v];exact hu2 _);grind
   | read=>
     cases st with
     | false=>grind
     | true=>
       simp only [ky] at H1;obtain ⟨v0,h0,_,u,_,hu,_⟩:=H1.some;have hu':Awc P B e.ev y u:=λw hw=>by rw [<- ey e v0];exact hu w hw
       refine ⟨u,hb,hu',hb,λw hw=>?_⟩;rw [ex];refine (H1 w hw).mono λv h' ⟨hb',u2,_,hu2,hk⟩=>⟨hb',?_⟩;have:u2=u:=un (hu' (AWu h) hb) (by rw [<- ey e v];exact hu2 _ hb);grind
   | eff=>grind
   | wr=>grind
 | wr=>
   simp only [kx] at H1;cases ky:kindOf y.op with
   | pure=>
     simp only [ky] at H1;obtain ⟨v0,h0,u,hu,_⟩:=H1.some;have hu':Agc P e.ev y u:=λw=>by rw [<- ey e v0];exact hu w
     refine ⟨u,hu',λw hw=>?_⟩;rw [ex];refine (H1 w hw).mono λv h' ⟨u2,hu2,hk⟩=>?_;have:u2=u:=un (hu'<|AWu h) (by rw [<- ey e v];exact hu2 _);grind
   | read=>grind
   | eff=>grind
   | wr=>grind
theorem SOp.congr {B:AH8->Prop} {x:Oper} {e e2:Env} {h:AH8} {K K2:Env->AH8->Prop} (he:execOp e2.ev x=execOp e.ev x) (hK:∀ v h',K (e.put x.dst v) h'->K2 (e2.put x.dst v) h')
 (H:SOp P B st x e h K):SOp P B st x e2 h K2:=by
 unfold SOp at H ⊢
 cases kx:kindOf x.op with
 | pure=>simp only [kx] at H;obtain ⟨v,hv,hh⟩:=H;exact ⟨v,λw=>by rw [he];exact hv w,hK _ _ hh⟩
 | read=>
   cases st with
   | false=>simp only [kx] at H;obtain ⟨v,hv,hh⟩:=H;exact ⟨v,λw hw=>by rw [he];exact hv w hw,hK _ _ hh⟩
   | true=>simp only [kx] at H;obtain ⟨v,hb,hv,hh⟩:=H;exact ⟨v,hb,λw hw=>by rw [he];exact hv w hw,hK _ _ hh⟩
 | eff=>simp only [kx] at H;exact ⟨H.1,λw hw=>by rw [he];exact (H.2 w hw).mono λv h' hk=>⟨hk.1,hK _ _ hk.2⟩⟩
 | wr=>simp only [kx] at H;exact λw hw=>by rw [he];exact (H w hw).mono λv h' hk=>hK _ _ hk
theorem GOp.swap {B:AH8->Prop} {st:Bool} {x y:Oper} (hx:ARa x=true) (hy:ARa y=true) (hi:indep st ops x y=true) {e:Env} {h:AH8} {K:Env->AH8->Prop}
 (H:GOp P B st ops x e h λe' h'=>GOp P B st ops y e' h' K):GOp P B st ops y e h λe' h'=>GOp P B st ops x e' h' K:=by
 simp only [indep,Bool.and_eq_true] at hi;obtain ⟨hap,hk⟩:=hi;obtain ⟨h1,h2,h3⟩:=Oper.apart_spec hap;have wy:∀ (e:Env) v,Region.wanted y (ASn ops<|e.put x.dst v)=Region.wanted y (ASn ops e):=λe v=>Adw y e x.dst v h1;have wx:∀ (e:Env) v,Region.wanted x (ASn ops<|e.put y.dst v)=Region.wanted x (ASn ops e):=λe v=>Adw x e y.dst v h3;have ey:∀ (e:Env) v,execOp (e.put x.dst v).ev y=execOp e.ev y:=λe v=>Adv (ops:=ops) y hy e x.dst v h1;have ex:∀ (e:Env) v,execOp (e.put y.dst v).ev x=execOp e.ev x:=λe v=>Adv (ops:=ops) x hx e y.dst v h3;have pc:∀ (e:Env) v u,(e.put x.dst v).put y.dst u=(e.put y.dst u).put x.dst v:=λe v u=>Env.put_comm e v u h2;unfold GOp at H ⊢;by_cases hwx:Region.wanted x (ASn ops e)=true
 ·rw [if_pos hwx] at H;by_cases hwy:Region.wanted y (ASn ops e)=true
  ·rw [if_pos hwy];have H1:SOp P B st x e h λe' h'=>SOp P B st y e' h' K:=H.mono λv h' hh=>by grind
   refine (SOp.swap hk ey ex pc H1).mono λu h' hh=>?_;grind
  ·rw [if_neg hwy];dsimp only;rw [wx,if_pos hwx];refine SOp.congr (ex e undef) (λv h' hh=>?_) H;grind
 ·rw [if_neg hwx] at H;by_cases hwy:Region.wanted y (ASn ops e)=true
  ·rw [if_pos hwy];rw [wy,if_pos hwy] at H;refine SOp.congr (ey e undef).symm (λv h' hh=>?_) H;grind
  grind
theorem LI.mono {B:AH8->Prop} {st:Bool} {l:List Nat} {e:Env} {h:AH8} {K K':Env->AH8->Prop} (hK:∀ e h,K e h->K' e h) (H:LI P B st ops l e h K):LI P B st ops l e h K':=by
 induction l generalizing e h with
 | nil=>exact hK _ _ H
 | cons i l ih=>
   simp only [LI] at H ⊢
   split
   ·grind
   ·rename_i o ho;simp only [ho] at H;exact H.mono λv h' hh=>ih hh
theorem LI.bubble {B:AH8->Prop} {oi:Oper} (hi:ops[i]? =some oi) (hsi:ARa oi=true) (R1:List Nat):∀ {R2:List Nat} {e:Env} {h:AH8} {K:Env->AH8->Prop},
 (∀ k∈R1,∃ ok,ops[k]? =some ok/\ARa ok=true/\indep st ops ok oi=true)->LI P B st ops (R1 ++ i :: R2) e h K->LI P B st ops (i :: (R1 ++ R2)) e h K:=by
 induction R1 with
 | nil=>grind
 | cons k R1 ih=>
   intro R2 e h K hind H;obtain ⟨ok,hok,hsk,hik⟩:=hind k<|List.mem_cons_self ..;simp only [List.cons_append,LI,hok] at H;have H2:GOp P B st ops ok e h λe' h'=>LI P B st ops (i :: (R1 ++ R2)) e' h' K:=H.mono λv h' hh=>ih (λk' hk'=>hind k'<|List.mem_cons_of_mem _ hk') hh;simp only [LI,hi] at H2;have H3:=GOp.swap hsk hsi hik H2;simp only [LI,hi,List.cons_append,hok];exact H3
theorem Ack {n:Nat} (H:Ali n ops draw=true) {oj:Oper} (hj:ops[j]? =some oj):
 (∀ d,oj.dst=some d->d < n)/\ARa oj=true/\(draw=true->(∀ ed∈oj.after,Region.binds .any ed=true->ed.on < j)/\
   ∀ i oi,i < j->ops[i]? =some oi->(∃ n,reach ops n i j=true)∨indep (AYt ops true) ops oi oj=true):=by
 have hlt:j < ops.size:=(Array.getElem?_eq_some_iff.1 hj).1;unfold Ali at H;have H:=List.all_eq_true.1 H j<|List.mem_range.2 hlt;simp only [hj,Bool.and_eq_true] at H;obtain ⟨⟨h1,h2⟩,h3⟩:=H;refine ⟨λd hd=>by grind,h2,λhdr=>?_⟩;subst hdr;simp only [Bool.not_true,Bool.false_or,Bool.and_eq_true] at h3;obtain ⟨h4,h5⟩:=h3;refine ⟨λed hed hbd=>?_,λi oi hij hoi=>?_⟩
 ·have:=Array.all_eq_true_iff_forall_mem.1 h4 ed hed;grind
 ·have:=List.all_eq_true.1 h5 i<|List.mem_range.2 hij;simp only [hoi,Bool.or_eq_true,Bool.and_eq_true] at this;rcases this with h | h | ⟨h,hst⟩
  ·exact .inl<|AYa h
  ·exact .inr<|Aqv h
  grind
theorem AWv {L:Nat->Prop} (hL:∀ j oj,L j->ops[j]? =some oj-> ∀ ed∈oj.after,Region.binds .any ed=true->L ed.on):∀ (n i j:Nat) (oj:Oper),ops[j]? =some oj->
 (∀ ed∈oj.after,Region.binds .any ed=true->L ed.on)->reach ops n i j=true->L i:=by
 intro n;induction n with
 | zero=>intro i j oj _ _ h;cases h
 | succ n ih=>
   intro i j oj hoj hall h;simp only [reach,hoj] at h;obtain ⟨ed,hed,hb⟩:=Array.any_eq_true'.1 h;simp only [Bool.and_eq_true,Bool.or_eq_true] at hb;have hl:=hall ed hed hb.1
   rcases hb.2 with he | hr
   ·rw [<- Nat.eq_of_beq_eq_true he];exact hl
   ·cases n with
    | zero=>cases hr
    | succ n=>
      cases ho:ops[ed.on]? with
      | none=>simp [reach,ho] at hr
      | some o2=>grind
theorem Aoc {B:AH8->Prop} {n:Nat} {Q:Exit->Act->World->Prop} (hok:Ali n ops true=true):∀ (fuel:Nat) (R:List Nat) (listed:Array Bool) (e:Env) (a:Act) (w:World) (K:Env->AH8->Prop),
 R.length=fuel->List.Pairwise (· < ·) R->listed.size=ops.size->(∀ j,j∈R↔(j < ops.size/\listed.getD j true=false))->
 (∀ j oj,listed.getD j false=true->ops[j]? =some oj-> ∀ ed∈oj.after,Region.binds .any ed=true->listed.getD ed.on false=true)->
 Rep n e a->LI P B (AYt ops true) ops R e w.heap K->(∀ e' a' w',Rep n e' a'->Same w w'->K e' w'.heap->Q .normal a' w')->
 wpAny P .any ops Q fuel listed a w:=by
 intro fuel
 induction fuel with
 | zero=>
   intro R listed e a w K hlen _ _ hmem _ r H hK
   obtain rfl:R=[]:=List.length_eq_zero_iff.1 hlen
   refine ⟨?_,hK _ _ _ r (.refl w) H⟩
   refine List.eq_nil_iff_forall_not_mem.2 λj hj=>?_
   obtain ⟨hjl,oj,hoj,_⟩:=mem_ready.1 hj
   grind
 | succ fuel ih=>
   intro R listed e a w K hlen hpw hsz hmem hcl r H hK
   constructor
   ·intro hr
    exfalso
    cases R with
    | nil=>simp at hlen
    | cons j R=>
      obtain ⟨hjs,hjl⟩:=(hmem j).1 (List.mem_cons_self ..)
      obtain ⟨oj,hoj⟩:∃ oj,ops[j]? =some oj:=⟨ops[j],Array.getElem?_eq_getElem hjs⟩
      have:j∈Region.ready .any ops listed:=mem_ready.2 ⟨hjl,oj,hoj,λed hed hbd=>by
       obtain ⟨_,_,hd⟩:=Ack hok hoj
       have hlt:=(hd rfl).1 ed hed hbd
       cases hl:listed.getD ed.on false with
       | true=>rfl
       | false=>
         exfalso
         have hs:ed.on < ops.size:=Nat.lt_trans hlt hjs
         have hm:ed.on∈j :: R:=(hmem ed.on).2 ⟨hs,by
          grind⟩
         rcases List.mem_cons.1 hm with he | he
         ·omega
         ·have:=(List.pairwise_cons.1 hpw).1 _ he
          omega⟩
      grind
   ·intro i hi
    obtain ⟨hil,oi,hoi,hall⟩:=mem_ready.1 hi
    have his:i < ops.size:=(Array.getElem?_eq_some_iff.1 hoi).1
    have hiR:i∈R:=(hmem i).2 ⟨his,hil⟩
    obtain ⟨R1,R2,rfl⟩:=List.append_of_mem hiR
    obtain ⟨hdi,hsi,hdri⟩:=Ack hok hoi
    have hpw':=List.pairwise_append.1 hpw
    have hb:LI P B (AYt ops true) ops (i :: (R1 ++ R2)) e w.heap K:=by
     refine LI.bubble hoi hsi R1 (λk hk=>?_) H
     have hki:k < i:=hpw'.2.2 k hk i<|List.mem_cons_self ..
     have hks:k < ops.size:=Nat.lt_trans hki his
     obtain ⟨ok,hok'⟩:∃ ok,ops[k]? =some ok:=⟨ops[k],Array.getElem?_eq_getElem hks⟩
     refine ⟨ok,hok',(Ack hok hok').2.1,?_⟩
     rcases (hdri rfl).2 k ok hki hok' with ⟨nre,hre⟩ | h
     ·exfalso
      have h1:listed.getD k false=true:=AWv (L:=λj=>listed.getD j false=true) hcl nre k i oi hoi hall hre
      grind
     ·exact h
    simp only [LI,hoi] at hb
    refine ATx hoi hdi r hb λe' a' w' r' hs hk=>?_
    have his':i < listed.size:=by omega
    refine ih (R1 ++ R2) _ e' a' w' K ?_ ?_ ?_ ?_ ?_ r' hk λe2 a2 w2 r2 s2 k2=>hK _ _ _ r2 (hs.trans s2) k2
    ·grind
    ·grind
    ·simp [hsz]
    ·intro j
     have hm:=hmem j
     constructor
     ·intro hj
      have hj':j∈R1 ++ i :: R2:=by
       grind
      obtain ⟨h1,h2⟩:=hm.1 hj'
      have hne:i≠j:=by
       intro he
       subst he
       rcases List.mem_append.1 hj with h | h
       ·grind
       ·have:=(List.pairwise_cons.1 hpw'.2.1).1 i h;omega
      exact ⟨h1,by rw [getD_set_ne true hne];exact h2⟩
     ·rintro ⟨h1,h2⟩
      have hne:i≠j:=by
       intro he
       subst he
       simp [his'] at h2
      rw [getD_set_ne true hne] at h2
      grind
    ·intro j oj hj hoj ed hed hbd
     by_cases hij:i=j
     ·subst hij
      rw [hoi] at hoj
      injection hoj with hoj
      subst hoj
      exact getD_set_true<|hall ed hed hbd
     ·rw [getD_set_ne false hij] at hj
      exact getD_set_true<|hcl j oj hj hoj ed hed hbd
theorem Aio {B:AH8->Prop} {n:Nat} (hmx:P.follows .mixedOrders=true) {Q:Exit->Act->World->Prop} {e:Env} {a:Act} {K:Env->AH8->Prop} (hok:Ali n ops draw=true) (r:Rep n e a)
 (H:RL P B (AYt ops draw) ops ops.toList e w.heap K) (hK:∀ e' a' w',Rep n e' a'->Same w w'->K e' w'.heap->Q .normal a' w'):(Code.region id ops draw).wp P Q a w:=by
 have HL:LI P B (AYt ops draw) ops (List.range ops.size) e w.heap K:=by
  rw [List.range_eq_range',<- Array.length_toList]
  exact A60 ops.toList 0 AI9 e _ H
 cases draw with
 | true=>
   refine wp_region_draw λt=>?_
   simp only [Region.schedule,hmx,Bool.true_or,if_true]
   exact wpAny_sound ops.size t _ a _ (Aoc hok ops.size (List.range ops.size) (Array.replicate ops.size false) e a { w with drawn:=w.drawn + 1 } K AI9
    List.pairwise_lt_range AI9 (λj=>by
     simp_all)
    (λj oj hj _=>by
      exfalso
      rcases Nat.lt_or_ge j ops.size with h' | h'
      ·simp [h'] at hj
      grind) r HL
    (λe' a' w' r' hs hk=>hK e' a' w' r' ⟨hs.os,hs.tape,hs.output⟩ hk))
 | false=>
   refine wp_region ?_
   have:∀ (l:List Nat) (e:Env) (a:Act) (w:World) (K:Env->AH8->Prop),Rep n e a->LI P B (AYt ops false) ops l e w.heap K->(∀ e' a' w',Rep n e' a'->Same w w'->K e' w'.heap->Q .normal a' w')->wpOps P ops Q l a w:=by
    intro l
    induction l with
    | nil=>intro e a w K r H hK;exact hK _ _ _ r (.refl w) H
    | cons i l ih=>
      intro e a w K r H hK
      rw [wpOps_cons]
      simp only [LI] at H
      cases hoi:ops[i]? with
      | none=>
        simp only [hoi] at H
        unfold wpOp
        grind
      | some oi=>
        simp only [hoi] at H
        refine ATx hoi (Ack hok hoi).1 r H λe' a' w' r' hs hk=>?_
        exact ih e' a' w' K r' hk λe2 a2 w2 r2 s2 k2=>hK _ _ _ r2 (hs.trans s2) k2
   grind
def Ahe (n:Nat) (ops:Array Oper):Bool:=
 (List.range ops.size).all λj=>match ops[j]? with
   | none=>false
   | some oj=>(match oj.dst with | some d=>decide (d < n) | none=>true) && ARa oj
def Alj (ops:Array Oper) (draw:Bool):Bool:=
 !draw || (List.range ops.size).all λj=>match ops[j]? with
  | none=>false
  | some oj=>(oj.after.all (λed=> !Region.binds .any ed || decide (ed.on < j)) &&
     (List.range j).all λi=>match ops[i]? with
       | none=>false
       | some oi=>ahead ops i j || (indep false ops oi oj || (indep true ops oi oj && AYt ops true)))
theorem Awe {n:Nat} (hb:Ahe n ops=true) (ho:Alj ops draw=true):Ali n ops draw=true:=by
 unfold Ali;refine List.all_eq_true.2 λj hj=>?_;have h1:=List.all_eq_true.1 hb j hj
 cases hoj:ops[j]? with
 | none=>grind
 | some oj=>
   simp only [hoj] at h1 ⊢
   rw [h1,Bool.true_and]
   cases draw with
   | false=>rfl
   | true=>
     unfold Alj at ho
     grind
theorem AYb {n:Nat} (H:Ahe n ops=true) {oj:Oper} (hj:ops[j]? =some oj):(∀ d,oj.dst=some d->d < n)/\ARa oj=true:=by
 have hlt:j < ops.size:=(Array.getElem?_eq_some_iff.1 hj).1;have h1:=List.all_eq_true.1 H j<|List.mem_range.2 hlt;grind
theorem RL.frame0 {B:AH8->Prop} {l:List Oper} {e:Env} {h:AH8} {K:Env->AH8->Prop} (H:RL P B st ops l e h K):RL P B st ops l e h λe' h'=>K e' h'/\ ∀ t,(∀ o∈l,o.dst≠some t)->e' t=e t:=by
 induction l generalizing e h with
 | nil=>exact ⟨H,λ_ _=>rfl⟩
 | cons o l ih=>
   refine GOp.mono (λv h' hh=>?_) H
   have mono:∀ {l:List Oper} {e:Env} {h:AH8} {K K':Env->AH8->Prop},(∀ e h,K e h->K' e h)->RL P B st ops l e h K->RL P B st ops l e h K':=by
    intro l
    induction l with
    | nil=>intro e h K K' hK H;exact hK _ _ H
    | cons o l ih=>intro e h K K' hK H;exact GOp.mono (λv h' hh=>ih hK hh) H
   refine mono (λe2 h2 hk=>⟨hk.1,λt ht=>?_⟩)<|ih hh
   rw [hk.2 t λo' ho'=>ht o'<|List.mem_cons_of_mem _ ho']
   cases hd:o.dst with
   | none=>rfl
   | some d=>exact Env.set_other _ _ λhe=>ht o (List.mem_cons_self ..) (by rw [hd,he])
def RW (P:Program) (ops:Array Oper) (draw:Bool) (K:Env->AH8->Prop) (e:Env) (h:AH8):Prop:=
 P.follows .mixedOrders=true-> ∀ (n id:Nat) (a:Act) (w:World) (Q':Exit->Act->World->Prop),Ahe n ops=true->Rep n e a->w.heap=h->
  (∀ e' a' w',Rep n e' a'->Same w w'->K e' w'.heap->(∀ t,(∀ o∈ops.toList,o.dst≠some t)->e' t=e t)->Q' .normal a' w')->(Code.region id ops draw).wp P Q' a w
theorem RW.of_RL {B:AH8->Prop} {K:Env->AH8->Prop} {e:Env} {h:AH8} (ho:Alj ops draw=true) (H:RL P B (AYt ops draw) ops ops.toList e h K):RW P ops draw K e h:=by
 intro hmx n id a w Q' hb r hw hQ;subst hw;exact Aio hmx (Awe hb ho) r H.frame0 λe' a' w' r' s k=>hQ e' a' w' r' s k.1 k.2
theorem RW.mono {K K':Env->AH8->Prop} {e:Env} {h:AH8} (hK:∀ e h,K e h->K' e h) (H:RW P ops draw K e h):RW P ops draw K' e h:=
 λhmx n id a w Q' hb r hw hQ=>H hmx n id a w Q' hb r hw λe' a' w' r' s k hf=>hQ e' a' w' r' s (hK _ _ k) hf
end
def AWw (K:Env->AH8->Prop) (Q:Exit->Env->AH8->Prop):Exit->Env->AH8->Prop
 | .normal=>K
 | x=>Q x
def AWx (id:Nat) (Q:Exit->Env->AH8->Prop):Exit->Env->AH8->Prop
 | .exit id'=>if id'=id then Q .normal else Q (.exit id')
 | x=>Q x
def Aqw (Q:Exit->Env->AH8->Prop):Exit->Env->AH8->Prop
 | .goto _=>λ_ _=>False
 | x=>Q x
def W (P:Program):Code->(Exit->Env->AH8->Prop)->Env->AH8->Prop
 | .skip,Q,e,h=>Q .normal e h
 | .region _ ops draw,Q,e,h=>RW P ops draw (Q .normal) e h
 | .seq a b,Q,e,h=>W P a (AWw (λe h=>W P b Q e h) Q) e h
 | .cond c x y,Q,e,h=> ∃ b,e.ev c= .bool b/\(b=true->W P x Q e h)/\(b=false->W P y Q e h)
 | .block id c,Q,e,h=>W P c (AWx id Q) e h
 | .loop c,Q,e,h=> ∃ (I:Nat->Env->AH8->Prop) (n:Nat),I n e h/\ ∀ n e h,I n e h->W P c (AWw (λe' h'=> ∃ n',n' < n/\I n' e' h') Q) e h
 | .exit id,Q,e,h=>Q (.exit id) e h
 | .ret,Q,e,h=>Q .ret e h
 | .scope c,Q,e,h=>W P c (Aqw Q) e h
 | .label _,Q,e,h=>Q .normal e h
 | _,_,_,_=>False
def okC (n:Nat):Code->Bool
 | .region _ ops _=>Ahe n ops
 | .seq a b=>okC n a && okC n b
 | .cond _ a b=>okC n a && okC n b
 | .block _ c=>okC n c
 | .loop c=>okC n c
 | .scope c=>okC n c
 | .skip | .exit _ | .ret | .label _=>true
 | _=>false
theorem RL.mono {P:Program} {B:AH8->Prop} {st:Bool} {ops:Array Oper} {l:List Oper} {e:Env} {h:AH8} {K K':Env->AH8->Prop} (hK:∀ e h,K e h->K' e h) (H:RL P B st ops l e h K):RL P B st ops l e h K':=by
 induction l generalizing e h with
 | nil=>exact hK _ _ H
 | cons o l ih=>exact GOp.mono (λv h' hh=>ih hh) H
theorem W.mono {P:Program} {c:Code}:∀ {Q Q':Exit->Env->AH8->Prop} {e:Env} {h:AH8},(∀ x e h,Q x e h->Q' x e h)->W P c Q e h->W P c Q' e h:=by
 induction c with
 | skip=>intro Q Q' e h hQ H;exact hQ _ _ _ H
 | region id ops draw=>intro Q Q' e h hQ H;exact RW.mono (λe h hk=>hQ _ _ _ hk) H
 | seq a b iha ihb=>
   intro Q Q' e h hQ H
   refine iha (λx e h hx=>?_) H
   cases x <;> first | exact hQ _ _ _ hx | exact ihb hQ hx
 | cond c x y ihx ihy=>
   intro Q Q' e h hQ H
   obtain ⟨b,hb,h1,h2⟩:=H
   exact ⟨b,hb,λhh=>ihx hQ<|h1 hh,λhh=>ihy hQ<|h2 hh⟩
 | block id c ih=>
   intro Q Q' e h hQ H
   refine ih (λx e h hx=>?_) H
   cases x <;> first | exact hQ _ _ _ hx | skip
   rename_i id'
   by_cases hid:id'=id
   ·simp only [AWx,hid,if_true] at hx ⊢;grind
   ·simp only [AWx,hid,if_false] at hx ⊢;grind
 | loop c ih=>
   intro Q Q' e h hQ H
   obtain ⟨I,n,h0,hI⟩:=H
   refine ⟨I,n,h0,λn e h hi=>ih (λx e h hx=>?_)<|hI n e h hi⟩
   cases x <;> first | exact hQ _ _ _ hx | exact hx
 | exit id=>intro Q Q' e h hQ H;exact hQ _ _ _ H
 | ret=>intro Q Q' e h hQ H;exact hQ _ _ _ H
 | rangeFunc=>intro Q Q' e h _ H;exact H.elim
 | scope c ih=>
   intro Q Q' e h hQ H
   refine ih (λx e h hx=>?_) H
   cases x <;> first | exact hQ _ _ _ hx | exact hx
 | label=>intro Q Q' e h hQ H;exact hQ _ _ _ H
 | goto=>intro Q Q' e h _ H;exact H.elim
 | refuse=>intro Q Q' e h _ H;exact H.elim
theorem W.sound (hmx:P.follows .mixedOrders=true) {n:Nat} {c:Code}:∀ {Q:Exit->Env->AH8->Prop} {Q':Exit->Act->World->Prop} {e:Env} {a:Act} {w:World},okC n c=true->Rep n e a->W P c Q e w.heap->
 (∀ x e' a' w',Rep n e' a'->Same w w'->Q x e' w'.heap->Q' x a' w')->c.wp P Q' a w:=by
 induction c with
 | skip=>intro Q Q' e a w _ r H hQ;exact wp_skip (hQ _ _ _ _ r (.refl w) H)
 | region id ops draw=>intro Q Q' e a w hok r H hQ;exact H hmx n id a w Q' hok r rfl (λe' a' w' r' s k _=>hQ _ _ _ _ r' s k)
 | seq x y ihx ihy=>
   intro Q Q' e a w hok r H hQ
   simp only [okC,Bool.and_eq_true] at hok
   refine wp_seq<|ihx hok.1 r H λex e' a' w' r' s k=>?_
   cases ex <;> first | exact hQ _ _ _ _ r' s k | exact ihy hok.2 r' k λAk e2 a2 w2 r2 s2 k2=>hQ _ _ _ _ r2 (s.trans s2) k2
 | cond c x y ihx ihy=>
   intro Q Q' e a w hok r H hQ
   simp only [okC,Bool.and_eq_true] at hok
   obtain ⟨b,hb,h1,h2⟩:=H
   refine wp_cond_split (t:=b) (by rw [r.eval];exact hb) (λhh=>ihx hok.1 r (h1 hh) hQ) (λhh=>ihy hok.2 r (h2 hh) hQ)
 | block id c ih=>
   intro Q Q' e a w hok r H hQ
   refine wp_block<|ih hok r H λex e' a' w' r' s k=>?_
   cases ex <;> first | exact hQ _ _ _ _ r' s k | skip
   rename_i id'
   by_cases hid:id'=id
   ·simp only [AWx,Exit.inBlock,hid,if_true] at k ⊢;grind
   ·simp only [AWx,Exit.inBlock,hid,if_false] at k ⊢;grind
 | loop c ih=>
   intro Q Q' e a w hok r H hQ
   obtain ⟨I,k,h0,hI⟩:=H
   refine wp_loop_ghost (λk a' w'=> ∃ e',Rep n e' a'/\Same w w'/\I k e' w'.heap) k ⟨e,r,.refl w,h0⟩ λk1 a1 w1 ⟨e1,r1,s1,i1⟩=>?_
   refine ih hok r1 (hI k1 e1 w1.heap i1) λex e' a' w' r' s k=>?_
   cases ex <;> first | exact hQ _ _ _ _ r' (s1.trans s) k | skip
   obtain ⟨k2,hlt,hk⟩:=k
   exact ⟨k2,hlt,e',r',s1.trans s,hk⟩
 | exit id=>intro Q Q' e a w _ r H hQ;exact wp_exit (hQ _ _ _ _ r (.refl w) H)
 | ret=>intro Q Q' e a w _ r H hQ;exact wp_ret (hQ _ _ _ _ r (.refl w) H)
 | rangeFunc=>intro Q Q' e a w _ _ H;exact H.elim
 | scope c ih=>
   intro Q Q' e a w hok r H hQ
   refine wp_scope_straight<|ih hok r H λex e' a' w' r' s k=>?_
   cases ex <;> first | exact hQ _ _ _ _ r' s k | exact k.elim
 | label=>intro Q Q' e a w _ r H hQ;exact wp_label (hQ _ _ _ _ r (.refl w) H)
 | goto=>intro Q Q' e a w _ _ H;exact H.elim
 | refuse=>intro Q Q' e a w _ _ H;exact H.elim
def inM (m t:Nat):Bool:=Nat.beq (Nat.land (Nat.shiftRight m t) 1) 1
def mix (m:Nat) (s e:Env):Env:=λt=>bif inM m t then s t else e t
def Afr (m:Nat):Code->Bool
 | .region _ ops _=>ops.toList.all λo=>match o.dst with | some d=>inM m d | none=>true
 | .seq a b=>Afr m a && Afr m b
 | .cond _ a b=>Afr m a && Afr m b
 | .block _ c=>Afr m c
 | .loop c=>Afr m c
 | .scope c=>Afr m c
 | _=>true
def setL:List (Nat × Value)->Env->Env
 | [],e=>e
 | (t,v) :: l,e=>(setL l e).set t v
def Adi:List (Nat × Value)->Env->Prop
 | [],_=>True
 | (t,v) :: l,e=>e t=v/\Adi l e
theorem Adi.setL {l:List (Nat × Value)} {e:Env} (h:Adi l e):setL l e=e:=by
 induction l with
 | nil=>rfl
 | cons x l ih=>
   obtain ⟨t,v⟩:=x
   obtain ⟨h1,h2⟩:=h
   show (QF.setL l e).set t v=e
   rw [ih h2]
   funext u
   by_cases hu:u=t
   ·subst hu;rw [Env.set_same,h1]
   ·rw [Env.set_other _ _ hu]
theorem Ajn {m:Nat} {s e:Env} (h:∀ t,inM m t=false->s t=e t):mix m s e=s:=by
 funext t;unfold mix;grind
theorem W.frame {m:Nat} {c:Code}:∀ {Q:Exit->Env->AH8->Prop} {e:Env} {h:AH8},Afr m c=true->W P c Q e h->W P c (λx e' h'=>Q x e' h'/\ ∀ t,inM m t=false->e' t=e t) e h:=by
 induction c with
 | skip=>intro Q e h _ H;exact ⟨H,λ_ _=>rfl⟩
 | region id ops draw=>
   intro Q e h hm H hmx n id a w Q' hb r hw hQ
   refine H hmx n id a w Q' hb r hw λe' a' w' r' s k hf=>hQ e' a' w' r' s ⟨k,λt ht=>hf t λo ho hd=>?_⟩ hf
   have h1:=List.all_eq_true.1 hm o ho
   grind
 | seq a b iha ihb=>
   intro Q e h hm H
   simp only [Afr,Bool.and_eq_true] at hm
   refine W.mono (c:=a) (λx e1 h1 hx=>?_)<|iha hm.1 H
   obtain ⟨hx,hf⟩:=hx
   cases x <;> first | exact ⟨hx,hf⟩ | exact W.mono (c:=b) (λx e2 h2 hy=>⟨hy.1,λt ht=>(hy.2 t ht).trans (hf t ht)⟩) (ihb hm.2 hx)
 | cond c x y ihx ihy=>
   intro Q e h hm H
   simp only [Afr,Bool.and_eq_true] at hm
   obtain ⟨b,hb,h1,h2⟩:=H
   exact ⟨b,hb,λhh=>ihx hm.1<|h1 hh,λhh=>ihy hm.2<|h2 hh⟩
 | block id c ih=>
   intro Q e h hm H
   refine W.mono (c:=c) (λx e1 h1 hx=>?_)<|ih hm H
   obtain ⟨hx,hf⟩:=hx
   cases x <;> first | exact ⟨hx,hf⟩ | skip
   rename_i id'
   by_cases hid:id'=id
   ·simp only [AWx,hid,if_true] at hx ⊢;grind
   ·simp only [AWx,hid,if_false] at hx ⊢;grind
 | loop c ih=>
   intro Q e h hm H
   obtain ⟨I,k,h0,hI⟩:=H
   refine ⟨λk e1 h1=>I k e1 h1/\ ∀ t,inM m t=false->e1 t=e t,k,⟨h0,λ_ _=>rfl⟩,λk1 e1 h1 hi=>?_⟩
   refine W.mono (λx e2 h2 hx=>?_)<|ih hm<|hI k1 e1 h1 hi.1
   obtain ⟨hx,hf⟩:=hx
   cases x <;> first | exact ⟨hx,λt ht=>(hf t ht).trans (hi.2 t ht)⟩ | (obtain ⟨k2,hlt,hk⟩:=hx;exact ⟨k2,hlt,hk,λt ht=>(hf t ht).trans (hi.2 t ht)⟩)
 | exit id=>intro Q e h _ H;exact ⟨H,λ_ _=>rfl⟩
 | ret=>intro Q e h _ H;exact ⟨H,λ_ _=>rfl⟩
 | rangeFunc=>intro Q e h _ H;exact H.elim
 | scope c ih=>
   intro Q e h hm H
   refine W.mono (c:=c) (λx e1 h1 hx=>?_)<|ih hm H
   obtain ⟨hx,hf⟩:=hx
   cases x <;> first | exact ⟨hx,hf⟩ | exact hx
 | label=>intro Q e h _ H;exact ⟨H,λ_ _=>rfl⟩
 | goto=>intro Q e h _ H;exact H.elim
 | refuse=>intro Q e h _ H;exact H.elim
section
variable {P:Program} {Q:Exit->Env->AH8->Prop} {e:Env} {h:AH8}
theorem AIa (H:Q .normal e h):W P .skip Q e h:=H
theorem AIc (H:Q .ret e h):W P .ret Q e h:=H
theorem AIq (H:Q (.exit id) e h):W P (.exit id) Q e h:=H
theorem AH3 {a b:Code} (H:W P a (AWw (λe h=>W P b Q e h) Q) e h):W P (.seq a b) Q e h:=H
theorem AH6 {c:Code} (H:W P c (AWx id Q) e h):W P (.block id c) Q e h:=H
theorem Asn {c:Code} (H:W P c (Aqw Q) e h):W P (.scope c) Q e h:=H
theorem Aso {l:Nat} (H:Q .normal e h):W P (.label l) Q e h:=H
theorem AIf {l:List Oper} (H:RL P (λ_=>True) false l.toArray l e h (Q .normal)):W P (.region id l.toArray false) Q e h:=RW.of_RL (B:=λ_=>True) rfl H
theorem AZt {l:List Oper} (hst:(AYt l.toArray true,Alj l.toArray true)=(false,true)) (H:RL P (λ_=>True) false l.toArray l e h (Q .normal)):W P (.region id l.toArray true) Q e h:=
 RW.of_RL (B:=λ_=>True) (Prod.mk.inj hst).2 (by grind)
theorem AKg {l:List Oper} (B:AH8->Prop) (hst:(AYt l.toArray true,Alj l.toArray true)=(true,true)) (H:RL P B true l.toArray l e h (Q .normal)):W P (.region id l.toArray true) Q e h:=
 RW.of_RL (B:=B) (Prod.mk.inj hst).2 (by grind)
theorem AI2 {c:Operand} {x y:Code} (hc:e.ev c= .bool true) (H:W P x Q e h):W P (.cond c x y) Q e h:=⟨true,hc,λ_=>H,λhh=>by cases hh⟩
theorem AI6 {c:Operand} {x y:Code} (hc:e.ev c= .bool false) (H:W P y Q e h):W P (.cond c x y) Q e h:=⟨false,hc,(λhh=>by cases hh),λ_=>H⟩
theorem AMc {c:Code} (m:Nat) (live:X->List (Nat × Value)) (J:Nat->X->AH8->Prop) (hm:Afr m c=true) (k0:Nat) (x0:X) (h0:J k0 x0 h) (hl:Adi (live x0) e)
 (H:∀ k x s h',J k x h'->W P c (AWw (λe' h''=> ∃ k' x',k' < k/\J k' x' h''/\Adi (live x') e') Q) (setL (live x)<|mix m s e) h'):W P (.loop c) Q e h:=by
 refine ⟨λk e1 h1=>(∃ x,J k x h1/\Adi (live x) e1)/\ ∀ t,inM m t=false->e1 t=e t,k0,⟨⟨x0,h0,hl⟩,λ_ _=>rfl⟩,λk e1 h1 hi=>?_⟩;obtain ⟨⟨x,hJ,hA⟩,hf1⟩:=hi;have he:setL (live x) (mix m e1 e)=e1:=by rw [Ajn hf1];exact hA.setL
 have H1:=H k x e1 h1 hJ;rw [he] at H1;refine W.mono (λy e2 h2 hx=>?_)<|W.frame hm H1;obtain ⟨hx,hf⟩:=hx;cases y <;> first | exact hx | skip
 obtain ⟨k',x',hlt,hJ',hA'⟩:=hx;exact ⟨k',hlt,⟨x',hJ',hA'⟩,λt ht=>(hf t ht).trans (hf1 t ht)⟩
theorem Adx {a b:Code} (m:Nat) (live:X->List (Nat × Value)) (J:X->AH8->Prop) (hm:Afr m a=true) (H:W P a (AWw (λe' h'=> ∃ x,J x h'/\Adi (live x) e') Q) e h)
 (H2:∀ x s h',J x h'->W P b Q (setL (live x)<|mix m s e) h'):W P (.seq a b) Q e h:=by
 refine AH3<|W.mono (λx e1 h1 hx=>?_)<|W.frame hm H;obtain ⟨hx,hf⟩:=hx;cases x <;> first | exact hx | skip
 obtain ⟨x,hJ,hA⟩:=hx;have he:setL (live x) (mix m e1 e)=e1:=by rw [Ajn hf];exact hA.setL
 have:=H2 x e1 h1 hJ;rw [he] at this;exact this
end
section
variable {P:Program} {Q:Exit->Env->AH8->Prop} {K:Env->AH8->Prop} {e:Env} {h:AH8}
theorem q_t (H:K e h):AWw K Q .normal e h:=H
theorem q_b (H:Q .normal e h):AWx id Q .normal e h:=H
theorem AIr (H:Q (.exit id) e h):AWw K Q (.exit id) e h:=H
theorem AJt (H:Q .normal e h):AWx id Q (.exit id) e h:=by simp only [AWx,if_true];exact H
theorem Aip {id':Nat} (hne:id'≠id) (H:Q (.exit id') e h):AWx id Q (.exit id') e h:=by simp only [AWx,if_neg hne];exact H
theorem AIt (H:Q .ret e h):AWw K Q .ret e h:=H
theorem AKa (H:Q .ret e h):AWx id Q .ret e h:=H
theorem Awf (H:Q .ret e h):Aqw Q .ret e h:=H
end
def Aoe (P:Program) (f:FuncId):Prop:= ∃ fn,P.funcs[f]? =some fn/\(fn.name == "runtime.NumGoroutine")=false/\fn.body.isNone=false
def AI7 (P:Program) (f:FuncId) (args:Array Value) (h:AH8) (K:Value->AH8->Prop):Prop:=
 Aoe P f/\ ∀ w:World,w.heap=h->Calls P f args w λen w'=> ∃ v,en= .returned v/\Same w w'/\K v w'.heap
theorem AI7.mono {P:Program} {f:FuncId} {args:Array Value} {h:AH8} {K K':Value->AH8->Prop} (H:AI7 P f args h K) (hK:∀ v h',K v h'->K' v h'):AI7 P f args h K':=
 ⟨H.1,λw hw=>Calls.mono (H.2 w hw) λen w' ⟨v,he,hs,hk⟩=>⟨v,he,hs,hK _ _ hk⟩⟩
def Aof:List Value->Env
 | [],_=>undef
 | v :: _,0=>v
 | _ :: l,t + 1=>Aof l t
theorem Aog (l:List Value) (t:Nat):Aof l t=(l[t]?).getD undef:=by
 induction l generalizing t with
 | nil=>simp [Aof]
 | cons v l ih=>
   cases t with
   | zero=>simp [Aof]
   | succ t=>simp [Aof,ih]
def Amn (P:Program) (rs:List ResultVar) (e:Env) (h:AH8) (v:Value):Prop:=
 ∀ (fn:Func) (tmps:Array Value) (w:World),fn.results=rs.toArray->(∀ t,tmps.getD t undef=e t)->w.heap=h->(results fn tmps).run P w= .ok v w
theorem AWk {e:Env} {h:AH8}:Amn P [] e h (.tuple #[]):=λfn tmps w hr _ _=>by simp [results,hr]
theorem AId {e:Env} {h:AH8} {t:Tmp}:Amn P [.tmp t] e h (e t):=λfn tmps w hr hg _=>by rw [<- hg t];simp [results,hr]
theorem AJu {e:Env} {h:AH8} {t u:Tmp}:Amn P [.tmp t,.tmp u] e h (.tuple #[e t,e u]):=λfn tmps w hr hg _=>by rw [<- hg t,<- hg u];simp [results,hr]
theorem ASo {e:Env} {h:AH8} {t u v:Tmp}:Amn P [.tmp t,.tmp u,.tmp v] e h (.tuple #[e t,e u,e v]):=λfn tmps w hr hg _=>by rw [<- hg t,<- hg u,<- hg v];simp [results,hr]
def A39 (P:Program) (rs:List ResultVar) (K:Value->AH8->Prop):Exit->Env->AH8->Prop
 | .normal,e,h | .ret,e,h=> ∃ v,Amn P rs e h v/\K v h
 | _,_,_=>False
theorem AJi (hmx:P.follows .mixedOrders=true) {fn:Func} {c:Code} {rs:List ResultVar} {n:Nat} {h:AH8} {K:Value->AH8->Prop}
 (hf:P.funcs[f]? =some fn) (hn:(fn.name == "runtime.NumGoroutine")=false) (hb:fn.body=some c) (hr:fn.results=rs.toArray) (hnt:fn.ntmps=n) (hl:Nat.ble l.length n=true) (hok:okC n c=true)
 (H:W P c (A39 P rs K) (Aof l) h):AI7 P f l.toArray h K:=by
 refine ⟨⟨fn,hf,hn,by simp [hb]⟩,λw hw=>?_⟩;subst hw;have hl:=Nat.le_of_ble_eq_true hl;refine calls_of_wp hf hb<|W.sound hmx (n:=n) hok ⟨?_,rfl,λt=>?_⟩ H λx e' a' w' r s k=>?_
 ·grind
 ·rw [Aog];simp only [Array.getD_eq_getD_getElem?];grind
 ·cases x with
  | normal=>obtain ⟨v,hv,hk⟩:=k;exact ⟨r.defers,v,hv fn _ w' hr r.get rfl,v,rfl,s,hk⟩
  | ret=>obtain ⟨v,hv,hk⟩:=k;exact ⟨r.defers,v,hv fn _ w' hr r.get rfl,v,rfl,s,hk⟩
  | exit id=>exact k.elim
  | goto l=>exact k.elim
  | panic ch=>exact k.elim
  | outgrown=>exact k.elim
end Go.QF
variable {h h' h0:Go.QF.AH8} {B:Go.QF.AH8->Prop} {K:Go.QF.Env->Go.QF.AH8->Prop} {K':Value->Go.QF.AH8->Prop}
namespace Go.QF
def AM6 (h:AH8) (a:Addr):Option Value:=
 match h[a.block]? with
 | some (.cells c _ _)=>if a.spot.isSome then none else c[a.off]?
 | _=>none
def Acl (h:AH8) (a:Addr):Bool:=
 match h[a.block]? with
 | some (.cells _ _ (lo,hi))=>lo<=a.off && a.off < hi
 | _=>false
def Afd (h:AH8) (a:Addr) (v:Value):AH8:=
 h.modify a.block fun
  | .cells c elem frozen=> .cells (if a.spot.isSome then c else c.setIfInBounds a.off v) elem frozen
  | o=>o
theorem Agd (w:World) (a:Addr):w.cell? a=AM6 w.heap a:=rfl
def SlT (P:Program) (t el s:Nat):Prop:=P.underlying t=some (.slice el)/\ ∃ i,P.info? el=some i/\i.size=s
def Ahf:TypeDesc->Bool
 | .struct _ | .array _ _=>true
 | _=>false
def NaT (P:Program) (t:Nat):Prop:=(∃ d,P.underlying t=some d/\Ahf d=false)/\ ∃ i,P.info? t=some i/\i.size=1
def AgT (P:Program) (t s:Nat):Prop:=(∃ d,P.underlying t=some d/\Ahf d=true)/\ ∃ i,P.info? t=some i/\i.size=s
def ZeT (P:Program) (t:Nat) (zero:Value) (bytes:Nat):Prop:= ∃ i,P.info? t=some i/\i.zero=some zero/\i.size=zero.cells.size/\i.bytes=bytes
def Acm (P:Program) (t:Nat) (k:IntKind):Prop:=P.underlying t=some (.int k)
def FdT (P:Program) (t f off ft:Nat):Prop:= ∃ fs fd,P.underlying t=some (.struct fs)/\fs[f]? =some fd/\fd.offset=off/\fd.type=ft
section
variable {P:Program} {t:TypeId}
theorem AS6 {d:TypeDesc} (h:P.underlying t=some d) (w:World):(underlying t).run P w= .ok d w:=by simp [underlying,h]
theorem A3b {i:TypeInfo} (h:P.info? t=some i) (w:World):(typeInfo t).run P w= .ok i w:=by simp [typeInfo,h]
theorem AXt {i:TypeInfo} (h:P.info? t=some i) (w:World):(sizeOf t).run P w= .ok i.size w:=by simp [sizeOf,A3b h]
theorem Aoh {i:TypeInfo} (h:P.info? t=some i) (hz:i.zero=some v) (w:World):(zeroValue t).run P w= .ok v w:=by simp [zeroValue,A3b h,hz]
theorem Asp {d:TypeDesc} (h:P.underlying t=some d) (w:World):(isAgg t).run P w= .ok (Ahf d) w:=by
 cases d <;> simp [isAgg,AS6 h,Ahf]
end
section
variable {P:Program} {B:AH8->Prop} {st:Bool} {ops:Array Oper} {rest:List Oper} {e:Env} {h:AH8} {K:Env->AH8->Prop}
variable {d:Nat} {ty:TypeId} {pos:String} {af:Array Edge}
theorem AIu (H:K e h):RL P B st ops [] e h K:=H
theorem ANz {o:Oper} (hg:o.guard=none) (hk:kindOf o.op= .pure) (hv:Agc P e.ev o v) (H:RL P B st ops rest (e.put o.dst v) h K):RL P B st ops (o :: rest) e h K:=by
 show GOp P B st ops o e h _;unfold GOp;rw [if_pos<|by simp [Region.wanted,hg]];unfold SOp;grind
theorem AWy {o:Oper} (hg:o.guard=none) (hk:kindOf o.op= .eff) (hb:B h) (hv:AZs P e.ev o h λv h'=>B h'/\RL P B st ops rest (e.put o.dst v) h' K):RL P B st ops (o :: rest) e h K:=by
 show GOp P B st ops o e h _;unfold GOp;rw [if_pos<|by simp [Region.wanted,hg]];unfold SOp;grind
theorem A4a {o:Oper} (hg:o.guard=none) (hk:kindOf o.op= .wr) (hv:AZs P e.ev o h λv h'=>RL P B st ops rest (e.put o.dst v) h' K):RL P B st ops (o :: rest) e h K:=by
 show GOp P B st ops o e h _;unfold GOp;rw [if_pos<|by simp [Region.wanted,hg]];unfold SOp;grind
theorem AJw {op:Op} (t:Nat) (b:Bool) (ht:(ops[j]?).bind (·.dst)=some t) (hv:e t= .bool b) (hb:(b == want)=false)
 (H:RL P B st ops rest (e.put dst undef) h K):RL P B st ops (⟨dst,op,ty,pos,af,some (j,want)⟩ :: rest) e h K:=by
 show GOp P B st ops _ e h _;unfold GOp
 rw [if_neg]
 ·exact H
 ·simp only [Region.wanted,ASn,ht,hv];grind
theorem ARm {op:Op} (t:Nat) (ht:(ops[j]?).bind (·.dst)=some t) (hv:e t=undef)
 (H:RL P B st ops rest (e.put dst undef) h K):RL P B st ops (⟨dst,op,ty,pos,af,some (j,want)⟩ :: rest) e h K:=by
 show GOp P B st ops _ e h _;unfold GOp
 rw [if_neg]
 ·exact H
 ·simp only [Region.wanted,ASn,ht,hv,undef];simp
theorem AJ6 {op:Op} (t:Nat) (b:Bool) (ht:(ops[j]?).bind (·.dst)=some t) (hv:e t= .bool b) (hb:(b == want)=true)
 (H:RL P B st ops (⟨dst,op,ty,pos,af,none⟩ :: rest) e h K):RL P B st ops (⟨dst,op,ty,pos,af,some (j,want)⟩ :: rest) e h K:=by
 have H:GOp P B st ops ⟨dst,op,ty,pos,af,none⟩ e h _:=H;show GOp P B st ops _ e h _;unfold GOp at H ⊢;rw [if_pos<|by simp [Region.wanted]] at H
 rw [if_pos]
 ·exact H
 ·simp only [Region.wanted,ASn,ht,hv];grind
theorem AHy (H:RL P B st ops rest (e.mv d x) h K):RL P B st ops (⟨some d,.move x,ty,pos,af,none⟩ :: rest) e h K:=
 ANz (v:=e.ev x) rfl rfl (λw=>rfl) H
theorem AIw (H:RL P B st ops rest (e.mv d x) h K):RL P B st ops (⟨some d,.assign x,ty,pos,af,none⟩ :: rest) e h K:=
 ANz (v:=e.ev x) rfl rfl (λw=>rfl) H
theorem AIm {c:Operand} (hc:e.ev c= .bool true) (H:RL P B st ops rest (e.mv d x) h K):RL P B st ops (⟨some d,.pick c x y,ty,pos,af,none⟩ :: rest) e h K:=
 ANz (v:=e.ev x) rfl rfl (λw=>by simp only [execOp,hc];rfl) H
theorem AIn {c:Operand} (hc:e.ev c= .bool false) (H:RL P B st ops rest (e.mv d y) h K):RL P B st ops (⟨some d,.pick c x y,ty,pos,af,none⟩ :: rest) e h K:=
 ANz (v:=e.ev y) rfl rfl (λw=>by simp only [execOp,hc];rfl) H
theorem Aif {n c:Nat} {a:Option Addr} (hT:SlT P t el s) (hx:e.ev x= .slice a n c) (H:RL P B st ops rest (e.set d<|.int .i64 n) h K):
 RL P B st ops (⟨some d,.call ⟨.builtin .len,#[x],#[t]⟩,ty,pos,af,none⟩ :: rest) e h K:=
 ANz (v:= .int .i64 n) rfl rfl (λw=>by
  obtain ⟨hu,_⟩:=hT
  simp [execOp,resolve,invoke,builtin,Builtin.len_,AS6 hu,hx,goInt]) H
theorem AI0 {t:TypeId} {b:Int} (hx:e.ev x= .int k a) (hy:e.ev y= .int k b) (H:RL P B st ops rest (e.set d<|.int k<|k.wrap<|a + b) h K):
 RL P B st ops (⟨some d,.binOp .add t x y t2,ty,pos,af,none⟩ :: rest) e h K:=
 ANz (v:= .int k<|k.wrap<|a + b) rfl rfl (λw=>by simp [execOp,hx,hy,eqGuard,binOp,Op.intArith]) H
theorem AMy {t:TypeId} {b:Int} (hx:e.ev x= .int k a) (hy:e.ev y= .int k b) (H:RL P B st ops rest (e.set d<|.int k<|k.wrap<|a - b) h K):
 RL P B st ops (⟨some d,.binOp .sub t x y t2,ty,pos,af,none⟩ :: rest) e h K:=
 ANz (v:= .int k<|k.wrap<|a - b) rfl rfl (λw=>by simp [execOp,hx,hy,eqGuard,binOp,Op.intArith]) H
theorem APo {t:TypeId} {b:Int} (hx:e.ev x= .int k a) (hy:e.ev y= .int k b) (H:RL P B st ops rest (e.set d<|.int k<|k.wrap<|a * b) h K):
 RL P B st ops (⟨some d,.binOp .mul t x y t2,ty,pos,af,none⟩ :: rest) e h K:=
 ANz (v:= .int k<|k.wrap<|a * b) rfl rfl (λw=>by simp [execOp,hx,hy,eqGuard,binOp,Op.intArith]) H
theorem AWz {t:TypeId} {b:Int} (hx:e.ev x= .int k a) (hy:e.ev y= .int k b) (hb:b≠0) (H:RL P B st ops rest (e.set d<|.int k<|k.wrap<|a.tdiv b) h K):
 RL P B st ops (⟨some d,.binOp .quo t x y t2,ty,pos,af,none⟩ :: rest) e h K:=
 ANz (v:= .int k<|k.wrap<|a.tdiv b) rfl rfl (λw=>by simp [execOp,hx,hy,eqGuard,binOp,Op.intDiv,hb]) H
theorem ALg {t:TypeId} {b:Int} (hx:e.ev x= .int k a) (hy:e.ev y= .int k b) (hb:b≠0) (H:RL P B st ops rest (e.set d<|.int k<|a.tmod b) h K):
 RL P B st ops (⟨some d,.binOp .rem t x y t2,ty,pos,af,none⟩ :: rest) e h K:=
 ANz (v:= .int k<|a.tmod b) rfl rfl (λw=>by simp [execOp,hx,hy,eqGuard,binOp,Op.intDiv,hb]) H
def Amo (op:BinOp) (a b:Int):Option Bool:=
 match op with
 | .eql=>some (a == b) | .neq=>some (a != b) | .lss=>some (decide (a < b)) | .leq=>some (decide (a<=b)) | .gtr=>some (decide (a > b)) | .geq=>some (decide (a >= b))
 | _=>none
theorem Ajo {op:BinOp} {t:TypeId} {b:Int} {r:Bool} (hx:e.ev x= .int k a) (hy:e.ev y= .int k b) (hr:Amo op a b=some r) (H:RL P B st ops rest (e.set d<|.bool r) h K):
 RL P B st ops (⟨some d,.binOp op t x y t2,ty,pos,af,none⟩ :: rest) e h K:=
 ANz (v:= .bool r) rfl rfl (λw=>by
  cases op <;> simp only [Amo] at hr <;> first | (injection hr with hr;subst hr;simp [execOp,hx,hy,eqGuard,binOp,Op.intCmp];done) | cases hr) H
theorem Aum {op:BinOp} {t:TypeId} {b:Int} {r:Bool} (hx:e.ev x= .int k a) (hy:e.ev y= .int k b) (hr:Amo op a b=some r)
 (HT:r=true->RL P B st ops rest (e.set d<|.bool true) h K) (HF:r=false->RL P B st ops rest (e.set d<|.bool false) h K):
 RL P B st ops (⟨some d,.binOp op t x y t2,ty,pos,af,none⟩ :: rest) e h K:=by
 refine Ajo hx hy hr ?_
 cases r
 ·exact HF rfl
 ·exact HT rfl
theorem Adj {t:TypeId} (hx:e.ev x= .int k a) (H:RL P B st ops rest (e.set d<|.int k<|k.wrap<|0 - a) h K):
 RL P B st ops (⟨some d,.unOp .neg t x,ty,pos,af,none⟩ :: rest) e h K:=
 ANz (v:= .int k<|k.wrap<|0 - a) rfl rfl (λw=>by simp [execOp,hx,Op.unary,Op.intArith]) H
theorem AMp {t:TypeId} {b:Bool} (hx:e.ev x= .bool b) (H:RL P B st ops rest (e.set d<|.bool !b) h K):
 RL P B st ops (⟨some d,.unOp .not t x,ty,pos,af,none⟩ :: rest) e h K:=
 ANz (v:= .bool !b) rfl rfl (λw=>by simp [execOp,hx,Op.unary]) H
theorem ASz {dst:TypeId} (hs:Acm P src k') (hd:Acm P dst k) (hx:e.ev x= .int k' a) (H:RL P B st ops rest (e.set d<|.int k<|k.wrap a) h K):
 RL P B st ops (⟨some d,.convert src dst x,ty,pos,af,none⟩ :: rest) e h K:=
 ANz (v:= .int k<|k.wrap a) rfl rfl (λw=>by
  unfold Acm at hs hd
  simp [execOp,hx,convert,AS6 hs,AS6 hd,Conv.intToInt]) H
theorem AJs {vs:Array Value} (hx:e.ev x= .tuple vs) (hv:vs[i]? =some v) (H:RL P B st ops rest (e.set d v) h K):
 RL P B st ops (⟨some d,.extract x i,ty,pos,af,none⟩ :: rest) e h K:=
 ANz (v:=v) rfl rfl (λw=>by simp [execOp,hx,Instr.extract,hv]) H
theorem Aqx {i:Operand} {a:Addr} {len cap:Nat} {n:Int} (hT:SlT P t el s) (hx:e.ev x= .slice (some a) len cap) (hi:e.ev i= .int k n) (h0:0<=n) (h1:n < len)
 (H:RL P B st ops rest (e.set d<|.pointer<|some<|a.add<|n.toNat * s) h K):RL P B st ops (⟨some d,.indexAddr t x i,ty,pos,af,none⟩ :: rest) e h K:=
 ANz (v:= .pointer<|some<|a.add<|n.toNat * s) rfl rfl (λw=>by
  obtain ⟨hu,i,hi',hs⟩:=hT
  simp [execOp,hx,hi,Instr.indexAt,asIntOf,AS6 hu,AXt hi',hs,h0,h1]) H
theorem Alk {t:TypeId} (ht:NaT P t) {a:Addr} (w:World) (hc:AM6 w.heap a=some v) (ρ:Operand->Value) (x:Operand) (hx:ρ x= .pointer (some a)) (o:Oper) (ho:o.op= .load t x):
 (execOp ρ o).run P w= .ok (.value v) w:=by
 obtain ⟨⟨d,hd,hna⟩,_⟩:=ht;have hc':w.cell? a=some v:=hc;have h2:=Asp (P:=P) hd w;rw [hna] at h2;simp [execOp,ho,Instr.loadAt,hx,Instr.sureAddr,loadVar,h2,hc']
theorem AI1 {t:TypeId} {a:Addr} (ht:NaT P t) (hx:e.ev x= .pointer (some a)) (hc:AM6 h a=some v) (H:RL P B false ops rest (e.set d v) h K):
 RL P B false ops (⟨some d,.load t x,ty,pos,af,none⟩ :: rest) e h K:=by
 show GOp P B false ops _ e h _;unfold GOp;rw [if_pos<|by simp [Region.wanted]];exact ⟨v,λw hw=>Alk ht w (by grind) _ x hx _ rfl,H⟩
theorem AJe {t:TypeId} {a:Addr} (ht:NaT P t) (hx:e.ev x= .pointer (some a)) (hb:B h) (hc:∀ h',B h'->AM6 h' a=some v) (H:RL P B true ops rest (e.set d v) h K):
 RL P B true ops (⟨some d,.load t x,ty,pos,af,none⟩ :: rest) e h K:=by
 show GOp P B true ops _ e h _;unfold GOp;rw [if_pos<|by simp [Region.wanted]];exact ⟨v,hb,λw hw=>Alk ht w (hc _ hw) _ x hx _ rfl,H⟩
def isOne:Value->Bool
 | .agg _=>false
 | .tuple _=>false
 | _=>true
theorem Aqy {a:Addr} {v0:Value} (h1:isOne v=true) (hc:w.cell? a=some v0) (hf:w.frozen? a=false):(store a v).run P w= .ok () (w.setCell a v):=by
 unfold store;cases v <;> first | (simp only [Sem.run,hc,hf];rfl) | (simp [isOne] at h1)
theorem A0w {t:TypeId} {a:Addr} {v0:Value} (ht:NaT P t) (hx:e.ev x= .pointer (some a)) (hy:e.ev y=v) (h1:isOne v=true) (hc:AM6 h a=some v0) (hf:Acl h a=false)
 (H:RL P B st ops rest e (Afd h a v) K):RL P B st ops (⟨none,.store t x y,ty,pos,af,none⟩ :: rest) e h K:=by
 refine A4a rfl rfl λw hw=>?_;subst hw;obtain ⟨_,i,hi,hsz⟩:=ht;have hc':w.cell? a=some v0:=hc;have hf':w.frozen? a=false:=hf;have hcl:v.cells= #[v]:=by cases v <;> first | rfl | cases h1
 have hrun:(execOp e.ev ⟨none,.store t x y,ty,pos,af,none⟩).run P w= .ok .skip (w.setCell a v):=by
  simp only [execOp,Instr.storeAt,hx,Instr.sureAddr,hy]
  have h2:=Aqy (P:=P) h1 hc' hf'
  simp [storeVar,AXt hi,hcl,hsz,storeCells,Addr.add,h2]
 rw [hrun];exact ⟨⟨rfl,rfl,rfl⟩,H⟩
theorem Age (hc:Aoe P f) (args:Array Value) (w:World):(callFunc f args).run P w= .ok (.enter f args) w:=by
 obtain ⟨fn,hf,hn,hb⟩:=hc;show (Sem.bind program _).run P w=_;show Sem.run P (match P.funcs[f]? with | none=>_ | some fn=>_) w=_;rw [hf];show Sem.run P (if (fn.name == "runtime.NumGoroutine")=true then _ else _) w=_;rw [if_neg (by simp [hn]),if_neg<|by simp [hb]];rfl
theorem Aoi {args:Array Value} {ρ:Operand->Value} {o:Oper} (hrun:∀ w,(execOp ρ o).run P w= .ok (.enter f args) w) (HC:AI7 P f args h K'):AZs P ρ o h K':=by
 intro w hw;rw [hrun w];exact ⟨.refl w,HC.2 w hw⟩
theorem AIz (hb:B h) (hxs:xs.map e.ev=l) (HC:AI7 P f l.toArray h K')
 (H:∀ v h',K' v h'->B h'/\RL P B st ops rest (e.set d v) h' K):RL P B st ops (⟨some d,.call ⟨.value<|.func f,xs.toArray,ts⟩,ty,pos,af,none⟩ :: rest) e h K:=by
 refine AWy rfl rfl hb (Aoi (f:=f) (args:=l.toArray) (λw=>?_)<|HC.mono H);have:=Age HC.1 l.toArray w;simp only [execOp,resolve,List.map_toArray,hxs,Env.ev,Deferred.ofValue,pure,bind,Sem.bind,invoke,Array.append_empty,Array.empty_append];exact this
theorem Aix {c:Operand} {cl:List Value} (hb:B h) (hc:e.ev c= .func (.func f) #[] cl.toArray) (hxs:xs.map e.ev=l) (HC:AI7 P f (l ++ cl).toArray h K')
 (H:∀ v h',K' v h'->B h'/\RL P B st ops rest (e.set d v) h' K):RL P B st ops (⟨some d,.call ⟨.value c,xs.toArray,ts⟩,ty,pos,af,none⟩ :: rest) e h K:=by
 refine AWy rfl rfl hb (Aoi (f:=f) (args:=(l ++ cl).toArray) (λw=>?_)<|HC.mono H);have:=Age HC.1 (l ++ cl).toArray w;simp only [execOp,resolve,List.map_toArray,hxs,hc,Deferred.ofValue,pure,bind,Sem.bind,invoke,Array.empty_append,List.append_toArray];exact this
end
def Upd (S:Nat->Prop) (h h':AH8):Prop:=h.size<=h'.size/\ ∀ k,k < h.size->¬ S k->h'[k]? =h[k]?
def Ext (h h':AH8):Prop:=h.size<=h'.size/\ ∀ k,k < h.size->h'[k]? =h[k]?
theorem Ext.refl (h:AH8):Ext h h:=⟨Nat.le_refl _,λ_ _=>rfl⟩
theorem Ext.trans {a b c:AH8} (h:Ext a b) (k:Ext b c):Ext a c:=⟨Nat.le_trans h.1 k.1,λi hi=>(k.2 i<|Nat.lt_of_lt_of_le hi h.1).trans (h.2 i hi)⟩
theorem Ext.upd {a b:AH8} (h:Ext a b):Upd S a b:=⟨h.1,λk hk _=>h.2 k hk⟩
theorem Upd.refl (S:Nat->Prop) (h:AH8):Upd S h h:=⟨Nat.le_refl _,λ_ _ _=>rfl⟩
theorem Upd.trans {S:Nat->Prop} {a b c:AH8} (h:Upd S a b) (k:Upd S b c):Upd S a c:=⟨Nat.le_trans h.1 k.1,λi hi hs=>(k.2 i (Nat.lt_of_lt_of_le hi h.1) hs).trans (h.2 i hi hs)⟩
theorem Upd.mono {T:Nat->Prop} {a b:AH8} (h:Upd S a b) (hST:∀ k,k < a.size->S k->T k):Upd T a b:=⟨h.1,λk hk ht=>h.2 k hk λhs=>ht<|hST k hk hs⟩
theorem Ext.thenUpd {a b c:AH8} (h:Ext a b) (k:Upd S b c) (hS:∀ i,S i->a.size<=i):Ext a c:=
 ⟨Nat.le_trans h.1 k.1,λi hi=>(k.2 i (Nat.lt_of_lt_of_le hi h.1) λhs=>by grind).trans (h.2 i hi)⟩
theorem AL5 (h:AH8) (o:Obj):Ext h (h.push o):=⟨AI9,λk hk=>by grind⟩
theorem AX7 (h:AH8) (a:Addr) (v:Value):Upd (· =a.block) h (Afd h a v):=by
 refine ⟨by simp [Afd],λk hk hs=>?_⟩;simp only [Afd,Array.getElem?_modify];grind
theorem Aoj {a:Addr} (hc:AM6 h a=some v):a.block < h.size:=by
 unfold AM6 at hc;grind
theorem Aig {a:Addr} (he:h'[a.block]? =h[a.block]?):AM6 h' a=AM6 h a:=by unfold AM6;rw [he]
theorem AIj {a:Addr} (hc:AM6 h a=some v) (he:Ext h h'):AM6 h' a=some v:=by
 rw [Aig<|he.2 _<|Aoj hc];exact hc
theorem Alm {a:Addr} (hc:AM6 h a=some v) (he:Upd S h h') (hS: ¬ S a.block):AM6 h' a=some v:=by
 rw [Aig<|he.2 _ (Aoj hc) hS];exact hc
def Sl (h:AH8) (v:Value) (l:List Value):Prop:= ∃ a cap,v= .slice a l.length cap/\ ∀ i x,l[i]? =some x-> ∃ b o,a=some ⟨b,o,none⟩/\AM6 h ⟨b,o + i,none⟩=some x
theorem Sl.ext (H:Sl h v l) (he:Ext h h'):Sl h' v l:=by
 obtain ⟨a,cap,hv,hc⟩:=H;exact ⟨a,cap,hv,λi x hx=>let ⟨b,o,ha,hx⟩:=hc i x hx;⟨b,o,ha,AIj hx he⟩⟩
theorem Sl.upd (H:Sl h v l) (he:Upd S h h') (hS:∀ b,v.ownBlock=some b->¬ S b):Sl h' v l:=by
 obtain ⟨a,cap,hv,hc⟩:=H;refine ⟨a,cap,hv,λi x hx=>?_⟩;obtain ⟨b,o,ha,hx⟩:=hc i x hx;exact ⟨b,o,ha,Alm hx he<|hS b (by subst hv;subst ha;rfl)⟩
theorem Awg (h:AH8):Sl h (.slice none 0 0) []:=⟨none,0,rfl,λi x hx=>by simp at hx⟩
theorem Sl.pre {a:Option Addr} {n cap:Nat} (H:Sl h (.slice a n cap) l) (k:Nat) (hk:k<=l.length) (cap':Nat):Sl h (.slice a k cap') (l.take k):=by
 obtain ⟨a',c',hv,hc⟩:=H;injection hv with ha hl hcap;subst ha;refine ⟨a,cap',by grind,λi x hx=>hc i x ?_⟩;grind
def iv (x:Int):Value:= .int .i64 x
def Aqz (h:AH8) (v:Value) (zs:List Int):Prop:=Sl h v<|zs.map<|.int .i64
def Mat (h:AH8) (v:Value) (M:List (List Int)):Prop:= ∃ rs:List Value,Sl h v rs/\rs.length=M.length/\ ∀ (i:Nat) (r:Value) (z:List Int),rs[i]? =some r->M[i]? =some z->Sl h r (z.map<|.int .i64)
theorem Mat.ext {h h':AH8} {v:Value} {M:List (List Int)} (H:Mat h v M) (he:Ext h h'):Mat h' v M:=by
 obtain ⟨rs,h1,h2,h3⟩:=H;exact ⟨rs,h1.ext he,h2,λi r z hr hz=>(h3 i r z hr hz).ext he⟩
theorem Mat.row (H:Mat h v M) {z:List Int} (hz:M[i]? =some z):∃ r,(∃ rs,Sl h v rs/\rs[i]? =some r)/\Sl h r (z.map<|.int .i64):=by
 obtain ⟨rs,h1,h2,h3⟩:=H;have hi:i < rs.length:=by grind
 exact ⟨rs[i],⟨rs,h1,List.getElem?_eq_getElem hi⟩,h3 i _ z (List.getElem?_eq_getElem hi) hz⟩
theorem Mat.len (H:Mat h v M):∃ a cap,v= .slice a M.length cap:=by
 obtain ⟨rs,⟨a,cap,hv,_⟩,h2,_⟩:=H;grind
def AMd (h:AH8) (el g:Nat) (v:Value) (l:List Value):Prop:=
 ∃ cap cur,v= .slice (some ⟨g,0,none⟩) l.length cap/\h[g]? =some (.cells cur el (0,0))/\l.length<=cap/\cap<=maxLen/\cur.size=cap/\cur.toList.take l.length=l
theorem AMd.lt (H:AMd h el g v l):g < h.size:=by
 obtain ⟨cap,cur,_,hg,_⟩:=H;grind
theorem AMd.blk (H:AMd h el g v l):v.ownBlock=some g:=by
 obtain ⟨cap,cur,rfl,_⟩:=H;rfl
theorem AMd.one (H:AMd h el g v l):isOne v=true:=by
 obtain ⟨cap,cur,rfl,_⟩:=H;rfl
theorem AMd.cell (H:AMd h el g v l) {x:Value} (hx:l[i]? =some x):AM6 h ⟨g,i,none⟩=some x:=by
 obtain ⟨cap,cur,_,hg,_,_,_,ht⟩:=H;have hi:=(List.getElem?_eq_some_iff.1 hx).1;simp only [AM6,hg];grind
theorem AMd.free (H:AMd h el g v l) (i:Nat):Acl h ⟨g,i,none⟩=false:=by
 obtain ⟨cap,cur,_,hg,_⟩:=H;simp [Acl,hg]
theorem AMd.sl (H:AMd h el g v l):Sl h v l:=by
 have H':=H;obtain ⟨cap,cur,hv,_⟩:=H;exact ⟨_,cap,hv,λi x hx=>⟨g,0,rfl,by rw [Nat.zero_add];exact H'.cell hx⟩⟩
theorem AMd.congr (H:AMd h el g v l) (he:h'[g]? =h[g]?):AMd h' el g v l:=by
 obtain ⟨cap,cur,hv,hg,r⟩:=H;exact ⟨cap,cur,hv,he.trans hg,r⟩
theorem AMd.ext (H:AMd h el g v l) (he:Ext h h'):AMd h' el g v l:=H.congr<|he.2 g H.lt
theorem AMd.upd (H:AMd h el g v l) (he:Upd S h h') (hS: ¬ S g):AMd h' el g v l:=H.congr<|he.2 g H.lt hS
theorem AMd.set {h:AH8} {el g:Nat} {v:Value} {l:List Value} (H:AMd h el g v l) (i:Nat) (y:Value) (hi:i < l.length):AMd (Afd h ⟨g,i,none⟩ y) el g v (l.set i y):=by
 obtain ⟨cap,cur,hv,hg,hl,hm,hs,ht⟩:=H;refine ⟨cap,cur.setIfInBounds i y,by grind,?_,by grind,hm,by simp [hs],?_⟩
 ·simp only [Afd,Array.getElem?_modify,if_true,hg,Option.map_some];rfl
 ·rw [List.length_set,Array.toList_setIfInBounds,List.take_set,ht]
theorem Ady (h:AH8) (el n:Nat) (z:Value) (hm:n<=maxLen):AMd (h.push<|.cells (List.replicate n z).toArray el (0,0)) el h.size (.slice (some ⟨h.size,0,none⟩) n n) (List.replicate n z):=
 ⟨n,(List.replicate n z).toArray,AI9,AI9,AI9,hm,AI9,AI9⟩
theorem Ajp (h:AH8) (el:Nat) (l:List Value) (hm:l.length<=maxLen):AMd (h.push<|.cells l.toArray el (0,0)) el h.size (.slice (some ⟨h.size,0,none⟩) l.length l.length) l:=
 ⟨l.length,l.toArray,rfl,AI9,Nat.le_refl _,hm,AI9,AI9⟩
theorem Afs {l:List Nat} (hn:l.Nodup) (hi:l[i]? =some g) (hj:l[j]? =some g):i=j:=by
 obtain ⟨Aa,Ab⟩:=List.getElem?_eq_some_iff.1 hi;obtain ⟨Ac,Ad⟩:=List.getElem?_eq_some_iff.1 hj;have hp:=List.pairwise_iff_getElem.1 hn;grind
section
variable {P:Program} {B:AH8->Prop} {st:Bool} {ops:Array Oper} {rest:List Oper} {e:Env} {h:AH8} {K:Env->AH8->Prop}
variable {d:Nat} {ty:TypeId} {pos:String} {af:Array Edge}
theorem AN0 (b o i:Nat):(⟨b,o,none⟩:Addr).add i=⟨b,o + i,none⟩:=by
 unfold Addr.add;grind
theorem Ajq {i:Operand} {u:Value} {n:Nat} (hT:SlT P t el 1) (hx:e.ev x=v) (HS:Sl h v l) (hi:e.ev i= .int k (n:Int)) (hu:l[n]? =some u)
 (H:∀ a,AM6 h a=some u->RL P B st ops rest (e.set d<|.pointer<|some a) h K):RL P B st ops (⟨some d,.indexAddr t x i,ty,pos,af,none⟩ :: rest) e h K:=by
 obtain ⟨a,cap,rfl,hc⟩:=HS;obtain ⟨b,o,rfl,hcu⟩:=hc n u hu;have hn:=(List.getElem?_eq_some_iff.1 hu).1;refine Aqx hT hx hi AHx AHx ?_;have he:(⟨b,o,none⟩:Addr).add ((n:Int).toNat * 1)=⟨b,o + n,none⟩:=by rw [AN0];simp
 grind
theorem Abp {i:Operand} {n:Nat} (hT:SlT P t el 1) (hx:e.ev x=v) (HO:AMd h er g v l) (hi:e.ev i= .int k (n:Int)) (hn:n < l.length)
 (H:RL P B st ops rest (e.set d<|.pointer<|some ⟨g,n,none⟩) h K):RL P B st ops (⟨some d,.indexAddr t x i,ty,pos,af,none⟩ :: rest) e h K:=by
 obtain ⟨cap,cur,rfl,_⟩:=HO;refine Aqx hT hx hi AHx AHx ?_;have he:(⟨g,0,none⟩:Addr).add ((n:Int).toNat * 1)=⟨g,n,none⟩:=by rw [AN0];simp
 grind
theorem Awh {n:Nat} {u:Value} (ht:NaT P t) (hx:e.ev x= .pointer (some ⟨g,n,none⟩)) (hy:e.ev y=u) (h1:isOne u=true) (HO:AMd h er g v l) (hn:n < l.length)
 (H:RL P B st ops rest e (Afd h ⟨g,n,none⟩ u) K):RL P B st ops (⟨none,.store t x y,ty,pos,af,none⟩ :: rest) e h K:=
 A0w ht hx hy h1 (HO.cell<|List.getElem?_eq_getElem hn) (HO.free n) H
theorem ASf {t:TypeId} (hx:e.ev x= .int .i64 (i:Int)) (hi:i < 4611686018427387904) (H:RL P B st ops rest (e.set d<|.int .i64 ((i + 1:Nat):Int)) h K):
 RL P B st ops (⟨some d,.binOp .add t x (.const<|.int .i64 1) t2,ty,pos,af,none⟩ :: rest) e h K:=by
 refine AI0 hx rfl ?_;have:IntKind.i64.wrap ((i:Int) + 1)=((i + 1:Nat):Int):=by rw [IntKind.wrap_i64];omega
 grind
theorem Ajr {t:TypeId} {b:Int} (hx:e.ev x= .int .i64 a) (hy:e.ev y= .int .i64 b) (h0: -9223372036854775808<=a + b) (h1:a + b<=9223372036854775807) (H:RL P B st ops rest (e.set d<|.int .i64<|a + b) h K):
 RL P B st ops (⟨some d,.binOp .add t x y t2,ty,pos,af,none⟩ :: rest) e h K:=by
 refine AI0 hx hy ?_;have:IntKind.i64.wrap (a + b)=a + b:=by rw [IntKind.wrap_i64];omega
 grind
theorem AU7 {t:TypeId} {b:Int} (hx:e.ev x= .int .i64 a) (hy:e.ev y= .int .i64 b) (h0: -9223372036854775808<=a - b) (h1:a - b<=9223372036854775807) (H:RL P B st ops rest (e.set d<|.int .i64<|a - b) h K):
 RL P B st ops (⟨some d,.binOp .sub t x y t2,ty,pos,af,none⟩ :: rest) e h K:=by
 refine AMy hx hy ?_;have:IntKind.i64.wrap (a - b)=a - b:=by rw [IntKind.wrap_i64];omega
 grind
theorem AWh {t:TypeId} {b:Int} (hx:e.ev x= .int .i64 a) (hy:e.ev y= .int .i64 b) (h0: -9223372036854775808<=a * b) (h1:a * b<=9223372036854775807) (H:RL P B st ops rest (e.set d<|.int .i64<|a * b) h K):
 RL P B st ops (⟨some d,.binOp .mul t x y t2,ty,pos,af,none⟩ :: rest) e h K:=by
 refine APo hx hy ?_;have:IntKind.i64.wrap (a * b)=a * b:=by rw [IntKind.wrap_i64];omega
 grind
theorem Adz {t:TypeId} {b:Int} (hx:e.ev x= .int k a) (hy:e.ev y= .int k b) (ha:0<=a) (hb:0 < b) (H:RL P B st ops rest (e.set d<|.int k<|a % b) h K):
 RL P B st ops (⟨some d,.binOp .rem t x y t2,ty,pos,af,none⟩ :: rest) e h K:=by
 refine ALg hx hy AHx ?_;grind
theorem Amp {t:TypeId} {b:Int} (hx:e.ev x= .int .i64 a) (hy:e.ev y= .int .i64 b) (ha:0<=a) (Ac:a<=9223372036854775807) (hb:0 < b) (H:RL P B st ops rest (e.set d<|.int .i64<|a / b) h K):
 RL P B st ops (⟨some d,.binOp .quo t x y t2,ty,pos,af,none⟩ :: rest) e h K:=by
 refine AWz hx hy AHx ?_;have h1:a.tdiv b=a / b:=Int.tdiv_eq_ediv_of_nonneg ha;have h2:a / b<=a:=Int.ediv_le_self _ ha;have h3:0<=a / b:=Int.ediv_nonneg ha AHx;have:IntKind.i64.wrap (a.tdiv b)=a / b:=by rw [h1,IntKind.wrap_i64];omega
 grind
theorem ANd {t:TypeId} {b:Int} (hx:e.ev x= .int k a) (hy:e.ev y= .int k b)
 (HT:a < b->RL P B st ops rest (e.set d<|.bool true) h K) (HF:b<=a->RL P B st ops rest (e.set d<|.bool false) h K):RL P B st ops (⟨some d,.binOp .lss t x y t2,ty,pos,af,none⟩ :: rest) e h K:=
 Aum hx hy rfl (λhc=>HT<|by simpa using hc) (λhc=>HF<|by simpa using hc)
theorem Abq {t:TypeId} {b:Int} (hx:e.ev x= .int k a) (hy:e.ev y= .int k b)
 (HT:a<=b->RL P B st ops rest (e.set d<|.bool true) h K) (HF:b < a->RL P B st ops rest (e.set d<|.bool false) h K):RL P B st ops (⟨some d,.binOp .leq t x y t2,ty,pos,af,none⟩ :: rest) e h K:=
 Aum hx hy rfl (λhc=>HT<|by simpa using hc) (λhc=>HF<|by simpa using hc)
theorem AZu {t:TypeId} {b:Int} (hx:e.ev x= .int k a) (hy:e.ev y= .int k b)
 (HT:b < a->RL P B st ops rest (e.set d<|.bool true) h K) (HF:a<=b->RL P B st ops rest (e.set d<|.bool false) h K):RL P B st ops (⟨some d,.binOp .gtr t x y t2,ty,pos,af,none⟩ :: rest) e h K:=
 Aum hx hy rfl (λhc=>HT<|by simpa using hc) (λhc=>HF<|by simpa using hc)
theorem Ad0 {t:TypeId} {b:Int} (hx:e.ev x= .int k a) (hy:e.ev y= .int k b)
 (HT:b<=a->RL P B st ops rest (e.set d<|.bool true) h K) (HF:a < b->RL P B st ops rest (e.set d<|.bool false) h K):RL P B st ops (⟨some d,.binOp .geq t x y t2,ty,pos,af,none⟩ :: rest) e h K:=
 Aum hx hy rfl (λhc=>HT<|by simpa using hc) (λhc=>HF<|by simpa using hc)
theorem Abr {t:TypeId} {b:Int} (hx:e.ev x= .int k a) (hy:e.ev y= .int k b)
 (HT:a=b->RL P B st ops rest (e.set d<|.bool true) h K) (HF:a≠b->RL P B st ops rest (e.set d<|.bool false) h K):RL P B st ops (⟨some d,.binOp .eql t x y t2,ty,pos,af,none⟩ :: rest) e h K:=
 Aum hx hy rfl (λhc=>HT<|by simpa using hc) (λhc=>HF<|by simpa using hc)
theorem Aln {t:TypeId} {b:Int} (hx:e.ev x= .int k a) (hy:e.ev y= .int k b)
 (HT:a≠b->RL P B st ops rest (e.set d<|.bool true) h K) (HF:a=b->RL P B st ops rest (e.set d<|.bool false) h K):RL P B st ops (⟨some d,.binOp .neq t x y t2,ty,pos,af,none⟩ :: rest) e h K:=
 Aum hx hy rfl (λhc=>HT<|by simpa using hc) (λhc=>HF<|by simpa using hc)
theorem Afi (z:Value) (h1:isOne z=true) (n:Nat):madeCells z.cells n=(List.replicate n z).toArray:=by
 have:z.cells= #[z]:=by cases z <;> first | rfl | cases h1
 rw [this];apply Array.ext
 ·simp [madeCells]
 ·intro i h1 h2;simp [madeCells,Nat.mod_one]
theorem Awi {n:Nat} {z:Value} (hT:SlT P t el 1) (hz:ZeT P el z bytes) (h1:isOne z=true) (hb:B h) (hx:e.ev x= .int .i64 (n:Int)) (hy:e.ev y= .int .i64 (n:Int)) (hn:bytes * n<=281474976710656) (Ad:n<=281474976710656)
 (H:B (h.push<|.cells (List.replicate n z).toArray el (0,0))/\RL P B st ops rest (e.set d<|.slice (some ⟨h.size,0,none⟩) n n) (h.push<|.cells (List.replicate n z).toArray el (0,0)) K):
 RL P B st ops (⟨some d,.makeSlice t x y,ty,pos,af,none⟩ :: rest) e h K:=by
 refine AWy rfl rfl hb λw hw=>?_;subst hw;obtain ⟨hu,i0,Aa,Ac⟩:=hT;obtain ⟨i,hi,hzz,hsz,hby⟩:=hz;rw [hi] at Aa;injection Aa with Aa;subst Aa;have hr:=run_make (P:=P) w t el i z hu hi hzz .i64 .i64 (n:Int) (n:Int) AHx AHx (by rw [hby];omega) AHx
 have:(execOp e.ev ⟨some d,.makeSlice t x y,ty,pos,af,none⟩).run P w= .ok (.value<|.slice (some ⟨w.heap.size,0,none⟩) n n) (w.alloc<|.cells (List.replicate n z).toArray el):=by
  simp only [execOp,hx,hy]
  simp only [Int.toNat_natCast,Ac,Nat.mul_one,Afi z h1] at hr
  simp [hr]
 rw [this];exact ⟨⟨rfl,rfl,rfl⟩,H⟩
theorem A3c {s:Operand} {z:Value} {news:List Value} (hT:SlT P t el 1) (hz:ZeT P el z bytes) (h1:isOne z=true) (hb:B h) (hs:e.ev s=v) (HO:AMd h el g v l) (hx:e.ev x=xv) (HX:Sl h xv news) (hone:∀ u∈news,isOne u=true)
 (hn0:news≠[]) (hlen:(l.length + news.length) * bytes<=140737488355328) (hlen2:l.length + news.length<=140737488355328)
 (H:∀ v' g' h',AMd h' el g' v' (l ++ news)->(g'=g∨g'=h.size)->Upd (· =g) h h'->B h'/\RL P B st ops rest (e.set d v') h' K):
 RL P B st ops (⟨some d,.call ⟨.builtin .append,#[s,x],#[t,t]⟩,ty,pos,af,none⟩ :: rest) e h K:=by
 refine AWy rfl rfl hb λw hw=>?_;subst hw;obtain ⟨hu,i0,hi0,hs0⟩:=hT;obtain ⟨i,hi,hzz,hsz,hby⟩:=hz;rw [hi] at hi0;injection hi0 with hi0;subst hi0;have HO':=HO;obtain ⟨cap,cur,rfl,hg,hlc,hcm,hcs,ht⟩:=HO;obtain ⟨xa,xc,rfl,hxc⟩:=HX;obtain ⟨u0,hu0⟩:∃ u,news[0]? =some u:=by grind
 obtain ⟨xb,xo,rfl,_⟩:=hxc 0 u0 hu0
 have hnews:∀ j u,news[j]? =some u->w.cell? ((⟨xb,xo,none⟩:Addr).add j)=some u:=λj u hu'=>by
  obtain ⟨b,o,ha,hc⟩:=hxc j u hu';injection ha with ha;injection ha with h1 h2;subst h1;subst h2;rw [AN0];exact hc
 have hone':∀ u∈news,u.oneCell'=true:=λu hu'=>by have:=hone u hu';cases u <;> first | rfl | cases this
 have hown:w.ownsRow 0 el 1 (.slice (some ⟨g,0,none⟩) l.length cap) l.length l:=
  ⟨AI9,.inr ⟨g,cap,cur,rfl,Nat.zero_le _,hg,hlc,hcm,by simp [hcs],by simpa using ht⟩⟩
 have hzs:z.cells.size=1:=by omega
 by_cases hroom:l.length + news.length<=cap
 ·have hr:=run_append_room (P:=P) w t ty el i hu hi g l.length cap cur hg ⟨xb,xo,none⟩ news.length xc news (by simp [hs0]) hnews hone' hroom (by grind)
  have hrun:(execOp e.ev ⟨some d,.call ⟨.builtin .append,#[s,x],#[t,t]⟩,ty,pos,af,none⟩).run P w= .ok (.value<|.slice (some ⟨g,0,none⟩) (l.length + news.length) cap) (w.setRow g (cur.toList.take (l.length * i.size) ++ news ++ cur.toList.drop (l.length * i.size + news.length)).toArray):=by
   simp [execOp,resolve,invoke,builtin,hs,hx,hr]
  rw [hrun]
  refine ⟨⟨rfl,rfl,rfl⟩,H _ g _ ?_ (.inl rfl) ?_⟩
  ·refine ⟨cap,_,AI9,setRow_heap w g cur _ el (0,0) hg,by grind,hcm,?_,?_⟩
   ·grind
   ·simp only [hs0,Nat.mul_one,ht];grind
  ·exact ⟨by simp [World.setRow],λk hk hne=>setRow_other w g k _ λhe=>hne he⟩
 ·have hr:=run_append_grow (P:=P) w t ty el i z hu hi hzz ⟨g,0,none⟩ l.length cap l (by simp [hs0]) (λj u hu'=>by rw [AN0,Nat.zero_add];exact HO'.cell hu') ⟨xb,xo,none⟩ news.length xc news (by simp [hs0]) hnews AHx
   AHx (by rw [hby];exact growslice_fits AHx hlen)
  have hrun:(execOp e.ev ⟨some d,.call ⟨.builtin .append,#[s,x],#[t,t]⟩,ty,pos,af,none⟩).run P w= .ok (.value<|.slice (some ⟨w.heap.size,0,none⟩) (l.length + news.length)<|grownCap w (l.length + news.length) cap el)
   (w.drew.alloc<|.cells (l.toArray ++ news.toArray ++ Builtin.zeroCells z.cells (grownCap w (l.length + news.length) cap el - (l.length + news.length))) el):=by
   simp [execOp,resolve,invoke,builtin,hs,hx,hr]
  rw [hrun];have hge:=grownCap_ge w (l.length + news.length) cap el;have hcm':grownCap w (l.length + news.length) cap el<=maxLen:=grownCap_le_maxLen w _ _ el (by unfold maxLen;omega)
  refine ⟨⟨rfl,rfl,rfl⟩,H _ w.heap.size _ ?_ (.inr rfl) ?_⟩
  ·refine ⟨_,_,AI9,heap_alloc_new w.drew _,by simpa using hge,hcm',?_,?_⟩
   ·simp [size_zeroCells,hzs];omega
   grind
  ·exact (Ext.upd ⟨AI9,λk hk=>heap_alloc_old w.drew _ k hk⟩)
theorem Awj {s:Operand} {z:Value} {news:List Value} (hT:SlT P t el 1) (hz:ZeT P el z bytes) (h1:isOne z=true) (hb:B h) (hs:e.ev s= .slice none 0 0) (hx:e.ev x=xv) (HX:Sl h xv news) (hone:∀ u∈news,isOne u=true)
 (hn0:news≠[]) (hlen:news.length * bytes<=140737488355328) (hlen2:news.length<=140737488355328)
 (H:∀ v' h',AMd h' el h.size v' news->Ext h h'->B h'/\RL P B st ops rest (e.set d v') h' K):
 RL P B st ops (⟨some d,.call ⟨.builtin .append,#[s,x],#[t,t]⟩,ty,pos,af,none⟩ :: rest) e h K:=by
 refine AWy rfl rfl hb λw hw=>?_;subst hw;obtain ⟨hu,i0,hi0,hs0⟩:=hT;obtain ⟨i,hi,hzz,hsz,hby⟩:=hz;rw [hi] at hi0;injection hi0 with hi0;subst hi0;obtain ⟨xa,xc,rfl,hxc⟩:=HX;obtain ⟨u0,hu0⟩:∃ u,news[0]? =some u:=by grind
 obtain ⟨xb,xo,rfl,_⟩:=hxc 0 u0 hu0
 have hnews:∀ j u,news[j]? =some u->w.cell? ((⟨xb,xo,none⟩:Addr).add j)=some u:=λj u hu'=>by
  obtain ⟨b,o,ha,hc⟩:=hxc j u hu';injection ha with ha;injection ha with h1 h2;subst h1;subst h2;rw [AN0];exact hc
 have hpos:0 < news.length:=(List.getElem?_eq_some_iff.1 hu0).1;have hzs:z.cells.size=1:=by omega
 have hr:=run_append_nil (P:=P) w t ty el i z hu hi hzz ⟨xb,xo,none⟩ news.length xc news (by simp [hs0]) hnews hpos AHx (by rw [hby];omega)
 have hrun:(execOp e.ev ⟨some d,.call ⟨.builtin .append,#[s,x],#[t,t]⟩,ty,pos,af,none⟩).run P w= .ok (.value<|.slice (some ⟨w.heap.size,0,none⟩) news.length<|grownCap w news.length 0 el)
  (w.drew.alloc<|.cells (news.toArray ++ Builtin.zeroCells z.cells (grownCap w news.length 0 el - news.length)) el):=by
  simp [execOp,resolve,invoke,builtin,hs,hx,hr]
 rw [hrun];have hge:=grownCap_ge w news.length 0 el;have hcm':grownCap w news.length 0 el<=maxLen:=grownCap_le_maxLen w _ _ el (by unfold maxLen;omega);refine ⟨⟨rfl,rfl,rfl⟩,H _ _ ?_ ⟨AI9,λk hk=>heap_alloc_old w.drew _ k hk⟩⟩
 refine ⟨_,_,rfl,heap_alloc_new w.drew _,hge,hcm',?_,?_⟩
 ·simp [size_zeroCells,hzs];omega
 grind
theorem Ad1 {i:Operand} {z:List Int} {n:Nat} (hT:SlT P t el 1) (hx:e.ev x=v) (HM:Mat h v M) (hi:e.ev i= .int k (n:Int)) (hz:M[n]? =some z)
 (H:∀ a r,AM6 h a=some r->Aqz h r z->RL P B st ops rest (e.set d<|.pointer<|some a) h K):RL P B st ops (⟨some d,.indexAddr t x i,ty,pos,af,none⟩ :: rest) e h K:=by
 obtain ⟨r,⟨rs,h1,h2⟩,h3⟩:=HM.row hz;exact Ajq hT hx h1 hi h2 λa ha=>H a r ha h3
theorem Abt {i:Operand} {zs:List Int} {z:Int} {n:Nat} (hT:SlT P t el 1) (hx:e.ev x=v) (HI:Aqz h v zs) (hi:e.ev i= .int k (n:Int)) (hz:zs[n]? =some z)
 (H:∀ a,AM6 h a=some (.int .i64 z)->RL P B st ops rest (e.set d<|.pointer<|some a) h K):RL P B st ops (⟨some d,.indexAddr t x i,ty,pos,af,none⟩ :: rest) e h K:=
 Ajq hT hx HI hi (by grind) H
theorem Ahg (hT:SlT P t el s) (hx:e.ev x=v) (HM:Mat h v M) (H:RL P B st ops rest (e.set d<|.int .i64 (M.length:Int)) h K):
 RL P B st ops (⟨some d,.call ⟨.builtin .len,#[x],#[t]⟩,ty,pos,af,none⟩ :: rest) e h K:=by
 obtain ⟨a,cap,rfl⟩:=HM.len;exact Aif hT hx H
theorem Awk {zs:List Int} (hT:SlT P t el s) (hx:e.ev x=v) (HI:Aqz h v zs) (H:RL P B st ops rest (e.set d<|.int .i64 (zs.length:Int)) h K):
 RL P B st ops (⟨some d,.call ⟨.builtin .len,#[x],#[t]⟩,ty,pos,af,none⟩ :: rest) e h K:=by
 obtain ⟨a,cap,rfl,_⟩:=HI;rw [List.length_map] at hx;exact Aif hT hx H
theorem Aft (hT:SlT P t el s) (hx:e.ev x=v) (HI:Sl h v l) (H:RL P B st ops rest (e.set d<|.int .i64 (l.length:Int)) h K):
 RL P B st ops (⟨some d,.call ⟨.builtin .len,#[x],#[t]⟩,ty,pos,af,none⟩ :: rest) e h K:=by
 obtain ⟨a,cap,rfl,_⟩:=HI;exact Aif hT hx H
end
theorem Aqz.ext {h h':AH8} {v:Value} {zs:List Int} (H:Aqz h v zs) (he:Ext h h'):Aqz h' v zs:=Sl.ext H he
theorem Aa9 (hu:P.underlying t=some (.slice el)) (hi:(P.info? el).map (·.size)=some s):SlT P t el s:=by
 refine ⟨hu,?_⟩;simp_all
theorem AYu {d:TypeDesc} (hu:P.underlying t=some d) (hd:Ahf d=false) (hi:(P.info? t).map (·.size)=some 1):NaT P t:=by
 refine ⟨⟨d,hu,hd⟩,?_⟩;simp_all
theorem Afu {d:TypeDesc} (hu:P.underlying t=some d) (hd:Ahf d=true) (hi:(P.info? t).map (·.size)=some s):AgT P t s:=by
 refine ⟨⟨d,hu,hd⟩,?_⟩;simp_all
theorem AZv {z:Value} (hi:(P.info? t).map (λi=>(i.zero,i.size,i.bytes))=some (some z,z.cells.size,bytes)):ZeT P t z bytes:=by
 cases h:P.info? t with
 | none=>grind
 | some i=>
   rw [h] at hi
   simp only [Option.map_some,Option.some.injEq,Prod.mk.injEq] at hi
   exact ⟨i,h,hi.1,hi.2.1,hi.2.2⟩
def partsOf:Nat->List Value->List (Nat × Value)
 | _,[]=>[]
 | k,v :: l=>(k,v) :: partsOf (k + 1) l
theorem Alo (h1:isOne v=true):v.cells= #[v]:=by cases v <;> first | rfl | cases h1
theorem Aq0 (l:List Value):∀ (pre old:List Value),(∀ u∈l,isOne u=true)->old.length=l.length->
 Instr.fill (λi=>some (i * 1,1)) (pre ++ old).toArray (partsOf pre.length l)=some (pre ++ l).toArray:=by
 induction l with
 | nil=>
   intro pre old _ ho
   obtain rfl:old=[]:=List.eq_nil_of_length_eq_zero ho
   simp [partsOf,Instr.fill]
 | cons v l ih=>
   intro pre old h1 ho
   cases old with
   | nil=>simp at ho
   | cons o old=>
     have hc:=Alo<|h1 v<|List.mem_cons_self ..
     simp only [partsOf,Instr.fill,hc]
     have hs: ¬ ((#[v].size≠1 || decide (pre.length * 1 + #[v].size > (pre ++ o :: old).toArray.size))=true):=by simp
     rw [if_neg hs]
     have hset:(#[v].zipIdx.foldl (λcs (x:Value × Nat)=>cs.setIfInBounds (pre.length * 1 + x.2) x.1) (pre ++ o :: old).toArray)=((pre ++ [v]) ++ old).toArray:=by
      simp
     grind
section
variable {P:Program} {B:AH8->Prop} {st:Bool} {ops:Array Oper} {rest:List Oper} {e:Env} {h:AH8} {K:Env->AH8->Prop}
variable {d:Nat} {ty:TypeId} {pos:String} {af:Array Edge}
theorem Awl {n:Nat} {z:Value} (l:List Value) (hT:SlT P t el 1) (hz:ZeT P el z bytes) (h1:isOne z=true) (hb:B h) (hn:l.length=n) (hn2:n<=16777216) (hpos:0 < n) (hp:(parts.map λ(i,x)=>(i,e.ev x))=partsOf 0 l)
 (hone:∀ u∈l,isOne u=true) (H:B (h.push<|.cells l.toArray el (0,0))/\RL P B st ops rest (e.set d<|.slice (some ⟨h.size,0,none⟩) n n) (h.push<|.cells l.toArray el (0,0)) K):
 RL P B st ops (⟨some d,.buildSlice t n parts.toArray,ty,pos,af,none⟩ :: rest) e h K:=by
 refine AWy rfl rfl hb λw hw=>?_;subst hw;obtain ⟨hu,i0,hi0,hs0⟩:=hT;obtain ⟨i,hi,hzz,hsz,hby⟩:=hz;rw [hi] at hi0;injection hi0 with hi0;subst hi0;have hf:=Aq0 l [] (List.replicate n z) hone (by simp [hn]);simp only [List.nil_append,List.length_nil,Nat.mul_one] at hf;have hmade:(Array.range n).map (λx=>z.cells[x % z.cells.size]!)=(List.replicate n z).toArray:=Afi z h1 n;have hne: ¬ n=0:=by omega
 have:(execOp e.ev ⟨some d,.buildSlice t n parts.toArray,ty,pos,af,none⟩).run P w= .ok (.value<|.slice (some ⟨w.heap.size,0,none⟩) n n) (w.alloc<|.cells l.toArray el):=by
  simp only [execOp,List.map_toArray];rw [hp];have h3: ¬ (n * i.size > 2 ^ 24):=by rw [hs0];omega
  have h4: ¬ (n * i.size=0):=by rw [hs0];omega
  simp only [Instr.buildSlice,Sem.run_bind,AS6 hu,Result.andThen,AXt hi,if_neg h3,if_neg h4,Aoh hi hzz];have hp1:Sem.run P (pure z.cells:Sem (Array Value)) w= .ok z.cells w:=rfl;simp only [hp1,hs0,Nat.mul_one];rw [hmade,hf];simp [newRow]
 rw [this];exact ⟨⟨rfl,rfl,rfl⟩,H⟩
theorem A3d (hb:B h) (hx:e.ev x=v) (H:B (h.push<|.cells v.cells t (0,0))/\RL P B st ops rest (e.set d<|.pointer<|some ⟨h.size,0,none⟩) (h.push<|.cells v.cells t (0,0)) K):
 RL P B st ops (⟨some d,.box t x,ty,pos,af,none⟩ :: rest) e h K:=by
 refine AWy rfl rfl hb λw hw=>?_;subst hw
 have:(execOp e.ev ⟨some d,.box t x,ty,pos,af,none⟩).run P w= .ok (.value<|.pointer<|some ⟨w.heap.size,0,none⟩) (w.alloc<|.cells v.cells t):=by
  simp [execOp,hx,Instr.box,newVar,newRow]
 rw [this];exact ⟨⟨rfl,rfl,rfl⟩,H⟩
theorem Asq {z:Value} (hz:ZeT P t z bytes) (hb:B h) (H:B (h.push<|.cells z.cells t (0,0))/\RL P B st ops rest (e.set d<|.pointer<|some ⟨h.size,0,none⟩) (h.push<|.cells z.cells t (0,0)) K):
 RL P B st ops (⟨some d,.alloc t,ty,pos,af,none⟩ :: rest) e h K:=by
 refine AWy rfl rfl hb λw hw=>?_;subst hw;obtain ⟨i,hi,hzz,hsz,hby⟩:=hz
 have:(execOp e.ev ⟨some d,.alloc t,ty,pos,af,none⟩).run P w= .ok (.value<|.pointer<|some ⟨w.heap.size,0,none⟩) (w.alloc<|.cells z.cells t):=by
  simp [execOp,Instr.alloc,Aoh hi hzz,newVar,newRow]
 rw [this];exact ⟨⟨rfl,rfl,rfl⟩,H⟩
theorem ALe (hv:∀ w,(Instr.build t (parts.map λ(i,x)=>(i,e.ev x)).toArray).run P w= .ok v w) (H:RL P B st ops rest (e.set d v) h K):
 RL P B st ops (⟨some d,.build t parts.toArray,ty,pos,af,none⟩ :: rest) e h K:=
 ANz (v:=v) rfl rfl (λw=>by simp only [execOp,List.map_toArray,Sem.run_bind,hv w];rfl) H
theorem AJj {a:Addr} (hx:e.ev x= .pointer (some a)) (H:RL P B st ops rest (e.set d<|.pointer<|some a) h K):
 RL P B st ops (⟨some d,.nilCheck x,ty,pos,af,none⟩ :: rest) e h K:=
 ANz (v:= .pointer<|some a) rfl rfl (λw=>by simp [execOp,hx]) H
theorem A8b {f ft fs:Nat} {a:Addr} (hf:FdT P t f off ft) (hs:(P.info? ft).map (·.size)=some fs) (hfs:fs≠0) (hx:e.ev x= .pointer (some a)) (H:RL P B st ops rest (e.set d<|.pointer<|some<|a.add off) h K):
 RL P B st ops (⟨some d,.fieldAddr t x f,ty,pos,af,none⟩ :: rest) e h K:=
 ANz (v:= .pointer<|some<|a.add off) rfl rfl (λw=>by
  obtain ⟨fds,fd,hu,hfd,ho,hft⟩:=hf
  subst hft
  cases hi:P.info? fd.type with
  | none=>grind
  | some i=>
    rw [hi] at hs
    have hs':i.size=fs:=by simpa using hs
    simp [execOp,hx,Instr.fieldAt,AS6 hu,hfd,Instr.sureAddr,fieldPlace,AXt hi,hs',hfs,ho]) H
theorem A3e {i:Operand} {cs:Array Value} {v u:Value} (hv:∀ w,(Instr.index t (e.ev x)<|e.ev i).run P w= .ok u w) (H:RL P B st ops rest (e.set d u) h K):
 RL P B st ops (⟨some d,.index t x i,ty,pos,af,none⟩ :: rest) e h K:=
 ANz (v:=u) rfl rfl (λw=>by simp only [execOp,Sem.run_bind,hv w];rfl) H
theorem A4b {f:Nat} {u:Value} (hv:∀ w,(Instr.field t (e.ev x) f).run P w= .ok u w) (H:RL P B st ops rest (e.set d u) h K):
 RL P B st ops (⟨some d,.field t x f,ty,pos,af,none⟩ :: rest) e h K:=
 ANz (v:=u) rfl rfl (λw=>by simp only [execOp,Sem.run_bind,hv w];rfl) H
theorem Awm {f:Fn} {cs:List Operand} (hcs:cs.map e.ev=l) (H:RL P B st ops rest (e.set d<|.func f #[] l.toArray) h K):
 RL P B st ops (⟨some d,.makeFunc f #[] cs.toArray,ty,pos,af,none⟩ :: rest) e h K:=
 ANz (v:= .func f #[] l.toArray) rfl rfl (λw=>by simp [execOp,Instr.makeFunc,hcs]) H
theorem run_loadCells {a:Addr} (l:List Value):∀ (k:Nat) (acc:Array Value),(∀ i u,l[i]? =some u->w.cell? (a.add<|k + i)=some u)->(loadCellsFrom a k l.length acc).run P w= .ok (acc ++ l.toArray) w:=by
 induction l with
 | nil=>intro k acc _;simp [loadCellsFrom]
 | cons v l ih=>
   intro k acc hc
   have h0:=hc 0 v rfl
   have ih':=ih (k + 1) (acc.push v) (λi u hu=>by have:=hc (i + 1) u (by simpa using hu);grind)
   simp only [Nat.add_zero] at h0
   simp [loadCellsFrom,h0,ih']
theorem Alp (ht:AgT P t s) {a:Addr} (hl:l.length=s) (w:World) (hc:∀ i u,l[i]? =some u->AM6 w.heap (a.add i)=some u) (ρ:Operand->Value) (x:Operand) (hx:ρ x= .pointer (some a)) (o:Oper) (ho:o.op= .load t x):
 (execOp ρ o).run P w= .ok (.value<|.agg l.toArray) w:=by
 obtain ⟨⟨dd,hd,hag⟩,i,hi,hsz⟩:=ht;have h1:=run_loadCells (P:=P) (a:=a) (w:=w) l 0 #[] (λi u hu=>by rw [Nat.zero_add];exact hc i u hu);rw [hl,<- hsz] at h1;have h2:=Asp (P:=P) hd w;rw [hag] at h2;simp only [execOp,ho,Instr.loadAt,hx,Instr.sureAddr,loadVar];simp [h2,AXt hi,loadCells,h1]
theorem ATy {a:Addr} (l:List Value) (ht:AgT P t s) (hl:l.length=s) (hx:e.ev x= .pointer (some a)) (hc:∀ i u,l[i]? =some u->AM6 h (a.add i)=some u) (H:RL P B false ops rest (e.set d<|.agg l.toArray) h K):
 RL P B false ops (⟨some d,.load t x,ty,pos,af,none⟩ :: rest) e h K:=by
 show GOp P B false ops _ e h _;unfold GOp;rw [if_pos<|by simp [Region.wanted]];exact ⟨_,λw hw=>Alp ht hl w (by grind) _ x hx _ rfl,H⟩
theorem AQr {a:Addr} (l:List Value) (ht:AgT P t s) (hl:l.length=s) (hx:e.ev x= .pointer (some a)) (hb:B h) (hc:∀ h',B h'-> ∀ i u,l[i]? =some u->AM6 h' (a.add i)=some u) (H:RL P B true ops rest (e.set d<|.agg l.toArray) h K):
 RL P B true ops (⟨some d,.load t x,ty,pos,af,none⟩ :: rest) e h K:=by
 show GOp P B true ops _ e h _;unfold GOp;rw [if_pos<|by simp [Region.wanted]];exact ⟨_,hb,λw hw=>Alp ht hl w (hc _ hw) _ x hx _ rfl,H⟩
theorem A4c {a:Option Addr} {n cap k:Nat} (hT:SlT P t el s) (hx:e.ev x= .slice a n cap) (hy:e.ev y= .int kk (k:Int)) (hk:k<=cap) (H:RL P B st ops rest (e.set d<|.slice a k cap) h K):
 RL P B st ops (⟨some d,.slice t x none (some y) none,ty,pos,af,none⟩ :: rest) e h K:=
 ANz (v:= .slice a k cap) rfl rfl (λw=>by
  obtain ⟨hu,i,hi,hs⟩:=hT;have h1:(k:Int)<=(cap:Int):=by omega
  have ha:(if cap=0 then a else Option.map (λx=>x.add<|0 * i.size) a)=a:=by
   split
   ·rfl
   ·cases a <;> simp [Addr.add]
  simp [execOp,hx,hy,Instr.sliceAt,Instr.slice,AS6 hu,Instr.sliceBounds,Instr.sliceBound,asIntOf,h1,AXt hi,Addr.add];intro hlt;omega) H
theorem Aok {a:Option Addr} {n cap k:Nat} (hT:SlT P t el s) (hx:e.ev x= .slice a n cap) (hy:e.ev y= .int kk (k:Int)) (hk:k<=n) (hn:n<=cap)
 (H:RL P B st ops rest (e.set d<|.slice (if cap=k then a else a.map (·.add<|k * s)) (n - k)<|cap - k) h K):
 RL P B st ops (⟨some d,.slice t x (some y) none none,ty,pos,af,none⟩ :: rest) e h K:=
 ANz (v:= .slice (if cap=k then a else a.map (·.add<|k * s)) (n - k)<|cap - k) rfl rfl (λw=>by
  obtain ⟨hu,i,hi,hs⟩:=hT
  have h1:(k:Int)<=(n:Int):=by omega
  simp [execOp,hx,hy,Instr.sliceAt,Instr.slice,AS6 hu,Instr.sliceBounds,Instr.sliceBound,asIntOf,h1,AXt hi,hs]
  intro hlt;omega) H
end
section
variable {P:Program} {B:AH8->Prop} {st:Bool} {ops:Array Oper} {rest:List Oper} {e:Env} {h:AH8} {K:Env->AH8->Prop} {ty:TypeId} {pos:String} {af:Array Edge}
theorem AIs {op:Op} (t:Nat) (b:Bool) (H:RL P B st ops (⟨dst,op,ty,pos,af,none⟩ :: rest) e h K) (ht:(ops[j]?).bind (·.dst)=some t:=by kernel_rfl) (hv:e t= .bool b:=by rfl) (hb:(b == want)=true:=by rfl):RL P B st ops (⟨dst,op,ty,pos,af,some (j,want)⟩ :: rest) e h K:=AJ6 t b ht hv hb H
theorem AW0 {op:Op} (t:Nat) (b:Bool) (H:RL P B st ops rest (e.put dst undef) h K) (ht:(ops[j]?).bind (·.dst)=some t:=by kernel_rfl) (hv:e t= .bool b:=by rfl) (hb:(b == want)=false:=by rfl):RL P B st ops (⟨dst,op,ty,pos,af,some (j,want)⟩ :: rest) e h K:=AJw t b ht hv hb H
end
section
variable {P:Program} {B:AH8->Prop} {st:Bool} {ops:Array Oper} {rest:List Oper} {e:Env} {h:AH8} {K:Env->AH8->Prop} {y1 y2 y3 y4 y5 y6:TypeId} {z1 z2 z3 z4 z5 z6:String} {a1 a2 a3 a4 a5 a6:Array Edge} {d1 d2 d3 d4 d5 d6:Option Nat} {o1 o2 o3 o4 o5 o6:Op} {j:Nat} {want:Bool}
theorem AP2 (t:Nat) (b:Bool) (H:RL P B st ops rest ((e.put d1 undef).put d2 undef) h K) (ht:(ops[j]?).bind (·.dst)=some t:=by kernel_rfl) (hb:(b == want)=false:=by rfl) (v1:e t= .bool b:=by rfl) (v2:(e.put d1 undef) t= .bool b:=by rfl):RL P B st ops (⟨d1,o1,y1,z1,a1,some (j,want)⟩ :: ⟨d2,o2,y2,z2,a2,some (j,want)⟩ :: rest) e h K:=AJw t b ht v1 hb<|AJw t b ht v2 hb H
theorem ANe (t:Nat) (b:Bool) (H:RL P B st ops rest (((e.put d1 undef).put d2 undef).put d3 undef) h K) (ht:(ops[j]?).bind (·.dst)=some t:=by kernel_rfl) (hb:(b == want)=false:=by rfl) (v1:e t= .bool b:=by rfl) (v2:(e.put d1 undef) t= .bool b:=by rfl) (v3:((e.put d1 undef).put d2 undef) t= .bool b:=by rfl):RL P B st ops (⟨d1,o1,y1,z1,a1,some (j,want)⟩ :: ⟨d2,o2,y2,z2,a2,some (j,want)⟩ :: ⟨d3,o3,y3,z3,a3,some (j,want)⟩ :: rest) e h K:=AP2 t b (AJw t b ht v3 hb H) ht hb v1 v2
theorem AUi (t:Nat) (b:Bool) (H:RL P B st ops rest ((((e.put d1 undef).put d2 undef).put d3 undef).put d4 undef) h K) (ht:(ops[j]?).bind (·.dst)=some t:=by kernel_rfl) (hb:(b == want)=false:=by rfl) (v1:e t= .bool b:=by rfl) (v2:(e.put d1 undef) t= .bool b:=by rfl) (v3:((e.put d1 undef).put d2 undef) t= .bool b:=by rfl) (v4:(((e.put d1 undef).put d2 undef).put d3 undef) t= .bool b:=by rfl):RL P B st ops (⟨d1,o1,y1,z1,a1,some (j,want)⟩ :: ⟨d2,o2,y2,z2,a2,some (j,want)⟩ :: ⟨d3,o3,y3,z3,a3,some (j,want)⟩ :: ⟨d4,o4,y4,z4,a4,some (j,want)⟩ :: rest) e h K:=ANe t b (AJw t b ht v4 hb H) ht hb v1 v2 v3
theorem AN1 (t:Nat) (b:Bool) (H:RL P B st ops rest (((((e.put d1 undef).put d2 undef).put d3 undef).put d4 undef).put d5 undef) h K) (ht:(ops[j]?).bind (·.dst)=some t:=by kernel_rfl) (hb:(b == want)=false:=by rfl) (v1:e t= .bool b:=by rfl) (v2:(e.put d1 undef) t= .bool b:=by rfl) (v3:((e.put d1 undef).put d2 undef) t= .bool b:=by rfl) (v4:(((e.put d1 undef).put d2 undef).put d3 undef) t= .bool b:=by rfl) (v5:((((e.put d1 undef).put d2 undef).put d3 undef).put d4 undef) t= .bool b:=by rfl):RL P B st ops (⟨d1,o1,y1,z1,a1,some (j,want)⟩ :: ⟨d2,o2,y2,z2,a2,some (j,want)⟩ :: ⟨d3,o3,y3,z3,a3,some (j,want)⟩ :: ⟨d4,o4,y4,z4,a4,some (j,want)⟩ :: ⟨d5,o5,y5,z5,a5,some (j,want)⟩ :: rest) e h K:=AUi t b (AJw t b ht v5 hb H) ht hb v1 v2 v3 v4
end
section
variable {P:Program} {Q:Exit->Env->AH8->Prop} {K:Env->AH8->Prop} {e:Env} {h:AH8} {B:AH8->Prop} {st:Bool} {ops:Array Oper} {d:Nat} {ty:TypeId} {pos:String} {af:Array Edge}
theorem AH5 (H:K e h):RL P B st ops [] e h (AWw K Q .normal):=AIu<|q_t H
theorem AH1 {l:List Oper} {b:Code} (H:RL P (λ_=>True) false l.toArray l e h (AWw (λe h=>W P b Q e h) Q .normal)):W P (.seq (.region id l.toArray false) b) Q e h:=AH3<|AIf H
theorem AH7 (H:K (e.mv d x) h):RL P B st ops [⟨some d,.assign x,ty,pos,af,none⟩] e h (AWw K Q .normal):=AIw<|AIu<|q_t H
theorem AJd {Q':Exit->Env->AH8->Prop} {l:List Oper} {b:Code} (H:RL P (λ_=>True) false l.toArray l (e.mv d x) h (AWw (λe h=>W P b Q e h) Q .normal)):RL P B st ops [⟨some d,.assign x,ty,pos,af,none⟩] e h (AWw (λe h=>W P (.seq (.region id l.toArray false) b) Q e h) Q' .normal):=AIw<|AIu<|q_t<|AH3<|AIf H
theorem AQs {Q':Exit->Env->AH8->Prop} {l:List Oper} {b:Code} (H:RL P (λ_=>True) false l.toArray l e h (AWw (λe h=>W P b Q e h) Q .normal)):RL P B st ops [] e h (AWw (λe h=>W P (.seq (.region id l.toArray false) b) Q e h) Q' .normal):=AIu<|q_t<|AH3<|AIf H
theorem ARb {a b:Code} (m:Nat) (live:X->List (Nat × Value)) (J:X->AH8->Prop) (H:W P a (AWw (λe' h'=> ∃ x,J x h'/\Adi (live x) e') Q) e h)
 (H2:∀ x s h',J x h'->W P b Q (setL (live x)<|mix m s e) h') (hm:Afr m a=true:=by kernel_rfl):W P (.seq a b) Q e h:=Adx m live J hm H H2
theorem AMw {l:List Oper} (H:RL P (λ_=>True) false l.toArray l e h (Q .normal)) (hst:(AYt l.toArray true,Alj l.toArray true)=(false,true):=by kernel_rfl):W P (.region id l.toArray true) Q e h:=AZt hst H
end
theorem Adk (a b:Int):a < b∨b<=a:=by omega
theorem Afv {b A B:Int} (ha:0<=a) (hA:a<=A) (hb:0<=b) (hB:b<=B):0<=a * b/\a * b<=A * B:=
 ⟨Int.mul_nonneg ha hb,Int.mul_le_mul hA hB hb<|Int.le_trans ha hA⟩
theorem A3f {x:Int} (hx:0<=x) (h:x * x<=2147483647):x<=46340:=by
 rcases Adk 46340 x with hc | hc
 ·have:=(Afv (a:=46341) (b:=46341) (A:=x) (B:=x) AHx AHx AHx AHx).2;omega
 ·exact hc
def Pr (n:Int):Prop:=2<=n/\ ∀ d,2<=d->d < n->n % d≠0
theorem Acn {n:Int} (h:n % d=0):d ∣ n:=Int.dvd_of_emod_eq_zero h
theorem Afw {n:Int} (h:d ∣ n):n % d=0:=Int.emod_eq_zero_of_dvd h
theorem Ajs {n:Int} (hn:2<=n) (hd:2<=d) (hsq:n < d * d) (h:∀ c,2<=c->c < d->n % c≠0):Pr n:=by
 refine ⟨hn,λc hc hcn hm=>?_⟩
 rcases Adk c d with hlt | hge
 ·grind
 ·obtain ⟨q,hq⟩:=Acn hm
  have hq0:0 < q:=by
   rcases Adk 0 q with h | h
   ·exact h
   ·have:c * q<=0:=Int.mul_nonpos_of_nonneg_of_nonpos AHx h;omega
  have hqd:q < d:=by
   rcases Adk q d with h | h
   ·exact h
   ·have:=(Afv (a:=d) (b:=d) (A:=c) (B:=q) AHx hge AHx h).2;omega
  have hq2:2<=q:=by
   grind
  exact h q hq2 hqd<|Afw ⟨c,by grind⟩
theorem Aun {n:Int} (hd:2<=d) (hlt:d < n) (hm:n % d=0): ¬ Pr n:=λh=>h.2 d hd hlt hm
theorem Aol {n:Int} (hd:2<=d) (h:d * d<=n):d < n:=by
 have:d * 2<=d * d:=Int.mul_le_mul_of_nonneg_left hd AHx;omega
open Classical in
noncomputable def AS7 (n:Int):Bool:=decide (n<=2147483647/\Pr n)
theorem Agf {n:Int} (h1:n<=2147483647) (h2:Pr n):true=AS7 n:=by simp [AS7,h1,h2]
theorem Abu {n:Int} (h: ¬ (n<=2147483647/\Pr n)):false=AS7 n:=by simp [AS7,h]
theorem Auo {n:Int} (h:AS7 n=true):n<=2147483647/\Pr n:=by simpa [AS7] using h
theorem Aba {n c:Int} (hc:n % c≠0) (hcd:d % c=0):n % d≠0:=by
 intro h;have h1:=Acn h;have h2:=Acn hcd;exact hc<|Afw<|Int.dvd_trans h2 h1
theorem A62 {n lo hi:Int} (h2:n % 2≠0) (h3:n % 3≠0) (h5:n % 5≠0) (h:∀ d,2<=d->d < lo->n % d≠0) (hlo:n % lo≠0) (hb:∀ d,lo < d->d < hi->d % 2=0∨d % 3=0∨d % 5=0):
 ∀ d,2<=d->d < hi->n % d≠0:=by
 intro d hd hdh
 rcases Adk d lo with h1 | h1
 ·exact h d hd h1
 ·rcases Int.lt_or_eq_of_le h1 with h1 | h1
  ·rcases hb d h1 hdh with e | e | e
   ·exact Aba h2 e
   ·exact Aba h3 e
   ·exact Aba h5 e
  grind
theorem A4d {n:Int} (h2:n % 2≠0) (h3:n % 3≠0) (h5:n % 5≠0):∀ d,2<=d->d < 7->n % d≠0:=by
 intro d hd hdh;have Ad:d=2∨d=3∨d=4∨d=5∨d=6:=by omega
 grind
def Aup:List Int:=[7,11,13,17,19,23,29,31]
def Abb (j:Nat):Int:=(Aup ++ [37])[j]?.getD 0
theorem Auq {base:Int} (hb:base % 30=0) (hj:j < 8):∀ d,base + Abb j < d->d < base + Abb (j + 1)->d % 2=0∨d % 3=0∨d % 5=0:=by
 intro d h1 h2;have:j=0∨j=1∨j=2∨j=3∨j=4∨j=5∨j=6∨j=7:=by omega
 obtain ⟨q,rfl⟩:∃ q,base=30 * q:=⟨base / 30,AHx⟩;obtain ⟨r,rfl⟩:∃ r,d=30 * q + r:=⟨d - 30 * q,AHx⟩;rcases this with rfl | rfl | rfl | rfl | rfl | rfl | rfl | rfl <;> simp [Abb,Aup] at h1 h2
 ·omega
 ·omega
 ·omega
 ·omega
 ·omega
 ·grind
 ·omega
 grind
theorem Aas (hj:j < 8):7<=Abb j/\Abb j<=31:=by
 have:j=0∨j=1∨j=2∨j=3∨j=4∨j=5∨j=6∨j=7:=by omega
 rcases this with rfl | rfl | rfl | rfl | rfl | rfl | rfl | rfl <;> simp [Abb,Aup]
theorem Ass {x m:Int} (hm:0 < m): -m < x.tmod m/\x.tmod m < m:=by
 have h1:=Int.lt_tmod_of_pos x hm;have h2:=Int.tmod_lt_of_pos x hm;omega
def Afj (m x r:Int):Prop:=0<=r/\r < m/\r * x % m=1 % m
end Go.QF
namespace Go.Proofs.YtegoafpaljeobaaGreatDoor
open Go Go.QF
theorem mx:Tryz.prog.follows .mixedOrders=true:=by kernel_rfl
theorem AIk:SlT Tryz.prog 26 41 1:=Aa9 Tryz.underlying26 AIb
theorem AIi:SlT Tryz.prog 41 2 1:=Aa9 Tryz.underlying41 AIb
theorem Afk:SlT Tryz.prog 167 3 1:=Aa9 Tryz.underlying167 AIb
theorem AV6:SlT Tryz.prog 22 174 1:=Aa9 Tryz.underlying22 AIb
theorem AIv:NaT Tryz.prog 41:=AYu Tryz.underlying41 rfl AIb
theorem AU8:NaT Tryz.prog 22:=AYu Tryz.underlying22 rfl AIb
theorem AIg:NaT Tryz.prog 2:=AYu Tryz.underlying2 rfl AIb
theorem Afl:NaT Tryz.prog 174:=AYu Tryz.underlying174 rfl AIb
theorem AJq:NaT Tryz.prog 3:=AYu Tryz.underlying3 rfl AIb
theorem A3g:NaT Tryz.prog 5:=AYu Tryz.underlying5 rfl AIb
theorem ANf:NaT Tryz.prog 4:=AYu Tryz.underlying4 rfl AIb
theorem AP8:Acm Tryz.prog 2 .i64:=Tryz.underlying2
theorem AYv:Acm Tryz.prog 3 .i64:=Tryz.underlying3
theorem Afm:Acm Tryz.prog 174 .i8:=Tryz.underlying174
theorem AYc:Acm Tryz.prog 5 .u8:=Tryz.underlying5
theorem AU9:ZeT Tryz.prog 41 (.slice none 0 0) 24:=AZv AIb
theorem ARy:ZeT Tryz.prog 2 (.int .i64 0) 8:=AZv AIb
theorem Afx:ZeT Tryz.prog 3 (.int .i64 0) 8:=AZv AIb
theorem A0x:AgT Tryz.prog 155 8:=Afu Tryz.underlying155 rfl AIb
def Ad2 (h:AH8):Prop:= ∀ i u,(Aup.map<|Value.int .i64)[i]? =some u->AM6 h ⟨0,i,none⟩=some u
theorem Ad2.ext (H:Ad2 h) (he:Ext h h'):Ad2 h':=λi u hu=>AIj (H i u hu) he
open Go.ChangeShapes Go.WideShapes Go.ChangeAt Go.RowKit
theorem own:ownKnob Tryz.prog.godebug=none:=by kernel_rfl
theorem laidOut:laidOutB Tryz.prog=true:=by kernel_rfl
theorem A63:Tryz.prog.globalNamed "quadform/prime.offsets"=some 0:=by kernel_rfl
theorem Awn:(Tryz.prog.globals[0]?).map (·.type)=some 155:=by kernel_rfl
theorem Awo:Tryz.prog.cellsOf 155=8:=by kernel_rfl
theorem Aur:Tryz.prog.cellsOf 2=1:=by kernel_rfl
theorem Aom {W:World} (h:laidMetH Tryz.prog [("quadform/prime.offsets",Rows.laid_quadform_prime_offsets)] W):Ad2 W.heap:=by
 have T:Lib.TabIs Tryz.prog W "quadform/prime.offsets" .i64 [7,11,13,17,19,23,29,31]:=
  Lib.tabIs_of_head (rest:=[]) A63 Awn Tryz.underlying155 Tryz.underlying2 Aur Awo h
 intro i u hu;have Aa:(([7,11,13,17,19,23,29,31]:List Int).map (Value.int .i64))[i]? =some u:=hu;have hi:i < ([7,11,13,17,19,23,29,31]:List Int).length:=by have:=(List.getElem?_eq_some_iff.1 Aa).1;simpa using this
 have hc:=T.cell A63 i hi;rw [List.getElem?_map,List.getElem?_eq_getElem hi] at Aa;simp only [Option.map_some,Option.some.injEq] at Aa;rw [<- Aa];rw [List.getD_eq_getElem?_getD,List.getElem?_eq_getElem hi] at hc;exact hc
theorem Aus {W:World} {a:Addr} (h:W.cell? a=some v):a=⟨a.block,a.off,none⟩:=by
 obtain ⟨b,o,s⟩:=a
 cases s with
 | none=>rfl
 | some s=>
   unfold World.cell? at h
   split at h
   ·simp at h
   ·cases h
theorem Aon {W:World} {a:Option Addr} {len cap:Nat} (hl:l.length=len) (hn:a=none->len=0) (hc:∀ a',a=some a'-> ∀ i x,l[i]? =some x->W.cell? (a'.add i)=some x):Sl W.heap (.slice a len cap) l:=by
 refine ⟨a,cap,by rw [hl],λi x hx=>?_⟩
 cases a with
 | none=>have:=hn rfl;have:=(List.getElem?_eq_some_iff.1 hx).1;omega
 | some a'=>
   have h0:0 < l.length:=by have:=(List.getElem?_eq_some_iff.1 hx).1;omega
   have hs:=Aus<|hc a' rfl 0 _ (List.getElem?_eq_getElem h0)
   have Ab:a'.add 0=a':=by simp [Addr.add]
   rw [Ab] at hs
   refine ⟨a'.block,a'.off,by rw [<- hs],?_⟩
   have:=hc a' rfl i x hx
   rw [hs] at this
   rw [show (⟨a'.block,a'.off + i,none⟩:Addr)=(⟨a'.block,a'.off,none⟩:Addr).add i by rw [AN0]]
   exact this
theorem Aq1 {args:Array Value} {W:World} (H:AI7 Tryz.prog f args W.heap λx h'=>Ext W.heap h'/\x= .bool true):Calls Tryz.prog f args W λe W'=>e= .returned (.bool true)/\Below W.heap.size W W':=by
 refine Calls.mono (H.2 W rfl) λe W' hk=>?_;obtain ⟨v,rfl,hs,hE,rfl⟩:=hk;exact ⟨rfl,⟨hs.os,hs.tape,hs.output,hE.1,hE.2⟩⟩
noncomputable def Ahh (os:Os):World:=
 { World.holding Tryz.prog os ⟨#[],#[],[]⟩ with heap:=(World.holding Tryz.prog os ⟨#[],#[],[]⟩).heap.modify 0 fun
  | .cells _ t frozen=> .cells #[.int .i64 7,.int .i64 11,.int .i64 13,.int .i64 17,.int .i64 19,.int .i64 23,.int .i64 29,.int .i64 31] t frozen
  | o=>o }
end Go.Proofs.YtegoafpaljeobaaGreatDoor
namespace Go.QF
def AYd (M:List (List Int)):Nat:=(M[0]?.getD []).length
def Valid (M:List (List Int)):Prop:=1<=M.length/\M.length<=16/\1<=AYd M/\AYd M<=16/\ ∀ z∈M,z.length=AYd M
instance (M:List (List Int)):Decidable (Valid M):=by unfold Valid;infer_instance
def Awp (M:List (List Int)):Prop:=Valid M/\M.length=AYd M/\M.length<=8
instance (M:List (List Int)):Decidable (Awp M):=by unfold Awp;infer_instance
def ent (A:List (List Int)) (i j:Nat):Int:=(A[i]?.getD [])[j]?.getD 0
theorem A4e {A:List (List Int)} (hi:i < A.length) (hj:j < A[i].length):ent A i j=A[i][j]:=by
 simp [ent,hi,hj]
def psum (f:Nat->Int):Nat->Int
 | 0=>0
 | n + 1=>psum f n + f n
theorem AIl {f g:Nat->Int} {n:Nat} (h:∀ k,k < n->f k=g k):psum f n=psum g n:=by
 induction n with
 | zero=>rfl
 | succ n ih=>simp only [psum];grind
def tab (r c:Nat) (f:AIe):List (List Int):=(List.range r).map λi=>(List.range c).map λj=>f i j
theorem AJf (r c:Nat) (f:AIe):(tab r c f).length=r:=by simp [tab]
theorem AN9 {r c:Nat} {f:AIe} (hi:i < r):(tab r c f)[i]? =some ((List.range c).map λj=>f i j):=by simp [tab,hi]
theorem Amq {r c:Nat} {f:AIe} (hi:i < r) (hj:j < c):ent (tab r c f) i j=f i j:=by simp [ent,tab,hi,hj]
theorem Awq {r c:Nat} {f:AIe} (hr:0 < r):AYd (tab r c f)=c:=by simp [AYd,tab,hr]
theorem ARc {r c:Nat} {f g:AIe} (h:∀ i j,i < r->j < c->f i j=g i j):tab r c f=tab r c g:=by
 unfold tab;simp_all
theorem Aq2 {A:List (List Int)} {c:Nat} (h:∀ z∈A,z.length=c):A=tab A.length c (ent A):=by
 refine List.ext_getElem (by simp [tab]) λi h1 h2=>?_;simp only [tab,List.getElem_map,List.getElem_range];have hl:=h A[i]<|List.getElem_mem _;refine List.ext_getElem (by simp [hl]) λj h3 h4=>?_;simp only [List.getElem_map,List.getElem_range];rw [A4e h1 h3]
theorem Agg {r c:Nat} {f:AIe}:∀ z∈tab r c f,z.length=c:=by
 intro z hz;simp only [tab,List.mem_map] at hz;grind
def Air (C:Nat) (f g:Nat->Int) (j:Nat):List Int:=(List.range C).map λc=>if c < j then f c else g c
theorem Aut (C:Nat) (f g:Nat->Int):Air C f g 0=(List.range C).map g:=by simp [Air]
theorem Awr (f g:Nat->Int) (h:C<=j):Air C f g j=(List.range C).map f:=by
 unfold Air;refine List.map_congr_left λc hc=>if_pos (by grind)
theorem Ad3 (C:Nat) (f g:Nat->Int) (j:Nat):(Air C f g j).length=C:=by simp [Air]
theorem Ajt {f g:Nat->Int} {c:Nat} (hc:c < C):(Air C f g j)[c]? =some (if c < j then f c else g c):=by simp [Air,hc]
theorem Aws {f g:Nat->Int} {y:Int} (hc:j < C) (hy:y=f j):(Air C f g j).set j y=Air C f g (j + 1):=by
 subst hy;refine List.ext_getElem? λc=>?_;rw [List.getElem?_set];by_cases hjc:j=c
 ·subst hjc;rw [if_pos rfl,if_pos (by rw [Ad3];exact hc),Ajt hc,if_pos AHx]
 ·rw [if_neg hjc];rcases Nat.lt_or_ge c C with h | h
  ·rw [Ajt h,Ajt h];grind
  ·rw [List.getElem?_eq_none (by rw [Ad3];exact h),List.getElem?_eq_none (by rw [Ad3];exact h)]
theorem Aq3 (f:Nat->α) (i:Nat):(List.range i).map f ++ [f i]=(List.range<|i + 1).map f:=by
 rw [List.range_succ,List.map_append];rfl
theorem Auu (C:Nat):(List.range C).map (λ_=>(0:Int))=List.replicate C 0:=by
 refine List.ext_getElem AI9 λi h1 h2=>by simp
def Aoo (A:List (List Int)) (m:Int):List (List Int):=A.map (·.map (· % m))
end Go.QF
namespace Go.Proofs.YtegoafpaljeobaaGreatDoor
open Go Go.QF
theorem Awt (n:Int) (h:AH8):AI7 Tryz.prog 115 #[.int .i64 n] h λv h'=>h'=h/\v= .bool (AS7 n):=by
 refine AJi (l:=[_]) mx Tryz.func115 rfl rfl rfl rfl rfl AIb (AH1<|AH7<|AH3<|AH1<|AHy<|ANd rfl rfl (λAc=>?_) (λAc=>?_))
 ·refine AHy<|AJw 6 true AIb rfl rfl (AJw 6 true AIb rfl rfl (AIm rfl (AH5<|AI2 rfl (AH1<|AH7<|AIc<|AIt<|⟨_,AId,?_⟩))));exact ⟨rfl,show Value.bool false=_ from congrArg _<|Abu (λhp=>by have:=hp.2.1;omega)⟩
 ·refine AHy<|AJ6 6 false AIb rfl rfl (AHy<|AJ6 6 false AIb rfl rfl (AZu rfl rfl (λAd=>?_) (λAd=>?_)))
  ·refine AIn rfl (AH5<|AI2 rfl (AH1<|AH7<|AIc<|AIt<|⟨_,AId,?_⟩));exact ⟨rfl,show Value.bool false=_ from congrArg _<|Abu λhp=>by omega⟩
  ·refine AIn rfl (AH5<|AI6 rfl (AIa<|q_t<|AH3<|AH1<|AH7<|AH6<|AMc 2096140 (λd:Int=>[(3,.int .i64 d)]) (λk d h'=>h'=h/\k=(50000 - d).toNat/\2<=d/\(d - 1) * (d - 1)<=n/\ ∀ c,2<=c->c < d->n % c≠0) AIb 49998 2 ?_ ⟨rfl,trivial⟩ ?_))
   ·exact ⟨rfl,rfl,AHx,AHx,λc h1 h2=>by omega⟩
   rintro k d s h1 ⟨rfl,rfl,hd,hsq,hJ⟩;have Ah:=A3f (x:=d - 1) AHx AHx;have hdd:=Afv (a:=d) (b:=d) (A:=46341) (B:=46341) AHx AHx AHx AHx;refine AH3<|AH1<|AHy<|AHy<|AWh rfl rfl AHx AHx (AHy<|Abq rfl rfl (λAf=>?_) (λAf=>?_))
   ·refine AH5<|AI2 rfl (AIa<|q_t<|AH3<|AH6<|AH1<|AHy<|AHy<|Adz rfl rfl AHx AHx (Abr rfl rfl (λAg=>?_) (λAg=>?_)))
    ·refine AH5<|AI2 rfl (AH1<|AH7<|AIc<|AKa<|AIt<|AIt<|AKa<|AIt<|⟨_,AId,?_⟩);exact ⟨rfl,show Value.bool false=_ from congrArg _<|Abu λhp=>Aun hd (Aol hd AHx) (by assumption) hp.2⟩
    ·refine AH5<|AI6 rfl (AIa<|q_b<|q_t<|AIf<|AHy<|Ajr rfl rfl AHx AHx (AH7<|⟨(50000 - (d + 1)).toNat,d + 1,AHx,⟨rfl,rfl,AHx,by rw [show d + 1 - 1=d by omega];omega,λc h1 h2=>?_⟩,rfl,trivial⟩));rcases Adk c d with h3 | h3
     ·exact hJ c h1 h3
     ·obtain rfl:c=d:=by omega
      assumption
   ·refine AH5<|AI6 rfl (AIq<|AIr<|AIr<|AJt<|q_t<|AH1<|AH7<|AIc<|⟨_,AId,?_⟩);exact ⟨rfl,show Value.bool true=_ from congrArg _<|Agf AHx<|Ajs AHx hd AHx hJ⟩
theorem Auv {n:Int} (hn:2<=n) (hp:p=2∨p=3∨p=5) (hm:n % p=0):p=n↔Pr n:=by
 constructor
 ·rintro rfl;refine ⟨hn,λd h1 h2 h3=>?_⟩;have:d=2∨d=3∨d=4:=by omega
  grind
 ·intro h;rcases Adk p n with h1 | h1
  ·exact absurd hm<|h.2 p AHx h1
  grind
def pv (i:Nat):Int:=[2,3,5][i]?.getD 0
theorem Awu (hi:i < 3):pv i=2/\i=0∨pv i=3/\i=1∨pv i=5/\i=2:=by
 have:i=0∨i=1∨i=2:=by omega
 rcases this with rfl | rfl | rfl <;> simp [pv]
theorem A8c (hi:i < 3) (w:World):(Instr.index 154 (.agg #[.int .i64 2,.int .i64 3,.int .i64 5])<|.int .i64 (i:Int)).run Tryz.prog w= .ok (.int .i64<|pv i) w:=by
 have:i=0∨i=1∨i=2:=by omega
 rcases this with rfl | rfl | rfl <;> (show _=_;kernel_rfl)
theorem A8d (hi:i < 8) (w:World):(Instr.index 155 (.agg (Aup.map<|Value.int .i64).toArray)<|.int .i64 (i:Int)).run Tryz.prog w= .ok (.int .i64<|Abb i) w:=by
 have:i=0∨i=1∨i=2∨i=3∨i=4∨i=5∨i=6∨i=7:=by omega
 rcases this with rfl | rfl | rfl | rfl | rfl | rfl | rfl | rfl <;> (show _=_;kernel_rfl)
theorem Awv {n:Int} (hn:2<=n) (Am:n<=2147483647) (HO:Ad2 h):AI7 Tryz.prog 77 #[.int .i64 n] h λv h'=>h'=h/\ ∃ f,v= .int .i64 f/\(f=n↔Pr n):=by
 refine AJi (l:=[_]) mx Tryz.func77 rfl rfl rfl rfl rfl AIb (AH1<|AH7<|Asn<|AH3<|AH1<|ALe (v:= .agg #[.int .i64 2,.int .i64 3,.int .i64 5]) (λ_=>by kernel_rfl)<|AHy<|AH5<|AH6<|AMc 1046548 (λi:Nat=>[(11,.int .i64 (i:Int))]) (λk i h'=>h'=h/\k=3 - i/\i<=3/\(1<=i->n % 2≠0)/\(2<=i->n % 3≠0)/\(3<=i->n % 5≠0)) AIb 3 0 ?_ ⟨rfl,trivial⟩ ?_)
 ·exact ⟨rfl,rfl,AHx,λh=>by omega,λh=>by omega,λh=>by omega⟩
 rintro k i s h1 ⟨rfl,rfl,hi,h2,h3,h5⟩;refine AH1<|ANd rfl rfl (λAf=>?_) (λAf=>?_)
 ·refine AH5<|AH3<|AI2 rfl (AIa<|q_t<|AH3<|AH6<|AH1<|A3e (cs:= #[]) (v:=undef) (A8c AHx)<|AJd<|AHy<|AHy<|Adz rfl rfl AHx (by have:=Awu (i:=i) AHx;omega) (Abr rfl rfl (λAa=>?_) (λAa=>?_)))
  ·refine AH5<|AI2 rfl (AH1<|AHy<|AH7<|AIc<|AKa<|AIt<|AIt<|AKa<|AIt<|Awf<|⟨_,AId,?_⟩);exact ⟨rfl,pv i,rfl,Auv AHx (by have:=Awu (i:=i) AHx;omega)<|by assumption⟩
  ·refine AH5<|AI6 rfl (AIa<|q_b<|q_t<|AIf<|ASf rfl AHx (AHy<|AH5 ?_));have hp:=Awu (i:=i) AHx;exact ⟨3 - (i + 1),i + 1,AHx,⟨rfl,rfl,AHx,λh=>by rcases hp with ⟨e,_⟩ | ⟨e,_⟩ | ⟨e,_⟩ <;> first | (rw [e] at Aa;exact Aa) | exact h2 AHx,λh=>by rcases hp with ⟨e,_⟩ | ⟨e,_⟩ | ⟨e,_⟩ <;> first | omega | (rw [e] at Aa;exact Aa) | exact h3 AHx,λh=>by rcases hp with ⟨e,_⟩ | ⟨e,_⟩ | ⟨e,_⟩ <;> first | omega | (rw [e] at Aa;exact Aa)⟩,rfl,trivial⟩
 ·refine AH5<|AH3<|AI6 rfl (AIq<|AIr<|AIr<|AJt<|q_t<|AH1<|AHy<|AH7<|AH3<|Aso<|q_t<|AH3<|AH1<|AH7 ?_);refine AH6 ?_;have h2:=h2 AHx;have h3:=h3 AHx;have h5:=h5 AHx;refine AMc 2199021159264 (λb:Int=>[(5,.int .i64 n),(6,.int .i64 b)]) (λk b h'=>h'=h1/\k=(50000 - b).toNat/\0<=b/\b<=46400/\b % 30=0/\ ∀ d,2<=d->d < b + 7->n % d≠0) AIb 50000 0 ?_ ⟨rfl,rfl,trivial⟩ ?_
  ·exact ⟨rfl,rfl,AHx,AHx,AHx,λd a b=>A4d h2 h3 h5 d a AHx⟩
  rintro k b s h1 ⟨rfl,rfl,Ao,Ap,Ag,hJ⟩;refine AH3<|AH6<|AH1<|ATy (Aup.map<|Value.int .i64) A0x rfl rfl (λi u hu=>by rw [AN0,Nat.zero_add];exact HO i u hu) ?_;refine AHy<|AH5<|AH6<|AMc 2199006479136 (λj:Nat=>[(24,.int .i64 (j:Int)),(5,.int .i64 n)]) (λk j h'=>h'=h1/\k=8 - j/\j<=8/\(1<=j->(b + Abb (j - 1)) * (b + Abb (j - 1))<=n)/\ ∀ d,2<=d->d < b + Abb j->n % d≠0) AIb 8 0 ?_ ⟨rfl,rfl,trivial⟩ ?_
  ·exact ⟨rfl,rfl,AHx,λh=>by omega,hJ⟩
  rintro k j s h1 ⟨rfl,rfl,hj,Ah,hjJ⟩;refine AH1<|ANd rfl rfl (λAi=>?_) (λAi=>?_)
  ·refine AH5<|AH3<|AI2 rfl (AIa<|q_t<|AH3<|AH6<|AH1<|A3e (cs:= #[]) (v:=undef) (A8d AHx)<|AJd<|AHy<|AHy<|Ajr rfl rfl (by have:=Aas (j:=j) AHx;omega) (by have:=Aas (j:=j) AHx;omega) (AH7 ?_));refine AH3<|AH1<|AHy<|AHy<|AWh rfl rfl (by have:=Aas (j:=j) AHx;have:=Afv (a:=b + Abb j) (b:=b + Abb j) (A:=47000) (B:=47000) AHx AHx AHx AHx;omega) (by have:=Aas (j:=j) AHx;have:=Afv (a:=b + Abb j) (b:=b + Abb j) (A:=47000) (B:=47000) AHx AHx AHx AHx;omega) (AHy<|AZu rfl rfl (λAj=>?_) (λAj=>?_))
   ·refine AH5<|AI2 rfl (AIq<|AIr<|Aip AHz<|AIr<|AIr<|Aip AHz<|Aip AHz<|AIr<|AIr<|AJt<|q_t<|AH1<|AHy<|AH7<|AIc<|Awf<|⟨_,AId,?_⟩);have hob:=Aas (j:=j) AHx;exact ⟨rfl,n,rfl,⟨λ_=>Ajs AHx (d:=b + Abb j) AHx AHx hjJ,λ_=>rfl⟩⟩
   ·refine AH5<|AI6 rfl (AIa<|q_t<|AH1<|AHy<|AHy<|Adz rfl rfl AHx (by have:=Aas (j:=j) AHx;omega) (Abr rfl rfl (λAk=>?_) (λAk=>?_)))
    ·refine AH5<|AI2 rfl (AH1<|AHy<|AH7<|AIq<|Aip AHz<|AIr<|AIr<|Aip AHz<|Aip AHz<|AIr<|AIr<|AJt<|q_t<|AH1<|AHy<|AH7<|AIc<|Awf<|⟨_,AId,?_⟩);have hob:=Aas (j:=j) AHx;have hlt:=Aol (n:=n) (d:=b + Abb j) AHx AHx;exact ⟨rfl,b + Abb j,rfl,⟨λhe=>by omega,λhp=>absurd (by assumption)<|hp.2 (b + Abb j) AHx hlt⟩⟩
    ·refine AH5<|AI6 rfl (AIa<|q_b<|q_t<|AIf<|ASf rfl AHx (AHy<|AH5 ?_));exact ⟨8 - (j + 1),j + 1,AHx,⟨rfl,rfl,AHx,λh=>by rw [show j + 1 - 1=j by omega];omega,A62 h2 h3 h5 hjJ (by assumption)<|Auq Ag AHx⟩,rfl,rfl,trivial⟩
  ·refine AH5<|AH3<|AI6 rfl (AIq<|AIr<|AIr<|AJt<|q_b<|q_t<|AIf<|AHy<|Ajr rfl rfl AHx AHx (AH7 ?_));have hsq:=Ah AHx;have Aq:=A3f (x:=b + Abb (j - 1)) (by have:=Aas (j:=j - 1) AHx;omega) AHx;obtain rfl:j=8:=by omega
   have e7:Abb (8 - 1)=31:=rfl;exact ⟨(50000 - (b + 30)).toNat,b + 30,AHx,⟨rfl,rfl,AHx,AHx,AHx,λd a c=>hjJ d a (by have:Abb 8=37:=rfl;omega)⟩,rfl,rfl,trivial⟩
theorem A3h (n:Int) (HO:Ad2 h):AI7 Tryz.prog 39 #[.int .i64 n] h λv h'=>h'=h/\v= .bool (AS7 n):=by
 refine AJi (l:=[_]) mx Tryz.func39 rfl rfl rfl rfl rfl AIb (AH1<|AJd<|AHy<|Ad0 rfl rfl (λAa=>?_) (λAa=>?_))
 ·refine AHy<|AJ6 5 true AIb rfl rfl (AHy<|AJ6 5 true AIb rfl rfl (Abq rfl rfl (λAb=>?_) (λAb=>?_)))
  ·refine AIm rfl (AHy<|AJ6 9 true AIb rfl rfl (AHy<|AJ6 9 true AIb rfl rfl (AIz trivial rfl (Awv AHx AHx HO) λv' h' hk=>?_)));obtain ⟨rfl,f,rfl,hf⟩:=hk;refine ⟨trivial,?_⟩;refine AJ6 9 true AIb rfl rfl (AHy<|AJ6 9 true AIb rfl rfl (Abr rfl rfl (λAc=>?_) (λAc=>?_)))
   ·refine AIm rfl (AH7<|AIc<|⟨_,AId,?_⟩);exact ⟨rfl,show Value.bool true=_ from congrArg _<|Agf AHx<|hf.1<|by assumption⟩
   ·refine AIm rfl (AH7<|AIc<|⟨_,AId,?_⟩);exact ⟨rfl,show Value.bool false=_ from congrArg _<|Abu λhp=>absurd (hf.2 hp.2)<|by assumption⟩
  ·refine AIm rfl (AHy<|AJw 9 false AIb rfl rfl (AJw 9 false AIb rfl rfl (AJw 9 false AIb rfl rfl (AJw 9 false AIb rfl rfl (AIn rfl (AH7<|AIc<|⟨_,AId,?_⟩))))));exact ⟨rfl,show Value.bool false=_ from congrArg _<|Abu λhp=>by omega⟩
 ·refine AHy<|AJw 5 false AIb rfl rfl (AJw 5 false AIb rfl rfl (AIn rfl (AHy<|AJw 9 false AIb rfl rfl (AJw 9 false AIb rfl rfl (AJw 9 false AIb rfl rfl (AJw 9 false AIb rfl rfl (AIn rfl (AH7<|AIc<|⟨_,AId,?_⟩))))))));exact ⟨rfl,show Value.bool false=_ from congrArg _ (Abu λhp=>by have:=hp.2.1;omega)⟩
def EI (m x a b u v:Int):Prop:=
 0<=b/\0<=a/\a<=m/\b<=m/\(∃ s U V:Int,(s=1∨s= -1)/\u=s * U/\v= -s * V/\0<=U/\0<=V/\a * V + b * U=m)/\m ∣ u * x - a/\m ∣ v * x - b/\ ∀ g:Int,g ∣ a->g ∣ b->g ∣ m/\g ∣ x
theorem EI.start {m x:Int} (hx:0<=x) (hxm:x < m):EI m x m x 0 1:=
 ⟨hx,AHx,AHx,AHx,⟨-1,0,1,.inr rfl,AHx,AHx,AHx,AHx,AHx⟩,⟨-1,AHx⟩,⟨0,AHx⟩,λg h1 h2=>⟨h1,h2⟩⟩
theorem EI.bounds {m x b u v:Int} (H:EI m x a b u v) (hb:0 < b):0<=a / b/\a / b<=m/\0<=a / b * b/\a / b * b<=a/\ -m<=a / b * v/\a / b * v<=m/\ -m<=u - a / b * v/\u - a / b * v<=m:=by
 obtain ⟨h0,ha,ham,hbm,⟨s,U,V,hs,rfl,rfl,hU,hV,hm⟩,_⟩:=H;have hq:0<=a / b:=Int.ediv_nonneg ha h0;have hqa:a / b * b<=a:=Int.ediv_mul_le _ AHx;have Ac:a / b<=a:=Int.ediv_le_self _ ha;have hqb:0<=a / b * b:=Int.mul_nonneg hq h0;have hqV:0<=a / b * V:=Int.mul_nonneg hq hV
 have hV':b * (U + a / b * V)<=m:=by
  have e:b * (U + a / b * V)=b * U + (a / b * b) * V:=by rw [Int.mul_add,<- Int.mul_assoc,Int.mul_comm b<|a / b]
  have:(a / b * b) * V<=a * V:=Int.mul_le_mul_of_nonneg_right hqa hV
  omega
 have hW:U + a / b * V<=b * (U + a / b * V):=by
  have:1 * (U + a / b * V)<=b * (U + a / b * V):=Int.mul_le_mul_of_nonneg_right AHx AHx
  omega
 rcases hs with rfl | rfl
 ·have e1:a / b * (-1 * V)= -(a / b * V):=by rw [Int.neg_mul,Int.one_mul,Int.mul_neg]
  rw [e1];omega
 ·have e1:a / b * (- -1 * V)=a / b * V:=by rw [Int.neg_neg,Int.one_mul]
  rw [e1];omega
theorem EI.step {m x b u v:Int} (H:EI m x a b u v) (hb:0 < b):EI m x b (a - a / b * b) v (u - a / b * v):=by
 have hbd:=H.bounds hb;obtain ⟨h0,ha,ham,hbm,⟨s,U,V,hs,rfl,rfl,hU,hV,hm⟩,hu,hv,hg⟩:=H;have hmod:a - a / b * b=a % b:=by rw [Int.emod_def,Int.mul_comm]
 have h1:=Int.emod_nonneg a (b:=b) AHx;have h2:=Int.emod_lt_of_pos a hb;have hqV:0<=a / b * V:=Int.mul_nonneg hbd.1 hV;refine ⟨AHx,h0,hbm,AHx,⟨-s,V,U + a / b * V,AHx,rfl,?_,hV,AHx,?_⟩,hv,?_,λg g1 g2=>?_⟩
 ·rw [Int.neg_neg,Int.mul_add,Int.neg_mul,Int.mul_neg,Int.sub_neg,Int.mul_left_comm]
 ·rw [Int.mul_add,Int.sub_mul,<- Int.mul_assoc,Int.mul_comm b<|a / b];omega
 ·have e:(s * U - a / b * (-s * V)) * x - (a - a / b * b)=(s * U * x - a) - a / b * (-s * V * x - b):=by
   rw [Int.sub_mul,Int.mul_sub,Int.mul_assoc<|a / b];omega
  rw [e];exact Int.dvd_sub hu<|Int.dvd_mul_of_dvd_right hv
 ·have:g ∣ a:=by
   have:=Int.dvd_add g2<|Int.dvd_trans g1<|Int.dvd_mul_left (a / b) b
   rwa [Int.sub_add_cancel] at this
  exact hg g this g1
theorem EI.done {m x u v:Int} (hm:2<=m) (H:EI m x a 0 u v):1<=a/\(a=1->Afj m x (u % m))/\(a≠1->¬ ∃ y,Afj m x y):=by
 obtain ⟨h0,ha,ham,hbm,⟨s,U,V,hs,_,_,hU,hV,hmm⟩,hu,hv,hg⟩:=H
 have Aa:1<=a:=by
  rcases Adk 0 a with h | h
  ·omega
  ·obtain rfl:a=0:=by omega
   omega
 refine ⟨Aa,λhe=>?_,λhne=>?_⟩
 ·subst he;refine ⟨Int.emod_nonneg _ AHx,Int.emod_lt_of_pos _ AHx,?_⟩;rw [Int.mul_emod,Int.emod_emod,<- Int.mul_emod];exact Int.emod_eq_emod_iff_emod_sub_eq_zero.2<|Afw hu
 ·rintro ⟨y,_,_,hy⟩;obtain ⟨g1,g2⟩:=hg a (Int.dvd_refl _) ⟨0,AHx⟩;have e1:a ∣ y * x - 1:=Int.dvd_trans g1<|Acn<|Int.emod_eq_emod_iff_emod_sub_eq_zero.1 hy;have e2:a ∣ y * x:=Int.dvd_mul_of_dvd_right g2;have e3:a ∣ 1:=by have:=Int.dvd_sub e2 e1;rwa [Int.sub_sub_self] at this
  have:=Int.le_of_dvd AHx e3;omega
end Go.Proofs.YtegoafpaljeobaaGreatDoor
namespace Go.QF
def ASy (h:AH8) (er ei b:Nat) (gs:List Nat) (v:Value) (n:Nat) (Z:List (List Int)):Prop:=
 ∃ rs:List Value,AMd h er b v rs/\rs.length=n/\Z.length<=n/\gs.length=Z.length/\
  (∀ (i g:Nat) (r:Value) (z:List Int),gs[i]? =some g->rs[i]? =some r->Z[i]? =some z->AMd h ei g r (z.map<|.int .i64))/\(b :: gs).Nodup
def A4f (h:AH8) (er ei b:Nat) (gs:List Nat) (v:Value) (M:List (List Int)):Prop:=ASy h er ei b gs v M.length M
theorem A4f.mat {b:Nat} {gs:List Nat} (H:A4f h er ei b gs v M):Mat h v M:=by
 obtain ⟨rs,h1,h2,_,h3,h4,_⟩:=H;refine ⟨rs,h1.sl,h2,λi r z hr hz=>?_⟩;have hi:i < gs.length:=by grind
 exact (h4 i gs[i] r z (List.getElem?_eq_getElem hi) hr hz).sl
theorem ASy.upd {S:Nat->Prop} {h h':AH8} {er ei b n:Nat} {gs:List Nat} {v:Value} {M:List (List Int)} (H:ASy h er ei b gs v n M) (he:Upd S h h') (hS:∀ g∈b :: gs,¬ S g):ASy h' er ei b gs v n M:=by
 obtain ⟨rs,h1,h2,h2',h3,h4,h5⟩:=H;exact ⟨rs,h1.upd he<|hS b<|List.mem_cons_self ..,h2,h2',h3,λi g r z hg hr hz=>(h4 i g r z hg hr hz).upd he (hS g<|List.mem_cons_of_mem _<|List.mem_of_getElem? hg),h5⟩
theorem ASy.ext {b n:Nat} {gs:List Nat} (H:ASy h er ei b gs v n M) (he:Ext h h'):ASy h' er ei b gs v n M:=H.upd (S:=λ_=>False) he.upd λ_ _ h=>h
theorem ASy.lt {h:AH8} {er ei b n:Nat} {gs:List Nat} {v:Value} {M:List (List Int)} (H:ASy h er ei b gs v n M):∀ g∈b :: gs,g < h.size:=by
 obtain ⟨rs,h1,h2,h2',h3,h4,h5⟩:=H;intro g hg;rcases List.mem_cons.1 hg with rfl | hg
 ·exact h1.lt
 ·obtain ⟨i,hi⟩:=List.getElem?_of_mem hg;have hi':i < M.length:=by grind
  exact (h4 i g (rs[i]'AHx) M[i] hi (List.getElem?_eq_getElem _)<|List.getElem?_eq_getElem _).lt
theorem ASy.ne {b n:Nat} {gs:List Nat} (H:ASy h er ei b gs v n M) (hg:gs[i]? =some g):g≠b:=by
 obtain ⟨rs,h1,h2,h2',h3,h4,h5⟩:=H;grind
theorem ASy.row {b n:Nat} {gs:List Nat} (H:ASy h er ei b gs v n M) {z:List Int} (hz:M[i]? =some z):
 ∃ g r rs,gs[i]? =some g/\AMd h er b v rs/\rs[i]? =some r/\rs.length=n/\AMd h ei g r (z.map<|.int .i64)/\g≠b:=by
 have H':=H;obtain ⟨rs,h1,h2,h2',h3,h4,h5⟩:=H;have hi:=(List.getElem?_eq_some_iff.1 hz).1;exact ⟨gs[i]'AHx,rs[i]'AHx,rs,List.getElem?_eq_getElem _,h1,List.getElem?_eq_getElem _,h2,h4 i _ _ z (List.getElem?_eq_getElem _) (List.getElem?_eq_getElem _) hz,H'.ne<|List.getElem?_eq_getElem _⟩
theorem ASy.setRow {b n:Nat} {gs:List Nat} (H:ASy h er ei b gs v n M) (hg:gs[i]? =some g) (hu:Upd (· =g) h h') {z':List Int}
 (hr:∀ r z,M[i]? =some z->AMd h ei g r (z.map<|.int .i64)->AMd h' ei g r (z'.map<|.int .i64)):ASy h' er ei b gs v n (M.set i z'):=by
 obtain ⟨rs,h1,h2,h2',h3,h4,h5⟩:=H;have hi:i < gs.length:=(List.getElem?_eq_some_iff.1 hg).1;have hgm:=List.mem_of_getElem? hg;refine ⟨rs,h1.upd hu λhe=>(List.nodup_cons.1 h5).1 (he ▸ hgm),h2,by simpa using h2',by simp [h3],λj g' r z hg' hr' hz=>?_,h5⟩
 by_cases hij:i=j
 ·grind
 ·rw [List.getElem?_set_ne hij] at hz;exact (h4 j g' r z hg' hr' hz).upd hu (λhe=>hij<|Afs (List.nodup_cons.1 h5).2 hg<|he ▸ hg')
theorem ASy.setElem {b n:Nat} {gs:List Nat} (H:ASy h er ei b gs v n M) {z:List Int} (hg:gs[i]? =some g) (hz:M[i]? =some z) (hj:j < z.length) (y:Int):
 ASy (Afd h ⟨g,j,none⟩<|.int .i64 y) er ei b gs v n (M.set i<|z.set j y):=by
 refine H.setRow hg (AX7 _ _ _) λr z2 Aa ho=>?_;rw [hz] at Aa;injection Aa with Aa;subst Aa;rw [List.map_set];exact ho.set j _ (by simpa using hj)
theorem Auw (h:AH8) (er ei n:Nat) (hm:n<=maxLen):ASy (h.push<|.cells (List.replicate n<|.slice none 0 0).toArray er (0,0)) er ei h.size [] (.slice (some ⟨h.size,0,none⟩) n n) n []:=
 ⟨_,Ady h er n _ hm,AI9,AI9,rfl,λi g r z hg=>by simp at hg,AI9⟩
theorem ASy.push {b n:Nat} {gs:List Nat} (H:ASy h er ei b gs v n M) (hi:M.length=i) (hn:i < n) {z:List Int} (hr:AMd h ei g r (z.map<|.int .i64)) (hg:g ∉ b :: gs):
 ASy (Afd h ⟨b,i,none⟩ r) er ei b (gs ++ [g]) v n (M ++ [z]):=by
 subst hi;obtain ⟨rs,h1,h2,h2',h3,h4,h5⟩:=H;have hb:=(List.nodup_cons.1 h5).1;have hgb:g≠b:=λhe=>hg<|he ▸ List.mem_cons_self ..
 refine ⟨rs.set M.length r,h1.set _ _ AHx,by simp [h2],by simp;omega,by simp [h3],λi g' r' z' hg' hr' hz'=>?_,?_⟩
 ·rcases Nat.lt_trichotomy i M.length with hi | hi | hi
  ·rw [List.getElem?_append_left AHx] at hg' hz';rw [List.getElem?_set_ne AHx] at hr';exact (h4 i g' r' z' hg' hr' hz').upd (AX7 _ _ _) (λhe=>hb<|by grind)
  ·subst hi;rw [List.getElem?_append_right AHx,h3] at hg';rw [List.getElem?_append_right AHx] at hz';rw [List.getElem?_set_self AHx] at hr';simp at hg' hz' hr';subst hg';subst hz';subst hr';exact hr.upd (AX7 _ _ _) hgb
  grind
 grind
section
variable {P:Program} {B:AH8->Prop} {st:Bool} {ops:Array Oper} {rest:List Oper} {e:Env} {h:AH8} {K:Env->AH8->Prop}
variable {d:Nat} {ty:TypeId} {pos:String} {af:Array Edge}
theorem A64 {i:Operand} {b n:Nat} {gs:List Nat} {z:List Int} (hT:SlT P t el 1) (hx:e.ev x=v) (HP:ASy h er ei b gs v n M) (hi:e.ev i= .int k (j:Int)) (hz:M[j]? =some z)
 (H:∀ a r g,AM6 h a=some r->gs[j]? =some g->AMd h ei g r (z.map<|.int .i64)->RL P B st ops rest (e.set d<|.pointer<|some a) h K):RL P B st ops (⟨some d,.indexAddr t x i,ty,pos,af,none⟩ :: rest) e h K:=by
 obtain ⟨g,r,rs,hg,h1,h2,_,h3,_⟩:=HP.row hz;exact Ajq hT hx h1.sl hi h2 λa ha=>H a r g ha hg h3
theorem A4g {i:Operand} {z:List Int} {n:Nat} (hT:SlT P t el 1) (hx:e.ev x=v) (HM:Mat h0 v M) (hE:Ext h0 h) (hi:e.ev i= .int k (n:Int)) (hz:M[n]? =some z)
 (H:∀ a r,AM6 h a=some r->Aqz h0 r z->RL P B st ops rest (e.set d<|.pointer<|some a) h K):RL P B st ops (⟨some d,.indexAddr t x i,ty,pos,af,none⟩ :: rest) e h K:=by
 obtain ⟨r,⟨rs,h1,h2⟩,h3⟩:=HM.row hz;exact Ajq hT hx (h1.ext hE) hi h2 λa ha=>H a r ha h3
theorem ASy.top {h:AH8} {b n:Nat} {gs:List Nat} (H:ASy h er ei b gs v n M):∃ rs,AMd h er b v rs/\rs.length=n:=let ⟨rs,h1,h2,_⟩:=H;⟨rs,h1,h2⟩
theorem Aq4 {b n:Nat} {gs:List Nat} (hT:SlT P t el s) (hx:e.ev x=v) (HP:ASy h er ei b gs v n M) (H:RL P B st ops rest (e.set d<|.int .i64 (n:Int)) h K):
 RL P B st ops (⟨some d,.call ⟨.builtin .len,#[x],#[t]⟩,ty,pos,af,none⟩ :: rest) e h K:=by
 obtain ⟨rs,h1,h2,_⟩:=HP;have:=Aft (ops:=ops) (rest:=rest) (K:=K) (B:=B) (st:=st) (d:=d) (ty:=ty) (pos:=pos) (af:=af) hT hx h1.sl;grind
end
theorem Aww (h:AH8) (el n:Nat) (x:Int) (hm:n<=maxLen):AMd (h.push<|.cells (List.replicate n<|.int .i64 x).toArray el (0,0)) el h.size (.slice (some ⟨h.size,0,none⟩) n n) ((List.replicate n x).map (.int .i64)):=by
 rw [List.map_replicate];exact Ady h el n (.int .i64 x) hm
theorem Aop {l:List α} {x:α} (h:l.length=i):(l ++ [x])[i]? =some x:=by
 subst h;simp
theorem Awx {l:List α} {x y:α} (h:l.length=i):(l ++ [x]).set i y=l ++ [y]:=by
 subst h;simp
theorem Alq {l:List α} {x:α} (h:l[i]? =some x):l.take i ++ [x]=l.take (i + 1):=by
 obtain ⟨hi,rfl⟩:=List.getElem?_eq_some_iff.1 h;simp_all
def Gro (h:AH8) (el lo:Nat) (v:Value) (l:List Value):Prop:=(l=[]/\v= .slice none 0 0)∨ ∃ g,lo<=g/\AMd h el g v l
theorem Amr (h:AH8) (el lo:Nat):Gro h el lo (.slice none 0 0) []:= .inl ⟨rfl,rfl⟩
theorem Gro.blk {h:AH8} {el lo:Nat} {v:Value} {l:List Value} (H:Gro h el lo v l):∀ g,v.ownBlock=some g->lo<=g/\g < h.size:=by
 intro g hg;rcases H with ⟨rfl,rfl⟩ | ⟨g',hg',H⟩
 ·cases hg
 ·have:=H.blk;rw [hg] at this;injection this with this;subst this;exact ⟨hg',H.lt⟩
section
variable {P:Program} {B:AH8->Prop} {st:Bool} {ops:Array Oper} {rest:List Oper} {e:Env} {h:AH8} {K:Env->AH8->Prop}
variable {d d':Nat} {ty ty':TypeId} {pos pos':String} {af af':Array Edge}
theorem A4h {s:Operand} {lo:Nat} {z u:Value} (hT:SlT P t el 1) (hz:ZeT P el z bytes) (h1:isOne z=true) (hbB:∀ h',B h') (hs:∀ p,(e.set d p).ev s=v) (hy:e.ev y=u) (hu:isOne u=true) (HG:Gro h el lo v l) (hlo:lo<=h.size) (hby:bytes<=1000)
 (hl:l.length<=100000000)
 (H:∀ p v' h',Gro h' el lo v' (l ++ [u])->Upd (λk=>v.ownBlock=some k) h h'->(v'.ownBlock=v.ownBlock∨ ∃ g,v'.ownBlock=some g/\h.size<=g)->RL P B st ops rest ((e.set d p).set d' v') h' K):
 RL P B st ops (⟨some d,.buildSlice t 1 #[(0,y)],ty,pos,af,none⟩ :: ⟨some d',.call ⟨.builtin .append,#[s,.tmp d],#[t,t]⟩,ty',pos',af',none⟩ :: rest) e h K:=by
 have hsz:l.length * bytes<=100000000 * 1000:=Nat.mul_le_mul hl hby;have hb2:(l.length + 1) * bytes<=140737488355328:=by grind
 refine Awl [u] hT hz h1 (hbB h) rfl AHx AHx (by simp [partsOf,hy]) (by simpa using hu) ⟨hbB _,?_⟩;have hnew:=(Ajp h el [u]<|by simp [maxLen]).sl;have hE:=AL5 h<|.cells #[u] el (0,0);have hsz2:(h.push<|.cells #[u] el (0,0)).size=h.size + 1:=by simp
 rcases HG with ⟨rfl,rfl⟩ | ⟨g,hg,HO⟩
 ·refine Awj hT hz h1 (hbB _) (hs _) (Env.set_same _ _ _) hnew (by simpa using hu) AI9 (by simp;omega) AI9 λv' h' HO' he=>⟨hbB _,?_⟩;exact H _ v' h' (.inr ⟨_,AHx,HO'⟩) (hE.trans he).upd<|.inr ⟨_,HO'.blk,AHx⟩
 ·refine A3c hT hz h1 (hbB _) (hs _) (HO.ext hE) (Env.set_same _ _ _) hnew (by simpa using hu) AI9 (by simpa using hb2) (by simp;omega) λv' g' h' HO' hgg hup=>⟨hbB _,?_⟩
  refine H _ v' h' (.inr ⟨g',?_,HO'⟩) ?_ ?_
  ·omega
  ·refine (hE.upd.trans hup).mono λk _ hk=>?_;have hk2:k=g:=hk;rw [hk2];exact HO.blk
  ·rcases hgg with rfl | rfl
   ·exact .inl<|HO'.blk.trans HO.blk.symm
   ·exact .inr ⟨_,HO'.blk,AHx⟩
end
end Go.QF
namespace Go.Proofs.YtegoafpaljeobaaGreatDoor
open Go Go.QF
abbrev tR:Nat:=41
abbrev tI:Nat:=2
end Go.Proofs.YtegoafpaljeobaaGreatDoor
namespace Go.QF
def AKi (F:AIe) (i:Nat) (g:Nat->Int):AIe:=λk=>if k=i then g else F k
theorem AKk (F:AIe) (i:Nat) (g:Nat->Int):AKi F i g i=g:=if_pos rfl
theorem AOt (F:AIe) {k:Nat} (g:Nat->Int) (h:k≠i):AKi F i g k=F k:=if_neg h
theorem AS8 {r c:Nat} {F:AIe} {g:Nat->Int}:(tab r c F).set i ((List.range c).map g)=tab r c (AKi F i g):=by
 refine List.ext_getElem (by simp [tab]) λk h1 h2=>?_;rw [List.getElem_set];simp only [tab,List.getElem_map,List.getElem_range];by_cases hik:i=k
 ·subst hik;rw [if_pos rfl,AKk]
 ·rw [if_neg hik,AOt _ _ λhe=>hik he.symm]
def AOg (F:AIe) (a b:Nat):AIe:=AKi (AKi F a<|F b) b<|F a
theorem Aju (hp:Pr p):∀ (n:Nat) (x:Int),x.toNat<=n->0 < x->x < p-> ∃ y,y * x % p=1:=by
 intro n
 induction n with
 | zero=>intro x h1 h2;omega
 | succ n ih=>
   intro x hn hx hxp
   have h2:=hp.1
   rcases Adk 1 x with h1 | h1
   ·have hr:p % x≠0:=hp.2 x AHx hxp
    have Ac:=Int.emod_nonneg p (b:=x) AHx
    have Ad:=Int.emod_lt_of_pos p (b:=x) hx
    obtain ⟨s,hs⟩:=ih (p % x) AHx AHx AHx
    refine ⟨-(s * (p / x)),?_⟩
    have hd:=Int.mul_ediv_add_emod p x
    have he: -(s * (p / x)) * x=s * (p % x) + p * (-s):=by
     have:s * (x * (p / x) + p % x)=s * p:=by rw [hd]
     rw [Int.mul_add] at this
     rw [Int.neg_mul,Int.mul_assoc,Int.mul_comm (p / x) x,Int.mul_neg,Int.mul_comm p s]
     omega
    rw [he,Int.add_mul_emod_self_left,hs]
   ·obtain rfl:x=1:=by omega
    exact ⟨1,Int.emod_eq_of_lt AHx AHx⟩
theorem Aoq [DecidableEq α]:∀ (l t:List α),l.Nodup->(∀ x∈l,x∈t)->t.length<=l.length->l.Perm t:=by
 intro l
 induction l with
 | nil=>
   intro t _ _ h
   obtain rfl:t=[]:=List.eq_nil_of_length_eq_zero (by simpa using h)
   exact .nil
 | cons x l ih=>
   intro t hn hs hl
   have hx:=hs x<|List.mem_cons_self ..
   have hp:=List.perm_cons_erase hx
   refine .trans (.cons x<|ih (t.erase x) (List.nodup_cons.1 hn).2 (λy hy=>?_) ?_) hp.symm
   ·refine (List.mem_erase_of_ne (λhe:y=x=>(List.nodup_cons.1 hn).1 (he ▸ hy))).2 (hs y<|List.mem_cons_of_mem _ hy)
   ·have:=hp.length_eq
    simp at this hl
    omega
def AJ1:List Int->Int
 | []=>1
 | x :: l=>x * AJ1 l
theorem Ajv {l t:List Int} (h:l.Perm t):AJ1 l=AJ1 t:=by
 induction h with
 | nil=>rfl
 | cons x _ ih=>simp only [AJ1];rw [ih]
 | swap x y l=>simp only [AJ1];rw [<- Int.mul_assoc,<- Int.mul_assoc,Int.mul_comm x y]
 | trans _ _ Aa Ab=>exact Aa.trans Ab
def upN (n:Nat):List Int:=(List.range n).map λi:Nat=>((i:Int) + 1)
theorem AUw {n:Nat} {x:Int}:x∈upN n↔1<=x/\x<=n:=by
 simp only [upN,List.mem_map,List.mem_range];constructor
 ·rintro ⟨i,hi,rfl⟩;omega
 ·rintro ⟨h1,h2⟩;exact ⟨(x - 1).toNat,AHx,AHx⟩
theorem Aux (n:Nat):(upN n).Nodup:=by
 unfold upN;rw [List.nodup_iff_pairwise_ne,List.pairwise_map];refine List.Pairwise.imp ?_ List.nodup_range;intro a b h he;omega
theorem cancel {x b:Int} (hp:Pr p) (hx:0 < x) (hxp:x < p) (h:a * x % p=b * x % p):a % p=b % p:=by
 obtain ⟨y,hy⟩:=Aju hp x.toNat x (Nat.le_refl _) hx hxp;have h2:=hp.1
 have key:∀ c:Int,c % p=c * x * y % p:=λc=>by
  rw [Int.mul_assoc,Int.mul_emod,Int.mul_comm x y,hy,Int.mul_one,Int.emod_emod]
 rw [key a,key b,Int.mul_emod,h,<- Int.mul_emod]
theorem Awy {x:Int} (hp:Pr p) (ha:0 < a) (hap:a < p) (hx:0 < x) (hxp:x < p):a * x % p≠0:=by
 intro h;have:=cancel (a:=a) (b:=0) hp hx hxp (by rw [h];simp);rw [Int.emod_eq_of_lt AHx hap] at this;simp at this;omega
theorem A0y {b:Int} (hp:Pr p):∀ l:List Int,(∀ x∈l,0 < x/\x < p)->a * AJ1 l % p=b * AJ1 l % p->a % p=b % p:=by
 intro l
 induction l generalizing a b with
 | nil=>intro _ h;simpa [AJ1] using h
 | cons x l ih=>
   intro hl h
   have hx:=hl x<|List.mem_cons_self ..
   simp only [AJ1,<- Int.mul_assoc] at h
   exact cancel hp hx.1 hx.2<|ih (λy hy=>hl y<|List.mem_cons_of_mem _ hy) h
theorem Aor (F:AIe) (a b:Nat):AOg F a b b=F a:=AKk _ _ _
theorem Ahi (F:AIe) {a b:Nat}:AOg F a b a=F b:=by
 unfold AOg;by_cases h:a=b
 ·subst h;rw [AKk]
 ·rw [AOt _ _ h,AKk]
theorem Ajw (F:AIe) {a b k:Nat} (ha:k≠a) (hb:k≠b):AOg F a b k=F k:=by
 unfold AOg;rw [AOt _ _ hb,AOt _ _ ha]
def Zc (n:Nat) (F:AIe) (c:Nat):Prop:= ∀ c' i,c' < c->c' < i->i < n->F i c'=0
def Zi (F:AIe) (c i:Nat):Prop:= ∀ k,c < k->k < i->F k c=0
theorem A0z {F:AIe} {c:Nat} (H:Zi F c i) (h:F i c=0):Zi F c (i + 1):=by
 intro k h1 h2;rcases Nat.lt_or_ge k i with h3 | h3
 ·exact H k h1 h3
 grind
theorem A00 {n:Nat} {F:AIe} {c:Nat} (H:Zc n F c) (h:Zi F c n):Zc n F (c + 1):=by
 intro c' k h1 h2 h3;rcases Nat.lt_or_ge c' c with h4 | h4
 ·exact H c' k h4 h2 h3
 ·obtain rfl:c'=c:=by omega
  exact h k h2 h3
theorem Alc {z:Value} (h1:isOne z=true) (n:Nat):Builtin.zeroCells z.cells n=(List.replicate n z).toArray:=by
 have hc:=Alo h1;have hsz:=size_zeroCells z.cells n;refine Array.ext (by grind) λi h2 h3=>?_;have hm:i % 1=0:=Nat.mod_one i;simp [Builtin.zeroCells,hc,hm]
section
variable {P:Program} {B:AH8->Prop} {st:Bool} {ops:Array Oper} {rest:List Oper} {e:Env} {h:AH8} {K:Env->AH8->Prop}
variable {d:Nat} {ty:TypeId} {pos:String} {af:Array Edge}
theorem A4i {s:Operand} {tn n:Nat} {z:Value} {kn:IntKind} (hT:SlT P t el 1) (hN:Acm P tn kn) (hz:ZeT P el z bytes) (h1:isOne z=true) (hb:B h) (hs:e.ev s=v) (HO:AMd h el g v l) (hx:e.ev x= .int k (n:Int)) (Ad:0 < n) (hlen:(l.length + n) * bytes<=140737488355328) (Ae:l.length + n<=140737488355328) (H:∀ v' g' h',AMd h' el g' v' (l ++ List.replicate n z)->(g'=g∨g'=h.size)->Upd (· =g) h h'->(∃ cur,h'[g]? =some (.cells cur el (0,0)))->B h'/\RL P B st ops rest (e.set d v') h' K):
 RL P B st ops (⟨some d,.call ⟨.builtin .append,#[s,x],#[t,tn]⟩,ty,pos,af,none⟩ :: rest) e h K:=by
 refine AWy rfl rfl hb λw hw=>?_;subst hw;obtain ⟨hu,i0,Ab,Aa⟩:=hT;obtain ⟨i,hi,hzz,hsz,hby⟩:=hz;rw [hi] at Ab;injection Ab with Ab;subst Ab;have HO':=HO;obtain ⟨cap,cur,rfl,hg,hlc,hcm,hcs,ht⟩:=HO;have hnn:n≠0:=by omega
 have hw:IntKind.i64.wrap (n:Int)=n:=by rw [IntKind.wrap_i64];omega
 have hneg: ¬ ((n:Int) < 0):=by omega
 have hnb:n * i.bytes<=140737488355328:=by grind
 have h48i: ¬ (281474976710656 < (n:Int) * (i.bytes:Int)):=by
  omega
 have hzc:=Alc h1 n
 have hone':∀ u∈List.replicate n z,u.oneCell'=true:=λu hu'=>by
  have:=(List.mem_replicate.1 hu').2
  subst this
  cases u <;> first | rfl | cases h1
 by_cases hroom:l.length + n<=cap
 ·have hst:=run_storeCells_at P g (l.length * i.size) el (List.replicate n z) 0 cur w hg (by grind) hone';simp only [Nat.add_zero] at hst
  have hr:(Builtin.append_ #[t,tn] ty #[.slice (some ⟨g,0,none⟩) l.length cap,.int k (n:Int)]).run P w= .ok (.slice (some ⟨g,0,none⟩) (l.length + n) cap) (w.setRow g (cur.toList.take (l.length * i.size) ++ List.replicate n z ++ cur.toList.drop (l.length * i.size + (List.replicate n z).length)).toArray):=by
   simp [Builtin.append_,AS6 hu,AS6 hN,run_underlying hu,run_underlying hN,sizeOf,typeInfo,hi,asInt,asIntOf,hw,hneg,h48i,hroom,Aa,hnn,zeroValue,hzz,hzc,Addr.add_lit]
   have hst':=hst
   simp [Aa] at hst'
   simp_all
  have hrun:(execOp e.ev ⟨some d,.call ⟨.builtin .append,#[s,x],#[t,tn]⟩,ty,pos,af,none⟩).run P w= .ok (.value<|.slice (some ⟨g,0,none⟩) (l.length + n) cap) (w.setRow g (cur.toList.take (l.length * i.size) ++ List.replicate n z ++ cur.toList.drop (l.length * i.size + (List.replicate n z).length)).toArray):=by
   simp only [execOp,resolve,invoke,builtin]
   simp [hs,hx,hr]
  rw [hrun];refine ⟨⟨rfl,rfl,rfl⟩,H _ g _ ?_ (.inl rfl) ?_ ?_⟩
  ·refine ⟨cap,_,AI9,setRow_heap w g cur _ el (0,0) hg,by grind,hcm,?_,?_⟩
   ·grind
   ·simp only [Aa,Nat.mul_one,ht];grind
  ·exact ⟨by simp [World.setRow],λk hk hne=>setRow_other w g k _ λhe=>hne he⟩
  ·exact ⟨_,setRow_heap w g cur _ el (0,0) hg⟩
 ·have hfit:Builtin.nextslicecap (l.length + n) cap * i.bytes<=281474976710656:=by rw [hby];exact growslice_fits AHx hlen
  have hn: ¬ (l.length + n<=cap):=hroom;have h63': ¬ (9223372036854775807 < ((l.length:Int) + (n:Int))):=by omega
  have h48': ¬ (281474976710656 < Builtin.nextslicecap (l.length + n) cap * i.bytes):=by omega
  have hfo:=run_firstCells_some (P:=P) w.drew i.size l.length ⟨g,0,none⟩ l.length cap l (by simp [Aa]) (λj u hu'=>by
   rw [AN0,Nat.zero_add];exact HO'.cell hu')
  rw [Aa] at hfo
  have hr:(Builtin.append_ #[t,tn] ty #[.slice (some ⟨g,0,none⟩) l.length cap,.int k (n:Int)]).run P w= .ok (.slice (some ⟨w.heap.size,0,none⟩) (l.length + n)<|grownCap w (l.length + n) cap el)
   (w.drew.alloc<|.cells (l.toArray ++ (List.replicate n z).toArray ++ Builtin.zeroCells z.cells (grownCap w (l.length + n) cap el - (l.length + n))) el):=by
   simp [Builtin.append_,AS6 hu,AS6 hN,run_underlying hu,run_underlying hN,sizeOf,typeInfo,zeroValue,hi,hzz,asInt,asIntOf,hw,hneg,h48i,hn,h63',h48',Question.forced,hfo,newRow,grownCap,Aa,hnn,hzc]
  have hrun:(execOp e.ev ⟨some d,.call ⟨.builtin .append,#[s,x],#[t,tn]⟩,ty,pos,af,none⟩).run P w= .ok (.value<|.slice (some ⟨w.heap.size,0,none⟩) (l.length + n)<|grownCap w (l.length + n) cap el)
   (w.drew.alloc<|.cells (l.toArray ++ (List.replicate n z).toArray ++ Builtin.zeroCells z.cells (grownCap w (l.length + n) cap el - (l.length + n))) el):=by
   simp only [execOp,resolve,invoke,builtin]
   simp [hs,hx,hr]
  rw [hrun];have hzs:z.cells.size=1:=by omega
  have hge:=grownCap_ge w (l.length + n) cap el;have hcm':grownCap w (l.length + n) cap el<=maxLen:=grownCap_le_maxLen w _ _ el (by unfold maxLen;omega);refine ⟨⟨rfl,rfl,rfl⟩,H _ w.heap.size _ ?_ (.inr rfl) ?_ ?_⟩
  ·refine ⟨_,_,AI9,heap_alloc_new w.drew _,by simpa using hge,hcm',?_,?_⟩
   ·simp [size_zeroCells,hzs];omega
   grind
  ·exact (Ext.upd ⟨AI9,λk hk=>heap_alloc_old w.drew _ k hk⟩)
  ·exact ⟨cur,(heap_alloc_old w.drew _ g (Array.getElem?_eq_some_iff.1 hg).1).trans hg⟩
end
section
variable {P:Program} {B:AH8->Prop} {st:Bool} {ops:Array Oper} {rest:List Oper} {e:Env} {h:AH8} {K:Env->AH8->Prop}
variable {d:Nat} {ty:TypeId} {pos:String} {af:Array Edge}
theorem AXx {t:TypeId} {a b:Nat} (hx:e.ev x= .int .i64 (a:Int)) (hy:e.ev y= .int .i64 (b:Int)) (h1:a + b<=9223372036854775807) (H:RL P B st ops rest (e.set d<|.int .i64 ((a + b:Nat):Int)) h K):
 RL P B st ops (⟨some d,.binOp .add t x y t2,ty,pos,af,none⟩ :: rest) e h K:=by
 refine Ajr hx hy AHx AHx ?_;rw [<- Int.natCast_add];exact H
end
section
variable {P:Program} {B:AH8->Prop} {st:Bool} {ops:Array Oper} {rest:List Oper} {e:Env} {h:AH8} {K:Env->AH8->Prop}
variable {d:Nat} {ty:TypeId} {pos:String} {af:Array Edge}
theorem Awz {t:TypeId} {a b:Nat} (hx:e.ev x= .int k (a:Int)) (hy:e.ev y= .int k (b:Int)) (hb:0 < b) (H:RL P B st ops rest (e.set d<|.int k ((a % b:Nat):Int)) h K):
 RL P B st ops (⟨some d,.binOp .rem t x y t2,ty,pos,af,none⟩ :: rest) e h K:=by
 refine Adz hx hy AHx AHx ?_;rw [<- Int.natCast_emod];exact H
theorem A3i {t:TypeId} {k2:IntKind} (h1:Acm P t k) (h2:Acm P t2 k2) (hx:e.ev x= .int k a) (hw:k2.wrap a=a) (H:RL P B st ops rest (e.set d<|.int k2 a) h K):
 RL P B st ops (⟨some d,.convert t t2 x,ty,pos,af,none⟩ :: rest) e h K:=by
 refine ASz h1 h2 hx ?_;rw [hw];exact H
end
section
variable {P:Program} {B:AH8->Prop} {st:Bool} {ops:Array Oper} {rest:List Oper} {e:Env} {h:AH8} {K:Env->AH8->Prop}
variable {d:Nat} {ty:TypeId} {pos:String} {af:Array Edge}
end
theorem wrap_small (h0: -9223372036854775808<=a) (h1:a<=9223372036854775807):IntKind.i64.wrap a=a:=by rw [IntKind.wrap_i64];omega
end Go.QF
namespace Go.Proofs.YtegoafpaljeobaaGreatDoor
open Go Go.QF
def i8V (z:Int):Value:= .int .i8 z
open Go.ChangeShapes Go.WideShapes Go.ChangeAt Go.RowKit
theorem Aw0:Tryz.prog.cellsOf 174=1:=by kernel_rfl
theorem Aw1:Tryz.prog.cellsOf 5=1:=by kernel_rfl
theorem Aw2:Tryz.prog.cellsOf 22=1:=by kernel_rfl
theorem wf_i8 {z:Int} (h:(Lit.int .i8 z).wf=true): -128<=z/\z<=127:=by
 simp [Lit.wf,IntKind.min,IntKind.max,IntKind.bits,IntKind.signed] at h;omega
theorem wf_u8 {z:Int} (h:(Lit.int .u8 z).wf=true):0<=z/\z<=255:=by
 simp [Lit.wf,IntKind.min,IntKind.max,IntKind.bits,IntKind.signed] at h;omega
theorem Aw3 {H:Type} {enc:TypeId × Value->H} {W:World} {fuel:Nat} {x:DataW H × List MemPlace} (hf:DataW.trod enc Tryz.prog W 0 (λ_=>true) true fuel 22 [v]=some x):∃ Z:List Int,Sl W.heap v (Z.map i8V)/\ ∀ z∈Z,-128<=z/\z<=127:=by
 rcases open_ints Tryz.underlying22 Tryz.underlying174 Aw0 hf with ⟨hcs,_⟩ | ⟨a,len,cap,zs,hcs,_,hl,_,hz,_,hcell,hwz⟩
 ·simp at hcs;subst hcs;exact ⟨[],Awg _,λz hz=>by cases hz⟩
 ·simp at hcs;subst hcs;simp only [if_true] at hz;refine ⟨zs.take len,Aon (by simp;omega) (λh=>by cases h) λa' ha i x hx=>?_,λz hz'=>wf_i8<|hwz z<|List.mem_of_mem_take hz'⟩;injection ha with ha;subst ha;have hi:i < len:=by have:=(List.getElem?_eq_some_iff.1 hx).1;simp at this;omega
  rw [hcell i AHx];rw [List.getElem?_map,List.getElem?_take,if_pos hi,List.getElem?_eq_getElem AHx] at hx;simp only [Option.map_some,Option.some.injEq] at hx;rw [<- hx,List.getD_eq_getElem?_getD,List.getElem?_eq_getElem AHx];rfl
end Go.Proofs.YtegoafpaljeobaaGreatDoor
namespace Go.QF
def ALu (t:Nat) (h:AH8) (b:Nat) (l:List Value):Prop:=h[b]? =some (.cells l.toArray t (0,0))
theorem ALu.lt {b:Nat} (H:ALu t h b l):b < h.size:=(Array.getElem?_eq_some_iff.1 H).1
theorem ALu.cell {b:Nat} (H:ALu t h b l) {u:Value} (hu:l[i]? =some u):AM6 h ⟨b,i,none⟩=some u:=by
 unfold ALu at H;simp [AM6,H,hu]
theorem ALu.free {b:Nat} (H:ALu t h b l) (i:Nat):Acl h ⟨b,i,none⟩=false:=by
 unfold ALu at H;simp [Acl,H]
theorem ALu.agg {b:Nat} (H:ALu t h b l):∀ i u,l[i]? =some u->AM6 h ((⟨b,0,none⟩:Addr).add i)=some u:=by
 intro i u hu;rw [AN0,Nat.zero_add];exact H.cell hu
theorem ALu.upd {b:Nat} (H:ALu t h b l) (hU:Upd S h h') (hS: ¬ S b):ALu t h' b l:=(hU.2 b H.lt hS).trans H
theorem ALu.ext {b:Nat} (H:ALu t h b l) (hE:Ext h h'):ALu t h' b l:=(hE.2 b H.lt).trans H
theorem ALu.set {t:Nat} {h:AH8} {b:Nat} {l:List Value} (H:ALu t h b l) (i:Nat) (y:Value):ALu t (Afd h ⟨b,i,none⟩ y) b (l.set i y):=by
 unfold ALu at H ⊢;simp only [Afd,Array.getElem?_modify,if_true,H,Option.map_some];simp
def SlK (h:AH8) (k:Nat) (v:Value) (L:List (List Value)):Prop:= ∃ a cap,v= .slice a L.length cap/\ ∀ i row,L[i]? =some row-> ∃ b o,a=some ⟨b,o,none⟩/\ ∀ j x,row[j]? =some x->AM6 h ⟨b,o + i * k + j,none⟩=some x
theorem SlK.ext {k:Nat} {L:List (List Value)} (H:SlK h k v L) (he:Ext h h'):SlK h' k v L:=by
 obtain ⟨a,cap,hv,hc⟩:=H;exact ⟨a,cap,hv,λi r hr=>let ⟨b,o,ha,hx⟩:=hc i r hr;⟨b,o,ha,λj x hj=>AIj (hx j x hj) he⟩⟩
theorem Ast (h:AH8) (k:Nat):SlK h k (.slice none 0 0) []:=⟨none,0,rfl,λi x hx=>by simp at hx⟩
def ARz (h:AH8) (el k g:Nat) (v:Value) (L:List (List Value)):Prop:=
 ∃ cap cur,v= .slice (some ⟨g,0,none⟩) L.length cap/\h[g]? =some (.cells cur el (0,0))/\L.length<=cap/\cap<=maxLen/\cur.size=cap * k/\(∀ r∈L,r.length=k)/\cur.toList.take (L.length * k)=L.flatten
theorem AV7 {k:Nat}:∀ {L:List (List Value)},(∀ r∈L,r.length=k)->L.flatten.length=L.length * k:=by
 intro L
 induction L with
 | nil=>intro _;simp
 | cons r L ih=>grind
theorem Ad4 {k:Nat}:∀ {L:List (List Value)} {i j:Nat} {r:List Value} {x:Value},(∀ r∈L,r.length=k)->L[i]? =some r->r[j]? =some x->L.flatten[i * k + j]? =some x:=by
 intro L
 induction L with
 | nil=>grind
 | cons s L ih=>
   intro i j r x h hi hj
   have hs:=h s<|List.mem_cons_self ..
   cases i with
   | zero=>
     grind
   | succ i=>
     grind
theorem ARz.lt {k:Nat} {L:List (List Value)} (H:ARz h el k g v L):g < h.size:=by
 obtain ⟨cap,cur,_,hg,_⟩:=H;grind
theorem ARz.blk {k:Nat} {L:List (List Value)} (H:ARz h el k g v L):v.ownBlock=some g:=by
 obtain ⟨cap,cur,rfl,_⟩:=H;rfl
theorem ARz.cell {k:Nat} {L:List (List Value)} (H:ARz h el k g v L) {r:List Value} {x:Value} (hr:L[i]? =some r) (hx:r[j]? =some x):AM6 h ⟨g,i * k + j,none⟩=some x:=by
 obtain ⟨cap,cur,_,hg,_,_,_,hk,ht⟩:=H;have h1:=Ad4 hk hr hx;have hi:=(List.getElem?_eq_some_iff.1 h1).1;rw [AV7 hk] at hi;rw [<- ht,List.getElem?_take,if_pos hi] at h1;simp only [AM6,hg];simpa using h1
theorem ARz.free {k:Nat} {L:List (List Value)} (H:ARz h el k g v L) (i:Nat):Acl h ⟨g,i,none⟩=false:=by
 obtain ⟨cap,cur,_,hg,_⟩:=H;simp [Acl,hg]
theorem ARz.sl {k:Nat} {L:List (List Value)} (H:ARz h el k g v L):SlK h k v L:=by
 have H':=H;obtain ⟨cap,cur,hv,_⟩:=H;exact ⟨_,cap,hv,λi r hr=>⟨g,0,rfl,λj x hx=>by rw [Nat.zero_add];exact H'.cell hr hx⟩⟩
theorem ARz.congr {k:Nat} {L:List (List Value)} (H:ARz h el k g v L) (he:h'[g]? =h[g]?):ARz h' el k g v L:=by
 obtain ⟨cap,cur,hv,hg,r⟩:=H;exact ⟨cap,cur,hv,he.trans hg,r⟩
theorem ARz.ext {k:Nat} {L:List (List Value)} (H:ARz h el k g v L) (he:Ext h h'):ARz h' el k g v L:=H.congr<|he.2 g H.lt
theorem ARz.upd {k:Nat} {L:List (List Value)} (H:ARz h el k g v L) (he:Upd S h h') (hS: ¬ S g):ARz h' el k g v L:=H.congr<|he.2 g H.lt hS
theorem Aw4 {k:Nat}:∀ {L:List (List Value)} {i j:Nat} {r:List Value} (y:Value),(∀ r∈L,r.length=k)->L[i]? =some r->j < k->(L.set i<|r.set j y).flatten=L.flatten.set (i * k + j) y:=by
 intro L
 induction L with
 | nil=>grind
 | cons s L ih=>
   intro i j r y h hi hj
   have hs:=h s<|List.mem_cons_self ..
   cases i with
   | zero=>
     grind
   | succ i=>
     grind
theorem ARz.set {h:AH8} {el k g:Nat} {v:Value} {L:List (List Value)} (H:ARz h el k g v L) {i j:Nat} {r:List Value} (y:Value) (hr:L[i]? =some r) (hj:j < k):ARz (Afd h ⟨g,i * k + j,none⟩ y) el k g v (L.set i<|r.set j y):=by
 obtain ⟨cap,cur,hv,hg,hl,hm,hs,hk,ht⟩:=H;have hrk:=hk r<|List.mem_of_getElem? hr;refine ⟨cap,cur.setIfInBounds (i * k + j) y,by grind,?_,by grind,hm,by simp [hs],?_,?_⟩
 ·simp only [Afd,Array.getElem?_modify,if_true,hg,Option.map_some];rfl
 ·grind
 ·rw [List.length_set,Array.toList_setIfInBounds,List.take_set,ht,Aw4 y hk hr hj]
def Aw5 (h:AH8) (el k lo:Nat) (v:Value) (L:List (List Value)):Prop:=(L=[]/\v= .slice none 0 0)∨ ∃ g,lo<=g/\ARz h el k g v L
theorem Alr:∀ (l pre old:List Value),old.length=l.length->((l.zipIdx pre.length).foldl (λ(cs:Array Value) (x:Value × Nat)=>cs.setIfInBounds (0 + x.2) x.1) (pre ++ old).toArray)=(pre ++ l).toArray:=by
 intro l
 induction l with
 | nil=>simp_all
 | cons v l ih=>
   intro pre old h
   cases old with
   | nil=>simp at h
   | cons o old=>
     have:=ih (pre ++ [v]) old (by simpa using h)
     simp_all
section
variable {P:Program} {B:AH8->Prop} {st:Bool} {ops:Array Oper} {rest:List Oper} {e:Env} {h:AH8} {K:Env->AH8->Prop}
variable {d d':Nat} {ty ty':TypeId} {pos pos':String} {af af':Array Edge}
theorem AR0 (l:List Value) (hbB:∀ h',B h') (hx:e.ev x=v) (hl:v.cells=l.toArray) (H:∀ b h',ALu t h' b l->Ext h h'->h.size<=b->b < h'.size->RL P B st ops rest (e.set d<|.pointer<|some ⟨b,0,none⟩) h' K):
 RL P B st ops (⟨some d,.box t x,ty,pos,af,none⟩ :: rest) e h K:=by
 refine A3d (hbB _) hx ⟨hbB _,?_⟩;exact H h.size _ (by unfold ALu;rw [hl];simp) (AL5 _ _) (Nat.le_refl _) AI9
theorem APa {z:Value} (l:List Value) (hz:ZeT P t z bytes) (hl:z.cells=l.toArray) (hbB:∀ h',B h') (H:∀ b h',ALu t h' b l->Ext h h'->h.size<=b->b < h'.size->RL P B st ops rest (e.set d<|.pointer<|some ⟨b,0,none⟩) h' K):
 RL P B st ops (⟨some d,.alloc t,ty,pos,af,none⟩ :: rest) e h K:=by
 refine Asq hz (hbB _) ⟨hbB _,?_⟩;exact H h.size _ (by unfold ALu;rw [hl];simp) (AL5 _ _) (Nat.le_refl _) AI9
theorem AVa {b:Nat} {u:Value} (l':List Value) (ht:NaT P t) (hx:e.ev x= .pointer (some ⟨b,i,none⟩)) (hy:e.ev y=u) (h1:isOne u=true) (HB:ALu tb h b l) (hi:i < l.length) (hl:l.set i u=l')
 (H:∀ h',ALu tb h' b l'->Upd (· =b) h h'->RL P B st ops rest e h' K):RL P B st ops (⟨none,.store t x y,ty,pos,af,none⟩ :: rest) e h K:=
 A0w ht hx hy h1 (HB.cell<|List.getElem?_eq_getElem hi) (HB.free i) (H _ (hl ▸ HB.set i u)<|AX7 _ _ _)
theorem Aq5 {b:Nat} {l':List Value} (HB:ALu t w.heap b l) (hl:l'.length=l.length) (h1:∀ u∈l',isOne u=true):∃ w',(storeCells ⟨b,0,none⟩ l').run P w= .ok () w'/\w'.tape=w.tape/\w'.os=w.os/\w'.output=w.output/\ALu t w'.heap b l'/\Upd (· =b) w.heap w'.heap:=by
 have hone':∀ u∈l',u.oneCell'=true:=λu hu'=>by have:=h1 u hu';cases u <;> first | rfl | cases this
 have:=run_storeCells_at P b 0 t l' 0 l.toArray w HB (by simp [hl]) hone';refine ⟨_,this,rfl,rfl,rfl,?_,?_⟩
 ·unfold ALu;rw [setRow_heap w b l.toArray _ t (0,0) HB];simp [hl]
 ·exact ⟨by simp [World.setRow],λk hk hne=>setRow_other w b k _ λhe=>hne he⟩
theorem AKo {b:Nat} (l':List Value) (ht:AgT P t s) (hl':l'.length=s) (hl:l.length=s) (hx:e.ev x= .pointer (some ⟨b,0,none⟩)) (hy:e.ev y= .agg l'.toArray) (h1:∀ u∈l',isOne u=true) (HB:ALu tb h b l)
 (H:∀ h',ALu tb h' b l'->Upd (· =b) h h'->RL P B st ops rest e h' K):RL P B st ops (⟨none,.store t x y,ty,pos,af,none⟩ :: rest) e h K:=by
 refine A4a rfl rfl λw hw=>?_;subst hw;obtain ⟨_,i,hi,hsz⟩:=ht;obtain ⟨w',hr,ht',ho',hu',HB',hU⟩:=Aq5 (P:=P) HB (hl'.trans hl.symm) h1
 have hrun:(execOp e.ev ⟨none,.store t x y,ty,pos,af,none⟩).run P w= .ok .skip w':=by
  simp only [execOp,Instr.storeAt,hx,Instr.sureAddr,hy];simp [storeVar,AXt hi,Value.cells,hsz,hl',hr]
 rw [hrun];exact ⟨⟨ho',ht',hu'⟩,H _ HB' hU⟩
theorem AOe {f ft fs b o:Nat} (hf:FdT P t f off ft) (hs:(P.info? ft).map (·.size)=some fs) (hfs:fs≠0) (hx:e.ev x= .pointer (some ⟨b,o,none⟩)) (H:RL P B st ops rest (e.set d<|.pointer<|some ⟨b,o + off,none⟩) h K):
 RL P B st ops (⟨some d,.fieldAddr t x f,ty,pos,af,none⟩ :: rest) e h K:=by
 refine A8b hf hs hfs hx ?_;rw [AN0];exact H
theorem A65 {z:Value} (l:List Value) (hT:SlT P t el s) (hz:ZeT P el z bytes) (hb:B h) (hy:e.ev y= .agg l.toArray) (hl:l.length=s) (hs1:0 < s) (hs2:s<=1000)
 (H:B (h.push<|.cells l.toArray el (0,0))/\RL P B st ops rest (e.set d<|.slice (some ⟨h.size,0,none⟩) 1 1) (h.push<|.cells l.toArray el (0,0)) K):
 RL P B st ops (⟨some d,.buildSlice t 1 #[(0,y)],ty,pos,af,none⟩ :: rest) e h K:=by
 refine AWy rfl rfl hb λw hw=>?_;subst hw;obtain ⟨hu,i0,hi0,hs0⟩:=hT;obtain ⟨i,hi,hzz,hsz,hby⟩:=hz;rw [hi] at hi0;injection hi0 with hi0;subst hi0;have h3: ¬ (1 * i.size > 2 ^ 24):=by rw [hs0];omega
 have h4: ¬ (1 * i.size=0):=by rw [hs0];omega
 have hfill:Instr.fill (λj=>some (j * i.size,i.size)) ((Array.range<|1 * i.size).map (z.cells[· % z.cells.size]!)) [(0,.agg l.toArray)]=some l.toArray:=by
  have hvc:(Value.agg l.toArray).cells=l.toArray:=rfl;generalize z.cells=zc;simp only [Instr.fill,hvc,List.size_toArray,hl,hs0];rw [if_neg AI9];congr 1;obtain ⟨old,ho⟩:∃ old:List Value,((Array.range<|1 * s).map (zc[· % zc.size]!))=old.toArray:=⟨_,(Array.toArray_toList).symm⟩;have hol:old.length=l.length:=by have:=congrArg Array.size ho;grind
  rw [ho];have:=Alr l [] old hol;grind
 have:(execOp e.ev ⟨some d,.buildSlice t 1 #[(0,y)],ty,pos,af,none⟩).run P w= .ok (.value<|.slice (some ⟨w.heap.size,0,none⟩) 1 1) (w.alloc<|.cells l.toArray el):=by
  simp only [execOp,List.map_toArray,List.map,hy];simp only [Instr.buildSlice,Sem.run_bind,AS6 hu,Result.andThen,AXt hi,if_neg h3,if_neg h4,Aoh hi hzz];have hp1:Sem.run P (pure z.cells:Sem (Array Value)) w= .ok z.cells w:=rfl;simp only [hp1];rw [hfill];simp [newRow]
 rw [this];exact ⟨⟨rfl,rfl,rfl⟩,H⟩
theorem Aw6 (h:AH8) (el k:Nat) (l:List Value) (hl:l.length=k):ARz (h.push<|.cells l.toArray el (0,0)) el k h.size (.slice (some ⟨h.size,0,none⟩) 1 1) [l]:=
 ⟨1,l.toArray,rfl,AI9,AI9,by simp [maxLen],by simp [hl],by simpa using hl,by simp [<- hl]⟩
theorem Afy {op:BinOp} {t:TypeId} {b c:Int} (hx:e.ev x= .int k a) (hy:e.ev y= .int k b) (hop:op= .and∨op= .or∨op= .xor∨op= .andNot) (hv:∀ w,(Op.intBits op k a b).run P w= .ok (.int k c) w) (H:RL P B st ops rest (e.set d<|.int k c) h K):
 RL P B st ops (⟨some d,.binOp op t x y t2,ty,pos,af,none⟩ :: rest) e h K:=
 ANz (v:= .int k c) rfl rfl (λw=>by
  rcases hop with rfl | rfl | rfl | rfl <;> simp [execOp,hx,hy,eqGuard,binOp,hv]) H
theorem Als {t:TypeId} {n:Nat} (hx:e.ev x= .int k a) (hy:e.ev y= .int k' (n:Int)) (hn:n<=k.bits) (H:RL P B st ops rest (e.set d<|.int k<|k.wrap<|a * 2 ^ n) h K):
 RL P B st ops (⟨some d,.binOp .shl t x y t2,ty,pos,af,none⟩ :: rest) e h K:=
 ANz (v:= .int k<|k.wrap<|a * 2 ^ n) rfl rfl (λw=>by
  have h1: ¬ ((n:Int) < 0):=by omega
  have h2:min n k.bits=n:=by omega
  simp [execOp,hx,hy,eqGuard,binOp,Op.shift,h1,h2]) H
theorem Ajx {t:TypeId} {n:Nat} (hx:e.ev x= .int k a) (hy:e.ev y= .int k' (n:Int)) (hn:n<=k.bits) (H:RL P B st ops rest (e.set d<|.int k<|a / 2 ^ n) h K):
 RL P B st ops (⟨some d,.binOp .shr t x y t2,ty,pos,af,none⟩ :: rest) e h K:=
 ANz (v:= .int k<|a / 2 ^ n) rfl rfl (λw=>by
  have h1: ¬ ((n:Int) < 0):=by omega
  have h2:min n k.bits=n:=by omega
  have h3:a.fdiv (2 ^ n)=a / 2 ^ n:=Int.fdiv_eq_ediv_of_nonneg _<|Int.le_of_lt<|Int.pow_pos AHx
  simp [execOp,hx,hy,eqGuard,binOp,Op.shift,h1,h2,h3]) H
theorem Ajy {t:TypeId} {a b:Bool} (ht:P.underlying t=some .bool) (w:World):(Op.equal t (.bool a)<|.bool b).run P w= .ok (a == b) w:=by
 show (Op.equalIn (9999 + 1) t _ _).run P w=_;rw [Op.equalIn];simp [AS6 ht]
theorem Aos {t:TypeId} {a b:Bool} (ht:P.underlying t=some .bool) (hx:e.ev x= .bool a) (hy:e.ev y= .bool b) (H:RL P B st ops rest (e.set d<|.bool<|a == b) h K):
 RL P B st ops (⟨some d,.binOp .eql t x y t2,ty,pos,af,none⟩ :: rest) e h K:=
 ANz (v:= .bool<|a == b) rfl rfl (λw=>by
  simp [execOp,hx,hy,eqGuard,binOp,Ajy ht]) H
theorem Ajz {t:TypeId} {a b:Bool} (ht:P.underlying t=some .bool) (hx:e.ev x= .bool a) (hy:e.ev y= .bool b) (H:RL P B st ops rest (e.set d<|.bool<|!(a == b)) h K):
 RL P B st ops (⟨some d,.binOp .neq t x y t2,ty,pos,af,none⟩ :: rest) e h K:=
 ANz (v:= .bool<|!(a == b)) rfl rfl (λw=>by
  simp [execOp,hx,hy,eqGuard,binOp,Ajy ht]) H
theorem A3j {t:TypeId} {a b:Array Value} {r:Bool} (hg:P.eqGuardType P.depth t=false) (hx:e.ev x= .agg a) (hy:e.ev y= .agg b) (hv:∀ w,(Op.equal t (.agg a)<|.agg b).run P w= .ok r w) (H:RL P B st ops rest (e.set d<|.bool !r) h K):
 RL P B st ops (⟨some d,.binOp .neq t x y t2,ty,pos,af,none⟩ :: rest) e h K:=
 ANz (v:= .bool !r) rfl rfl (λw=>by
  simp [execOp,hx,hy,eqGuard,binOp,hv,hg]) H
end
theorem Agh {t:TypeId} {cs:Array Value} (ht:NaT P t) (hv:cs[off]? =some v) (w:World):(part t cs off).run P w= .ok v w:=by
 obtain ⟨⟨d,hd,hna⟩,_⟩:=ht;have h2:=Asp (P:=P) hd w;rw [hna] at h2;simp [part,h2,hv]
theorem Ahj {t:TypeId} {b:Int} (ht:Acm P t k) (w:World):(Op.equalIn 9999 t (.int k a)<|.int k b).run P w= .ok (a == b) w:=by
 show (Op.equalIn (9998 + 1) t _ _).run P w=_;unfold Acm at ht;rw [Op.equalIn];simp [AS6 ht]
theorem Aq6 {t:TypeId} {a b:Bool} (ht:P.underlying t=some .bool) (w:World):(Op.equalIn 9999 t (.bool a)<|.bool b).run P w= .ok (a == b) w:=by
 show (Op.equalIn (9998 + 1) t _ _).run P w=_;rw [Op.equalIn];simp [AS6 ht]
theorem AW1 (ht:AgT P t s) {a:Addr} (hl:l.length=s) (w:World) (hc:∀ i u,l[i]? =some u->AM6 w.heap (a.add i)=some u):(loadVar t a).run P w= .ok (.agg l.toArray) w:=by
 obtain ⟨⟨dd,hd,hag⟩,i,hi,hsz⟩:=ht;have h1:=run_loadCells (P:=P) (a:=a) (w:=w) l 0 #[] (λi u hu=>by rw [Nat.zero_add];exact hc i u hu);rw [hl,<- hsz] at h1;have h2:=Asp (P:=P) hd w;rw [hag] at h2;simp [loadVar,h2,AXt hi,loadCells,h1]
theorem AKs {e:Env} {t:Tmp} {b:Nat} (ht:AgT P ty s) (hl:l.length=s) (he:e t= .pointer (some ⟨b,0,none⟩)) (HB:ALu tb h b l):Amn P [.cell t ty] e h (.agg l.toArray):=
 λfn tmps w hr hg hw=>by
  have h1:tmps[t]?.getD undef= .pointer (some ⟨b,0,none⟩):=by simp_all
  have h2:=AW1 ht hl w (a:=⟨b,0,none⟩) (by rw [hw];exact HB.agg)
  simp only [results,hr]
  simp [h1,asAddr,h2]
theorem Aat {e:Env} {t u:Tmp} {b:Nat} (ht:AgT P ty s) (hl:l.length=s) (he:e t= .pointer (some ⟨b,0,none⟩)) (HB:ALu tb h b l):Amn P [.cell t ty,.tmp u] e h (.tuple #[.agg l.toArray,e u]):=
 λfn tmps w hr hg hw=>by
  have h1:tmps[t]?.getD undef= .pointer (some ⟨b,0,none⟩):=by simp_all
  have h2:=AW1 ht hl w (a:=⟨b,0,none⟩) (by rw [hw];exact HB.agg)
  rw [<- hg u]
  simp only [results,hr]
  simp [h1,asAddr,h2]
theorem AW2 {e:Env} {t t2 u:Tmp} {Ad s2 Ae b b2:Nat} {l2:List Value} (ht:AgT P ty s) (hl:l.length=s) (he:e t= .pointer (some ⟨b,0,none⟩)) (HB:ALu tb h b l) (Af:AgT P Ad s2) (Ag:l2.length=s2) (Ao:e t2= .pointer (some ⟨b2,0,none⟩)) (Ah:ALu Ae h b2 l2):Amn P [.cell t ty,.cell t2 Ad,.tmp u] e h (.tuple #[.agg l.toArray,.agg l2.toArray,e u]):=
 λfn tmps w hr hg hw=>by
  have h1:tmps[t]?.getD undef= .pointer (some ⟨b,0,none⟩):=by simp_all
  have h3:tmps[t2]?.getD undef= .pointer (some ⟨b2,0,none⟩):=by simp_all
  have h2:=AW1 ht hl w (a:=⟨b,0,none⟩) (by rw [hw];exact HB.agg)
  have h4:=AW1 Af Ag w (a:=⟨b2,0,none⟩) (by rw [hw];exact Ah.agg)
  rw [<- hg u]
  simp only [results,hr]
  simp [h1,h3,asAddr,h2,h4]
def AWl (v:Value):Prop:= ∃ a n c,v= .slice a n c/\n<=c
theorem Ahk:AWl (.slice none 0 0):=⟨_,_,_,rfl,Nat.le_refl _⟩
theorem AMd.cap {h:AH8} {el g:Nat} {v:Value} {l:List Value} (H:AMd h el g v l):AWl v:=by
 obtain ⟨cap,cur,rfl,_,hl,_⟩:=H;exact ⟨_,_,_,rfl,hl⟩
theorem Sl.drop {h:AH8} {a:Option Addr} {n cap k:Nat} {l:List Value} (H:Sl h (.slice a n cap) l) (hk:k<=n) (hc:n<=cap):
 Sl h (.slice (if cap=k then a else a.map (·.add<|k * 1)) (n - k)<|cap - k) (l.drop k):=by
 obtain ⟨a',c',hv,hx⟩:=H;injection hv with ha hl hcap;subst ha;refine ⟨_,_,by rw [List.length_drop,hl],λi x hi=>?_⟩;rw [List.getElem?_drop] at hi;have hil:=(List.getElem?_eq_some_iff.1 hi).1;obtain ⟨b,o,ha,hcell⟩:=hx _ _ hi;refine ⟨b,o + k,?_,by grind⟩;rw [if_neg AHx,ha];simp [Addr.add]
theorem Mat.drop {h:AH8} {a:Option Addr} {n cap k:Nat} {M:List (List Int)} (H:Mat h (.slice a n cap) M) (hk:k<=n) (hc:n<=cap):
 Mat h (.slice (if cap=k then a else a.map (·.add<|k * 1)) (n - k)<|cap - k) (M.drop k):=by
 obtain ⟨rs,h1,h2,h3⟩:=H;refine ⟨rs.drop k,h1.drop hk hc,by simp [h2],λi r z hr hz=>?_⟩;grind
section
variable {P:Program} {B:AH8->Prop} {st:Bool} {ops:Array Oper} {rest:List Oper} {e:Env} {h:AH8} {K:Env->AH8->Prop}
variable {d:Nat} {ty:TypeId} {pos:String} {af:Array Edge}
theorem Auy {k:Nat} (hT:SlT P t el 1) (hx:e.ev x=v) (HM:Mat h v M) (hc:AWl v) (hy:e.ev y= .int kk (k:Int)) (hk:k<=M.length) (H:∀ v',Mat h v' (M.drop k)->AWl v'->RL P B st ops rest (e.set d v') h K):
 RL P B st ops (⟨some d,.slice t x (some y) none none,ty,pos,af,none⟩ :: rest) e h K:=by
 obtain ⟨a,n,c,rfl,hnc⟩:=hc;obtain ⟨a',c',hv⟩:=HM.len;injection hv with _ hn _;exact Aok hT hx hy AHx hnc<|H _ (HM.drop AHx hnc) ⟨_,_,_,rfl,AHx⟩
end
def AYe (h:AH8) (er ei lo b:Nat) (gs:List Nat) (v:Value) (n:Nat) (Z:List (List Int)):Prop:=ASy h er ei b gs v n Z/\ ∀ g∈b :: gs,lo<=g
theorem AYe.ext {h h':AH8} {er ei lo b n:Nat} {gs:List Nat} {v:Value} {M:List (List Int)} (H:AYe h er ei lo b gs v n M) (he:Ext h h'):AYe h' er ei lo b gs v n M:=⟨H.1.ext he,H.2⟩
theorem AYe.cap {h:AH8} {er ei lo b n:Nat} {gs:List Nat} {v:Value} {M:List (List Int)} (H:AYe h er ei lo b gs v n M):AWl v:=let ⟨_,h1,_⟩:=H.1.top;h1.cap
theorem AYe.mat {h:AH8} {er ei lo b:Nat} {gs:List Nat} {v:Value} {M:List (List Int)} (H:AYe h er ei lo b gs v M.length M):Mat h v M:=A4f.mat H.1
section
variable {P:Program} {B:AH8->Prop} {st:Bool} {ops:Array Oper} {rest:List Oper} {e:Env} {h:AH8} {K:Env->AH8->Prop}
variable {d:Nat} {ty:TypeId} {pos:String} {af:Array Edge}
theorem A66 {n:Nat} (hT:SlT P t er 1) (hz:ZeT P er (.slice none 0 0) bytes) (hbB:∀ h',B h') (hx:e.ev x= .int .i64 (n:Int)) (hy:e.ev y= .int .i64 (n:Int)) (hby:bytes<=1000) (hn:n<=100000000)
 (H:∀ b v h',AYe h' er ei h.size b [] v n []->Ext h h'->h.size<=b->b < h'.size->RL P B st ops rest (e.set d v) h' K):
 RL P B st ops (⟨some d,.makeSlice t x y,ty,pos,af,none⟩ :: rest) e h K:=by
 have h1:bytes * n<=1000 * 100000000:=Nat.mul_le_mul hby hn;refine Awi hT hz rfl (hbB _) hx hy AHx AHx ⟨hbB _,?_⟩;exact H h.size _ _ ⟨Auw h er ei n (by unfold maxLen;omega),AI9⟩ (AL5 _ _) (Nat.le_refl _) AI9
theorem A67 {n:Nat} (hT:SlT P t ei 1) (hz:ZeT P ei (.int .i64 0) bytes) (hbB:∀ h',B h') (hx:e.ev x= .int .i64 (n:Int)) (hy:e.ev y= .int .i64 (n:Int)) (hby:bytes<=1000) (hn:n<=100000000)
 (H:∀ g v h',AMd h' ei g v ((List.replicate n (0:Int)).map (.int .i64))->Ext h h'->h.size<=g->g < h'.size->RL P B st ops rest (e.set d v) h' K):
 RL P B st ops (⟨some d,.makeSlice t x y,ty,pos,af,none⟩ :: rest) e h K:=by
 have h1:bytes * n<=1000 * 100000000:=Nat.mul_le_mul hby hn;refine Awi hT hz rfl (hbB _) hx hy AHx AHx ⟨hbB _,?_⟩;exact H h.size _ _ (Aww h ei n 0 (by unfold maxLen;omega)) (AL5 _ _) (Nat.le_refl _) AI9
theorem A02 {i:Operand} {lo b n:Nat} {gs:List Nat} {Z:List (List Int)} (hT:SlT P t el 1) (hx:e.ev x=v) (HP:AYe h er ei lo b gs v n Z) (hi:e.ev i= .int k (j:Int)) (hj:j < n)
 (H:RL P B st ops rest (e.set d<|.pointer<|some ⟨b,j,none⟩) h K):RL P B st ops (⟨some d,.indexAddr t x i,ty,pos,af,none⟩ :: rest) e h K:=by
 obtain ⟨rs,h1,h2⟩:=HP.1.top;exact Abp hT hx h1 hi AHx H
theorem A03 {lo b n:Nat} {gs:List Nat} {Z:List (List Int)} {z:List Int} (ht:NaT P t) (hx:e.ev x= .pointer (some ⟨b,j,none⟩)) (hy:e.ev y=r) (HP:AYe h er ei lo b gs v n Z) (hj:Z.length=j) (hjn:j < n) (hr:AMd h ei g r (z.map<|.int .i64)) (hg:g ∉ b :: gs) (hlo:lo<=g)
 (H:∀ h',AYe h' er ei lo b (gs ++ [g]) v n (Z ++ [z])->Upd (· =b) h h'->RL P B st ops rest e h' K):RL P B st ops (⟨none,.store t x y,ty,pos,af,none⟩ :: rest) e h K:=by
 obtain ⟨rs,h1,h2⟩:=HP.1.top;refine Awh ht hx hy hr.one h1 AHx<|H _ ⟨HP.1.push hj hjn hr hg,λq hq=>?_⟩<|AX7 _ _ _;rw [<- List.cons_append] at hq
 rcases List.mem_append.1 hq with hq | hq
 ·exact HP.2 q hq
 grind
theorem A68 {i:Operand} {lo b n:Nat} {gs:List Nat} {z:List Int} (hT:SlT P t el 1) (hx:e.ev x=v) (HP:AYe h er ei lo b gs v n M) (hi:e.ev i= .int k (j:Int)) (hz:M[j]? =some z)
 (H:∀ a r g,AM6 h a=some r->gs[j]? =some g->AMd h ei g r (z.map<|.int .i64)->RL P B st ops rest (e.set d<|.pointer<|some a) h K):RL P B st ops (⟨some d,.indexAddr t x i,ty,pos,af,none⟩ :: rest) e h K:=
 A64 hT hx HP.1 hi hz H
theorem A04 {lo b n:Nat} {gs:List Nat} {z:List Int} {u:Int} (z':List Int) (ht:NaT P t) (hx:e.ev x= .pointer (some ⟨g,j,none⟩)) (hy:e.ev y= .int .i64 u) (HP:AYe h er ei lo b gs v n M) (hg:gs[i]? =some g) (hz:M[i]? =some z) (hr:AMd h ei g r (z.map<|.int .i64)) (hj:j < z.length) (hz':z.set j u=z')
 (H:∀ h',AYe h' er ei lo b gs v n (M.set i z')->Upd (· =g) h h'->lo<=g->RL P B st ops rest e h' K):RL P B st ops (⟨none,.store t x y,ty,pos,af,none⟩ :: rest) e h K:=
 Awh ht hx hy rfl hr (by simpa using hj) (H _ ⟨hz' ▸ HP.1.setElem hg hz hj u,HP.2⟩ (AX7 _ _ _)<|HP.2 g<|List.mem_cons_of_mem _<|List.mem_of_getElem? hg)
end
def nv:List Nat->Nat
 | []=>0
 | x :: l=>x + 4294967296 * nv l
def Dig (L:List Nat):Prop:= ∀ x∈L,x < 4294967296
def TL (L:List Nat):Prop:= ∀ x,L.getLast?=some x->x≠0
theorem Aet (l m:List Nat):nv (l ++ m)=nv l + 4294967296 ^ l.length * nv m:=by
 induction l with
 | nil=>simp [nv]
 | cons x l ih=>simp only [List.cons_append,nv,ih,List.length_cons,Nat.pow_succ];grind
theorem AT1 (l:List Nat) (x:Nat):nv (l ++ [x])=nv l + 4294967296 ^ l.length * x:=by rw [Aet];simp [nv]
theorem AVx {L:List Nat} (h:Dig L):nv L < 4294967296 ^ L.length:=by
 induction L with
 | nil=>simp [nv]
 | cons x l ih=>
   have h1:=h x<|List.mem_cons_self ..
   have h2:=ih λy hy=>h y<|List.mem_cons_of_mem _ hy
   simp only [nv,List.length_cons,Nat.pow_succ]
   omega
theorem Agi {L:List Nat} (h:Dig L) (k:Nat):Dig (L.take k):=λx hx=>h x<|List.mem_of_mem_take hx
theorem APh {L:List Nat} (h:TL L) (h0:nv L=0):L=[]:=by
 rcases List.eq_nil_or_concat L with rfl | ⟨l,x,rfl⟩
 ·rfl
 ·rw [List.concat_eq_append,AT1] at h0;have hx:=h x AI9;have:0 < 4294967296 ^ l.length:=Nat.pow_pos AHz;have:=Nat.mul_le_mul_left (4294967296 ^ l.length)<|Nat.one_le_iff_ne_zero.2 hx;omega
theorem Aw7 {L:List Nat} (h:TL L) (hL:L≠[]):4294967296 ^ (L.length - 1)<=nv L:=by
 rcases List.eq_nil_or_concat L with rfl | ⟨l,x,rfl⟩
 ·grind
 ·have hx:=h x AI9;rw [List.concat_eq_append,AT1];have h2:=Nat.mul_le_mul_left (4294967296 ^ l.length)<|Nat.one_le_iff_ne_zero.2 hx;grind
def AV8 (n:Nat):Value:= .int .u32 (n:Int)
structure DS (h:AH8) (lo:Nat) (v:Value) (L:List Nat):Prop where
 sl:Sl h v (L.map AV8)
 cap:AWl v
 dig:Dig L
 lo:∀ g,v.ownBlock=some g->lo<=g
 tg:∀ g,v.ownBlock=some g-> ∃ cur off,h[g]? =some (.cells cur 160 off)
theorem DS.ext {h h':AH8} {lo:Nat} {v:Value} {L:List Nat} (H:DS h lo v L) (he:Ext h h'):DS h' lo v L:=⟨H.sl.ext he,H.cap,H.dig,H.lo,λg hg=>let ⟨cur,off,hx⟩:=H.tg g hg;⟨cur,off,(he.2 g (Array.getElem?_eq_some_iff.1 hx).1).trans hx⟩⟩
theorem DS.updLo {b:Nat} {lo:Nat} {L:List Nat} (H:DS h lo v L) (he:Upd (· =b) h h') (hb:b < lo):DS h' lo v L:=
 ⟨H.sl.upd he (λg hg hs=>by have:=H.lo g hg;omega),H.cap,H.dig,H.lo,λg hg=>let ⟨cur,off,hx⟩:=H.tg g hg;⟨cur,off,(he.2 g (Array.getElem?_eq_some_iff.1 hx).1 (λhs=>by have:=H.lo g hg;omega)).trans hx⟩⟩
theorem DS.mono {lo lo':Nat} {L:List Nat} (H:DS h lo v L) (hl:lo'<=lo):DS h lo' v L:=⟨H.sl,H.cap,H.dig,λg hg=>Nat.le_trans hl<|H.lo g hg,H.tg⟩
theorem AWl.one (H:AWl v):isOne v=true:=by
 obtain ⟨a,n,c,rfl,_⟩:=H;rfl
theorem ARw {ng:Bool} {s:Value} (H:AWl s):∀ u∈[Value.bool ng,s],isOne u=true:=by
 intro u hu;simp only [List.mem_cons,List.not_mem_nil,or_false] at hu;rcases hu with rfl | rfl
 ·rfl
 ·exact H.one
theorem AZx (h:AH8) (lo:Nat):DS h lo (.slice none 0 0) []:=⟨by simpa using Awg h,Ahk,λx hx=>by simp at hx,λg hg=>(by cases hg),λg hg=>(by cases hg)⟩
theorem Aau {L:List Nat} {x:Nat} (h:L[i]? =some x):(L.map AV8)[i]? =some (AV8 x):=by simp [h]
def sgn (neg:Bool) (n:Nat):Int:=if neg then -(n:Int) else n
theorem Abc:TL []:=λx hx=>by cases hx
theorem AUq {L:List Nat} (h:TL L) {k:Nat} (hk:nv L < 4294967296 ^ k):L.length<=k:=by
 by_cases hL:L=[]
 ·subst hL;simp
 ·have h1:=Aw7 h hL;have h2:4294967296 ^ (L.length - 1) < 4294967296 ^ k:=Nat.lt_of_le_of_lt h1 hk;have:=(Nat.pow_lt_pow_iff_right (by decide:1 < 4294967296)).1 h2;omega
structure ZV (h:AH8) (lo:Nat) (v:Value) (z:Int):Prop where
 out:∃ neg s L,v= .agg #[.bool neg,s]/\DS h lo s L/\TL L/\L.length<=100/\z=sgn neg (nv L)
theorem ZV.ext {h h':AH8} {lo:Nat} {v:Value} {z:Int} (H:ZV h lo v z) (he:Ext h h'):ZV h' lo v z:=by
 obtain ⟨n,s,L,h1,h2,h3⟩:=H.out;exact ⟨n,s,L,h1,h2.ext he,h3⟩
theorem ZV.updLo {b:Nat} {h h':AH8} {lo:Nat} {v:Value} {z:Int} (H:ZV h lo v z) (he:Upd (· =b) h h') (hb:b < lo):ZV h' lo v z:=by
 obtain ⟨n,s,L,h1,h2,h3⟩:=H.out;exact ⟨n,s,L,h1,h2.updLo he hb,h3⟩
section
variable {P:Program} {B:AH8->Prop} {st:Bool} {ops:Array Oper} {rest:List Oper} {e:Env} {h:AH8} {K:Env->AH8->Prop}
variable {d:Nat} {ty:TypeId} {pos:String} {af:Array Edge}
theorem Ams {k:Nat} (hT:SlT P t el 1) (hx:e.ev x=v) (HS:Sl h v l) (hc:AWl v) (hy:e.ev y= .int kk (k:Int)) (hk:k<=l.length)
 (H:∀ v',Sl h v' (l.take k)->AWl v'->v'.ownBlock=v.ownBlock->RL P B st ops rest (e.set d v') h K):
 RL P B st ops (⟨some d,.slice t x none (some y) none,ty,pos,af,none⟩ :: rest) e h K:=by
 obtain ⟨a,n,c,rfl,hnc⟩:=hc
 have hn:n=l.length:=by
  obtain ⟨a',c',hv,_⟩:=HS;grind
 refine A4c hT hx hy AHx<|H _ (HS.pre k hk c) ⟨_,_,_,rfl,AHx⟩ ?_;cases a <;> rfl
theorem AKc {lo:Nat} {L:List Nat} (hT:SlT P t el s) (hx:e.ev x=v) (HI:DS h lo v L) (H:RL P B st ops rest (e.set d<|.int .i64 (L.length:Int)) h K):
 RL P B st ops (⟨some d,.call ⟨.builtin .len,#[x],#[t]⟩,ty,pos,af,none⟩ :: rest) e h K:=by
 refine Aft hT hx HI.sl ?_;grind
theorem ARd {i:Operand} {lo:Nat} {L:List Nat} {u:Nat} {n:Nat} (hT:SlT P t el 1) (hx:e.ev x=v) (HS:DS h lo v L) (hi:e.ev i= .int k (n:Int)) (hu:L[n]? =some u) (H:∀ a,AM6 h a=some (.int .u32 (u:Int))->RL P B st ops rest (e.set d<|.pointer<|some a) h K):RL P B st ops (⟨some d,.indexAddr t x i,ty,pos,af,none⟩ :: rest) e h K:=
 Ajq hT hx HS.sl hi (Aau hu) H
theorem Aj0 {n:Nat} (hT:SlT P t el 1) (hz:ZeT P el (.int .u32 0) bytes) (hbB:∀ h',B h') (hx:e.ev x= .int .i64 (n:Int)) (hy:e.ev y= .int .i64 (n:Int)) (hby:bytes<=1000) (hn:n<=100000000)
 (H:∀ g v h',AMd h' el g v ((List.replicate n 0).map AV8)->Ext h h'->h.size<=g->g < h'.size->RL P B st ops rest (e.set d v) h' K):
 RL P B st ops (⟨some d,.makeSlice t x y,ty,pos,af,none⟩ :: rest) e h K:=by
 have h1:bytes * n<=1000 * 100000000:=Nat.mul_le_mul hby hn;refine Awi hT hz rfl (hbB _) hx hy AHx AHx ⟨hbB _,?_⟩;refine H h.size _ _ ?_ (AL5 _ _) (Nat.le_refl _) AI9;rw [List.map_replicate];exact Ady h el n (.int .u32 0) (by unfold maxLen;omega)
theorem Adl {n u:Nat} (D':List Nat) (ht:NaT P t) (hx:e.ev x= .pointer (some ⟨g,n,none⟩)) (hy:e.ev y= .int .u32 (u:Int)) (HO:AMd h er g v (D.map AV8)) (hn:n < D.length) (hD:D.set n u=D')
 (H:∀ h',AMd h' er g v (D'.map AV8)->Upd (· =g) h h'->RL P B st ops rest e h' K):RL P B st ops (⟨none,.store t x y,ty,pos,af,none⟩ :: rest) e h K:=by
 have h2:=HO.set n (AV8 u) (by simpa using hn);rw [<- List.map_set,hD] at h2;exact Awh ht hx hy rfl HO (by simpa using hn) (H _ h2<|AX7 _ _ _)
theorem AW3 {t:TypeId} {a b:Nat} (hx:e.ev x= .int .u64 (a:Int)) (hy:e.ev y= .int .u64 (b:Int)) (h1:a + b < 18446744073709551616) (H:RL P B st ops rest (e.set d<|.int .u64 ((a + b:Nat):Int)) h K):
 RL P B st ops (⟨some d,.binOp .add t x y t2,ty,pos,af,none⟩ :: rest) e h K:=by
 refine AI0 hx hy ?_;rw [show IntKind.u64.wrap ((a:Int) + (b:Int))=((a + b:Nat):Int) by simp only [IntKind.wrap,IntKind.bits,IntKind.signed];simp;omega];exact H
theorem Amt {t:TypeId} {a b:Nat} (hx:e.ev x= .int .u64 (a:Int)) (hy:e.ev y= .int .u64 (b:Int)) (h1:a * b < 18446744073709551616) (H:RL P B st ops rest (e.set d<|.int .u64 ((a * b:Nat):Int)) h K):
 RL P B st ops (⟨some d,.binOp .mul t x y t2,ty,pos,af,none⟩ :: rest) e h K:=by
 refine APo hx hy ?_;rw [show IntKind.u64.wrap ((a:Int) * (b:Int))=((a * b:Nat):Int) by rw [<- Int.natCast_mul];simp only [IntKind.wrap,IntKind.bits,IntKind.signed];grind];exact H
theorem Aco {t:TypeId} {a:Nat} (hx:e.ev x= .int .u64 (a:Int)) (hy:e.ev y= .int k 32) (H:RL P B st ops rest (e.set d<|.int .u64 ((a / 4294967296:Nat):Int)) h K):
 RL P B st ops (⟨some d,.binOp .shr t x y t2,ty,pos,af,none⟩ :: rest) e h K:=by
 refine Ajx (n:=32) hx hy AHz ?_;grind
theorem Abd {dst:TypeId} {a:Nat} (hs:Acm P src .u32) (hd:Acm P dst .u64) (hx:e.ev x= .int .u32 (a:Int)) (ha:a < 4294967296) (H:RL P B st ops rest (e.set d<|.int .u64 (a:Int)) h K):
 RL P B st ops (⟨some d,.convert src dst x,ty,pos,af,none⟩ :: rest) e h K:=by
 refine ASz hs hd hx ?_;rw [show IntKind.u64.wrap (a:Int)=(a:Int) by simp only [IntKind.wrap,IntKind.bits,IntKind.signed];simp;omega];exact H
theorem Adm {dst:TypeId} {a:Nat} (hs:Acm P src .u64) (hd:Acm P dst .u32) (hx:e.ev x= .int .u64 (a:Int)) (H:RL P B st ops rest (e.set d<|.int .u32 ((a % 4294967296:Nat):Int)) h K):
 RL P B st ops (⟨some d,.convert src dst x,ty,pos,af,none⟩ :: rest) e h K:=by
 refine ASz hs hd hx ?_;rw [show IntKind.u32.wrap (a:Int)=((a % 4294967296:Nat):Int) by simp only [IntKind.wrap,IntKind.bits,IntKind.signed];simp];exact H
theorem A05 {t el:TypeId} {a:Option Addr} {n c:Nat} (ht:P.underlying t=some (.slice el)) (hx:e.ev x= .slice a n c) (H:RL P B st ops rest (e.set d<|.bool a.isNone) h K):
 RL P B st ops (⟨some d,.binOp .eql t x (.const<|.slice none 0 0) t2,ty,pos,af,none⟩ :: rest) e h K:=
 ANz (v:= .bool a.isNone) rfl rfl (λw=>by
  have hr:(Op.equal t (.slice a n c)<|.slice none 0 0).run P w= .ok a.isNone w:=by
   show (Op.equalIn (9999 + 1) t _ _).run P w=_;rw [Op.equalIn];cases a <;> simp [AS6 ht]
  have hy:e.ev (.const<|.slice none 0 0)= .slice none 0 0:=rfl;simp [execOp,hx,hy,eqGuard,binOp,hr]) H
theorem A69 (hT:SlT P t el s) (hbB:∀ h',B h') (H:∀ g v h',AMd h' el g v []->Ext h h'->h.size<=g->g < h'.size->RL P B st ops rest (e.set d v) h' K):
 RL P B st ops (⟨some d,.buildSlice t 0 #[],ty,pos,af,none⟩ :: rest) e h K:=by
 refine AWy rfl rfl (hbB _) λw hw=>?_;subst hw;obtain ⟨hu,i,hi,hs⟩:=hT
 have:(execOp e.ev ⟨some d,.buildSlice t 0 #[],ty,pos,af,none⟩).run P w= .ok (.value<|.slice (some ⟨w.heap.size,0,none⟩) 0 0) (w.alloc<|.cells #[] el):=by
  simp [execOp,Instr.buildSlice,AS6 hu,AXt hi,Instr.fill,newRow];grind
 rw [this];exact ⟨⟨rfl,rfl,rfl⟩,hbB _,H w.heap.size _ _ (Ajp w.heap el []<|by simp [maxLen]) (AL5 _ _) (Nat.le_refl _) AI9⟩
theorem A4j {s:Operand} {xc:Nat} {xa:Addr} (hT:SlT P t el 1) (hbB:∀ h',B h') (hs:e.ev s=v) (HO:AMd h el g v l) (hx:e.ev x= .slice (some xa) 0 xc)
 (H:∀ v' h',AMd h' el g v' l->Upd (· =g) h h'->RL P B st ops rest (e.set d v') h' K):
 RL P B st ops (⟨some d,.call ⟨.builtin .append,#[s,x],#[t,t]⟩,ty,pos,af,none⟩ :: rest) e h K:=by
 refine AWy rfl rfl (hbB _) λw hw=>?_;subst hw;obtain ⟨hu,i,hi,hs0⟩:=hT;obtain ⟨cap,cur,rfl,hg,hlc,hcm,hcs,ht⟩:=HO;have hr:=run_append_room (P:=P) w t ty el i hu hi g l.length cap cur hg xa 0 xc [] AI9 (λj u hu'=>by simp at hu') (λu hu'=>by simp at hu') AHx (by grind)
 have hrun:(execOp e.ev ⟨some d,.call ⟨.builtin .append,#[s,x],#[t,t]⟩,ty,pos,af,none⟩).run P w= .ok (.value<|.slice (some ⟨g,0,none⟩) (l.length + 0) cap) (w.setRow g (cur.toList.take (l.length * i.size) ++ [] ++ cur.toList.drop (l.length * i.size + 0)).toArray):=by
  simp [execOp,resolve,invoke,builtin,hs,hx,hr]
 rw [hrun];refine ⟨⟨rfl,rfl,rfl⟩,hbB _,H _ _ ?_ ⟨by simp [World.setRow],λk hk hne=>setRow_other w g k _ λhe=>hne he⟩⟩
 refine ⟨cap,_,rfl,setRow_heap w g cur _ el (0,0) hg,hlc,hcm,?_,?_⟩
 ·grind
 grind
theorem Aw8 {n:Nat} {z:Value} (l:List Value) (hT:SlT P t el 1) (hz:ZeT P el z bytes) (h1:isOne z=true) (hbB:∀ h',B h') (hn:l.length=n) (hn2:n<=1000000) (hpos:0 < n) (hp:(parts.map λ(i,x)=>(i,e.ev x))=partsOf 0 l)
 (hone:∀ u∈l,isOne u=true) (H:∀ g v h',AMd h' el g v l->Ext h h'->h.size<=g->g < h'.size->RL P B st ops rest (e.set d v) h' K):
 RL P B st ops (⟨some d,.buildSlice t n parts.toArray,ty,pos,af,none⟩ :: rest) e h K:=by
 subst hn;refine Awl l hT hz h1 (hbB _) rfl AHx hpos hp hone ⟨hbB _,?_⟩;exact H h.size _ _ (Ajp h el l (by unfold maxLen;omega)) (AL5 _ _) (Nat.le_refl _) AI9
end
theorem A06 {lo n c:Nat} {a:Option Addr} {L:List Nat} (ha:a=none) (H:DS h lo (.slice a n c) L):L=[]:=by
 subst ha
 cases L with
 | nil=>rfl
 | cons x l=>
   obtain ⟨a',c',hv,hc⟩:=H.sl
   obtain ⟨b,o,ha,_⟩:=hc 0 _ rfl
   grind
theorem Aw9 {lo n c:Nat} {a:Option Addr} (H:DS h lo (.slice a n c) []):n=0:=by
 obtain ⟨a',c',hv,hc⟩:=H.sl;grind
theorem Aiy {u n:Nat} (hi:D.length=i) (hn:i < n):(D ++ List.replicate (n - i) 0).set i u=D ++ [u] ++ List.replicate (n - (i + 1)) 0:=by
 rw [show n - i=(n - (i + 1)) + 1 by omega,List.replicate_succ,List.set_append_right _ _ AHx,hi,Nat.sub_self];simp
theorem AVb {u:Nat} (h:Dig D) (hu:u < 4294967296):Dig (D ++ [u]):=by
 intro x hx;rcases List.mem_append.1 hx with h1 | h1
 ·exact h x h1
 grind
theorem Acp {D c S:Nat} (hD:D + 4294967296 ^ i * c=S):D + 4294967296 ^ i * ((c + s) % 4294967296) + 4294967296 ^ (i + 1) * ((c + s) / 4294967296)=S + 4294967296 ^ i * s:=by
 have h1:=Nat.mod_add_div (c + s) 4294967296;grind
theorem AMd.ds {lo:Nat} {L:List Nat} (H:AMd h 160 g v (L.map AV8)) (hd:Dig L) (hl:lo<=g):DS h lo v L:=
 ⟨H.sl,H.cap,hd,λq hq=>by rw [H.blk] at hq;injection hq with hq;omega,λq hq=>by
  rw [H.blk] at hq
  injection hq with hq
  subst hq
  obtain ⟨cap,cur,_,hg,_⟩:=H
  exact ⟨cur,(0,0),hg⟩⟩
theorem Axa {a b:Nat} (ha:a < 18446744073709551616) (hb:b < 18446744073709551616) (w:World):(Op.intBits .or .u64 (a:Int) (b:Int)).run P w= .ok (.int .u64 ((a ||| b:Nat):Int)) w:=by
 have h1:(BitVec.ofInt 64 (a:Int)).toNat=a:=by grind
 have h2:(BitVec.ofInt 64 (b:Int)).toNat=b:=by grind
 have h3:a ||| b < 2 ^ 64:=Nat.or_lt_two_pow AHx AHx;simp only [Op.intBits];show Result.ok (Value.int .u64<|IntKind.u64.wrap ((BitVec.ofInt 64 (a:Int) ||| BitVec.ofInt 64 (b:Int)).toNat:Int)) w=_;rw [BitVec.toNat_or,h1,h2]
 have:IntKind.u64.wrap ((a ||| b:Nat):Int)=((a ||| b:Nat):Int):=by
  simp only [IntKind.wrap,IntKind.bits,IntKind.signed]
  simp
  omega
 rw [this]
theorem Axb {a b:Nat} (h:a < 2 ^ i):a ||| 2 ^ i * b=a + 2 ^ i * b:=by
 rw [Nat.or_comm,<- Nat.two_pow_add_eq_or_of_lt h,Nat.add_comm]
theorem AKl {L:List Nat} {x:Nat} (h:L[i]? =some x):nv (L.take<|i + 1)=nv (L.take i) + 4294967296 ^ i * x:=by
 rw [<- Alq h,AT1,List.length_take,Nat.min_eq_left<|by grind]
theorem AZy {L:List Nat} (h:Dig L) (hi:i<=L.length):nv (L.take i) < 4294967296 ^ i:=by
 have:=AVx<|Agi h i;grind
theorem AT2 (L:List Nat) (i:Nat):nv (L.take<|i + 1)=nv (L.take i) + 4294967296 ^ i * (L[i]?.getD 0):=by
 cases h:L[i]? with
 | some x=>rw [AKl h];rfl
 | none=>
   have:=List.getElem?_eq_none_iff.1 h
   rw [List.take_of_length_le AHx,List.take_of_length_le AHx];simp
theorem Ad5 {D c SA SB x y d c':Nat} (hD:D + SB=SA + 4294967296 ^ i * c) (hd:d + y + c=x + 4294967296 * c'):D + 4294967296 ^ i * d + (SB + 4294967296 ^ i * y)=SA + 4294967296 ^ i * x + 4294967296 ^ (i + 1) * c':=by
 grind
theorem Afz (i:Nat):4294967296 ^ i=2 ^ (32 * i):=by rw [Nat.pow_mul]
theorem wrap_u32 (a:Int):IntKind.u32.wrap a=a % 4294967296:=by
 simp [IntKind.wrap,IntKind.bits,IntKind.signed]
theorem wrap_u64 (a:Int):IntKind.u64.wrap a=a % 18446744073709551616:=by
 simp [IntKind.wrap,IntKind.bits,IntKind.signed]
section
variable {P:Program} {B:AH8->Prop} {st:Bool} {ops:Array Oper} {rest:List Oper} {e:Env} {h:AH8} {K:Env->AH8->Prop}
variable {d d':Nat} {ty ty':TypeId} {pos pos':String} {af af':Array Edge}
theorem A3k {s:Operand} {lo:Nat} {L:List Nat} (hT:SlT P t 160 1) (hz:ZeT P 160 (.int .u32 0) bytes) (hbB:∀ h',B h') (hs:e.ev s= .slice none 0 0) (hx:e.ev x=xv) (HX:DS h lo xv L) (hby:bytes<=1000) (hn:L.length<=100000000)
 (H:∀ v' h',DS h' h.size v' L->Ext h h'->RL P B st ops rest (e.set d v') h' K):
 RL P B st ops (⟨some d,.call ⟨.builtin .append,#[s,x],#[t,t]⟩,ty,pos,af,none⟩ :: rest) e h K:=by
 by_cases hL:L=[]
 ·subst hL;refine AWy rfl rfl (hbB _) λw hw=>?_;subst hw;obtain ⟨hu,i,hi,hs0⟩:=hT;obtain ⟨xa,xc,hxe,_⟩:=HX.sl
  have hrun:(execOp e.ev ⟨some d,.call ⟨.builtin .append,#[s,x],#[t,t]⟩,ty,pos,af,none⟩).run P w= .ok (.value<|.slice none 0 0) w:=by
   subst hxe
   have hc:(Builtin.firstCells i.size 0<|.slice xa 0 xc).run P w= .ok #[] w:=by
    cases xa with
    | none=>exact run_firstCells_none (P:=P) w _ 0 0 xc
    | some a=>exact run_firstCells_some (P:=P) w i.size 0 a 0 xc [] AI9 (λj v hj=>by simp at hj)
   simp only [List.map_nil,List.length_nil] at hx;simp [execOp,resolve,invoke,builtin,hs,hx,Builtin.append_,AS6 hu,AXt hi,Builtin.lenOf,hc]
  rw [hrun];exact ⟨⟨rfl,rfl,rfl⟩,hbB _,H _ _ (AZx _ _)<|Ext.refl _⟩
 ·have h1:L.length * bytes<=100000000 * 1000:=Nat.mul_le_mul hn hby;refine Awj hT hz rfl (hbB _) hs hx HX.sl (λu hu=>by obtain ⟨y,_,rfl⟩:=List.mem_map.1 hu;rfl) (by simpa using hL) (by rw [List.length_map];omega) (by rw [List.length_map];omega) λv' h' HO E=>⟨hbB _,H v' h' (HO.ds HX.dig<|Nat.le_refl _) E⟩
theorem Aeu {s:Operand} {u:Nat} (hT:SlT P t el 1) (hz:ZeT P el (.int .u32 0) bytes) (hbB:∀ h',B h') (hs:∀ p,(e.set d p).ev s=v) (hy:e.ev y= .int .u32 (u:Int)) (E0:Ext h0 h) (HG:Gro h el h0.size v (D.map AV8)) (hby:bytes<=1000) (hl:D.length<=100000000)
 (H:∀ p v' h',Gro h' el h0.size v' ((D ++ [u]).map AV8)->Ext h0 h'->RL P B st ops rest ((e.set d p).set d' v') h' K):
 RL P B st ops (⟨some d,.buildSlice t 1 #[(0,y)],ty,pos,af,none⟩ :: ⟨some d',.call ⟨.builtin .append,#[s,.tmp d],#[t,t]⟩,ty',pos',af',none⟩ :: rest) e h K:=by
 refine A4h hT hz rfl hbB hs hy rfl HG E0.1 hby (by grind) λp v' h' HG' U _=>?_;refine H p v' h' (by rw [List.map_append];exact HG')<|E0.thenUpd U λk hk=>?_;exact (HG.blk k hk).1
end
theorem Gro.ds {h:AH8} {lo:Nat} {v:Value} {D:List Nat} (H:Gro h 160 lo v (D.map AV8)) (hd:Dig D):DS h lo v D:=by
 rcases H with ⟨h1,rfl⟩ | ⟨g,hg,HO⟩
 ·have:D=[]:=by simpa using h1
  subst this;exact AZx _ _
 ·exact HO.ds hd hg
theorem Asu {L:List Nat} {n x:Nat} (hx:L[n - 1]? =some x) (h0:x≠0) (hn:0 < n):TL (L.take n):=by
 intro y hy;grind
theorem Ad6 {L:List Nat}:∀ {q x:Nat} (u:Nat),L[q]? =some x->nv (L.set q u) + 4294967296 ^ q * x=nv L + 4294967296 ^ q * u:=by
 induction L with
 | nil=>grind
 | cons y L ih=>
   intro q x u h
   cases q with
   | zero=>simp at h;subst h;simp [nv];omega
   | succ q=>
     have h1:=ih u (q:=q) (x:=x) (by simpa using h)
     simp only [List.set_cons_succ,nv,Nat.pow_succ]
     grind
theorem Aav {L:List Nat} {q u:Nat} (h:Dig L) (hu:u < 4294967296):Dig (L.set q u):=by
 intro x hx;rcases List.mem_or_eq_of_mem_set hx with h1 | h1
 ·exact h x h1
 ·omega
theorem Aj1 {O O' V0 Pi c x y o u c' S:Nat} (hset:O' + 4294967296 ^ (i + j) * o=O + 4294967296 ^ (i + j) * u) (hinv:O + 4294967296 ^ (i + j) * c=V0 + 4294967296 ^ i * (x * S)) (ht:u + 4294967296 * c'=c + (x * y + o)):
 O' + 4294967296 ^ (i + (j + 1)) * c'=V0 + 4294967296 ^ i * (x * (S + 4294967296 ^ j * y)):=by
 grind
theorem Amu {c x y o:Nat} (hc:c < 4294967296) (hx:x < 4294967296) (hy:y < 4294967296) (ho:o < 4294967296):c + (x * y + o) < 18446744073709551616:=by
 have:x * y<=4294967295 * 4294967295:=Nat.mul_le_mul AHx AHx;omega
theorem Amv {L:List Nat} (h:Dig L) (i:Nat):L[i]?.getD 0 < 4294967296:=by
 cases hq:L[i]? with
 | none=>simp
 | some q=>exact h q<|List.mem_of_getElem? hq
theorem Axc {D b S x u b':Nat} (hD:D + 4294967296 ^ i * b=S) (hu:u + 4294967296 * b'=2 * x + b):D + 4294967296 ^ i * u + 4294967296 ^ (i + 1) * b'=S + 4294967296 ^ i * (2 * x):=by
 grind
theorem Axd {L:List Nat} (h:Dig L):∀ {k x:Nat},L[k]? =some x->nv L / 4294967296 ^ k % 4294967296=x:=by
 intro k x hx;have hk:=(List.getElem?_eq_some_iff.1 hx).1
 have e:nv L=nv (L.take k) + 4294967296 ^ k * nv (L.drop k):=by
  have:=Aet (L.take k)<|L.drop k
  rwa [List.take_append_drop,List.length_take,Nat.min_eq_left AHx] at this
 have hlt:=AZy h (i:=k) AHx;rw [e,Nat.add_mul_div_left _ _<|Nat.pow_pos AHz,Nat.div_eq_of_lt hlt,Nat.zero_add]
 have hd:L.drop k=x :: L.drop (k + 1):=by
  rw [List.drop_eq_getElem_cons hk]
  grind
 rw [hd];simp only [nv];have:=h x<|List.mem_of_getElem? hx;omega
theorem AXy (i:Nat):(2:Nat) ^ i=4294967296 ^ (i / 32) * 2 ^ (i % 32):=by
 rw [Afz,<- Nat.pow_add];congr 1;omega
theorem Asv {L:List Nat} (h:Dig L) {x:Nat} (hx:L[i / 32]? =some x):nv L / 2 ^ i % 2=x / 2 ^ (i % 32) % 2:=by
 rw [<- Axd h hx,AXy i,<- Nat.div_div_eq_div_mul];generalize nv L / 4294967296 ^ (i / 32)=y;have hs:i % 32 < 32:=Nat.mod_lt _ AHz;generalize i % 32=s at hs
 have h1:y=y % 4294967296 + 2 ^ s * (2 * 2 ^ (31 - s) * (y / 4294967296)):=by
  have e:2 ^ s * (2 * 2 ^ (31 - s))=(4294967296:Nat):=by
   rw [show (4294967296:Nat)=2 ^ 32 by decide,<- Nat.pow_succ',<- Nat.pow_add];grind
  rw [<- Nat.mul_assoc,e];omega
 conv=>lhs;rw [h1]
 rw [Nat.add_mul_div_left _ _<|Nat.pow_pos AHz,Nat.mul_assoc,Nat.add_mul_mod_self_left]
theorem Asw {L:List Nat} (h:Dig L) {x q:Nat} (hx:L[i / 32]? =some x) (hq:nv L=2 ^ (i + 1) * q):∃ t,x=2 ^ (i % 32 + 1) * t:=by
 have h1:=Axd h hx;rw [hq,Nat.pow_succ,AXy i] at h1;rw [Nat.mul_assoc,Nat.mul_assoc,Nat.mul_div_cancel_left _<|Nat.pow_pos AHz] at h1;have hs:i % 32 < 32:=Nat.mod_lt _ AHz;generalize i % 32=s at hs h1;refine ⟨q % 2 ^ (31 - s),?_⟩;rw [<- h1,<- Nat.mul_assoc,<- Nat.pow_succ,show (4294967296:Nat)=2 ^ (s + 1) * 2 ^ (31 - s) by rw [<- Nat.pow_add,show s + 1 + (31 - s)=32 by omega],Nat.mul_mod_mul_left]
theorem Axe:2 ^ (s + 1) * t ||| 2 ^ s=2 ^ (s + 1) * t + 2 ^ s:=by
 rw [<- Nat.two_pow_add_eq_or_of_lt (Nat.pow_lt_pow_right AHz AHx)]
theorem Aiz (hs:s < 32) (h:2 ^ (s + 1) * t < 4294967296):2 ^ (s + 1) * t + 2 ^ s < 4294967296:=by
 have e:2 ^ (s + 1) * 2 ^ (31 - s)=(4294967296:Nat):=by rw [<- Nat.pow_add,show s + 1 + (31 - s)=32 by omega]
 have h1:t < 2 ^ (31 - s):=by
  rw [<- e] at h
  exact Nat.lt_of_mul_lt_mul_left h
 have h2:2 ^ (s + 1) * (t + 1)<=4294967296:=by rw [<- e];exact Nat.mul_le_mul_left _ h1
 grind
theorem Aot {N n R:Nat} (hn:n≠0) (hR:R=N / 2 ^ (i + 1) % n):2 * R + N / 2 ^ i % 2=(2 * (N / 2 ^ (i + 1) % n) + N / 2 ^ i % 2)/\
 (n<=2 * R + N / 2 ^ i % 2->N / 2 ^ i % n=2 * R + N / 2 ^ i % 2 - n/\N / 2 ^ i / n=2 * (N / 2 ^ (i + 1) / n) + 1)/\(2 * R + N / 2 ^ i % 2 < n->N / 2 ^ i % n=2 * R + N / 2 ^ i % 2/\N / 2 ^ i / n=2 * (N / 2 ^ (i + 1) / n)):=by
 have e:N / 2 ^ (i + 1)=N / 2 ^ i / 2:=by rw [Nat.pow_succ,<- Nat.div_div_eq_div_mul]
 rw [e] at hR ⊢;generalize N / 2 ^ i=y at *
 refine ⟨by rw [hR],λh=>?_,λh=>?_⟩
 ·have h1:=Nat.div_add_mod (y / 2) n;have h2:=Nat.mod_lt (y / 2)<|Nat.pos_of_ne_zero hn;rw [<- hR] at h1 h2;generalize y / 2 / n=q at *
  have h3:y=n * (2 * q + 1) + (2 * R + y % 2 - n):=by
   grind
  have h4:2 * R + y % 2 - n < n:=by omega
  generalize y % 2=b at *
  generalize 2 * R + b - n=r at *
  subst h3;exact ⟨by rw [Nat.mul_add_mod,Nat.mod_eq_of_lt h4],by rw [Nat.mul_add_div<|Nat.pos_of_ne_zero hn,Nat.div_eq_of_lt h4,Nat.add_zero]⟩
 ·have h1:=Nat.div_add_mod (y / 2) n;rw [<- hR] at h1;generalize y / 2 / n=q at *
  have h3:y=n * (2 * q) + (2 * R + y % 2):=by
   grind
  generalize y % 2=b at *
  generalize 2 * R + b=r at *
  subst h3;exact ⟨by rw [Nat.mul_add_mod,Nat.mod_eq_of_lt h],by rw [Nat.mul_add_div<|Nat.pos_of_ne_zero hn,Nat.div_eq_of_lt h,Nat.add_zero]⟩
theorem ZV.mono {h:AH8} {lo lo':Nat} {v:Value} {z:Int} (H:ZV h lo v z) (hl:lo'<=lo):ZV h lo' v z:=by
 obtain ⟨n,s,L,h1,h2,h3⟩:=H.out;exact ⟨n,s,L,h1,h2.mono hl,h3⟩
def A8e:Obj->Bool
 | .cells _ el _=>Nat.beq el 160
 | _=>false
def Abe (h:AH8) (b:Nat):Prop:= ∃ o,h[b]? =some o/\A8e o=false
def UpT (F:List Nat) (h h':AH8):Prop:=(h.size<=h'.size/\ ∀ k,k < h.size->k ∉ F->h'[k]? =h[k]?)/\ ∀ b∈F,b < h.size->Abe h b/\Abe h' b
theorem UpT.size {F:List Nat} {h h':AH8} (H:UpT F h h'):h.size<=h'.size:=H.1.1
theorem UpT.ext (H:UpT [] h h'):Ext h h':=⟨H.1.1,λk hk=>H.1.2 k hk AI9⟩
theorem Ext.upT (H:Ext h h'):UpT [] h h':=⟨⟨H.1,λk hk _=>H.2 k hk⟩,λb hb=>by simp at hb⟩
theorem Abe.of {b:Nat} (H:Abe h b) (U:UpT F h h'):Abe h' b:=by
 obtain ⟨o,h1,h2⟩:=H;have hb:=(Array.getElem?_eq_some_iff.1 h1).1;by_cases hm:b∈F
 ·exact (U.2 b hm hb).2
 ·exact ⟨o,(U.1.2 b hb hm).trans h1,h2⟩
theorem UpT.refl' (H:∀ b∈F,b < h.size->Abe h b):UpT F h h:=⟨⟨Nat.le_refl _,λ_ _ _=>rfl⟩,λb hb hl=>⟨H b hb hl,H b hb hl⟩⟩
theorem UpT.then {a b c:AH8} (H:UpT F a b) (K:UpT G b c) (hG:∀ x∈G,x∈F∨a.size<=x):UpT F a c:=by
 refine ⟨⟨Nat.le_trans H.1.1 K.1.1,λk hk hF=>?_⟩,λx hx hl=>⟨(H.2 x hx hl).1,(H.2 x hx hl).2.of K⟩⟩;rw [K.1.2 k (Nat.lt_of_lt_of_le hk H.1.1) (λhg=>by grind),H.1.2 k hk hF]
theorem UpT.mono {a b:AH8} (H:UpT F a b) (hFG:∀ x∈F,x∈G) (hG:∀ x∈G,x < a.size->Abe a x):UpT G a b:=
 ⟨⟨H.1.1,λk hk hF=>H.1.2 k hk λh=>hF<|hFG k h⟩,λx hx hl=>⟨hG x hx hl,(hG x hx hl).of H⟩⟩
theorem Ext.thenT {a b c:AH8} (H:Ext a b) (K:UpT F b c) (hF:∀ x∈F,a.size<=x):Ext a c:=(H.upT.then K λx hx=> .inr<|hF x hx).ext
theorem AXz (U:Upd (· =g) h h') (hg:g∈F) (hF:∀ b∈F,b < h.size->Abe h b) (hg':Abe h' g):UpT F h h':=by
 refine ⟨⟨U.1,λk hk hF=>U.2 k hk λhe=>hF<|he ▸ hg⟩,λb hb hl=>⟨hF b hb hl,?_⟩⟩;by_cases he:b=g
 ·exact he ▸ hg'
 ·obtain ⟨o,h1,h2⟩:=hF b hb hl;exact ⟨o,(U.2 b hl he).trans h1,h2⟩
theorem DS.upT {lo:Nat} {L:List Nat} (H:DS h lo v L) (U:UpT F h h'):DS h' lo v L:=by
 have hne:∀ g,v.ownBlock=some g->g ∉ F:=λg hg hgF=>by
  obtain ⟨cur',off',hx⟩:=H.tg g hg
  obtain ⟨⟨o,hb,hel⟩,_⟩:=U.2 g hgF (Array.getElem?_eq_some_iff.1 hx).1
  rw [hb] at hx
  injection hx with hx
  subst hx
  exact absurd (hel.symm.trans<|Nat.beq_eq.mpr rfl) Bool.false_ne_true
 have he:Upd (· ∈F) h h':=U.1;exact ⟨H.sl.upd he λg hg=>hne g hg,H.cap,H.dig,H.lo,λg hg=>let ⟨cur,off,hx⟩:=H.tg g hg;⟨cur,off,(he.2 g (Array.getElem?_eq_some_iff.1 hx).1<|hne g hg).trans hx⟩⟩
def ZZ (h:AH8) (v:Value) (z:Int):Prop:=ZV h 0 v z
theorem ZV.zz {lo:Nat} {z:Int} (H:ZV h lo v z):ZZ h v z:=H.mono<|Nat.zero_le _
theorem ZZ.upT {F:List Nat} {h h':AH8} {v:Value} {z:Int} (H:ZZ h v z) (U:UpT F h h'):ZZ h' v z:=by
 obtain ⟨n,s,L,h1,h2,h3⟩:=H.out;exact ⟨n,s,L,h1,h2.upT U,h3⟩
structure Cod (α:Type) where
 k:Nat
 ag:Bool
 rep:AH8->α->List Value->Prop
 klen:∀ {h a cs},rep h a cs->cs.length=k
 one:∀ {h a cs},rep h a cs-> ∀ u∈cs,isOne u=true
 upT:∀ {F h h' a cs},rep h a cs->UpT F h h'->rep h' a cs
 pos:0 < k
 le:k<=1000
 sc:ag=false->k=1
def Cod.val {α:Type} (c:Cod α) (cs:List Value):Value:=bif c.ag then .agg cs.toArray else cs.headD undef
def Asx {α:Type} (k:Nat) (ag:Bool) (f:α->List Value) (hk:∀ a,(f a).length=k) (h1:∀ a,∀ u∈f a,isOne u=true) (hp:0 < k) (hl:k<=1000) (hs:ag=false->k=1):Cod α where
 k:=k
 ag:=ag
 rep:=λ_ a cs=>cs=f a
 klen:=λh=>h ▸ hk _
 one:=λh=>h ▸ h1 _
 upT:=λh _=>h
 pos:=hp
 le:=hl
 sc:=hs
def cI (κ:IntKind):Cod Int:=Asx 1 false (λa=>[.int κ a]) (λ_=>rfl) (λa u hu=>by rw [List.mem_singleton.1 hu];rfl) AHz AHz λ_=>rfl
def cB:Cod Bool:=Asx 1 false (λa=>[.bool a]) (λ_=>rfl) (λa u hu=>by rw [List.mem_singleton.1 hu];rfl) AHz AHz λ_=>rfl
theorem A7a {P:Value->Prop} {a b c d e:Value} (ha:P a) (hb:P b) (hc:P c) (hd:P d) (he:P e):∀ u∈[a,b,c,d,e],P u:=by
 grind
abbrev AJ0:=Int × Int × Int × Int × Int
abbrev AMi:=Int × Int × Int × Bool × Int
def AV9:Cod AJ0:=Asx 5 true (λa=>[.int .i64 a.1,.int .i64 a.2.1,.int .i64 a.2.2.1,.int .i64 a.2.2.2.1,.int .i64 a.2.2.2.2]) (λ_=>rfl) (λa=>A7a (P:=λu=>isOne u=true) rfl rfl rfl rfl rfl) AHz AHz (λh=>by cases h)
def AVc:Cod AMi:=Asx 5 true (λa=>[.int .i64 a.1,.int .i64 a.2.1,.int .i64 a.2.2.1,.bool a.2.2.2.1,.int .i64 a.2.2.2.2]) (λ_=>rfl) (λa=>A7a (P:=λu=>isOne u=true) rfl rfl rfl rfl rfl) AHz AHz (λh=>by cases h)
def cZ:Cod Int where
 k:=2
 ag:=true
 rep:=λh z cs=>cs.length=2/\ZZ h (.agg cs.toArray) z
 klen:=λh=>h.1
 one:=λ{h a cs} H=>by
  obtain ⟨hl,n,s,L,h1,h2,h3⟩:=H
  have:cs=[.bool n,s]:=by
   grind
  subst this;exact ARw h2.cap
 upT:=λH U=>⟨H.1,H.2.upT U⟩
 pos:=by decide
 le:=by decide
 sc:=λh=>by cases h
theorem ZZ.cs {h:AH8} {v:Value} {z:Int} (H:ZZ h v z):∃ cs,v= .agg cs.toArray/\cZ.rep h z cs:=by
 have H':=H;obtain ⟨n,s,L,rfl,h2,h3⟩:=H'.out;exact ⟨[.bool n,s],rfl,rfl,H⟩
def Al {α:Type} (c:Cod α) (h:AH8) (L:List α) (Ls:List (List Value)):Prop:=Ls.length=L.length/\ ∀ (i:Nat) (cs:List Value) (a:α),Ls[i]? =some cs->L[i]? =some a->c.rep h a cs
theorem Al.upT {α:Type} {c:Cod α} {F:List Nat} {h h':AH8} {L:List α} {Ls:List (List Value)} (H:Al c h L Ls) (U:UpT F h h'):Al c h' L Ls:=⟨H.1,λi cs a h1 h2=>c.upT (H.2 i cs a h1 h2) U⟩
theorem Aq7 (c:Cod α) (h:AH8):Al c h [] []:=⟨rfl,λi cs a h1=>by simp at h1⟩
theorem Al.get {c:Cod α} {L:List α} {Ls:List (List Value)} (H:Al c h L Ls) {a:α} (ha:L[i]? =some a):∃ cs,Ls[i]? =some cs/\c.rep h a cs:=by
 have hi:=(List.getElem?_eq_some_iff.1 ha).1;exact ⟨Ls[i]'(by rw [H.1];exact hi),List.getElem?_eq_getElem _,H.2 i _ a (List.getElem?_eq_getElem _) ha⟩
theorem Al.push {c:Cod α} {L:List α} {Ls:List (List Value)} (H:Al c h L Ls) {a:α} {cs:List Value} (hr:c.rep h a cs):Al c h (L ++ [a]) (Ls ++ [cs]):=by
 refine ⟨by simp [H.1],λi cs' a' h1 h2=>?_⟩;rcases Nat.lt_or_ge i L.length with hi | hi
 ·rw [List.getElem?_append_left (by rw [H.1];exact hi)] at h1;rw [List.getElem?_append_left hi] at h2;exact H.2 i cs' a' h1 h2
 ·rw [List.getElem?_append_right (by rw [H.1];exact hi),H.1] at h1;grind
theorem Al.set {α:Type} {c:Cod α} {h:AH8} {L:List α} {Ls:List (List Value)} (H:Al c h L Ls) (n:Nat) {a:α} {cs:List Value} (hr:c.rep h a cs):Al c h (L.set n a) (Ls.set n cs):=by
 refine ⟨by simp [H.1],λi cs' a' h1 h2=>?_⟩;by_cases hi:n=i
 ·grind
 ·rw [List.getElem?_set_ne hi] at h1 h2;exact H.2 i cs' a' h1 h2
theorem Axf {c:Cod α} {a:α} {cs:List Value} (hr:c.rep h a cs) (n:Nat):Al c h (List.replicate n a) (List.replicate n cs):=by
 refine ⟨AI9,λi cs' a' h1 h2=>?_⟩;grind
def SlC {α:Type} (c:Cod α) (h:AH8) (v:Value) (L:List α):Prop:= ∃ Ls,SlK h c.k v Ls/\Al c h L Ls
theorem SlC.ext {α:Type} {c:Cod α} {h h':AH8} {v:Value} {L:List α} (H:SlC c h v L) (E:Ext h h'):SlC c h' v L:=by
 obtain ⟨Ls,h1,h2⟩:=H;exact ⟨Ls,h1.ext E,h2.upT E.upT⟩
theorem A07 (c:Cod α) (h:AH8):SlC c h (.slice none 0 0) []:=⟨[],Ast h c.k,Aq7 c h⟩
def ANp {α:Type} (c:Cod α) (h:AH8) (v:Value) (M:List (List α)):Prop:=AWl v/\ ∃ rs:List Value,SlK h 1 v (rs.map λr=>[r])/\rs.length=M.length/\ ∀ (i:Nat) (r:Value) (L:List α),rs[i]? =some r->M[i]? =some L->SlC c h r L
theorem ANp.ext {α:Type} {c:Cod α} {h h':AH8} {v:Value} {M:List (List α)} (H:ANp c h v M) (E:Ext h h'):ANp c h' v M:=by
 obtain ⟨h0,rs,h1,h2,h3⟩:=H;exact ⟨h0,rs,h1.ext E,h2,λi r L hr hL=>(h3 i r L hr hL).ext E⟩
def OwC {α:Type} (c:Cod α) (el:Nat) (h:AH8) (F:List Nat) (v:Value) (L:List α):Prop:=
 (L=[]/\v= .slice none 0 0/\F=[])∨ ∃ g Ls,F=[g]/\ARz h el c.k g v Ls/\Al c h L Ls/\Nat.beq el 160=false
theorem Asy (c:Cod α) (el:Nat) (h:AH8):OwC c el h [] (.slice none 0 0) []:= .inl ⟨rfl,rfl,rfl⟩
theorem OwC.upT {α:Type} {c:Cod α} {el:Nat} {h h':AH8} {F G:List Nat} {v:Value} {L:List α} (H:OwC c el h F v L) (U:UpT G h h') (hd:∀ b∈F,b ∉ G):OwC c el h' F v L:=by
 rcases H with ⟨h1,h2,h3⟩ | ⟨g,Ls,rfl,h2,h3,h4⟩
 ·exact .inl ⟨h1,h2,h3⟩
 ·exact .inr ⟨g,Ls,rfl,h2.upd (S:=(· ∈G)) U.1<|hd g AI9,h3.upT U,h4⟩
theorem OwC.ext {c:Cod α} {L:List α} (H:OwC c el h F v L) (E:Ext h h'):OwC c el h' F v L:=H.upT E.upT λb _=>by simp
theorem OwC.rd {c:Cod α} {L:List α} (H:OwC c el h F v L):SlC c h v L:=by
 rcases H with ⟨rfl,rfl,_⟩ | ⟨g,Ls,rfl,h2,h3,_⟩
 ·exact A07 c h
 ·exact ⟨Ls,h2.sl,h3⟩
theorem OwC.lt {α:Type} {c:Cod α} {el:Nat} {h:AH8} {F:List Nat} {v:Value} {L:List α} (H:OwC c el h F v L):∀ b∈F,b < h.size:=by
 rcases H with ⟨rfl,rfl,rfl⟩ | ⟨g,Ls,rfl,h2,h3,_⟩
 ·grind
 ·intro b hb;rw [List.mem_singleton.1 hb];exact h2.lt
theorem ARz.notD {k:Nat} {L:List (List Value)} (H:ARz h el k g v L) (hel:Nat.beq el 160=false):Abe h g:=by
 obtain ⟨cap,cur,_,hg,_⟩:=H;exact ⟨_,hg,hel⟩
theorem OwC.notD {α:Type} {c:Cod α} {el:Nat} {h:AH8} {F:List Nat} {v:Value} {L:List α} (H:OwC c el h F v L):∀ b∈F,Abe h b:=by
 rcases H with ⟨rfl,rfl,rfl⟩ | ⟨g,Ls,rfl,h2,h3,h4⟩
 ·grind
 ·intro b hb;rw [List.mem_singleton.1 hb];exact h2.notD h4
theorem OwC.nodup {c:Cod α} {L:List α} (H:OwC c el h F v L):F.Nodup:=by
 rcases H with ⟨rfl,rfl,rfl⟩ | ⟨g,Ls,rfl,_⟩ <;> simp
theorem OwC.isOne {α:Type} {c:Cod α} {el:Nat} {h:AH8} {F:List Nat} {v:Value} {L:List α} (H:OwC c el h F v L):isOne v=true:=by
 rcases H with ⟨rfl,rfl,rfl⟩ | ⟨g,Ls,rfl,⟨cap,cur,rfl,_⟩,_⟩ <;> rfl
def ALl {α:Type} (c:Cod α) (er el:Nat) (h:AH8) (F:List Nat) (Gs:List (List Nat)) (rs:List Value) (v:Value) (M:List (List α)):Prop:=
 (M=[]/\v= .slice none 0 0/\F=[]/\Gs=[]/\rs=[])∨ ∃ b,F=b :: Gs.flatten/\F.Nodup/\ARz h er 1 b v (rs.map λr=>[r])/\Nat.beq er 160=false/\rs.length=M.length/\Gs.length=M.length/\
   ∀ (i:Nat) (G:List Nat) (r:Value) (L:List α),Gs[i]? =some G->rs[i]? =some r->M[i]? =some L->OwC c el h G r L
theorem Axg (c:Cod α) (er el:Nat) (h:AH8):ALl c er el h [] [] [] (.slice none 0 0) []:= .inl ⟨rfl,rfl,rfl,rfl,rfl⟩
theorem AM7 {x:Nat} (h:Gs[i]? =some G) (hx:x∈G):x∈Gs.flatten:=List.mem_flatten.2 ⟨G,List.mem_of_getElem? h,hx⟩
theorem ALl.upT {α:Type} {c:Cod α} {er el:Nat} {h h':AH8} {F Q:List Nat} {Gs:List (List Nat)} {rs:List Value} {v:Value} {M:List (List α)} (H:ALl c er el h F Gs rs v M) (U:UpT Q h h') (hd:∀ b∈F,b ∉ Q):ALl c er el h' F Gs rs v M:=by
 rcases H with H | ⟨b,rfl,hn,h2,h3,h4,h5,h6⟩
 ·exact .inl H
 ·exact .inr ⟨b,rfl,hn,h2.upd (S:=(· ∈Q)) U.1<|hd b AI9,h3,h4,h5,λi G r L hG hr hL=>(h6 i G r L hG hr hL).upT U λx hx=>hd x<|List.mem_cons_of_mem _<|AM7 hG hx⟩
theorem ALl.rd {α:Type} {c:Cod α} {er el:Nat} {h:AH8} {F:List Nat} {Gs:List (List Nat)} {rs:List Value} {v:Value} {M:List (List α)} (H:ALl c er el h F Gs rs v M):ANp c h v M:=by
 rcases H with ⟨rfl,rfl,rfl,rfl,rfl⟩ | ⟨b,rfl,hn,h2,h3,h4,h5,h6⟩
 ·exact ⟨Ahk,[],Ast h 1,rfl,λi r L hr=>by simp at hr⟩
 ·refine ⟨let ⟨_,_,hv,_,hl,_⟩:=h2;⟨_,_,_,hv,hl⟩,rs,h2.sl,h4,λi r L hr hL=>?_⟩;have hi:=(List.getElem?_eq_some_iff.1 hL).1;exact (h6 i (Gs[i]'AHx) r L (List.getElem?_eq_getElem _) hr hL).rd
theorem ALl.notD {α:Type} {c:Cod α} {er el:Nat} {h:AH8} {F:List Nat} {Gs:List (List Nat)} {rs:List Value} {v:Value} {M:List (List α)} (H:ALl c er el h F Gs rs v M):∀ b∈F,Abe h b:=by
 rcases H with ⟨rfl,rfl,rfl,rfl,rfl⟩ | ⟨b,rfl,hn,h2,h3,h4,h5,h6⟩
 ·grind
 ·intro x hx;rcases List.mem_cons.1 hx with rfl | hx
  ·exact h2.notD h3
  ·obtain ⟨G,hG,hxG⟩:=List.mem_flatten.1 hx;obtain ⟨i,hi⟩:=List.getElem?_of_mem hG;have hil:=(List.getElem?_eq_some_iff.1 hi).1;exact (h6 i G (rs[i]'AHx) (M[i]'AHx) hi (List.getElem?_eq_getElem _)<|List.getElem?_eq_getElem _).notD x hxG
theorem Abe.lt {b:Nat} (H:Abe h b):b < h.size:=by
 obtain ⟨o,h1,_⟩:=H;grind
theorem ALl.lt {α:Type} {c:Cod α} {er el:Nat} {h:AH8} {F:List Nat} {Gs:List (List Nat)} {rs:List Value} {v:Value} {M:List (List α)} (H:ALl c er el h F Gs rs v M):∀ b∈F,b < h.size:=λb hb=>(H.notD b hb).lt
theorem ALl.nodup {c:Cod α} {M:List (List α)} (H:ALl c er el h F Gs rs v M):F.Nodup:=by
 rcases H with ⟨rfl,rfl,rfl,rfl,rfl⟩ | ⟨b,rfl,hn,_⟩
 ·simp
 ·exact hn
theorem ALl.isOne {α:Type} {c:Cod α} {er el:Nat} {h:AH8} {F:List Nat} {Gs:List (List Nat)} {rs:List Value} {v:Value} {M:List (List α)} (H:ALl c er el h F Gs rs v M):isOne v=true:=by
 rcases H with ⟨rfl,rfl,rfl,rfl,rfl⟩ | ⟨b,rfl,hn,⟨cap,cur,rfl,_⟩,_⟩ <;> rfl
theorem ALl.row {c:Cod α} {M:List (List α)} (H:ALl c er el h F Gs rs v M) {L:List α} (hr:rs[i]? =some r) (hL:M[i]? =some L):∃ G,Gs[i]? =some G/\OwC c el h G r L/\ ∀ x∈G,x∈F:=by
 rcases H with ⟨rfl,rfl,rfl,rfl,rfl⟩ | ⟨b,rfl,hn,h2,h3,h4,h5,h6⟩
 ·simp at hL
 ·have hi:=(List.getElem?_eq_some_iff.1 hL).1;exact ⟨Gs[i]'AHx,List.getElem?_eq_getElem _,h6 i _ r L (List.getElem?_eq_getElem _) hr hL,λx hx=>List.mem_cons_of_mem _<|AM7 (List.getElem?_eq_getElem _) hx⟩
theorem ALl.rowRd {c:Cod α} {M:List (List α)} (H:ALl c er el h F Gs rs v M) {L:List α} (hr:rs[i]? =some r) (hL:M[i]? =some L):SlC c h r L:=let ⟨_,_,h1,_⟩:=H.row hr hL;h1.rd
theorem Asz {b:Nat} (H:ALu t h b l) (ht:Nat.beq t 160=false):Abe h b:=⟨_,H,ht⟩
theorem ALu.upT {b:Nat} (H:ALu t h b l) (U:UpT G h h') (hd:∀ x∈[b],x ∉ G):ALu t h' b l:=H.upd (S:=(· ∈G)) U.1<|hd b AI9
def Sp (h:AH8) (lo:Nat) (Fs:List (List Nat)):Prop:=Fs.flatten.Nodup/\ ∀ b∈Fs.flatten,lo<=b/\b < h.size
theorem A4k (h:AH8) (lo:Nat):Sp h lo []:=⟨AI9,λb hb=>by simp at hb⟩
theorem Sp.keep {lo:Nat} (S:Sp h lo Fs) (hs:h.size<=h'.size):Sp h' lo Fs:=⟨S.1,λb hb=>⟨(S.2 b hb).1,Nat.lt_of_lt_of_le (S.2 b hb).2 hs⟩⟩
theorem Sp.app {lo:Nat} {Ks:List (List Nat)} (S:Sp h lo Fs) (S':Sp h' h.size Ks) (hs:h.size<=h'.size) (hl:lo<=h.size):Sp h' lo (Fs ++ Ks):=by
 refine ⟨?_,λb hb=>?_⟩
 ·rw [List.flatten_append];refine List.nodup_append.2 ⟨S.1,S'.1,λx hx y hy he=>?_⟩;have h1:=(S.2 x hx).2;have h2:=(S'.2 y hy).1;omega
 ·rw [List.flatten_append] at hb;rcases List.mem_append.1 hb with h1 | h1
  ·exact ⟨(S.2 b h1).1,Nat.lt_of_lt_of_le (S.2 b h1).2 hs⟩
  ·exact ⟨Nat.le_trans hl (S'.2 b h1).1,(S'.2 b h1).2⟩
theorem ANs {b:Nat} (h1:h.size<=b) (h2:b < h'.size):Sp h' h.size [[b]]:=⟨AI9,λx hx=>by grind⟩
theorem Sp.lo {h:AH8} {lo:Nat} {Fs:List (List Nat)} (S:Sp h lo Fs) (i:Nat) {F:List Nat} (hi:Fs[i]? =some F):∀ b∈F,lo<=b/\b < h.size:=λb hb=>S.2 b<|AM7 hi hb
theorem Aou:∀ {i j:Nat} {F G:List Nat},Fs.flatten.Nodup->Fs[i]? =some F->Fs[j]? =some G->i≠j-> ∀ b∈F,b ∉ G:=by
 induction Fs with
 | nil=>grind
 | cons K Fs ih=>
   intro i j F G hn hi hj hij b hb hg
   rw [List.flatten_cons] at hn
   obtain ⟨h1,h2,h3⟩:=List.nodup_append.1 hn
   cases i with
   | zero=>
     cases j with
     | zero=>exact hij rfl
     | succ j=>
       simp at hi hj;subst hi
       exact h3 b hb b (AM7 hj hg) rfl
   | succ i=>
     cases j with
     | zero=>
       simp at hi hj;subst hj
       exact h3 b hg b (AM7 hi hb) rfl
     | succ j=>grind
theorem Sp.dj {lo:Nat} (S:Sp h lo Fs) (i j:Nat) (hi:Fs[i]? =some F) (hj:Fs[j]? =some G) (hij:i≠j):∀ b∈F,b ∉ G:=Aou S.1 hi hj hij
theorem AT3:∀ {i x:Nat} {F:List Nat},x∈(Fs.set i F).flatten->x∈F∨ ∃ j G,j≠i/\Fs[j]? =some G/\x∈G:=by
 induction Fs with
 | nil=>grind
 | cons K Fs ih=>
   intro i x F h
   cases i with
   | zero=>
     rw [List.set_cons_zero,List.flatten_cons] at h
     rcases List.mem_append.1 h with h | h
     ·exact .inl h
     ·obtain ⟨G,hG,hx⟩:=List.mem_flatten.1 h
      obtain ⟨j,hj⟩:=List.getElem?_of_mem hG
      exact .inr ⟨j + 1,G,AHx,by simpa using hj,hx⟩
   | succ i=>
     rw [List.set_cons_succ,List.flatten_cons] at h
     rcases List.mem_append.1 h with h | h
     ·exact .inr ⟨0,K,AHx,rfl,h⟩
     ·rcases ih h with h1 | ⟨j,G,h1,h2,h3⟩
      ·exact .inl h1
      ·exact .inr ⟨j + 1,G,AHx,by simpa using h2,h3⟩
theorem AW4:∀ {i:Nat} {F:List Nat},Fs.flatten.Nodup->F.Nodup->(∀ x∈F,∀ j G,j≠i->Fs[j]? =some G->x ∉ G)->(Fs.set i F).flatten.Nodup:=by
 induction Fs with
 | nil=>grind
 | cons K Fs ih=>
   intro i F hn hF hd
   rw [List.flatten_cons] at hn
   obtain ⟨h1,h2,h3⟩:=List.nodup_append.1 hn
   cases i with
   | zero=>
     rw [List.set_cons_zero,List.flatten_cons]
     refine List.nodup_append.2 ⟨hF,h2,λx hx y hy he=>?_⟩
     obtain ⟨G,hG,hy⟩:=List.mem_flatten.1 hy
     obtain ⟨j,hj⟩:=List.getElem?_of_mem hG
     exact hd x hx (j + 1) G AHx (by simpa using hj) (he ▸ hy)
   | succ i=>
     rw [List.set_cons_succ,List.flatten_cons]
     refine List.nodup_append.2 ⟨h1,ih h2 hF λx hx j G hj hG=>hd x hx (j + 1) G AHx (by simpa using hG),λx hx y hy he=>?_⟩
     rcases AT3 hy with h4 | ⟨j,G,hj,hG,hy⟩
     ·exact hd y h4 0 K AHx rfl (he ▸ hx)
     ·exact h3 x hx y (AM7 hG hy) he
theorem Sp.put {lo:Nat} (S:Sp h lo Fs) (i:Nat) {F':List Nat} (hi:Fs[i]? =some F) (hn:F'.Nodup) (hs:h.size<=h'.size) (hl:lo<=h.size) (hF:∀ x∈F',x < h'.size) (hsub:∀ x∈F',x∈F∨h.size<=x):Sp h' lo (Fs.set i F'):=by
 refine ⟨AW4 S.1 hn λx hx j G hj hG hxG=>?_,λb hb=>?_⟩
 ·rcases hsub x hx with h1 | h1
  ·exact S.dj i j hi hG (λhe=>hj he.symm) x h1 hxG
  ·have:=(S.lo j hG x hxG).2;omega
 ·rcases AT3 hb with h1 | ⟨j,G,hj,hG,hb⟩
  ·refine ⟨?_,hF b h1⟩
   rcases hsub b h1 with h2 | h2
   ·exact (S.lo i hi b h2).1
   ·omega
  ·have:=S.lo j hG b hb;omega
theorem Sp.sel {lo:Nat} (S:Sp h lo Fs) (is:List Nat) (hn:is.Nodup):Sp h lo (is.map λi=>(Fs[i]?).getD []):=by
 have key:∀ is:List Nat,is.Nodup->(is.map λi=>(Fs[i]?).getD []).flatten.Nodup/\ ∀ b∈(is.map λi=>(Fs[i]?).getD []).flatten,∃ i F,i∈is/\Fs[i]? =some F/\b∈F:=by
  intro is;induction is with
  | nil=>grind
  | cons i is ih=>
    intro hn;obtain ⟨hni,hn⟩:=List.nodup_cons.1 hn;obtain ⟨h1,h2⟩:=ih hn;cases hi:Fs[i]? with
    | none=>
      grind
    | some F=>
      simp only [List.map_cons,hi,Option.getD_some,List.flatten_cons]
      refine ⟨List.nodup_append.2 ⟨?_,h1,λx hx y hy he=>?_⟩,λb hb=>?_⟩
      ·obtain ⟨s,t,hst⟩:=List.append_of_mem<|List.mem_of_getElem? hi;have:=S.1;grind
      ·obtain ⟨j,G,hj,hG,hy⟩:=h2 y hy;exact S.dj i j hi hG (λh=>hni<|h ▸ hj) x hx<|he ▸ hy
      grind
 obtain ⟨h1,h2⟩:=key is hn;exact ⟨h1,λb hb=>let ⟨i,F,_,hF,hbF⟩:=h2 b hb;S.lo i hF b hbF⟩
def iter {S E:Type} (body:S->Option (S ⊕ E)):Nat->S->Option E
 | 0,_=>none
 | n + 1,s=>match body s with
   | none=>none
   | some (.inl s')=>iter body n s'
   | some (.inr e)=>some e
def A7b {S E:Type} (body:S->Option (S ⊕ E)) (n:Nat) (ex:E):S ⊕ E->Prop
 | .inl s'=>iter body n s'=some ex
 | .inr e=>e=ex
theorem AWm {S E:Type} {body:S->Option (S ⊕ E)} {n:Nat} {s:S} {ex:E} (H:iter body n s=some ex):∃ k r,n=k + 1/\body s=some r/\A7b body k ex r:=by
 cases n with
 | zero=>cases H
 | succ k=>
   rw [iter] at H
   cases hb:body s with
   | none=>grind
   | some r=>
     rw [hb] at H
     refine ⟨k,r,rfl,rfl,?_⟩
     cases r with
     | inl s'=>exact H
     | inr e=>exact Option.some.inj H
theorem AH2 {β:Type} {o:Option α} {f:α->Option β} {r:β} (H:o.bind f=some r):∃ x,o=some x/\f x=some r:=by
 cases o with
 | none=>cases H
 | some x=>grind
theorem ifT {c:Prop} [Decidable c] {a b:Option α} {r:α} (H:(if c then a else b)=some r) (hc:c):a=some r:=by grind
theorem ifF {c:Prop} [Decidable c] {a b:Option α} {r:α} (H:(if c then a else b)=some r) (hc: ¬ c):b=some r:=by grind
theorem AQa {c:Bool} {a b:Option α} {r:α} (H:(if c=true then a else b)=some r) (hc:c=false):b=some r:=by grind
theorem ifN {c:Prop} [Decidable c] {a:Option α} {r:α} (H:(if c then a else none)=some r):c/\a=some r:=by
 grind
theorem AJb {c:Prop} [Decidable c] {a b:Option α} {r:α} (H:(if c then a else b)=some r) (hc:decide c=true):a=some r:=ifT H<|of_decide_eq_true hc
theorem AJc {c:Prop} [Decidable c] {a b:Option α} {r:α} (H:(if c then a else b)=some r) (hc:decide c=false):b=some r:=ifF H<|of_decide_eq_false hc
def gI {α:Type} (L:List α) (i:Int):Option α:=if 0<=i then L[i.toNat]? else none
def sI {α:Type} (L:List α) (i:Int) (x:α):List α:=L.set i.toNat x
theorem AP3 {L:List α} {i:Int} {a:α} (H:gI L i=some a):∃ n:Nat,i=n/\L[n]? =some a:=by
 unfold gI at H;grind
abbrev w64 (x:Int):Int:=IntKind.i64.wrap x
theorem AZz {S E:Type} {body:S->Option (S ⊕ E)} {n:Nat} {s:S} {ex:E} (H:iter body n s=some ex):∃ bd,bd=body/\iter bd n s=some ex:=⟨_,rfl,H⟩
theorem Aj2 {B:List Nat} (h1:∀ b∈F,b ∉ A) (h2:∀ b∈F,b ∉ B):∀ b∈F,b ∉ A ++ B:=λb hb hm=>by
 grind
theorem Aq8:∀ b∈F,b ∉ ([]:List Nat):=λb _ h=>by simp at h
theorem AKm {P:Nat->Prop} {B:List Nat} (h1:∀ b∈A,P b) (h2:∀ b∈B,P b):∀ b∈A ++ B,P b:=λb hb=>by
 grind
theorem all_nil {P:Nat->Prop}:∀ b∈([]:List Nat),P b:=λb h=>by simp at h
theorem UpT.thenE {a b c:AH8} (H:UpT F a b) (E:Ext b c):UpT F a c:=H.then E.upT λx hx=>by simp at hx
theorem UpT.start (H:∀ b∈F,Abe h b):UpT F h h:=UpT.refl' λb hb _=>H b hb
theorem AOp {b:Nat} (H:ALu t h b l) (ht:Nat.beq t 160=false):∀ x∈[b],Abe h x:=λx hx=>by rw [List.mem_singleton.1 hx];exact Asz H ht
theorem Axh {FO:List Nat} {a c:Nat} (h1:∀ x∈F,a<=x) (h3:c<=a):∀ x∈F,x∈FO∨c<=x:=λx hx=> .inr (by grind)
theorem ARx {B:List Nat} {c:Nat} (h:F=A):∀ x∈F,x∈A ++ B∨c<=x:=λx hx=> .inl (by grind)
theorem Aov {B:List Nat} {c:Nat} (h:∀ x∈F,x∈B∨c<=x):∀ x∈F,x∈A ++ B∨c<=x:=λx hx=>by
 grind
theorem AUo {a:Addr} (hc:AM6 h a=some v) (U:UpT F h h') (hd:a.block ∉ F):AM6 h' a=some v:=Alm (S:=(· ∈F)) hc U.1 hd
theorem ALl.rowI {c:Cod α} {M:List (List α)} (H:ALl c er el h F Gs rs v M) {i:Int} {L:List α} (hr:rs[i.toNat]? =some r) (hL:gI M i=some L):SlC c h r L:=by
 obtain ⟨n,rfl,hL⟩:=AP3 hL;exact H.rowRd hr hL
theorem Sp.loAll {lo:Nat} (S:Sp h lo Fs) (i:Nat) (hi:Fs[i]? =some F):∀ b∈F,lo<=b:=λb hb=>(S.lo i hi b hb).1
theorem ALu.stA {b:Nat} {l':List Value} (H:ALu tb h' b l') (U:Upd (· =b) h h') (hN:∀ x∈[b],Abe h x) (ht:Nat.beq tb 160=false):UpT [b] h h':=AXz U AI9 (λx hx _=>hN x hx)<|Asz H ht
theorem Amw (H:AMd h el g v l):ARz h el 1 g v (l.map λx=>[x]):=by
 obtain ⟨cap,cur,h1,h2,h3,h4,h5,h6⟩:=H;have hf:∀ l:List Value,(l.map λx=>[x]).flatten=l:=λl=>by induction l <;> simp_all
 exact ⟨cap,cur,by grind,h2,by grind,h4,AHx,λr hr=>by grind,by grind⟩
section
variable {P:Program} {B:AH8->Prop} {st:Bool} {ops:Array Oper} {rest:List Oper} {e:Env} {h:AH8} {K:Env->AH8->Prop}
variable {d d':Nat} {ty ty':TypeId} {pos pos':String} {af af':Array Edge}
theorem A7c {z w0:Value} (l:List Value) (hT:SlT P t el s) (hz:ZeT P el z bytes) (hb:B h) (hy:e.ev y=w0) (Ad:w0.cells=l.toArray) (hl:l.length=s) (Ah:0 < s) (Ai:s<=1000) (H:B (h.push<|.cells l.toArray el (0,0))/\RL P B st ops rest (e.set d<|.slice (some ⟨h.size,0,none⟩) 1 1) (h.push<|.cells l.toArray el (0,0)) K):
 RL P B st ops (⟨some d,.buildSlice t 1 #[(0,y)],ty,pos,af,none⟩ :: rest) e h K:=by
 refine AWy rfl rfl hb λw hw=>?_;subst hw;obtain ⟨hu,i0,Aa,Ac⟩:=hT;obtain ⟨i,hi,hzz,hsz,hby⟩:=hz;rw [hi] at Aa;injection Aa with Aa;subst Aa;have h3: ¬ (1 * i.size > 2 ^ 24):=by rw [Ac];omega
 have h4: ¬ (1 * i.size=0):=by rw [Ac];omega
 have hfill:Instr.fill (λj=>some (j * i.size,i.size)) ((Array.range<|1 * i.size).map (z.cells[· % z.cells.size]!)) [(0,w0)]=some l.toArray:=by
  generalize z.cells=zc
  simp only [Instr.fill,Ad,List.size_toArray,hl,Ac]
  rw [if_neg AI9]
  congr 1
  obtain ⟨old,ho⟩:∃ old:List Value,((Array.range<|1 * s).map (zc[· % zc.size]!))=old.toArray:=⟨_,(Array.toArray_toList).symm⟩
  have hol:old.length=l.length:=by have:=congrArg Array.size ho;grind
  rw [ho]
  have:=Alr l [] old hol
  grind
 have:(execOp e.ev ⟨some d,.buildSlice t 1 #[(0,y)],ty,pos,af,none⟩).run P w= .ok (.value<|.slice (some ⟨w.heap.size,0,none⟩) 1 1) (w.alloc<|.cells l.toArray el):=by
  simp only [execOp,List.map_toArray,List.map,hy]
  simp only [Instr.buildSlice,Sem.run_bind,AS6 hu,Result.andThen,AXt hi,if_neg h3,if_neg h4,Aoh hi hzz]
  have Ag:Sem.run P (pure z.cells:Sem (Array Value)) w= .ok z.cells w:=rfl
  simp only [Ag]
  rw [hfill]
  simp [newRow]
 rw [this];exact ⟨⟨rfl,rfl,rfl⟩,H⟩
def PU (el:Nat) (v:Value) (h h':AH8):Prop:=Upd (λk=>v.ownBlock=some k) h h'/\ ∀ g,v.ownBlock=some g-> ∃ cur,h'[g]? =some (.cells cur el (0,0))
theorem Axi {h:AH8} {k lo:Nat} {L:List (List Value)} (H:Aw5 h el k lo v L) (E:Ext h h'):PU el v h h':=by
 refine ⟨E.upd,λg hg=>?_⟩;rcases H with ⟨_,rfl⟩ | ⟨g',_,HO⟩
 ·cases hg
 ·rw [HO.blk] at hg;injection hg with hg;subst hg;obtain ⟨cap,cur,_,hgg,_⟩:=HO.ext E;grind
theorem As0 {s:Operand} {lo k:Nat} {z w0:Value} {L:List (List Value)} (u:List Value) (hT:SlT P t el k) (hz:ZeT P el z bytes) (hzk:z.cells.size=k) (Ae:B h) (hbB:∀ h',PU el v h h'->B h') (hs:∀ p,(e.set d p).ev s=v) (hy:e.ev y=w0) (Af:w0.cells=u.toArray) (hu:u.length=k) (hone:∀ x∈u,isOne x=true) (Ag:0 < k) (Ah:k<=1000) (HG:Aw5 h el k lo v L) (hlo:lo<=h.size) (hby:bytes<=1000) (hl:L.length<=100000000) (H:∀ p v' h',Aw5 h' el k lo v' (L ++ [u])->PU el v h h'->(v'.ownBlock=v.ownBlock∨ ∃ g,v'.ownBlock=some g/\h.size<=g)->RL P B st ops rest ((e.set d p).set d' v') h' K):
 RL P B st ops (⟨some d,.buildSlice t 1 #[(0,y)],ty,pos,af,none⟩ :: ⟨some d',.call ⟨.builtin .append,#[s,.tmp d],#[t,t]⟩,ty',pos',af',none⟩ :: rest) e h K:=by
 have hsz:L.length * bytes<=100000000 * 1000:=Nat.mul_le_mul hl hby;have Ai:(L.length + 1) * bytes<=140737488355328:=by grind
 refine A7c u hT hz Ae hy Af hu Ag Ah ⟨hbB _<|Axi HG<|AL5 _ _,?_⟩;have hnew:=Aw6 h el k u hu;have hE:=AL5 h<|.cells u.toArray el (0,0);have Ao:(h.push<|.cells u.toArray el (0,0)).size=h.size + 1:=by simp
 have hone':∀ x∈u,x.oneCell'=true:=λx hx'=>by have:=hone x hx';cases x <;> first | rfl | cases this
 refine AWy rfl rfl (hbB _<|Axi HG<|AL5 _ _) λw hw=>?_;have hws:w.heap.size=h.size + 1:=by grind
 have hEw:Ext h w.heap:=by grind
 obtain ⟨hut,i0,Aa,Ad⟩:=hT;obtain ⟨i,hi,hzz,hszz,hbyy⟩:=hz;rw [hi] at Aa;injection Aa with Aa;subst Aa
 have hnews:∀ j x,u[j]? =some x->w.cell? ((⟨h.size,0,none⟩:Addr).add j)=some x:=λj x hx=>by
  rw [AN0,Nat.zero_add]
  have:=hnew.cell (i:=0) rfl hx
  rw [Nat.zero_mul,Nat.zero_add] at this
  rw [Agd,hw];exact this
 rcases HG with ⟨rfl,rfl⟩ | ⟨g,hg,HO⟩
 ·have hr:=run_append_nil (P:=P) w t ty' el i z hut hi hzz ⟨h.size,0,none⟩ 1 1 u AHx hnews AHx AHx (by rw [hbyy];omega)
  have hrun:(execOp (e.set d<|.slice (some ⟨h.size,0,none⟩) 1 1).ev ⟨some d',.call ⟨.builtin .append,#[s,.tmp d],#[t,t]⟩,ty',pos',af',none⟩).run P w= .ok (.value<|.slice (some ⟨w.heap.size,0,none⟩) 1<|grownCap w 1 0 el)
   (w.drew.alloc<|.cells (u.toArray ++ Builtin.zeroCells z.cells (grownCap w 1 0 el - 1)) el):=by
   have hd:(e.set d<|.slice (some ⟨h.size,0,none⟩) 1 1).ev (.tmp d)= .slice (some ⟨h.size,0,none⟩) 1 1:=Env.set_same _ _ _
   simp [execOp,resolve,invoke,builtin,hs,hd,hr]
  rw [hrun];have hge:=grownCap_ge w 1 0 el;have hcm':grownCap w 1 0 el<=maxLen:=grownCap_le_maxLen w _ _ el (by unfold maxLen;omega);refine ⟨⟨rfl,rfl,rfl⟩,hbB _ ?Aj,H _ _ _ (.inr ⟨w.heap.size,AHx,?_⟩) ?Aj<|.inr ⟨w.heap.size,rfl,AHx⟩⟩;rotate_left
  ·refine ⟨_,_,rfl,heap_alloc_new w.drew _,hge,hcm',?_,by simpa using hu,?_⟩
   ·rw [Array.size_append,size_zeroCells,hzk,List.size_toArray,hu,Nat.sub_mul];have:1 * k<=grownCap w 1 0 el * k:=Nat.mul_le_mul_right k hge;omega
   simp_all
  ·exact ⟨(hEw.trans ⟨AI9,λk hk=>heap_alloc_old w.drew _ k hk⟩).upd,λg hg=>by cases hg⟩
 ·have Ab:=HO.ext hE;rw [<- hw] at Ab
  have hcell:∀ j x,L.flatten[j]? =some x->w.cell? ((⟨g,0,none⟩:Addr).add j)=some x:=λj x hx=>by
   obtain ⟨cap,cur,_,hgg,_,_,_,hkk,ht⟩:=Ab
   rw [AN0,Nat.zero_add,Agd]
   have hj:=(List.getElem?_eq_some_iff.1 hx).1
   rw [AV7 hkk] at hj
   rw [<- ht,List.getElem?_take,if_pos hj] at hx
   simp only [AM6,hgg]
   simpa using hx
  have Aq:=Ab;obtain ⟨cap,cur,rfl,hgg,hlc,hcm,hcs,hkk,ht⟩:=Ab;have hd:(e.set d<|.slice (some ⟨h.size,0,none⟩) 1 1).ev (.tmp d)= .slice (some ⟨h.size,0,none⟩) 1 1:=Env.set_same _ _ _;have hlu:(L ++ [u]).length=L.length + 1:=by simp
  have hkk':∀ r∈L ++ [u],r.length=k:=by
   grind
  by_cases hroom:L.length + 1<=cap
  ·have hmul:(L.length + 1) * k<=cap * k:=Nat.mul_le_mul_right k hroom;rw [Nat.add_mul,Nat.one_mul] at hmul;have hr:=run_append_room (P:=P) w t ty' el i hut hi g L.length cap cur hgg ⟨h.size,0,none⟩ 1 1 u AHx hnews hone' hroom (by grind)
   have hrun:(execOp (e.set d<|.slice (some ⟨h.size,0,none⟩) 1 1).ev ⟨some d',.call ⟨.builtin .append,#[s,.tmp d],#[t,t]⟩,ty',pos',af',none⟩).run P w= .ok (.value<|.slice (some ⟨g,0,none⟩) (L.length + 1) cap) (w.setRow g (cur.toList.take (L.length * i.size) ++ u ++ cur.toList.drop (L.length * i.size + u.length)).toArray):=by
    simp [execOp,resolve,invoke,builtin,hs,hd,hr]
   rw [hrun];refine ⟨⟨rfl,rfl,rfl⟩,hbB _ ?Ak,H _ _ _ (.inr ⟨g,hg,?_⟩) ?Ak<|.inl rfl⟩;rotate_left
   ·refine ⟨cap,_,by rw [hlu],setRow_heap w g cur _ el (0,0) hgg,AHx,hcm,?_,hkk',?_⟩
    ·simp only [Ad,List.size_toArray,List.length_append,List.length_take,List.length_drop,Array.length_toList,hcs,hu];omega
    ·simp only [Ad,ht,hlu];rw [List.flatten_append,List.flatten_cons,List.flatten_nil,List.append_nil];have:(L.length + 1) * k=(L.flatten ++ u).length:=by grind
     grind
   ·exact ⟨hEw.upd.trans ⟨by simp [World.setRow],λq hq hne=>setRow_other w g q _ λhe=>hne (by rw [he];rfl)⟩,λg' hg'=>by injection hg' with hg';subst hg';exact ⟨_,setRow_heap w g cur _ el (0,0) hgg⟩⟩
  ·have hr:=run_append_grow (P:=P) w t ty' el i z hut hi hzz ⟨g,0,none⟩ L.length cap L.flatten (by grind) hcell ⟨h.size,0,none⟩ 1 1 u AHx hnews AHx
    AHx (by rw [hbyy];exact growslice_fits AHx Ai)
   have hrun:(execOp (e.set d<|.slice (some ⟨h.size,0,none⟩) 1 1).ev ⟨some d',.call ⟨.builtin .append,#[s,.tmp d],#[t,t]⟩,ty',pos',af',none⟩).run P w= .ok (.value<|.slice (some ⟨w.heap.size,0,none⟩) (L.length + 1)<|grownCap w (L.length + 1) cap el)
    (w.drew.alloc<|.cells (L.flatten.toArray ++ u.toArray ++ Builtin.zeroCells z.cells (grownCap w (L.length + 1) cap el - (L.length + 1))) el):=by
    simp [execOp,resolve,invoke,builtin,hs,hd,hr]
   rw [hrun];have hge:=grownCap_ge w (L.length + 1) cap el;have hcm':grownCap w (L.length + 1) cap el<=maxLen:=grownCap_le_maxLen w _ _ el (by unfold maxLen;omega);refine ⟨⟨rfl,rfl,rfl⟩,hbB _ ?Am,H _ _ _ (.inr ⟨w.heap.size,AHx,?_⟩) ?Am<|.inr ⟨w.heap.size,rfl,AHx⟩⟩;rotate_left
   ·refine ⟨_,_,by rw [hlu],heap_alloc_new w.drew _,AHx,hcm',?_,hkk',?_⟩
    ·have hmm:(L.length + 1) * k<=grownCap w (L.length + 1) cap el * k:=Nat.mul_le_mul_right k hge;rw [Nat.add_mul] at hmm;rw [Array.size_append,Array.size_append,size_zeroCells,hzk,List.size_toArray,List.size_toArray,hu,AV7 hkk,Nat.sub_mul,Nat.add_mul];omega
    ·simp only [Array.toList_append,hlu];rw [List.flatten_append,List.flatten_cons,List.flatten_nil,List.append_nil];have:(L.length + 1) * k=(L.flatten ++ u).length:=by grind
     grind
   ·exact ⟨(hEw.trans ⟨AI9,λk hk=>heap_alloc_old w.drew _ k hk⟩).upd,λg' hg'=>by injection hg' with hg';subst hg';exact ⟨_,(heap_alloc_old w.drew _ g (Array.getElem?_eq_some_iff.1 hgg).1).trans hgg⟩⟩
theorem Aow {k:Nat}:∀ {L:List (List Value)} {i:Nat} {row:List Value},(∀ r∈L,r.length=k)->row.length=k->i < L.length->(L.set i row).flatten=L.flatten.take (i * k) ++ row ++ L.flatten.drop (i * k + k):=by
 intro L
 induction L with
 | nil=>grind
 | cons s L ih=>
   intro i row hk hr hi
   have hs:=hk s<|List.mem_cons_self ..
   cases i with
   | zero=>grind
   | succ i=>
     have:=ih (λr hr=>hk r<|List.mem_cons_of_mem _ hr) hr (by simpa using hi)
     simp only [List.set_cons_succ,List.flatten_cons,this]
     rw [List.take_append,List.drop_append,hs,show (i + 1) * k - k=i * k by rw [Nat.add_mul];omega,show (i + 1) * k + k - k=i * k + k by rw [Nat.add_mul];omega,List.take_of_length_le (l:=s) (by grind),List.drop_of_length_le (l:=s) AHx]
     simp
theorem ARz.setAll {k n:Nat} {L:List (List Value)} {h:AH8} {row:List Value} (HO:ARz h el k g v L) (hn:n < L.length) (hrow:row.length=k) (hcur:∀ cur,h[g]? =some (.cells cur el (0,0))->h'[g]? =some (.cells (cur.toList.take (n * k) ++ row ++ cur.toList.drop (n * k + row.length)).toArray el (0,0))):ARz h' el k g v (L.set n row):=by
 obtain ⟨cap,cur,hv,hg,hl,hm,hs,hk,ht⟩:=HO;have hle':n * k + k<=L.length * k:=by rw [<- Nat.succ_mul];exact Nat.mul_le_mul_right k hn
 have hle2':L.length * k<=cap * k:=Nat.mul_le_mul_right k hl;have hcl:L.length * k<=cur.toList.length:=by grind
 refine ⟨cap,_,by grind,hcur cur hg,by grind,hm,?_,?_,?_⟩
 ·simp only [List.size_toArray,List.length_append,List.length_take,List.length_drop,Array.length_toList,hrow];omega
 ·grind
 ·rw [List.length_set,Aow hk hrow hn,<- ht];have e1:((cur.toList.take (n * k) ++ row ++ cur.toList.drop (n * k + row.length)).toArray).toList=cur.toList.take (n * k) ++ row ++ cur.toList.drop (n * k + row.length):=rfl;rw [e1,List.take_append,List.take_append,List.take_take,List.take_take,Nat.min_eq_right AHx,Nat.min_eq_left AHx,List.length_append,List.length_take,Nat.min_eq_left AHx,hrow];rw [List.take_of_length_le (l:=row) (by rw [hrow];omega),List.drop_take]
theorem A4l {n:Nat} {L:List (List Value)} (row:List Value) (ht:AgT P t s) (hrow:row.length=s) (hx:e.ev x= .pointer (some ⟨g,n * s,none⟩)) (hy:e.ev y= .agg row.toArray) (h1:∀ u∈row,isOne u=true) (HO:ARz h el s g v L) (hn:n < L.length) (H:∀ h',(∀ v L,ARz h el s g v L->n < L.length->ARz h' el s g v (L.set n row))->Upd (· =g) h h'->RL P B st ops rest e h' K):RL P B st ops (⟨none,.store t x y,ty,pos,af,none⟩ :: rest) e h K:=by
 refine A4a rfl rfl λw hw=>?_;subst hw;obtain ⟨_,i,hi,hsz⟩:=ht;obtain ⟨cap,cur,hv,hg,hl,hm,hs,hk,htk⟩:=HO;have hone':∀ u∈row,u.oneCell'=true:=λu hu'=>by have:=h1 u hu';cases u <;> first | rfl | cases this
 have hle:n * s + s<=L.length * s:=by rw [<- Nat.succ_mul];exact Nat.mul_le_mul_right s hn
 have Ab:L.length * s<=cap * s:=Nat.mul_le_mul_right s hl;have hr:=run_storeCells_at P g (n * s) el row 0 cur w hg AHx hone'
 have hrun:(execOp e.ev ⟨none,.store t x y,ty,pos,af,none⟩).run P w= .ok .skip (w.setRow g (cur.toList.take (n * s + 0) ++ row ++ cur.toList.drop (n * s + 0 + row.length)).toArray):=by
  simp only [execOp,Instr.storeAt,hx,Instr.sureAddr,hy]
  simp only [Nat.add_zero] at hr
  simp [storeVar,AXt hi,Value.cells,hsz,hrow,hr]
 rw [hrun]
 exact ⟨⟨rfl,rfl,rfl⟩,H _ (λv' L' HO' hn'=>HO'.setAll hn' hrow λcur' hc'=>by
  rw [hg] at hc'
  injection hc' with hc'
  injection hc' with hc' _ _
  subst hc'
  exact setRow_heap w g cur _ el (0,0) hg) ⟨by simp [World.setRow],λk hk hne=>setRow_other w g k _ λhe=>hne he⟩⟩
theorem Ald (a b:Value) (n:Nat):madeCells #[a,b] (n * 2)=((List.replicate n [a,b]).flatten).toArray:=by
 apply Array.ext
 ·simp [madeCells]
 ·intro i h1 h2;have hi:i < n * 2:=by simp_all
  simp only [madeCells,Array.getElem_map,Array.getElem_range];have hk:∀ r∈List.replicate n [a,b],r.length=2:=λr hr=>by grind
  have h3:(List.replicate n [a,b])[i / 2]? =some [a,b]:=by grind
  have hg:((List.replicate n [a,b]).flatten)[i]? =some (#[a,b][i % 2]!):=by
   have hm:i % 2=0∨i % 2=1:=by omega
   rcases hm with hm | hm
   ·have:=Ad4 hk h3 (j:=0) (x:=a) rfl
    grind
   ·have:=Ad4 hk h3 (j:=1) (x:=b) rfl
    grind
  grind
theorem A4m {n:Nat} {a b:Value} (hT:SlT P t el 2) (hz:ZeT P el (.agg #[a,b]) bytes) (hb:B h) (hx:e.ev x= .int .i64 (n:Int)) (hy:e.ev y= .int .i64 (n:Int)) (hby:bytes<=1000) (hn:n<=100000000)
 (H:∀ h',ARz h' el 2 h.size (.slice (some ⟨h.size,0,none⟩) n n) (List.replicate n [a,b])->Ext h h'->h.size < h'.size->B h'->RL P B st ops rest (e.set d<|.slice (some ⟨h.size,0,none⟩) n n) h' K) (hbB:B (h.push<|.cells ((List.replicate n [a,b]).flatten).toArray el (0,0))):
 RL P B st ops (⟨some d,.makeSlice t x y,ty,pos,af,none⟩ :: rest) e h K:=by
 have h1:bytes * n<=1000 * 100000000:=Nat.mul_le_mul hby hn;refine AWy rfl rfl hb λw hw=>?_;subst hw;obtain ⟨hu,i0,hi0,hs0⟩:=hT;obtain ⟨i,hi,hzz,hsz,hby'⟩:=hz;rw [hi] at hi0;injection hi0 with hi0;subst hi0;have hr:=run_make (P:=P) w t el i (.agg #[a,b]) hu hi hzz .i64 .i64 (n:Int) (n:Int) AHx AHx (by rw [hby'];omega) AHx
 have:(execOp e.ev ⟨some d,.makeSlice t x y,ty,pos,af,none⟩).run P w= .ok (.value<|.slice (some ⟨w.heap.size,0,none⟩) n n) (w.alloc<|.cells ((List.replicate n [a,b]).flatten).toArray el):=by
  simp only [execOp,hx,hy];have hc:(Value.agg #[a,b]).cells= #[a,b]:=rfl;simp only [Int.toNat_natCast,hs0,hc,Ald] at hr;simp [hr]
 rw [this];have hk:∀ r∈List.replicate n [a,b],r.length=2:=λr hr=>by grind
 refine ⟨⟨rfl,rfl,rfl⟩,hbB,H _ ⟨n,((List.replicate n [a,b]).flatten).toArray,AI9,heap_alloc_new w _,AI9,by unfold maxLen;omega,?_,hk,?_⟩ (AL5 _ _) AI9 hbB⟩
 ·simp_all
 ·rw [show ((List.replicate n [a,b]).flatten).toArray.toList=(List.replicate n [a,b]).flatten from rfl];exact List.take_of_length_le (by simp_all)
theorem Agj {i:Operand} {L:List (List Value)} {n:Nat} (hT:SlT P t el s) (hx:e.ev x=v) (HO:ARz h0 er s g v L) (hi:e.ev i= .int k (n:Int)) (hn:n < L.length) (H:RL P B st ops rest (e.set d<|.pointer<|some ⟨g,n * s,none⟩) h K):RL P B st ops (⟨some d,.indexAddr t x i,ty,pos,af,none⟩ :: rest) e h K:=by
 obtain ⟨cap,cur,rfl,_⟩:=HO;refine Aqx hT hx hi AHx AHx ?_;have he:(⟨g,0,none⟩:Addr).add ((n:Int).toNat * s)=⟨g,n * s,none⟩:=by rw [AN0];simp
 grind
theorem AQi {c:Cod α} {i:Operand} {L:List α} {n:Int} {a:α} (hT:SlT P t el c.k) (hx:e.ev x=v) (HS:SlC c h0 v L) (hi:e.ev i= .int κ n) (ha:gI L n=some a) (H:∀ b o cs,c.rep h0 a cs->(∀ j u,cs[j]? =some u->AM6 h0 ⟨b,o + j,none⟩=some u)->RL P B st ops rest (e.set d<|.pointer<|some ⟨b,o,none⟩) h K):RL P B st ops (⟨some d,.indexAddr t x i,ty,pos,af,none⟩ :: rest) e h K:=by
 obtain ⟨m,rfl,Ab⟩:=AP3 ha;clear ha;have ha:=Ab;obtain ⟨Ls,⟨ad,cap,rfl,hc⟩,HA⟩:=HS;obtain ⟨cs,hcs,hrep⟩:=HA.get ha;obtain ⟨b,o,rfl,hcu⟩:=hc m cs hcs;have hn:=(List.getElem?_eq_some_iff.1 hcs).1;refine Aqx hT hx hi AHx AHx ?_;have he:(⟨b,o,none⟩:Addr).add ((m:Int).toNat * c.k)=⟨b,o + m * c.k,none⟩:=by rw [AN0];simp
 grind
theorem Ad7 {c:Cod α} {i:Operand} {M:List (List α)} {n:Int} {L:List α} (hT:SlT P t el 1) (hx:e.ev x=v) (HS:ANp c h0 v M) (hi:e.ev i= .int κ n) (ha:gI M n=some L) (H:∀ b o r,AM6 h0 ⟨b,o,none⟩=some r->SlC c h0 r L->RL P B st ops rest (e.set d<|.pointer<|some ⟨b,o,none⟩) h K):RL P B st ops (⟨some d,.indexAddr t x i,ty,pos,af,none⟩ :: rest) e h K:=by
 obtain ⟨m,rfl,Ab⟩:=AP3 ha;clear ha;have ha:=Ab;obtain ⟨_,rs,⟨ad,cap,rfl,hc⟩,hl,HA⟩:=HS;have hm:=(List.getElem?_eq_some_iff.1 ha).1;obtain ⟨r,hr⟩:∃ r,rs[m]? =some r:=⟨rs[m]'AHx,List.getElem?_eq_getElem _⟩;obtain ⟨b,o,rfl,hcu⟩:=hc m [r] (by simp [hr]);refine Aqx hT hx hi AHx (by simp;omega) ?_;have he:(⟨b,o,none⟩:Addr).add ((m:Int).toNat * 1)=⟨b,o + m * 1,none⟩:=by rw [AN0];simp
 rw [he];exact H b _ r (hcu 0 r rfl)<|HA m r L hr ha
theorem Agk {c:Cod α} {M:List (List α)} {n:Nat} {L:List α} (HO:ALl c er el h0 F Gs rs v M) (ha:M[n]? =some L):∃ b r,F=b :: Gs.flatten/\ARz h0 er 1 b v (rs.map λr=>[r])/\rs[n]? =some r/\n < rs.length:=by
 rcases HO with ⟨rfl,_⟩ | ⟨b,hF,hn,h2,h3,h4,h5,h6⟩
 ·simp at ha
 ·have hm:=(List.getElem?_eq_some_iff.1 ha).1;simp_all
theorem AJr {c:Cod α} {i:Operand} {M:List (List α)} {n:Int} {L:List α} (hT:SlT P t el0 1) (hx:e.ev x=v) (HO:ALl c er el h0 F Gs rs v M) (hi:e.ev i= .int κ n) (ha:gI M n=some L)
 (H:∀ b r,F=b :: Gs.flatten->rs[n.toNat]? =some r->AM6 h0 ⟨b,n.toNat,none⟩=some r->RL P B st ops rest (e.set d<|.pointer<|some ⟨b,n.toNat,none⟩) h K):RL P B st ops (⟨some d,.indexAddr t x i,ty,pos,af,none⟩ :: rest) e h K:=by
 obtain ⟨m,rfl,hm0⟩:=AP3 ha;clear ha;have ha:=hm0;obtain ⟨b,r,hF,h2,hr,hm⟩:=Agk HO ha;have hcell:=h2.cell (i:=m) (j:=0) (r:=[r]) (x:=r) (by simp [hr]) rfl;refine Agj (er:=er) (n:=m) hT hx h2 hi (by simpa using hm) ?_;grind
theorem Afn {c:Cod α} {i:Operand} {L:List α} {n:Int} {a:α} (hT:SlT P t el0 c.k) (hx:e.ev x=v) (HO:OwC c el h0 F v L) (hi:e.ev i= .int κ n) (ha:gI L n=some a)
 (H:∀ g,F=[g]->RL P B st ops rest (e.set d<|.pointer<|some ⟨g,n.toNat * c.k,none⟩) h K):RL P B st ops (⟨some d,.indexAddr t x i,ty,pos,af,none⟩ :: rest) e h K:=by
 obtain ⟨m,rfl,hm0⟩:=AP3 ha;clear ha;have ha:=hm0
 rcases HO with ⟨rfl,_⟩ | ⟨g,Ls,hF,h2,h3,_⟩
 ·simp at ha
 ·have hm:=(List.getElem?_eq_some_iff.1 ha).1;exact Agj (er:=el) (n:=m) hT hx h2 hi (by rw [h3.1];exact hm)<|H g hF
theorem OwC.cells {c:Cod α} {L:List α} {n:Int} {a:α} (HO:OwC c el h0 F v L) (hF:F=[g]) (ha:gI L n=some a):∃ cs,c.rep h0 a cs/\ ∀ j u,cs[j]? =some u->AM6 h0 ⟨g,n.toNat * c.k + j,none⟩=some u:=by
 obtain ⟨m,rfl,Ab⟩:=AP3 ha;clear ha;have ha:=Ab;rcases HO with ⟨rfl,_⟩ | ⟨g',Ls,hF',h2,h3,_⟩
 ·simp at ha
 ·rw [hF] at hF';injection hF' with hg;subst hg;obtain ⟨cs,hcs,hrep⟩:=h3.get ha;exact ⟨cs,hrep,λj u hu=>h2.cell hcs hu⟩
theorem AJy {c:Cod α} {i:Operand} {M:List (List α)} {m n:Int} {L:List α} {a:α} (hT:SlT P t el0 c.k) (hx:e.ev x=r) (HO:ALl c er el h0 F Gs rs v M) (hr:rs[m.toNat]? =some r) (hL:gI M m=some L) (hi:e.ev i= .int κ n) (ha:gI L n=some a)
 (H:∀ g,Gs[m.toNat]? =some [g]->RL P B st ops rest (e.set d<|.pointer<|some ⟨g,n.toNat * c.k,none⟩) h K):RL P B st ops (⟨some d,.indexAddr t x i,ty,pos,af,none⟩ :: rest) e h K:=by
 obtain ⟨q,rfl,hm0⟩:=AP3 hL;clear hL;have hL:=hm0;obtain ⟨G,hG,HR,_⟩:=HO.row hr hL;exact Afn hT hx HR hi ha λg hg=>H g<|hg ▸ hG
theorem ALl.cells {α:Type} {c:Cod α} {er el g:Nat} {F:List Nat} {Gs:List (List Nat)} {rs:List Value} {v:Value} {M:List (List α)} {m n:Int} {L:List α} {a:α} {h0:AH8} (HO:ALl c er el h0 F Gs rs v M) (hG:Gs[m.toNat]? =some [g]) (hL:gI M m=some L) (ha:gI L n=some a):∃ cs,c.rep h0 a cs/\ ∀ j u,cs[j]? =some u->AM6 h0 ⟨g,n.toNat * c.k + j,none⟩=some u:=by
 obtain ⟨q,rfl,Ab⟩:=AP3 hL;clear hL;have hL:=Ab;obtain ⟨b,r,hF,h2,hr,hm⟩:=Agk HO hL;obtain ⟨G,hG',HR,_⟩:=HO.row hr hL;rw [Int.toNat_natCast,hG'] at hG;injection hG with hG;subst hG;exact HR.cells rfl ha
theorem AW5 {c:Cod α} {b o:Nat} {a:α} {cs:List Value} (ht:AgT P t c.k) (hx:e.ev x= .pointer (some ⟨b,o,none⟩)) (hrep:c.rep h a cs) (hc:∀ j u,cs[j]? =some u->AM6 h ⟨b,o + j,none⟩=some u) (H:RL P B false ops rest (e.set d<|.agg cs.toArray) h K):
 RL P B false ops (⟨some d,.load t x,ty,pos,af,none⟩ :: rest) e h K:=
 ATy cs ht (c.klen hrep) hx (λi u hu=>by rw [AN0];exact hc i u hu) H
theorem AZ0 {c:Cod α} {b o:Nat} {a:α} {cs:List Value} (ht:AgT P t c.k) (hx:e.ev x= .pointer (some ⟨b,o,none⟩)) (hrep:c.rep h0 a cs) (hb:B h) (hB:∀ h',B h'-> ∀ j u,cs[j]? =some u->AM6 h' ⟨b,o + j,none⟩=some u) (H:RL P B true ops rest (e.set d<|.agg cs.toArray) h K):
 RL P B true ops (⟨some d,.load t x,ty,pos,af,none⟩ :: rest) e h K:=
 AQr cs ht (c.klen hrep) hx hb (λh' hb i u hu=>by rw [AN0];grind) H
theorem AJ8 {c:Cod α} {L:List α} (hT:SlT P t el s) (hx:e.ev x=v) (HI:SlC c h0 v L) (H:RL P B st ops rest (e.set d<|.int .i64 (L.length:Int)) h K):
 RL P B st ops (⟨some d,.call ⟨.builtin .len,#[x],#[t]⟩,ty,pos,af,none⟩ :: rest) e h K:=by
 obtain ⟨Ls,⟨a,cap,rfl,_⟩,HA⟩:=HI;rw [HA.1] at hx;exact Aif hT hx H
theorem AJh {c:Cod α} {M:List (List α)} (hT:SlT P t el s) (hx:e.ev x=v) (HI:ANp c h0 v M) (H:RL P B st ops rest (e.set d<|.int .i64 (M.length:Int)) h K):
 RL P B st ops (⟨some d,.call ⟨.builtin .len,#[x],#[t]⟩,ty,pos,af,none⟩ :: rest) e h K:=by
 obtain ⟨_,rs,⟨a,cap,rfl,_⟩,hl,_⟩:=HI;rw [List.length_map,hl] at hx;exact Aif hT hx H
def A08 (P:Program) (B:AH8->Prop) (st:Bool) (ops:Array Oper) (rest:List Oper) (e:Env) (h:AH8) (K:Env->AH8->Prop) (o:Oper) (el k g n:Nat) (row:List Value):Prop:=
 ∀ (v:Value) (L:List (List Value)),ARz h el k g v L->n < L.length->(∀ h',(∀ v' L',ARz h el k g v' L'->n < L'.length->ARz h' el k g v' (L'.set n row))->Upd (· =g) h h'->RL P B st ops rest e h' K)->RL P B st ops (o :: rest) e h K
theorem Aaw {n:Nat} {row:List Value} (ht:AgT P t s) (hrow:row.length=s) (hx:e.ev x= .pointer (some ⟨g,n * s,none⟩)) (hy:e.ev y= .agg row.toArray) (h1:∀ u∈row,isOne u=true):A08 P B st ops rest e h K ⟨none,.store t x y,ty,pos,af,none⟩ el s g n row:=
 λv L HO hn H=>A4l row ht hrow hx hy h1 HO hn H
theorem AMt {n:Nat} {u:Value} (ht:NaT P t) (hx:e.ev x= .pointer (some ⟨g,n * 1,none⟩)) (hy:e.ev y=u) (h1:isOne u=true):A08 P B st ops rest e h K ⟨none,.store t x y,ty,pos,af,none⟩ el 1 g n [u]:=by
 intro v L HO hn H;rw [Nat.mul_one] at hx
 have hl:∀ v' L',ARz h el 1 g v' L'->n < L'.length-> ∃ x0,L'[n]? =some [x0]:=λv' L' HO' hn'=>by
  obtain ⟨_,_,_,_,_,_,_,hk,_⟩:=HO'
  have:=hk (L'[n]'hn')<|List.getElem_mem _
  obtain ⟨x0,Ab⟩:=List.length_eq_one_iff.1 this
  grind
 obtain ⟨x0,Ab⟩:=hl v L HO hn;have hc:=HO.cell Ab (j:=0) (x:=x0) rfl;rw [Nat.mul_one,Nat.add_zero] at hc;refine A0w ht hx hy h1 hc (HO.free _)<|H _ (λv' L' HO' hn'=>?_)<|AX7 _ _ _;obtain ⟨x1,Ad⟩:=hl v' L' HO' hn';have:=HO'.set (j:=0) u Ad AHz;grind
theorem A7d {c:Cod α} {o:Oper} {L:List α} {n:Int} {a a':α} {cs:List Value} (HS:A08 P B st ops rest e h K o el c.k g n.toNat cs) (HO:OwC c el h F v L) (hF:F=[g]) (ha:gI L n=some a) (hrep:c.rep h a' cs) (H:∀ h',OwC c el h' F v (sI L n a')->UpT F h h'->RL P B st ops rest e h' K):RL P B st ops (o :: rest) e h K:=by
 obtain ⟨m,rfl,Ad⟩:=AP3 ha;clear ha;have ha:=Ad;rw [Int.toNat_natCast] at HS;have hnd:=HO.notD;rcases HO with ⟨rfl,_⟩ | ⟨g',Ls,hF',h2,h3,h4⟩
 ·simp at ha
 ·rw [hF] at hF';injection hF' with hg;subst hg;have hm:=(List.getElem?_eq_some_iff.1 ha).1;refine HS v Ls h2 (by rw [h3.1];exact hm) λh' hS hU=>?_;have h2':=hS v Ls h2 (by rw [h3.1];exact hm);have U:UpT F h h':=AXz hU (by simp [hF]) (λb hb _=>hnd b hb)<|h2'.notD h4;exact H h' (.inr ⟨g,_,hF,h2',(h3.set m hrep).upT U,h4⟩) U
theorem Ad8 (hn:Gs.flatten.Nodup) (hi:Gs[i]? =some [g]) (hj:Gs[j]? =some G) (hg:g∈G):i=j:=by
 by_cases hij:i=j
 ·exact hij
 ·exact absurd hg<|Aou hn hi hj hij g AI9
theorem AN2 {c:Cod α} {o:Oper} {M:List (List α)} {m n:Int} {L:List α} {a a':α} {cs:List Value} (HS:A08 P B st ops rest e h K o el c.k g n.toNat cs) (HO:ALl c er el h F Gs rs v M) (hG:Gs[m.toNat]? =some [g]) (hL:gI M m=some L) (ha:gI L n=some a) (hrep:c.rep h a' cs) (H:∀ h',ALl c er el h' F Gs rs v (sI M m<|sI L n a')->UpT F h h'->RL P B st ops rest e h' K):RL P B st ops (o :: rest) e h K:=by
 obtain ⟨i,rfl,Ae⟩:=AP3 hL;clear hL;have hL:=Ae;rw [Int.toNat_natCast] at hG;have hnd:=HO.notD;obtain ⟨b,r,hFb,Am,hr,hi⟩:=Agk HO hL;obtain ⟨G,hG',HR,hGF⟩:=HO.row hr hL;rw [hG] at hG';injection hG' with hG';subst hG';obtain ⟨j,rfl,ha'⟩:=AP3 ha;rcases HO with ⟨rfl,_⟩ | ⟨b',hF',hn,h2,h3,h4,h5,h6⟩
 ·simp at hL
 rcases HR with ⟨_,_,Aa⟩ | ⟨g',Ls,Aa,Ad,Ab,Ac⟩
 ·cases Aa
 injection Aa with Aa;subst Aa;have hj:=(List.getElem?_eq_some_iff.1 ha').1;rw [Int.toNat_natCast] at HS;refine HS r Ls Ad (by rw [Ab.1];exact hj) λh' hS hU=>?_;have hk2':=hS r Ls Ad (by rw [Ab.1];exact hj);have U:UpT F h h':=AXz hU (hGF g AI9) (λb hb _=>hnd b hb)<|hk2'.notD Ac
 have hbg:b'≠g:=λhe=>by
  rw [hF'] at hn
  exact (List.nodup_cons.1 hn).1 (he ▸ AM7 hG AI9)
 refine H h' (.inr ⟨b',hF',hn,h2.upd hU hbg,h3,by simp [sI,h4],by simp [sI,h5],λi' G' r' L' hGi hri hLi=>?_⟩) U;by_cases hii:i'=i
 ·subst hii;rw [hG] at hGi;injection hGi with hGi;subst hGi;rw [hr] at hri;injection hri with hri;subst hri
  have:L'=sI L (j:Int) a':=by
   simp only [sI,Int.toNat_natCast] at hLi ⊢
   grind
  subst this;refine .inr ⟨g,_,rfl,hk2',?_,Ac⟩;simp only [sI,Int.toNat_natCast];exact (Ab.set j hrep).upT U
 ·have hLi':M[i']? =some L':=by
   simp only [sI,Int.toNat_natCast] at hLi
   grind
  have U1:UpT [g] h h':=AXz hU AI9 (λb hb _=>hnd b<|hGF b hb)<|hk2'.notD Ac
  exact (h6 i' G' r' L' hGi hri hLi').upT U1 λx hx hxg=>by
   rw [List.mem_singleton.1 hxg] at hx
   rw [hF'] at hn
   exact hii (Ad8 (List.nodup_cons.1 hn).2 hG hGi hx).symm
theorem Aax {c:Cod α} {F':List Nat} {r':Value} {M:List (List α)} {n:Int} {L L':List α} (ht:NaT P t) (HO:ALl c er el h F Gs rs v M) (hL:gI M n=some L) {b:Nat} (hF:F=b :: Gs.flatten) (hx:e.ev x= .pointer (some ⟨b,n.toNat,none⟩)) (hy:e.ev y=r') (HR:OwC c el h F' r' L') (hd:∀ z∈F',z ∉ F)
 (H:∀ h',ALl c er el h' (b :: (Gs.set n.toNat F').flatten) (Gs.set n.toNat F') (rs.set n.toNat r') v (sI M n L')->UpT F h h'->(∀ z∈b :: (Gs.set n.toNat F').flatten,z∈F ++ F')->RL P B st ops rest e h' K):RL P B st ops (⟨none,.store t x y,ty,pos,af,none⟩ :: rest) e h K:=by
 obtain ⟨i,rfl,hm0⟩:=AP3 hL;clear hL;have hL:=hm0;simp only [Int.toNat_natCast,sI] at hx H ⊢;have hnd:=HO.notD;have hlt:=HR.lt;have hi:=(List.getElem?_eq_some_iff.1 hL).1
 rcases HO with ⟨rfl,_⟩ | ⟨b',hF',hn,h2,h3,h4,h5,h6⟩
 ·simp at hL
 rw [hF] at hF';injection hF' with hF';subst hF'
 have hsub:∀ z∈b :: (Gs.set i F').flatten,z∈F ++ F':=by
  intro z hz
  rcases List.mem_cons.1 hz with rfl | hz
  ·simp [hF]
  ·rcases AT3 hz with h7 | ⟨j,G,_,hG,hz⟩
   ·simp [h7]
   ·rw [hF];simp only [List.cons_append,List.mem_cons,List.mem_append];exact .inr<|.inl<|AM7 hG hz
 rw [hF] at hn;have hnf:=List.nodup_cons.1 hn;refine (AMt (n:=i) (el:=er) (g:=b) ht (by grind) hy HR.isOne) v _ h2 (by grind) λh' hS hU=>?_;have h2':=hS v _ h2 (by grind);have U:UpT F h h':=AXz hU (by simp [hF]) (λb hb _=>hnd b hb)<|h2'.notD h3;have U1:UpT [b] h h':=AXz hU AI9 (λx hx _=>hnd x<|by grind)<|h2'.notD h3
 refine H h' (.inr ⟨b,rfl,?_,by simp_all,h3,by simp [h4],by simp [h5],λi' G' r2 L2 hGi hri hLi=>?_⟩) U hsub
 ·refine List.nodup_cons.2 ⟨λhz=>?_,AW4 hnf.2 HR.nodup λz hz j G _ hG hzG=>?_⟩
  ·rcases AT3 hz with h7 | ⟨j,G,_,hG,hz⟩
   ·grind
   ·exact hnf.1<|AM7 hG hz
  ·exact hd z hz (by rw [hF];exact List.mem_cons_of_mem _<|AM7 hG hzG)
 ·by_cases hii:i'=i
  ·subst hii;rw [List.getElem?_set_self AHx] at hGi hri hLi;injection hGi with hGi;injection hri with hri;injection hLi with hLi;subst hGi;subst hri;subst hLi;exact HR.upT U hd
  ·rw [List.getElem?_set_ne λhe=>hii he.symm] at hGi hri hLi
   exact (h6 i' G' r2 L2 hGi hri hLi).upT U1 λz hz hzb=>by
    rw [List.mem_singleton.1 hzb] at hz;exact hnf.1<|AM7 hGi hz
theorem AYw {c:Cod α} {n:Int} {z:Value} {a:α} (hT:SlT P t el 1) (hz:ZeT P el z bytes) (h1:isOne z=true) (hk:c.k=1) (hrep:∀ h,c.rep h a [z]) (hel:Nat.beq el 160=false) (hb:B h) (hBE:∀ h',Ext h h'->B h') (hx:e.ev x= .int .i64 n) (hy:e.ev y= .int .i64 n) (hby:bytes<=1000) (hn:0<=n/\n<=100000000) (H:∀ b v h',OwC c el h' [b] v (List.replicate n.toNat a)->Ext h h'->h.size<=b->b < h'.size->RL P B st ops rest (e.set d v) h' K):
 RL P B st ops (⟨some d,.makeSlice t x y,ty,pos,af,none⟩ :: rest) e h K:=by
 obtain ⟨m,rfl⟩:∃ m:Nat,n=m:=⟨n.toNat,AHx⟩;have h2:bytes * m<=1000 * 100000000:=Nat.mul_le_mul hby AHx;refine Awi hT hz h1 hb hx hy AHx AHx ⟨hBE _<|AL5 _ _,?_⟩;rw [Int.toNat_natCast] at H;refine H h.size _ _ (.inr ⟨h.size,_,rfl,by rw [hk];exact Amw<|Ady h el m z (by unfold maxLen;omega),?_,hel⟩) (AL5 _ _) (Nat.le_refl _) AI9;rw [List.map_replicate];exact Axf (hrep _) m
theorem Aq9 {n:Int} (hT:SlT P t el 2) (hz:ZeT P el (.agg #[.bool false,.slice none 0 0]) bytes) (hel:Nat.beq el 160=false) (hb:B h) (hBE:∀ h',Ext h h'->B h') (hx:e.ev x= .int .i64 n) (hy:e.ev y= .int .i64 n) (hby:bytes<=1000) (hn:0<=n/\n<=100000000) (H:∀ b v h',OwC cZ el h' [b] v (List.replicate n.toNat 0)->Ext h h'->h.size<=b->b < h'.size->RL P B st ops rest (e.set d v) h' K):
 RL P B st ops (⟨some d,.makeSlice t x y,ty,pos,af,none⟩ :: rest) e h K:=by
 obtain ⟨m,rfl⟩:∃ m:Nat,n=m:=⟨n.toNat,AHx⟩;rw [Int.toNat_natCast] at H;refine A4m hT hz hb hx hy hby AHx (λh' HO E hlt _=>H h.size _ _ (.inr ⟨h.size,_,rfl,HO,Axf (c:=cZ) (show cZ.rep h' 0 _ from ⟨rfl,⟨false,_,[],rfl,AZx _ _,Abc,AI9,rfl⟩⟩) m,hel⟩) E (Nat.le_refl _) hlt)<|hBE _<|AL5 _ _
theorem Aay (c:Cod α) (el:Nat) {n:Int} (hT:SlT P t er 1) (hz:ZeT P er (.slice none 0 0) bytes) (her:Nat.beq er 160=false) (hb:B h) (hBE:∀ h',Ext h h'->B h') (hx:e.ev x= .int .i64 n) (hy:e.ev y= .int .i64 n) (hby:bytes<=1000) (hn:0<=n/\n<=100000000) (H:∀ F Gs rs v h',ALl c er el h' F Gs rs v (List.replicate n.toNat [])->Ext h h'->Sp h' h.size [F]->RL P B st ops rest (e.set d v) h' K):
 RL P B st ops (⟨some d,.makeSlice t x y,ty,pos,af,none⟩ :: rest) e h K:=by
 obtain ⟨m,rfl⟩:∃ m:Nat,n=m:=⟨n.toNat,AHx⟩;rw [Int.toNat_natCast] at H;have h2:bytes * m<=1000 * 100000000:=Nat.mul_le_mul hby AHx;refine Awi hT hz rfl hb hx hy AHx AHx ⟨hBE _<|AL5 _ _,?_⟩;have hf:(List.replicate m ([]:List Nat)).flatten=[]:=by induction m <;> simp_all [List.replicate_succ]
 refine H [h.size] (List.replicate m []) (List.replicate m<|.slice none 0 0) _ _ (.inr ⟨h.size,by rw [hf],AI9,Amw<|Ady h er m _ (by unfold maxLen;omega),her,AI9,AI9,λi G r L hG hr hL=> .inl ⟨?_,?_,?_⟩⟩) (AL5 _ _)<|ANs (Nat.le_refl _) AI9
 ·exact List.eq_of_mem_replicate<|List.mem_of_getElem? hL
 ·exact List.eq_of_mem_replicate<|List.mem_of_getElem? hr
 ·exact List.eq_of_mem_replicate<|List.mem_of_getElem? hG
theorem Auz {c:Cod α} {h:AH8} {a:α} {cs:List Value} (hrep:c.rep h a cs):(c.val cs).cells=cs.toArray:=by
 unfold Cod.val;have h1:=c.one hrep;have h2:=c.klen hrep
 cases hag:c.ag with
 | true=>rfl
 | false=>
   rw [c.sc hag] at h2
   obtain ⟨u,rfl⟩:=List.length_eq_one_iff.1 h2
   have:=h1 u AI9
   simp only [cond_false,List.headD]
   cases u <;> first | rfl | cases this
theorem ASg {c:Cod α} {s:Operand} {z:Value} {L:List α} {a:α} {cs:List Value} (hT:SlT P t el c.k) (hz:ZeT P el z bytes) (hzk:z.cells.size=c.k) (hel:Nat.beq el 160=false) (hb0:B h) (hbB:∀ h',UpT F h h'->B h') (hs:∀ p,(e.set d p).ev s=v) (hy:e.ev y=c.val cs) (hrep:c.rep h a cs) (HO:OwC c el h F v L) (hby:bytes<=1000) (hl:L.length<=100000000)
 (H:∀ p F' v' h',OwC c el h' F' v' (L ++ [a])->UpT F h h'->(∀ x∈F',x∈F∨h.size<=x)->RL P B st ops rest ((e.set d p).set d' v') h' K):
 RL P B st ops (⟨some d,.buildSlice t 1 #[(0,y)],ty,pos,af,none⟩ :: ⟨some d',.call ⟨.builtin .append,#[s,.tmp d],#[t,t]⟩,ty',pos',af',none⟩ :: rest) e h K:=by
 have hG:∃ Ls,Aw5 h el c.k 0 v Ls/\Al c h L Ls/\(∀ x,v.ownBlock=some x->x∈F)/\(∀ x∈F,v.ownBlock=some x):=by
  rcases HO with ⟨rfl,rfl,rfl⟩ | ⟨g,Ls,rfl,h2,h3,h4⟩
  ·exact ⟨[],.inl ⟨rfl,rfl⟩,Aq7 c h,(λx hx=>by cases hx),(λx hx=>by simp at hx)⟩
  ·exact ⟨Ls,.inr ⟨g,Nat.zero_le _,h2⟩,h3,λx hx=>by rw [h2.blk] at hx;injection hx with hx;simp [hx],λx hx=>by rw [List.mem_singleton.1 hx];exact h2.blk⟩
 obtain ⟨Ls,HG,HA,hFb,hbF⟩:=hG;have hnd:=HO.notD
 have key:∀ h',PU el v h h'->UpT F h h':=λh' U=>⟨⟨U.1.1,λk hk hkF=>U.1.2 k hk λhv=>hkF<|hFb k hv⟩,λx hx hl=>⟨hnd x hx,by
  obtain ⟨cur,hc⟩:=U.2 x<|hbF x hx;exact ⟨_,hc,hel⟩⟩⟩
 refine As0 (B:=B) (lo:=0) cs hT hz hzk hb0 (λh' U=>hbB h'<|key h' U) hs hy (Auz hrep) (c.klen hrep) (c.one hrep) c.pos c.le HG (Nat.zero_le _) hby (by rw [HA.1];exact hl) λp v' h' HG' U hv'=>?_;have UT:=key h' U
 rcases HG' with ⟨h1,_⟩ | ⟨g',_,HO'⟩
 ·simp at h1
 ·refine H p [g'] v' h' (.inr ⟨g',_,rfl,HO',(HA.upT UT).push (c.upT hrep UT),hel⟩) UT λx hx=>?_;rw [List.mem_singleton.1 hx]
  rcases hv' with h1 | ⟨g2,h1,h2⟩
  ·exact .inl<|hFb _<|h1 ▸ HO'.blk
  ·rw [HO'.blk] at h1;injection h1 with h1;exact .inr AHx
theorem Ai0 {c:Cod α} {s:Operand} {z:Value} {F0:List Nat} {M:List (List α)} {L:List α} (hT:SlT P t er 1) (hz:ZeT P er z bytes) (hzk:z.cells.size=1) (her:Nat.beq er 160=false) (hb0:B h) (hbB:∀ h',UpT F h h'->B h') (hs:∀ p,(e.set d p).ev s=v) (hy:e.ev y=r) (HR:OwC c el h F0 r L) (HO:ALl c er el h F Gs rs v M) (hdj:∀ x∈F0,x ∉ F) (hby:bytes<=1000) (hl:M.length<=100000000)
 (H:∀ p F' v' h',ALl c er el h' F' (Gs ++ [F0]) (rs ++ [r]) v' (M ++ [L])->UpT F h h'->(∀ x∈F',x∈F ++ F0∨h.size<=x)->RL P B st ops rest ((e.set d p).set d' v') h' K):
 RL P B st ops (⟨some d,.buildSlice t 1 #[(0,y)],ty,pos,af,none⟩ :: ⟨some d',.call ⟨.builtin .append,#[s,.tmp d],#[t,t]⟩,ty',pos',af',none⟩ :: rest) e h K:=by
 have hnd:=HO.notD;have hnd0:=HR.notD;have hlt0:=HR.lt;have hlt:=HO.lt
 have hG:∃ bs:List Nat,Aw5 h er 1 0 v (rs.map λr=>[r])/\F=bs ++ Gs.flatten/\(∀ x,v.ownBlock=some x->bs=[x])/\(∀ x∈bs,v.ownBlock=some x)/\rs.length=M.length/\Gs.length=M.length/\F.Nodup/\ ∀ (i:Nat) (G:List Nat) (r:Value) (L:List α),Gs[i]? =some G->rs[i]? =some r->M[i]? =some L->OwC c el h G r L:=by
  rcases HO with ⟨rfl,rfl,rfl,rfl,rfl⟩ | ⟨b,rfl,hn,h2,h3,h4,h5,h6⟩
  ·exact ⟨[],.inl ⟨rfl,rfl⟩,rfl,(λx hx=>by cases hx),(λx hx=>by simp at hx),rfl,rfl,AI9,(λi G r L hG=>by simp at hG)⟩
  ·exact ⟨[b],.inr ⟨b,Nat.zero_le _,h2⟩,rfl,λx hx=>by rw [h2.blk] at hx;injection hx with hx;rw [hx],λx hx=>by rw [List.mem_singleton.1 hx];exact h2.blk,h4,h5,hn,h6⟩
 obtain ⟨bs,HG,hF,hFb,hbF,h4,h5,hn,h6⟩:=hG
 have key:∀ h',PU er v h h'->UpT bs h h':=λh' U=>⟨⟨U.1.1,λk hk hkF=>U.1.2 k hk λhv=>hkF (by rw [hFb k hv];simp)⟩,λx hx hl=>⟨hnd x (by rw [hF];simp [hx]),by
  obtain ⟨cur,hc⟩:=U.2 x<|hbF x hx;exact ⟨_,hc,her⟩⟩⟩
 have keyF:∀ h',UpT bs h h'->UpT F h h':=λh' U=>U.mono (λx hx=>by rw [hF];simp [hx]) λx hx _=>hnd x hx;have hone:=HR.isOne;have hvc:r.cells=[r].toArray:=by cases r <;> first | rfl | cases hone
 refine As0 (B:=B) (lo:=0) [r] hT hz hzk hb0 (λh' U=>hbB h'<|keyF h'<|key h' U) hs hy hvc rfl (λx hx=>by rw [List.mem_singleton.1 hx];exact hone) AHz AHz HG (Nat.zero_le _) hby (by rw [List.length_map,h4];exact hl) λp v' h' HG' U hv'=>?_;have UT:=key h' U
 rcases HG' with ⟨h1,_⟩ | ⟨b',_,HO'⟩
 ·simp at h1
 have hsub:b'∈F∨h.size<=b':=by
  rcases hv' with h1 | ⟨g2,h1,h2⟩
  ·have:=hFb b'<|h1 ▸ HO'.blk;rw [this] at hF;exact .inl (by rw [hF];simp)
  ·rw [HO'.blk] at h1;injection h1 with h1;exact .inr AHx
 have hbG:b' ∉ Gs.flatten:=λhm=>by
  rcases hv' with h1 | ⟨g2,h1,h2⟩
  ·have:=hFb b'<|h1 ▸ HO'.blk;rw [hF,this] at hn;exact (List.nodup_cons.1 hn).1 hm
  ·rw [HO'.blk] at h1;injection h1 with h1;have:=hlt b' (by rw [hF];simp [hm]);omega
 have hbF0:b' ∉ F0:=λhm=>by
  rcases hsub with h1 | h1
  ·exact hdj b' hm h1
  ·have:=hlt0 b' hm;omega
 have hnG:Gs.flatten.Nodup:=by rw [hF] at hn;exact (List.nodup_append.1 hn).2.1
 refine H p (b' :: (Gs ++ [F0]).flatten) v' h' (.inr ⟨b',rfl,?_,by rw [List.map_append];exact HO',her,by simp [h4],by simp [h5],λi G r2 L2 hGi hri hLi=>?_⟩) (keyF h' UT) λx hx=>?_
 ·refine List.nodup_cons.2 ⟨by simp [hbG,hbF0],?_⟩;simp only [List.flatten_append,List.flatten_cons,List.flatten_nil,List.append_nil];exact List.nodup_append.2 ⟨hnG,HR.nodup,λx hx y hy he=>hdj y hy (by rw [hF];simp [he ▸ hx])⟩
 ·rcases Nat.lt_or_ge i M.length with hi | hi
  ·rw [List.getElem?_append_left AHx] at hGi hri hLi
   exact (h6 i G r2 L2 hGi hri hLi).upT UT λx hx hxb=>by
    have hxo:=hbF x hxb;have hb1:=hFb x hxo;rw [hF,hb1] at hn;exact (List.nodup_cons.1 hn).1 (AM7 hGi hx)
  ·rw [List.getElem?_append_right AHx] at hGi hri hLi;have:i - M.length=0:=by have:=(List.getElem?_eq_some_iff.1 hLi).1;simp at this;omega
   rw [show i - Gs.length=0 by omega] at hGi;rw [show i - rs.length=0 by omega] at hri;rw [this] at hLi;injection hGi with hGi;injection hri with hri;injection hLi with hLi;subst hGi;subst hri;subst hLi;exact HR.upT UT λx hx hxb=>hdj x hx (by rw [hF];simp [hxb])
 ·simp only [List.flatten_append,List.flatten_cons,List.flatten_nil,List.append_nil,List.mem_cons,List.mem_append] at hx
  rcases hx with rfl | hx | hx
  ·rcases hsub with h1 | h1
   ·exact .inl (by simp [h1])
   ·exact .inr h1
  ·exact .inl (by rw [hF];simp [hx])
  ·exact .inl (by simp [hx])
theorem Ahl (l:List Value) (hb:B h) (hBE:∀ h',Ext h h'->B h') (hx:e.ev x=v) (hl:v.cells=l.toArray) (H:∀ b h',ALu t h' b l->Ext h h'->Sp h' h.size [[b]]->RL P B st ops rest (e.set d<|.pointer<|some ⟨b,0,none⟩) h' K):
 RL P B st ops (⟨some d,.box t x,ty,pos,af,none⟩ :: rest) e h K:=by
 refine A3d hb hx ⟨hBE _<|AL5 _ _,?_⟩;exact H h.size _ (by unfold ALu;rw [hl];simp) (AL5 _ _)<|ANs (Nat.le_refl _) AI9
theorem Agl {z:Value} (l:List Value) (hz:ZeT P t z bytes) (hl:z.cells=l.toArray) (hb:B h) (hBE:∀ h',Ext h h'->B h') (H:∀ b h',ALu t h' b l->Ext h h'->Sp h' h.size [[b]]->RL P B st ops rest (e.set d<|.pointer<|some ⟨b,0,none⟩) h' K):
 RL P B st ops (⟨some d,.alloc t,ty,pos,af,none⟩ :: rest) e h K:=by
 refine Asq hz hb ⟨hBE _<|AL5 _ _,?_⟩;exact H h.size _ (by unfold ALu;rw [hl];simp) (AL5 _ _)<|ANs (Nat.le_refl _) AI9
theorem ALp (hb:B h) (hBE:∀ h',Ext h h'->B h') (hxs:xs.map e.ev=l) (HC:AI7 P f l.toArray h λx h'=>Ext h h'/\K' x h')
 (H:∀ v h',Ext h h'->K' v h'->RL P B st ops rest (e.set d v) h' K):RL P B st ops (⟨some d,.call ⟨.value<|.func f,xs.toArray,ts⟩,ty,pos,af,none⟩ :: rest) e h K:=
 AIz hb hxs HC λv h' hk=>⟨hBE _ hk.1,H v h' hk.1 hk.2⟩
theorem AIo (h:AH8):cZ.rep h 0 [.bool false,.slice none 0 0]:=⟨rfl,⟨false,_,[],rfl,AZx _ _,Abc,AI9,rfl⟩⟩
end
end Go.QF
namespace Go.Proofs.YtegoafpaljeobaaGreatDoor
open Go Go.QF
theorem AXv:SlT Tryz.prog 27 52 5:=Aa9 Tryz.underlying27 AIb
theorem AYf:SlT Tryz.prog 34 60 5:=Aa9 Tryz.underlying34 AIb
theorem AJ9:NaT Tryz.prog 26:=AYu Tryz.underlying26 rfl AIb
theorem AZ1:NaT Tryz.prog 27:=AYu Tryz.underlying27 rfl AIb
theorem AS9:AgT Tryz.prog 29 3:=Afu Tryz.underlying29 rfl AIb
theorem ATa:AgT Tryz.prog 52 5:=Afu Tryz.underlying52 rfl AIb
theorem Axj:AgT Tryz.prog 60 5:=Afu Tryz.underlying60 rfl AIb
theorem Aev:Tryz.prog.underlying 4=some .bool:=Tryz.underlying4
theorem Af0:ZeT Tryz.prog 29 (.agg #[.int .i64 0,.slice none 0 0,.slice none 0 0]) 56:=AZv AIb
theorem AYx:ZeT Tryz.prog 52 (.agg #[.int .i64 0,.int .i64 0,.int .i64 0,.int .i64 0,.int .i64 0]) 40:=AZv AIb
theorem Aj3:ZeT Tryz.prog 60 (.agg #[.int .i64 0,.int .i64 0,.int .i64 0,.bool false,.int .i64 0]) 40:=AZv AIb
theorem AWd:FdT Tryz.prog 29 0 0 2:=⟨_,_,Tryz.underlying29,rfl,rfl,rfl⟩
theorem Acq:FdT Tryz.prog 29 1 1 26:=⟨_,_,Tryz.underlying29,rfl,rfl,rfl⟩
theorem AT4:FdT Tryz.prog 29 2 2 27:=⟨_,_,Tryz.underlying29,rfl,rfl,rfl⟩
theorem APq:FdT Tryz.prog 52 0 0 3:=⟨_,_,Tryz.underlying52,rfl,rfl,rfl⟩
theorem Ai1:FdT Tryz.prog 52 1 1 3:=⟨_,_,Tryz.underlying52,rfl,rfl,rfl⟩
theorem AZb:FdT Tryz.prog 52 2 2 2:=⟨_,_,Tryz.underlying52,rfl,rfl,rfl⟩
theorem Amx:FdT Tryz.prog 52 3 3 2:=⟨_,_,Tryz.underlying52,rfl,rfl,rfl⟩
theorem Amy:FdT Tryz.prog 52 4 4 2:=⟨_,_,Tryz.underlying52,rfl,rfl,rfl⟩
theorem A09:FdT Tryz.prog 60 0 0 3:=⟨_,_,Tryz.underlying60,rfl,rfl,rfl⟩
theorem Ai2:FdT Tryz.prog 60 1 1 3:=⟨_,_,Tryz.underlying60,rfl,rfl,rfl⟩
theorem Ai3:FdT Tryz.prog 60 2 2 3:=⟨_,_,Tryz.underlying60,rfl,rfl,rfl⟩
theorem AIy:SlT Tryz.prog 79 160 1:=Aa9 Tryz.underlying79 AIb
theorem AQb:NaT Tryz.prog 79:=AYu Tryz.underlying79 rfl AIb
theorem AKz:NaT Tryz.prog 160:=AYu Tryz.underlying160 rfl AIb
theorem ALw:Acm Tryz.prog 160 .u32:=Tryz.underlying160
theorem AT5:ZeT Tryz.prog 160 (.int .u32 0) 4:=AZv AIb
theorem ALc:Acm Tryz.prog 158 .u64:=Tryz.underlying158
theorem AJz:AgT Tryz.prog 81 2:=Afu Tryz.underlying81 rfl AIb
theorem ANt:ZeT Tryz.prog 81 (.agg #[.bool false,.slice none 0 0]) 32:=AZv AIb
theorem ATz:FdT Tryz.prog 81 0 0 4:=⟨_,_,Tryz.underlying81,rfl,rfl,rfl⟩
theorem AUj:FdT Tryz.prog 81 1 1 79:=⟨_,_,Tryz.underlying81,rfl,rfl,rfl⟩
theorem ALs:SlT Tryz.prog 127 81 2:=Aa9 Tryz.underlying127 AIb
theorem AMq:NaT Tryz.prog 127:=AYu Tryz.underlying127 rfl AIb
theorem AKj:SlT Tryz.prog 54 127 1:=Aa9 Tryz.underlying54 AIb
end Go.Proofs.YtegoafpaljeobaaGreatDoor
