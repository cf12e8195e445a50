/-
  Texts of a proof, joined. Conditions stand in each statement.
-/
import Derived.KernelRfl
import Derived.Calls
import Derived.Orders
import Derived.Tactics
import Derived.OwnWalk
import Derived.Scope
import Derived.Deep.LoopGhost
import Derived.Laws.MakeOwn
import Derived.Test.YthbndcbclhkepaaGreatDoorProg
import Derived.Test.YthbndcbclhkepaaGreatDoorCards
import Derived.Test.YthbndcbclhkepaaGreatDoorTie
import Derived.ProofKit
import Derived.OpenShut
import Derived.ShutString
import Derived.ChangeOld
import Derived.Below
import Derived.Carry
import Derived.Deep.Matrix
import Derived.Deep.DeepHandedRow
import Derived.Lib.LaidTab
import Derived.Deep.Strs
set_option linter.unusedVariables false
set_option linter.unusedSimpArgs false
namespace Go.QF
theorem AGi {p:Prop} (h:p:=by omega):p:=h
theorem AGk {p:Prop} (h:p:=by decide):p:=h
theorem AGx {p:Prop} (h:p:=by kernel_rfl):p:=h
theorem ATv {p:Prop} (h:p:=by simp):p:=h
abbrev AS5:=Nat->Nat->Int
end Go.QF
namespace Go.QF
open Go
abbrev AGt:=Array Obj
abbrev Env:=Nat->Value
def Env.set (e:Env) (d:Nat) (v:Value):Env:=fun t=>bif Nat.beq t d then v else e t
def Env.put (e:Env):Option Nat->Value->Env
  | some d,v=>e.set d v
  | none,_=>e
def Env.ev (e:Env):Operand->Value
  | .tmp t=>e t
  | .const v=>v
  | .global g=> .pointer (some ⟨g,0,none⟩)
  | .func f=> .func (.func f) #[] #[]
def Env.mv (e:Env) (d:Nat) (x:Operand):Env:=fun t=>bif Nat.beq t d then e.ev x else e t
theorem Env.set_same (e:Env) (d:Nat) (v:Value):e.set d v d=v:=by
 have h:Nat.beq d d=true:=Nat.beq_eq.mpr rfl;simp only [Env.set,h,cond_true]
theorem Env.set_other (e:Env) {d t:Nat} (v:Value) (h:t≠d):e.set d v t=e t:=by
 have h:Nat.beq t d=false:=by
   cases hb:Nat.beq t d
   · rfl
   · exact absurd (Nat.eq_of_beq_eq_true hb) h
 simp only [Env.set,h,cond_false]
structure Rep (n:Nat) (e:Env) (a:Act):Prop where
  size:a.tmps.size=n
  defers:a.defers=[]
  get:∀ t,a.tmps.getD t undef=e t
theorem Rep.eval {n:Nat} {e:Env} {a:Act} (r:Rep n e a):a.eval=e.ev:=by
 funext x
 cases x with
 | tmp t=>exact r.get t
 | _=>rfl
theorem Rep.put {n:Nat} {e:Env} {a:Act} (r:Rep n e a) (d:Option Nat) (v:Value) (hd:∀ x,d=some x->x < n):
    Rep n (e.put d v) (a.put d v):=by
 cases d with
 | none=>exact r
 | some d=>
   have hdn:=hd d rfl
   refine ⟨by simp [Act.put,r.size],by simp [Act.put,r.defers],fun t=>?_⟩
   show (a.tmps.setIfInBounds d v).getD t undef=e.set d v t
   by_cases h:t=d
   · subst h
     rw [Env.set_same]
     simp [Array.getD_eq_getD_getElem?,r.size,hdn]
   · rw [Env.set_other e v h,<- r.get t]
     simp only [Array.getD_eq_getD_getElem?]
     rw [Array.getElem?_setIfInBounds_ne (fun he=>h he.symm)]
structure Same (w w':World):Prop where
  os:w'.os=w.os
  tape:w'.tape=w.tape
  output:w'.output=w.output
theorem Same.refl (w:World):Same w w:=⟨rfl,rfl,rfl⟩
theorem Same.trans {a b c:World} (h:Same a b) (k:Same b c):Same a c:=⟨k.os.trans h.os,k.tape.trans h.tape,k.output.trans h.output⟩
inductive Kind where
  | pure | read | eff | wr
def kindOf:Op->Kind
  | .move _ | .assign _ | .pick .. | .binOp .. | .unOp .. | .convert .. | .fieldAddr .. | .field .. | .indexAddr .. | .index .. | .extract .. | .slice .. | .nilCheck _ | .makeInterface .. | .makeFunc .. | .build .. => .pure
  | .call { callee:= .builtin .len,.. } => .pure
  | .call { callee:= .builtin .min,.. } => .pure
  | .call { callee:= .builtin .max,.. } => .pure
  | .load .. => .read
  | .store .. => .wr
  | _=> .eff
def Aoy (P:Program) (ρ:Operand->Value) (o:Oper) (v:Value):Prop:= ∀ w,(execOp ρ o).run P w= .ok (.value v) w
def A3x (P:Program) (B:AGt->Prop) (ρ:Operand->Value) (o:Oper) (v:Value):Prop:= ∀ w:World,B w.heap->(execOp ρ o).run P w= .ok (.value v) w
def A7t (P:Program) (ρ:Operand->Value) (o:Oper) (h:AGt) (v:Value):Prop:= ∀ w,w.heap=h->(execOp ρ o).run P w= .ok (.value v) w
def Aij (P:Program) (w:World) (K:Value->AGt->Prop):Result Next->Prop
  | .ok (.value v) w'=>Same w w'/\K v w'.heap
  | .ok .skip w'=>Same w w'/\K undef w'.heap
  | .ok (.enter f args) w'=>Same w w'/\Calls P f args w' fun en w''=> ∃ v,en= .returned v/\Same w' w''/\K v w''.heap
  | _=>False
def Aiw (P:Program) (ρ:Operand->Value) (o:Oper) (h:AGt) (K:Value->AGt->Prop):Prop:= ∀ w,w.heap=h->Aij P w K ((execOp ρ o).run P w)
theorem Aij.mono {P:Program} {w:World} {K K':Value->AGt->Prop} (hK:∀ v h,K v h->K' v h) {r:Result Next} (h:Aij P w K r):Aij P w K' r:=by
 cases r with
 | ok n w'=>
   cases n <;> simp only [Aij] at h ⊢ <;>
     first
       | exact ⟨h.1,hK _ _ h.2⟩
       | exact ⟨h.1,Calls.mono h.2 fun en w'' ⟨v,he,hs,hk⟩=>⟨v,he,hs,hK _ _ hk⟩⟩
 | halt x w'=>exact h
theorem Aiw.mono {P:Program} {ρ:Operand->Value} {o:Oper} {h:AGt} {K K':Value->AGt->Prop} (hK:∀ v h,K v h->K' v h) (H:Aiw P ρ o h K):Aiw P ρ o h K':=
  fun w hw=>(H w hw).mono hK
def Agb (h:AGt):World:= { heap:=h,tape:=fun _ _=>0,drawn:=0,os:=default,output:= #[] }
theorem Aij.some {P:Program} {w:World} {K:Value->AGt->Prop} {r:Result Next} (h:Aij P w K r):∃ v h',K v h':=by
 cases r with
 | ok n w'=>
   cases n <;> simp only [Aij] at h <;>
     first
       | exact ⟨_,_,h.2⟩
       | (obtain ⟨en,w'',fr,⟨v,_,_,hk⟩,_⟩:=h.2 [];exact ⟨_,_,hk⟩)
 | halt x w'=>exact h.elim
theorem Aiw.some {P:Program} {ρ:Operand->Value} {o:Oper} {h:AGt} {K:Value->AGt->Prop} (H:Aiw P ρ o h K):∃ v h',K v h':=(H (Agb h) rfl).some
def SOp (P:Program) (B:AGt->Prop) (st:Bool) (o:Oper) (e:Env) (h:AGt) (K:Env->AGt->Prop):Prop:=
  match kindOf o.op,st with
  | .pure,_=> ∃ v,Aoy P e.ev o v/\K (e.put o.dst v) h
  | .read,false=> ∃ v,A7t P e.ev o h v/\K (e.put o.dst v) h
  | .read,true=> ∃ v,B h/\A3x P B e.ev o v/\K (e.put o.dst v) h
  | .eff,_=>B h/\Aiw P e.ev o h fun v h'=>B h'/\K (e.put o.dst v) h'
  | .wr,_=>Aiw P e.ev o h fun v h'=>K (e.put o.dst v) h'
theorem SOp.mono {P:Program} {B:AGt->Prop} {st:Bool} {o:Oper} {e:Env} {h:AGt} {K K':Env->AGt->Prop} (hK:∀ v h',K (e.put o.dst v) h'->K' (e.put o.dst v) h') (H:SOp P B st o e h K):SOp P B st o e h K':=by
 unfold SOp at *;split at H
 ·obtain ⟨v,hv,hk⟩:=H;exact ⟨v,hv,hK _ _ hk⟩
 ·obtain ⟨v,hv,hk⟩:=H;exact ⟨v,hv,hK _ _ hk⟩
 ·obtain ⟨v,hb,hv,hk⟩:=H;exact ⟨v,hb,hv,hK _ _ hk⟩
 ·exact ⟨H.1,H.2.mono fun v h' hk=>⟨hk.1,hK _ _ hk.2⟩⟩
 ·exact H.mono fun v h' hk=>hK _ _ hk
def Acf (ops:Array Oper) (e:Env) (j:Nat):Option Bool:=
  match (ops[j]?).bind (·.dst) with
  | some t=>match e t with
    | .bool b=>some b
    | _=>none
  | none=>none
theorem Rep.yields {n:Nat} {e:Env} {a:Act} (r:Rep n e a) (ops:Array Oper):yielded ops a.tmps=Acf ops e:=by
 funext j;unfold yielded Acf
 cases h:(ops[j]?).bind (·.dst) with
 | none=>rfl
 | some t=>
   have hg:=r.get t
   simp only [Option.bind_some]
   rw [<- hg]
   rcases Nat.lt_or_ge t a.tmps.size with hl | hl
   · simp only [Array.getD_eq_getD_getElem?,Array.getElem?_eq_getElem hl,Option.getD_some]
     cases a.tmps[t] <;> rfl
   · simp [Array.getD_eq_getD_getElem?,Array.getElem?_eq_none hl,undef]
def GOp (P:Program) (B:AGt->Prop) (st:Bool) (ops:Array Oper) (o:Oper) (e:Env) (h:AGt) (K:Env->AGt->Prop):Prop:=
  if Region.wanted o (Acf ops e)=true then SOp P B st o e h K else K (e.put o.dst undef) h
theorem GOp.mono {P:Program} {B:AGt->Prop} {st:Bool} {ops:Array Oper} {o:Oper} {e:Env} {h:AGt} {K K':Env->AGt->Prop} (hK:∀ v h',K (e.put o.dst v) h'->K' (e.put o.dst v) h') (H:GOp P B st ops o e h K):GOp P B st ops o e h K':=by
 unfold GOp at *;split
 ·rename_i hw;rw [if_pos hw] at H;exact H.mono hK
 ·rename_i hw;rw [if_neg hw] at H;exact hK _ _ H
def LI (P:Program) (B:AGt->Prop) (st:Bool) (ops:Array Oper):List Nat->Env->AGt->(Env->AGt->Prop)->Prop
  | [],e,h,K=>K e h
  | i :: l,e,h,K=>match ops[i]? with
    | none=>LI P B st ops l e h K
    | some o=>GOp P B st ops o e h fun e' h'=>LI P B st ops l e' h' K
def RL (P:Program) (B:AGt->Prop) (st:Bool) (ops:Array Oper):List Oper->Env->AGt->(Env->AGt->Prop)->Prop
  | [],e,h,K=>K e h
  | o :: l,e,h,K=>GOp P B st ops o e h fun e' h'=>RL P B st ops l e' h' K
theorem BC5 {P:Program} {B:AGt->Prop} {st:Bool} {ops:Array Oper} {K:Env->AGt->Prop} (l:List Oper):∀ (k:Nat),(∀ j,l[j]? =ops[k + j]?)-> ∀ e h,RL P B st ops l e h K->LI P B st ops (List.range' k l.length) e h K:=by
 induction l with
 | nil=>intro k _ e h H;exact H
 | cons o l ih=>
   intro k hk e h H
   have h0:ops[k]? =some o:=by simpa using (hk 0).symm
   have ih':=ih (k + 1) (fun j=>by have:=hk (j + 1);simpa [Nat.add_assoc,Nat.add_comm 1 j] using this)
   simp only [List.length_cons,List.range'_succ,LI,h0]
   exact GOp.mono (fun v h' hr=>ih' _ _ hr) H
theorem Adj {P:Program} {B:AGt->Prop} {st:Bool} {ops:Array Oper} {Q:Exit->Act->World->Prop} {i:Nat} {o:Oper} {n:Nat} {e:Env} {a:Act} {w:World} {K:Env->AGt->Prop} {K':Act->World->Prop}
    (hi:ops[i]? =some o) (hd:∀ x,o.dst=some x->x < n) (r:Rep n e a) (H:GOp P B st ops o e w.heap K)
    (hK:∀ e' a' w',Rep n e' a'->Same w w'->K e' w'.heap->K' a' w'):wpOp P ops Q i K' a w:=by
 unfold wpOp;simp only [hi];unfold GOp at H;rw [r.yields ops];split
 ·rename_i hw;rw [if_pos hw] at H;refine .inl ?_;unfold Oper.wp;rw [r.eval]
  have eff:∀ {K:Value->AGt->Prop},Aiw P e.ev o w.heap K->(∀ v h',K v h'-> ∀ a' w',Rep n (e.put o.dst v) a'->Same w w'->w'.heap=h'->K' a' w')->o.upon P a K' Q ((execOp e.ev o).run P w):=by
    intro K H hK
    have H':=H w rfl
    generalize (execOp e.ev o).run P w=res at H'
    cases res with
    | ok nx w'=>
      cases nx <;> simp only [Aij] at H' <;> simp only [Oper.upon]
      case value v=>exact hK _ _ H'.2 _ _ (r.put _ _ hd) H'.1 rfl
      case skip=>exact hK _ _ H'.2 _ _ (r.put _ _ hd) H'.1 rfl
      case enter f args=>
        refine Calls.mono H'.2 fun en w'' ⟨v,he,hs,hk⟩=>?_
        subst he
        exact hK _ _ hk _ _ (r.put _ _ hd) (H'.1.trans hs) rfl
    | halt x w'=>exact H'.elim
  unfold SOp at H;split at H
  ·obtain ⟨v,hv,hk⟩:=H;rw [hv w];exact hK _ _ _ (r.put _ _ hd) (.refl w) hk
  ·obtain ⟨v,hv,hk⟩:=H;rw [hv w rfl];exact hK _ _ _ (r.put _ _ hd) (.refl w) hk
  ·obtain ⟨v,hb,hv,hk⟩:=H;rw [hv w hb];exact hK _ _ _ (r.put _ _ hd) (.refl w) hk
  ·exact eff H.2 fun v h' hk a' w' r' s' hh=>hK _ _ _ r' s' (by rw [hh];exact hk.2)
  ·exact eff H fun v h' hk a' w' r' s' hh=>hK _ _ _ r' s' (by rw [hh];exact hk)
 ·rename_i hw;rw [if_neg hw] at H;exact hK _ _ _ (r.put _ _ hd) (.refl w) H
def reach (ops:Array Oper):Nat->Nat->Nat->Bool
  | 0,_,_=>false
  | n + 1,i,j=>match ops[j]? with
    | none=>false
    | some o=>o.after.any fun ed=>Region.binds .any ed && (Nat.beq ed.on i || reach ops n i ed.on)
def indep (st:Bool) (ops:Array Oper) (x y:Oper):Bool:=
  x.apart ops y && match kindOf x.op,kindOf y.op with
    | .pure,_=>true
    | _,.pure=>true
    | .read,.read=>true
    | .read,.eff=>st
    | .eff,.read=>st
    | _,_=>false
def Aa3 (o:Oper):Bool:=match o.op with | .select .. =>false | _=>true
def Amg (m i:Nat):Bool:=Nat.beq (Nat.land (Nat.shiftRight m i) 1) 1
def BC6 (acc:List Nat) (o:Oper):Nat:=o.after.toList.foldl (fun m ed=>bif Region.binds .any ed then Nat.lor m (Nat.lor (Nat.shiftLeft 1 ed.on) (acc.getD ed.on 0)) else m) 0
def A3y:List Oper->List Nat->List Nat
  | [],acc=>acc
  | o :: l,acc=>A3y l (acc ++ [BC6 acc o])
def BEf (ops:Array Oper):List Nat:=A3y ops.toList []
def ahead (ops:Array Oper) (i j:Nat):Bool:=Amg ((BEf ops).getD j 0) i
def Ah6 (ops:Array Oper):Bool->Bool
  | false=>false
  | true=>(List.range ops.size).any fun j=>(List.range j).any fun i=>match ops[i]?,ops[j]? with
    | some oi,some oj=>(match kindOf oi.op,kindOf oj.op with | .read,.eff=>true | .eff,.read=>true | _,_=>false) && !ahead ops i j
    | _,_=>false
def Att (n:Nat) (ops:Array Oper) (draw:Bool):Bool:=
  (List.range ops.size).all fun j=>match ops[j]? with
    | none=>false
    | some oj=>(match oj.dst with | some d=>decide (d < n) | none=>true) && Aa3 oj &&
      (!draw || (oj.after.all (fun ed=> !Region.binds .any ed || decide (ed.on < j)) &&
        (List.range j).all fun i=>match ops[i]? with
          | none=>false
          | some oi=>ahead ops i j || (indep false ops oi oj || (indep true ops oi oj && Ah6 ops true))))
theorem A0g (a b i:Nat):Amg (Nat.lor a b) i=(Amg a i || Amg b i):=by
 have h:∀ m,Amg m i=m.testBit i:=fun m=>by
   unfold Amg
   rw [Nat.testBit]
   show Nat.beq (m >>> i &&& 1) 1=(1 &&& (m >>> i) != 0)
   rw [Nat.and_comm]
   rcases Nat.mod_two_eq_zero_or_one (m >>> i) with h | h <;> simp [Nat.one_and_eq_mod_two,h] <;> rfl
 rw [h,h,h];exact Nat.testBit_or a b i
theorem A7u (k i:Nat) (h:Amg (Nat.shiftLeft 1 k) i=true):k=i:=by
 have h2:∀ m,Amg m i=m.testBit i:=fun m=>by
   unfold Amg
   rw [Nat.testBit]
   show Nat.beq (m >>> i &&& 1) 1=(1 &&& (m >>> i) != 0)
   rw [Nat.and_comm]
   rcases Nat.mod_two_eq_zero_or_one (m >>> i) with h | h <;> simp [Nat.one_and_eq_mod_two,h] <;> rfl
 rw [h2] at h;have h3:(1 <<< k).testBit i=true:=h;rw [Nat.one_shiftLeft,Nat.testBit_two_pow] at h3;simpa using h3
theorem Art (i:Nat):Amg 0 i=false:=by
 unfold Amg;show Nat.beq (0 >>> i &&& 1) 1=false;rw [Nat.zero_shiftRight];rfl
theorem A17 {acc:List Nat} {o:Oper} {i:Nat} (h:Amg (BC6 acc o) i=true):∃ ed∈o.after,Region.binds .any ed=true/\(ed.on=i∨Amg (acc.getD ed.on 0) i=true):=by
 have key:∀ (l:List Edge) (m:Nat),Amg (l.foldl (fun m ed=>bif Region.binds .any ed then Nat.lor m (Nat.lor (Nat.shiftLeft 1 ed.on) (acc.getD ed.on 0)) else m) m) i=true->Amg m i=true∨ ∃ ed∈l,Region.binds .any ed=true/\(ed.on=i∨Amg (acc.getD ed.on 0) i=true):=by
   intro l
   induction l with
   | nil=>intro m h;exact .inl h
   | cons ed l ih=>
     intro m h
     rcases ih _ h with h1 | ⟨ed',hm,hh⟩
     · dsimp only at h1
       cases hb:Region.binds .any ed with
       | false=>rw [hb] at h1;exact .inl h1
       | true=>
         rw [hb] at h1
         simp only [cond_true] at h1
         rw [A0g,A0g,Bool.or_eq_true,Bool.or_eq_true] at h1
         rcases h1 with h1 | h1 | h1
         · exact .inl h1
         · exact .inr ⟨ed,List.mem_cons_self ..,hb,.inl (A7u _ _ h1)⟩
         · exact .inr ⟨ed,List.mem_cons_self ..,hb,.inr h1⟩
     · exact .inr ⟨ed',List.mem_cons_of_mem _ hm,hh⟩
 rcases key _ 0 h with h1 | ⟨ed,hm,hh⟩
 ·rw [Art] at h1;cases h1
 ·exact ⟨ed,by simpa using hm,hh⟩
theorem Ayt {ops:Array Oper}:∀ (l:List Oper) (acc:List Nat),(∀ k,l[k]? =ops[acc.length + k]?)->(∀ j i,Amg (acc.getD j 0) i=true-> ∃ n,reach ops n i j=true)-> ∀ j i,Amg ((A3y l acc).getD j 0) i=true-> ∃ n,reach ops n i j=true:=by
 intro l
 induction l with
 | nil=>intro acc _ hacc;exact hacc
 | cons o l ih=>
   intro acc hk hacc
   refine ih _ (fun k=>by have:=hk (k + 1);simp only [List.getElem?_cons_succ] at this;rw [this];simp;congr 1;omega) fun j i hb=>?_
   rcases Nat.lt_trichotomy j acc.length with hj | hj | hj
   · rw [List.getD_eq_getElem?_getD,List.getElem?_append_left hj,<- List.getD_eq_getElem?_getD] at hb
     exact hacc j i hb
   · subst hj
     rw [List.getD_eq_getElem?_getD,List.getElem?_append_right (Nat.le_refl _)] at hb
     simp only [Nat.sub_self,List.getElem?_cons_zero,Option.getD_some] at hb
     obtain ⟨ed,hm,hbd,hh⟩:=A17 hb
     have ho:ops[acc.length]? =some o:=by have:=hk 0;simpa using this.symm
     rcases hh with rfl | hh
     · refine ⟨1,?_⟩
       simp only [reach,ho]
       refine Array.any_eq_true'.2 ⟨ed,hm,?_⟩
       rw [hbd,Nat.beq_refl];rfl
     · obtain ⟨n,hn⟩:=hacc _ _ hh
       refine ⟨n + 1,?_⟩
       simp only [reach,ho]
       refine Array.any_eq_true'.2 ⟨ed,hm,?_⟩
       rw [hbd,hn,Bool.or_true];rfl
   · rw [List.getD_eq_getElem?_getD,List.getElem?_eq_none (by simp;omega)] at hb
     simp only [Option.getD_none] at hb
     rw [Art] at hb;cases hb
theorem Ahs {ops:Array Oper} {i j:Nat} (h:ahead ops i j=true):∃ n,reach ops n i j=true:=
  Ayt ops.toList [] ATv (fun j i hb=>by rw [List.getD_eq_getElem?_getD,List.getElem?_nil,Option.getD_none,Art] at hb;cases hb) j i h
theorem Ayu {ops:Array Oper} {x y:Oper} {b:Bool} (h:indep false ops x y=true):indep b ops x y=true:=by
 unfold indep at h ⊢;rw [Bool.and_eq_true] at h ⊢;refine ⟨h.1,?_⟩;cases hx:kindOf x.op <;> cases hy:kindOf y.op <;> simp_all
section
variable {P:Program} {ops:Array Oper}
theorem Env.put_comm (e:Env) {x y:Option Nat} (v u:Value) (h:∀ d,x=some d->y≠some d):
    (e.put x v).put y u=(e.put y u).put x v:=by
 cases x with
 | none=>rfl
 | some d=>
   cases y with
   | none=>rfl
   | some d'=>
     have hne:d≠d':=fun he=>h d rfl (he ▸ rfl)
     funext t
     show (e.set d v).set d' u t=(e.set d' u).set d v t
     by_cases h1:t=d
     · subst h1;rw [Env.set_other _ _ hne,Env.set_same,Env.set_same]
     · by_cases h2:t=d'
       · subst h2;rw [Env.set_same,Env.set_other _ _ h1,Env.set_same]
       · rw [Env.set_other _ _ h2,Env.set_other _ _ h1,Env.set_other _ _ h1,Env.set_other _ _ h2]
theorem Env.ev_put {e:Env} {d:Option Nat} {v:Value} {x:Operand} (h:∀ k,d=some k->x≠ .tmp k):(e.put d v).ev x=e.ev x:=by
 cases d with
 | none=>rfl
 | some k=>
   cases x with
   | tmp t=>exact Env.set_other e v (fun he=>h k rfl (he ▸ rfl))
   | _=>rfl
theorem Amn (o:Oper) (hs:Aa3 o=true) (e:Env) (d:Option Nat) (v:Value) (h:∀ k,d=some k->k ∉ o.looksAt ops):
    execOp (e.put d v).ev o=execOp e.ev o:=
  execOp_congr o (fun cs b he=>by simp [Aa3,he] at hs) fun x hx=>Env.ev_put fun k hk hxk=>h k hk (by
    subst hxk
    exact List.mem_append_left _ (List.mem_filterMap.2 ⟨.tmp k,by simpa using hx,rfl⟩))
theorem Amo (o:Oper) (e:Env) (d:Option Nat) (v:Value) (h:∀ k,d=some k->k ∉ o.looksAt ops):
    Region.wanted o (Acf ops (e.put d v))=Region.wanted o (Acf ops e):=by
 cases d with
 | none=>rfl
 | some k=>
   unfold Region.wanted
   cases hg:o.guard with
   | none=>rfl
   | some gw=>
     obtain ⟨g,want⟩:=gw
     have hy:Acf ops (e.put (some k) v) g=Acf ops e g:=by
       unfold Acf
       cases ht:(ops[g]?).bind (·.dst) with
       | none=>rfl
       | some t=>
         have hne:t≠k:=fun he=>h k rfl (by subst he;simp [Oper.looksAt,hg,ht])
         show (match e.set k v t with | .bool b=>some b | _=>none)=_
         rw [Env.set_other e v hne]
     simp only [hy]
theorem SOp.swap {B:AGt->Prop} {st:Bool} {x y:Oper} {e:Env} {h:AGt} {K:Env->AGt->Prop}
    (hk:(match kindOf x.op,kindOf y.op with | .pure,_=>true | _,.pure=>true | .read,.read=>true | .read,.eff=>st | .eff,.read=>st | _,_=>false)=true)
    (ey:∀ (e:Env) v,execOp (e.put x.dst v).ev y=execOp e.ev y) (ex:∀ (e:Env) v,execOp (e.put y.dst v).ev x=execOp e.ev x)
    (pc:∀ (e:Env) v u,(e.put x.dst v).put y.dst u=(e.put y.dst u).put x.dst v)
    (H1:SOp P B st x e h fun e' h'=>SOp P B st y e' h' K):SOp P B st y e h fun e' h'=>SOp P B st x e' h' K:=by
  unfold SOp at H1 ⊢
  have un:∀ {u u2:Value} {w:World},(execOp e.ev y).run P w= .ok (.value u) w->(execOp e.ev y).run P w= .ok (.value u2) w->u2=u:=by
    intro u u2 w a1 a2;rw [a1] at a2;injection a2 with a2 _;injection a2 with a2;exact a2.symm
  cases kx:kindOf x.op with
  | pure=>
    simp only [kx] at H1;obtain ⟨v,hv,hh⟩:=H1;have hv':∀ u,Aoy P (e.put y.dst u).ev x v:=fun u w=>by rw [ex];exact hv w
    cases ky:kindOf y.op with
    | pure=>
      simp only [ky] at hh;obtain ⟨u,hu,hh⟩:=hh;exact ⟨u,fun w=>by rw [<- ey e v];exact hu w,v,hv' u,by rw [<- pc];exact hh⟩
    | read=>
      cases st with
      | false=>
        simp only [ky] at hh;obtain ⟨u,hu,hh⟩:=hh;exact ⟨u,fun w hw=>by rw [<- ey e v];exact hu w hw,v,hv' u,by rw [<- pc];exact hh⟩
      | true=>
        simp only [ky] at hh;obtain ⟨u,hb,hu,hh⟩:=hh;exact ⟨u,hb,fun w hw=>by rw [<- ey e v];exact hu w hw,v,hv' u,by rw [<- pc];exact hh⟩
    | eff=>
      simp only [ky] at hh;refine ⟨hh.1,fun w hw=>?_⟩;have:=hh.2 w hw;rw [ey e v] at this;exact this.mono fun u h' hk=>⟨hk.1,v,hv' u,by rw [<- pc];exact hk.2⟩
    | wr=>
      simp only [ky] at hh;intro w hw;have:=hh w hw;rw [ey e v] at this;exact this.mono fun u h' hk=>⟨v,hv' u,by rw [<- pc];exact hk⟩
  | read=>
    cases st with
    | false=>
      simp only [kx] at H1;obtain ⟨v,hv,hh⟩:=H1;cases ky:kindOf y.op with
      | pure=>
        simp only [ky] at hh;obtain ⟨u,hu,hh⟩:=hh;exact ⟨u,fun w=>by rw [<- ey e v];exact hu w,v,fun w hw=>by rw [ex];exact hv w hw,by rw [<- pc];exact hh⟩
      | read=>
        simp only [ky] at hh;obtain ⟨u,hu,hh⟩:=hh;exact ⟨u,fun w hw=>by rw [<- ey e v];exact hu w hw,v,fun w hw=>by rw [ex];exact hv w hw,by rw [<- pc];exact hh⟩
      | eff=>rw [kx,ky] at hk;cases hk
      | wr=>rw [kx,ky] at hk;cases hk
    | true=>
      simp only [kx] at H1;obtain ⟨v,hb,hv,hh⟩:=H1;have hv':∀ u,A3x P B (e.put y.dst u).ev x v:=fun u w hw=>by rw [ex];exact hv w hw
      cases ky:kindOf y.op with
      | pure=>
        simp only [ky] at hh;obtain ⟨u,hu,hh⟩:=hh;exact ⟨u,fun w=>by rw [<- ey e v];exact hu w,v,hb,hv' u,by rw [<- pc];exact hh⟩
      | read=>
        simp only [ky] at hh;obtain ⟨u,hb2,hu,hh⟩:=hh;exact ⟨u,hb2,fun w hw=>by rw [<- ey e v];exact hu w hw,v,hb,hv' u,by rw [<- pc];exact hh⟩
      | eff=>
        simp only [ky] at hh;refine ⟨hh.1,fun w hw=>?_⟩;have:=hh.2 w hw;rw [ey e v] at this;exact this.mono fun u h' hk=>⟨hk.1,v,hk.1,hv' u,by rw [<- pc];exact hk.2⟩
      | wr=>rw [kx,ky] at hk;cases hk
  | eff=>
    simp only [kx] at H1;obtain ⟨hb,H1⟩:=H1;cases ky:kindOf y.op with
    | pure=>
      simp only [ky] at H1;obtain ⟨v0,h0,_,u,hu,_⟩:=H1.some;have hu':Aoy P e.ev y u:=fun w=>by rw [<- ey e v0];exact hu w
      refine ⟨u,hu',hb,fun w hw=>?_⟩;rw [ex];refine (H1 w hw).mono fun v h' ⟨hb',u2,hu2,hk⟩=>⟨hb',?_⟩;have:u2=u:=un (hu' (Agb h)) (by rw [<- ey e v];exact hu2 _);subst this;rw [<- pc];exact hk
    | read=>
      cases st with
      | false=>rw [kx,ky] at hk;cases hk
      | true=>
        simp only [ky] at H1;obtain ⟨v0,h0,_,u,_,hu,_⟩:=H1.some;have hu':A3x P B e.ev y u:=fun w hw=>by rw [<- ey e v0];exact hu w hw
        refine ⟨u,hb,hu',hb,fun w hw=>?_⟩;rw [ex];refine (H1 w hw).mono fun v h' ⟨hb',u2,_,hu2,hk⟩=>⟨hb',?_⟩;have:u2=u:=un (hu' (Agb h) hb) (by rw [<- ey e v];exact hu2 _ hb);subst this;rw [<- pc];exact hk
    | eff=>rw [kx,ky] at hk;cases hk
    | wr=>rw [kx,ky] at hk;cases hk
  | wr=>
    simp only [kx] at H1;cases ky:kindOf y.op with
    | pure=>
      simp only [ky] at H1;obtain ⟨v0,h0,u,hu,_⟩:=H1.some;have hu':Aoy P e.ev y u:=fun w=>by rw [<- ey e v0];exact hu w
      refine ⟨u,hu',fun w hw=>?_⟩;rw [ex];refine (H1 w hw).mono fun v h' ⟨u2,hu2,hk⟩=>?_;have:u2=u:=un (hu' (Agb h)) (by rw [<- ey e v];exact hu2 _);subst this;rw [<- pc];exact hk
    | read=>rw [kx,ky] at hk;cases hk
    | eff=>rw [kx,ky] at hk;cases hk
    | wr=>rw [kx,ky] at hk;cases hk
theorem SOp.congr {B:AGt->Prop} {st:Bool} {x:Oper} {e e2:Env} {h:AGt} {K K2:Env->AGt->Prop} (he:execOp e2.ev x=execOp e.ev x) (hK:∀ v h',K (e.put x.dst v) h'->K2 (e2.put x.dst v) h')
    (H:SOp P B st x e h K):SOp P B st x e2 h K2:=by
 unfold SOp at H ⊢
 cases kx:kindOf x.op with
 | pure=>simp only [kx] at H;obtain ⟨v,hv,hh⟩:=H;exact ⟨v,fun w=>by rw [he];exact hv w,hK _ _ hh⟩
 | read=>
   cases st with
   | false=>simp only [kx] at H;obtain ⟨v,hv,hh⟩:=H;exact ⟨v,fun w hw=>by rw [he];exact hv w hw,hK _ _ hh⟩
   | true=>simp only [kx] at H;obtain ⟨v,hb,hv,hh⟩:=H;exact ⟨v,hb,fun w hw=>by rw [he];exact hv w hw,hK _ _ hh⟩
 | eff=>simp only [kx] at H;exact ⟨H.1,fun w hw=>by rw [he];exact (H.2 w hw).mono fun v h' hk=>⟨hk.1,hK _ _ hk.2⟩⟩
 | wr=>simp only [kx] at H;exact fun w hw=>by rw [he];exact (H w hw).mono fun v h' hk=>hK _ _ hk
theorem GOp.swap {B:AGt->Prop} {st:Bool} {x y:Oper} (hx:Aa3 x=true) (hy:Aa3 y=true) (hi:indep st ops x y=true) {e:Env} {h:AGt} {K:Env->AGt->Prop}
    (H:GOp P B st ops x e h fun e' h'=>GOp P B st ops y e' h' K):GOp P B st ops y e h fun e' h'=>GOp P B st ops x e' h' K:=by
 simp only [indep,Bool.and_eq_true] at hi;obtain ⟨hap,hk⟩:=hi;obtain ⟨h1,h2,h3⟩:=Oper.apart_spec hap;have wy:∀ (e:Env) v,Region.wanted y (Acf ops (e.put x.dst v))=Region.wanted y (Acf ops e):=fun e v=>Amo y e x.dst v h1;have wx:∀ (e:Env) v,Region.wanted x (Acf ops (e.put y.dst v))=Region.wanted x (Acf ops e):=fun e v=>Amo x e y.dst v h3;have ey:∀ (e:Env) v,execOp (e.put x.dst v).ev y=execOp e.ev y:=fun e v=>Amn (ops:=ops) y hy e x.dst v h1;have ex:∀ (e:Env) v,execOp (e.put y.dst v).ev x=execOp e.ev x:=fun e v=>Amn (ops:=ops) x hx e y.dst v h3;have pc:∀ (e:Env) v u,(e.put x.dst v).put y.dst u=(e.put y.dst u).put x.dst v:=fun e v u=>Env.put_comm e v u h2;unfold GOp at H ⊢;by_cases hwx:Region.wanted x (Acf ops e)=true
 ·rw [if_pos hwx] at H;by_cases hwy:Region.wanted y (Acf ops e)=true
  ·rw [if_pos hwy];have H1:SOp P B st x e h fun e' h'=>SOp P B st y e' h' K:=H.mono fun v h' hh=>by rw [wy,if_pos hwy] at hh;exact hh
   refine (SOp.swap hk ey ex pc H1).mono fun u h' hh=>?_;rw [wx,if_pos hwx];exact hh
  ·rw [if_neg hwy];dsimp only;rw [wx,if_pos hwx];refine SOp.congr (ex e undef) (fun v h' hh=>?_) H;rw [wy,if_neg hwy] at hh;rw [<- pc];exact hh
 ·rw [if_neg hwx] at H;by_cases hwy:Region.wanted y (Acf ops e)=true
  ·rw [if_pos hwy];rw [wy,if_pos hwy] at H;refine SOp.congr (ey e undef).symm (fun v h' hh=>?_) H;rw [wx,if_neg hwx,<- pc];exact hh
  ·rw [if_neg hwy];dsimp only;rw [wy,if_neg hwy] at H;rw [wx,if_neg hwx,<- pc];exact H
theorem LI.mono {B:AGt->Prop} {st:Bool} {l:List Nat} {e:Env} {h:AGt} {K K':Env->AGt->Prop} (hK:∀ e h,K e h->K' e h) (H:LI P B st ops l e h K):LI P B st ops l e h K':=by
 induction l generalizing e h with
 | nil=>exact hK _ _ H
 | cons i l ih=>
   simp only [LI] at H ⊢
   split
   · rename_i hn;simp only [hn] at H;exact ih H
   · rename_i o ho;simp only [ho] at H;exact H.mono fun v h' hh=>ih hh
theorem LI.bubble {B:AGt->Prop} {st:Bool} {i:Nat} {oi:Oper} (hi:ops[i]? =some oi) (hsi:Aa3 oi=true) (R1:List Nat):∀ {R2:List Nat} {e:Env} {h:AGt} {K:Env->AGt->Prop},
    (∀ k∈R1,∃ ok,ops[k]? =some ok/\Aa3 ok=true/\indep st ops ok oi=true)->LI P B st ops (R1 ++ i :: R2) e h K->LI P B st ops (i :: (R1 ++ R2)) e h K:=by
  induction R1 with
  | nil=>intro R2 e h K _ H;exact H
  | cons k R1 ih=>
    intro R2 e h K hind H;obtain ⟨ok,hok,hsk,hik⟩:=hind k (List.mem_cons_self ..);simp only [List.cons_append,LI,hok] at H;have H2:GOp P B st ops ok e h fun e' h'=>LI P B st ops (i :: (R1 ++ R2)) e' h' K:=H.mono fun v h' hh=>ih (fun k' hk'=>hind k' (List.mem_cons_of_mem _ hk')) hh;simp only [LI,hi] at H2;have H3:=GOp.swap hsk hsi hik H2;simp only [LI,hi,List.cons_append,hok];exact H3
theorem Alf {n:Nat} {draw:Bool} (H:Att n ops draw=true) {j:Nat} {oj:Oper} (hj:ops[j]? =some oj):
    (∀ d,oj.dst=some d->d < n)/\Aa3 oj=true/\(draw=true->(∀ ed∈oj.after,Region.binds .any ed=true->ed.on < j)/\
      ∀ i oi,i < j->ops[i]? =some oi->(∃ n,reach ops n i j=true)∨indep (Ah6 ops true) ops oi oj=true):=by
 have hlt:j < ops.size:=(Array.getElem?_eq_some_iff.1 hj).1;unfold Att at H;have H:=List.all_eq_true.1 H j (List.mem_range.2 hlt);simp only [hj,Bool.and_eq_true] at H;obtain ⟨⟨h1,h2⟩,h3⟩:=H;refine ⟨fun d hd=>by simpa [hd] using h1,h2,fun hdr=>?_⟩;subst hdr;simp only [Bool.not_true,Bool.false_or,Bool.and_eq_true] at h3;obtain ⟨h4,h5⟩:=h3;refine ⟨fun ed hed hbd=>?_,fun i oi hij hoi=>?_⟩
 ·have:=Array.all_eq_true_iff_forall_mem.1 h4 ed hed;simpa [hbd] using this
 ·have:=List.all_eq_true.1 h5 i (List.mem_range.2 hij);simp only [hoi,Bool.or_eq_true,Bool.and_eq_true] at this;rcases this with h | h | ⟨h,hst⟩
  ·exact .inl (Ahs h)
  ·exact .inr (Ayu h)
  ·rw [hst];exact .inr h
theorem Agc {L:Nat->Prop} (hL:∀ j oj,L j->ops[j]? =some oj-> ∀ ed∈oj.after,Region.binds .any ed=true->L ed.on):∀ (n i j:Nat) (oj:Oper),ops[j]? =some oj->
    (∀ ed∈oj.after,Region.binds .any ed=true->L ed.on)->reach ops n i j=true->L i:=by
  intro n;induction n with
  | zero=>intro i j oj _ _ h;cases h
  | succ n ih=>
    intro i j oj hoj hall h;simp only [reach,hoj] at h;obtain ⟨ed,hed,hb⟩:=Array.any_eq_true'.1 h;simp only [Bool.and_eq_true,Bool.or_eq_true] at hb;have hl:=hall ed hed hb.1
    rcases hb.2 with he | hr
    · rw [<- Nat.eq_of_beq_eq_true he];exact hl
    · cases n with
      | zero=>cases hr
      | succ n=>
        cases ho:ops[ed.on]? with
        | none=>simp [reach,ho] at hr
        | some o2=>exact ih i ed.on o2 ho (fun ed2 h2 hb2=>hL _ _ hl ho ed2 h2 hb2) hr
theorem Awl {B:AGt->Prop} {n:Nat} {Q:Exit->Act->World->Prop} (hok:Att n ops true=true):∀ (fuel:Nat) (R:List Nat) (listed:Array Bool) (e:Env) (a:Act) (w:World) (K:Env->AGt->Prop),
    R.length=fuel->List.Pairwise (· < ·) R->listed.size=ops.size->(∀ j,j∈R↔(j < ops.size/\listed.getD j true=false))->
    (∀ j oj,listed.getD j false=true->ops[j]? =some oj-> ∀ ed∈oj.after,Region.binds .any ed=true->listed.getD ed.on false=true)->
    Rep n e a->LI P B (Ah6 ops true) ops R e w.heap K->(∀ e' a' w',Rep n e' a'->Same w w'->K e' w'.heap->Q .normal a' w')->
    wpAny P .any ops Q fuel listed a w:=by
 intro fuel
 induction fuel with
 | zero=>
   intro R listed e a w K hlen _ _ hmem _ r H hK
   obtain rfl:R=[]:=List.length_eq_zero_iff.1 hlen
   refine ⟨?_,hK _ _ _ r (.refl w) H⟩
   refine List.eq_nil_iff_forall_not_mem.2 fun j hj=>?_
   obtain ⟨hjl,oj,hoj,_⟩:=mem_ready.1 hj
   have:=(hmem j).2 ⟨(Array.getElem?_eq_some_iff.1 hoj).1,hjl⟩
   cases this
 | succ fuel ih=>
   intro R listed e a w K hlen hpw hsz hmem hcl r H hK
   constructor
   · intro hr
     exfalso
     cases R with
     | nil=>simp at hlen
     | cons j R=>
       obtain ⟨hjs,hjl⟩:=(hmem j).1 (List.mem_cons_self ..)
       obtain ⟨oj,hoj⟩:∃ oj,ops[j]? =some oj:=⟨ops[j],Array.getElem?_eq_getElem hjs⟩
       have:j∈Region.ready .any ops listed:=mem_ready.2 ⟨hjl,oj,hoj,fun ed hed hbd=>by
         obtain ⟨_,_,hd⟩:=Alf hok hoj
         have hlt:=(hd rfl).1 ed hed hbd
         cases hl:listed.getD ed.on false with
         | true=>rfl
         | false=>
           exfalso
           have hs:ed.on < ops.size:=Nat.lt_trans hlt hjs
           have hm:ed.on∈j :: R:=(hmem ed.on).2 ⟨hs,by
             have h':ed.on < listed.size:=by omega
             simp [h'] at hl ⊢;exact hl⟩
           rcases List.mem_cons.1 hm with he | he
           · omega
           · have:=(List.pairwise_cons.1 hpw).1 _ he
             omega⟩
       rw [hr] at this
       cases this
   · intro i hi
     obtain ⟨hil,oi,hoi,hall⟩:=mem_ready.1 hi
     have his:i < ops.size:=(Array.getElem?_eq_some_iff.1 hoi).1
     have hiR:i∈R:=(hmem i).2 ⟨his,hil⟩
     obtain ⟨R1,R2,rfl⟩:=List.append_of_mem hiR
     obtain ⟨hdi,hsi,hdri⟩:=Alf hok hoi
     have hpw':=List.pairwise_append.1 hpw
     have hb:LI P B (Ah6 ops true) ops (i :: (R1 ++ R2)) e w.heap K:=by
       refine LI.bubble hoi hsi R1 (fun k hk=>?_) H
       have hki:k < i:=hpw'.2.2 k hk i (List.mem_cons_self ..)
       have hks:k < ops.size:=Nat.lt_trans hki his
       obtain ⟨ok,hok'⟩:∃ ok,ops[k]? =some ok:=⟨ops[k],Array.getElem?_eq_getElem hks⟩
       refine ⟨ok,hok',(Alf hok hok').2.1,?_⟩
       rcases (hdri rfl).2 k ok hki hok' with ⟨nre,hre⟩ | h
       · exfalso
         have h1:listed.getD k false=true:=Agc (L:=fun j=>listed.getD j false=true) hcl nre k i oi hoi hall hre
         have h2:=((hmem k).1 (List.mem_append_left _ hk)).2
         have hks':k < listed.size:=by omega
         simp [hks'] at h1 h2
         rw [h1] at h2;cases h2
       · exact h
     simp only [LI,hoi] at hb
     refine Adj hoi hdi r hb fun e' a' w' r' hs hk=>?_
     have his':i < listed.size:=by omega
     refine ih (R1 ++ R2) _ e' a' w' K ?_ ?_ ?_ ?_ ?_ r' hk (fun e2 a2 w2 r2 s2 k2=>hK _ _ _ r2 (hs.trans s2) k2)
     · simp at hlen ⊢;omega
     · refine List.pairwise_append.2 ⟨hpw'.1,(List.pairwise_cons.1 hpw'.2.1).2,fun x hx y hy=>hpw'.2.2 x hx y (List.mem_cons_of_mem _ hy)⟩
     · simp [hsz]
     · intro j
       have hm:=hmem j
       constructor
       · intro hj
         have hj':j∈R1 ++ i :: R2:=by
           rcases List.mem_append.1 hj with h | h
           · exact List.mem_append_left _ h
           · exact List.mem_append_right _ (List.mem_cons_of_mem _ h)
         obtain ⟨h1,h2⟩:=hm.1 hj'
         have hne:i≠j:=by
           intro he
           subst he
           rcases List.mem_append.1 hj with h | h
           · have:=hpw'.2.2 i h i (List.mem_cons_self ..);omega
           · have:=(List.pairwise_cons.1 hpw'.2.1).1 i h;omega
         exact ⟨h1,by rw [getD_set_ne true hne];exact h2⟩
       · rintro ⟨h1,h2⟩
         have hne:i≠j:=by
           intro he
           subst he
           simp [his'] at h2
         rw [getD_set_ne true hne] at h2
         have:=hm.2 ⟨h1,h2⟩
         rcases List.mem_append.1 this with h | h
         · exact List.mem_append_left _ h
         · rcases List.mem_cons.1 h with h | h
           · exact absurd h.symm hne
           · exact List.mem_append_right _ h
     · intro j oj hj hoj ed hed hbd
       by_cases hij:i=j
       · subst hij
         rw [hoi] at hoj
         injection hoj with hoj
         subst hoj
         exact getD_set_true (hall ed hed hbd)
       · rw [getD_set_ne false hij] at hj
         exact getD_set_true (hcl j oj hj hoj ed hed hbd)
theorem Aq1 {B:AGt->Prop} {n:Nat} (hmx:P.follows .mixedOrders=true) {id:Nat} {draw:Bool} {Q:Exit->Act->World->Prop} {e:Env} {a:Act} {w:World} {K:Env->AGt->Prop} (hok:Att n ops draw=true) (r:Rep n e a)
    (H:RL P B (Ah6 ops draw) ops ops.toList e w.heap K) (hK:∀ e' a' w',Rep n e' a'->Same w w'->K e' w'.heap->Q .normal a' w'):(Code.region id ops draw).wp P Q a w:=by
 have HL:LI P B (Ah6 ops draw) ops (List.range ops.size) e w.heap K:=by
   rw [List.range_eq_range',<- Array.length_toList]
   exact BC5 ops.toList 0 ATv e _ H
 cases draw with
 | true=>
   refine wp_region_draw fun t=>?_
   simp only [Region.schedule,hmx,Bool.true_or,if_true]
   exact wpAny_sound ops.size t _ a _ (Awl hok ops.size (List.range ops.size) (Array.replicate ops.size false) e a { w with drawn:=w.drawn + 1 } K ATv
       List.pairwise_lt_range ATv (fun j=>by
         simp only [List.mem_range]
         constructor
         · intro h;exact ⟨h,by simp [h]⟩
         · exact fun h=>h.1)
       (fun j oj hj _=>by
         exfalso
         rcases Nat.lt_or_ge j ops.size with h' | h'
         · simp [h'] at hj
         · simp [h'] at hj) r HL
       (fun e' a' w' r' hs hk=>hK e' a' w' r' ⟨hs.os,hs.tape,hs.output⟩ hk))
 | false=>
   refine wp_region ?_
   have:∀ (l:List Nat) (e:Env) (a:Act) (w:World) (K:Env->AGt->Prop),Rep n e a->LI P B (Ah6 ops false) ops l e w.heap K->(∀ e' a' w',Rep n e' a'->Same w w'->K e' w'.heap->Q .normal a' w')->wpOps P ops Q l a w:=by
     intro l
     induction l with
     | nil=>intro e a w K r H hK;exact hK _ _ _ r (.refl w) H
     | cons i l ih=>
       intro e a w K r H hK
       rw [wpOps_cons]
       simp only [LI] at H
       cases hoi:ops[i]? with
       | none=>
         simp only [hoi] at H
         unfold wpOp
         simp only [hoi]
         exact ih e a w K r H hK
       | some oi=>
         simp only [hoi] at H
         refine Adj hoi (Alf hok hoi).1 r H fun e' a' w' r' hs hk=>?_
         exact ih e' a' w' K r' hk fun e2 a2 w2 r2 s2 k2=>hK _ _ _ r2 (hs.trans s2) k2
   exact this _ e a w K r HL hK
def Apy (n:Nat) (ops:Array Oper):Bool:=
  (List.range ops.size).all fun j=>match ops[j]? with
    | none=>false
    | some oj=>(match oj.dst with | some d=>decide (d < n) | none=>true) && Aa3 oj
def Atu (ops:Array Oper) (draw:Bool):Bool:=
  !draw || (List.range ops.size).all fun j=>match ops[j]? with
    | none=>false
    | some oj=>(oj.after.all (fun ed=> !Region.binds .any ed || decide (ed.on < j)) &&
        (List.range j).all fun i=>match ops[i]? with
          | none=>false
          | some oi=>ahead ops i j || (indep false ops oi oj || (indep true ops oi oj && Ah6 ops true)))
theorem A3z {n:Nat} {draw:Bool} (hb:Apy n ops=true) (ho:Atu ops draw=true):Att n ops draw=true:=by
 unfold Att;refine List.all_eq_true.2 fun j hj=>?_;have h1:=List.all_eq_true.1 hb j hj
 cases hoj:ops[j]? with
 | none=>simp only [hoj] at h1;cases h1
 | some oj=>
   simp only [hoj] at h1 ⊢
   rw [h1,Bool.true_and]
   cases draw with
   | false=>rfl
   | true=>
     unfold Atu at ho
     rw [Bool.not_true,Bool.false_or] at ho ⊢
     have h2:=List.all_eq_true.1 ho j hj
     simp only [hoj] at h2
     exact h2
theorem Aht {n:Nat} (H:Apy n ops=true) {j:Nat} {oj:Oper} (hj:ops[j]? =some oj):(∀ d,oj.dst=some d->d < n)/\Aa3 oj=true:=by
 have hlt:j < ops.size:=(Array.getElem?_eq_some_iff.1 hj).1;have h1:=List.all_eq_true.1 H j (List.mem_range.2 hlt);simp only [hj,Bool.and_eq_true] at h1;exact ⟨fun d hd=>by simpa [hd] using h1.1,h1.2⟩
theorem RL.frame0 {B:AGt->Prop} {st:Bool} {l:List Oper} {e:Env} {h:AGt} {K:Env->AGt->Prop} (H:RL P B st ops l e h K):RL P B st ops l e h fun e' h'=>K e' h'/\ ∀ t,(∀ o∈l,o.dst≠some t)->e' t=e t:=by
 induction l generalizing e h with
 | nil=>exact ⟨H,fun _ _=>rfl⟩
 | cons o l ih=>
   refine GOp.mono (fun v h' hh=>?_) H
   have mono:∀ {l:List Oper} {e:Env} {h:AGt} {K K':Env->AGt->Prop},(∀ e h,K e h->K' e h)->RL P B st ops l e h K->RL P B st ops l e h K':=by
     intro l
     induction l with
     | nil=>intro e h K K' hK H;exact hK _ _ H
     | cons o l ih=>intro e h K K' hK H;exact GOp.mono (fun v h' hh=>ih hK hh) H
   refine mono (fun e2 h2 hk=>⟨hk.1,fun t ht=>?_⟩) (ih hh)
   rw [hk.2 t fun o' ho'=>ht o' (List.mem_cons_of_mem _ ho')]
   cases hd:o.dst with
   | none=>rfl
   | some d=>exact Env.set_other _ _ (fun he=>ht o (List.mem_cons_self ..) (by rw [hd,he]))
def RW (P:Program) (ops:Array Oper) (draw:Bool) (K:Env->AGt->Prop) (e:Env) (h:AGt):Prop:=
  P.follows .mixedOrders=true-> ∀ (n id:Nat) (a:Act) (w:World) (Q':Exit->Act->World->Prop),Apy n ops=true->Rep n e a->w.heap=h->
    (∀ e' a' w',Rep n e' a'->Same w w'->K e' w'.heap->(∀ t,(∀ o∈ops.toList,o.dst≠some t)->e' t=e t)->Q' .normal a' w')->(Code.region id ops draw).wp P Q' a w
theorem RW.of_RL {B:AGt->Prop} {draw:Bool} {K:Env->AGt->Prop} {e:Env} {h:AGt} (ho:Atu ops draw=true) (H:RL P B (Ah6 ops draw) ops ops.toList e h K):RW P ops draw K e h:=by
 intro hmx n id a w Q' hb r hw hQ;subst hw;exact Aq1 hmx (A3z hb ho) r H.frame0 fun e' a' w' r' s k=>hQ e' a' w' r' s k.1 k.2
theorem RW.mono {draw:Bool} {K K':Env->AGt->Prop} {e:Env} {h:AGt} (hK:∀ e h,K e h->K' e h) (H:RW P ops draw K e h):RW P ops draw K' e h:=
  fun hmx n id a w Q' hb r hw hQ=>H hmx n id a w Q' hb r hw fun e' a' w' r' s k hf=>hQ e' a' w' r' s (hK _ _ k) hf
end
def Agd (K:Env->AGt->Prop) (Q:Exit->Env->AGt->Prop):Exit->Env->AGt->Prop
  | .normal=>K
  | x=>Q x
def Age (id:Nat) (Q:Exit->Env->AGt->Prop):Exit->Env->AGt->Prop
  | .exit id'=>if id'=id then Q .normal else Q (.exit id')
  | x=>Q x
def Ayv (Q:Exit->Env->AGt->Prop):Exit->Env->AGt->Prop
  | .goto _=>fun _ _=>False
  | x=>Q x
def W (P:Program):Code->(Exit->Env->AGt->Prop)->Env->AGt->Prop
  | .skip,Q,e,h=>Q .normal e h
  | .region _ ops draw,Q,e,h=>RW P ops draw (Q .normal) e h
  | .seq a b,Q,e,h=>W P a (Agd (fun e h=>W P b Q e h) Q) e h
  | .cond c x y,Q,e,h=> ∃ b,e.ev c= .bool b/\(b=true->W P x Q e h)/\(b=false->W P y Q e h)
  | .block id c,Q,e,h=>W P c (Age id Q) e h
  | .loop c,Q,e,h=> ∃ (I:Nat->Env->AGt->Prop) (n:Nat),I n e h/\ ∀ n e h,I n e h->W P c (Agd (fun e' h'=> ∃ n',n' < n/\I n' e' h') Q) e h
  | .exit id,Q,e,h=>Q (.exit id) e h
  | .ret,Q,e,h=>Q .ret e h
  | .scope c,Q,e,h=>W P c (Ayv Q) e h
  | .label _,Q,e,h=>Q .normal e h
  | _,_,_,_=>False
def okC (n:Nat):Code->Bool
  | .region _ ops _=>Apy n ops
  | .seq a b=>okC n a && okC n b
  | .cond _ a b=>okC n a && okC n b
  | .block _ c=>okC n c
  | .loop c=>okC n c
  | .scope c=>okC n c
  | .skip | .exit _ | .ret | .label _=>true
  | _=>false
theorem RL.mono {P:Program} {B:AGt->Prop} {st:Bool} {ops:Array Oper} {l:List Oper} {e:Env} {h:AGt} {K K':Env->AGt->Prop} (hK:∀ e h,K e h->K' e h) (H:RL P B st ops l e h K):RL P B st ops l e h K':=by
 induction l generalizing e h with
 | nil=>exact hK _ _ H
 | cons o l ih=>exact GOp.mono (fun v h' hh=>ih hh) H
theorem W.mono {P:Program} {c:Code}:∀ {Q Q':Exit->Env->AGt->Prop} {e:Env} {h:AGt},(∀ x e h,Q x e h->Q' x e h)->W P c Q e h->W P c Q' e h:=by
 induction c with
 | skip=>intro Q Q' e h hQ H;exact hQ _ _ _ H
 | region id ops draw=>intro Q Q' e h hQ H;exact RW.mono (fun e h hk=>hQ _ _ _ hk) H
 | seq a b iha ihb=>
   intro Q Q' e h hQ H
   refine iha (fun x e h hx=>?_) H
   cases x <;> first | exact hQ _ _ _ hx | exact ihb hQ hx
 | cond c x y ihx ihy=>
   intro Q Q' e h hQ H
   obtain ⟨b,hb,h1,h2⟩:=H
   exact ⟨b,hb,fun hh=>ihx hQ (h1 hh),fun hh=>ihy hQ (h2 hh)⟩
 | block id c ih=>
   intro Q Q' e h hQ H
   refine ih (fun x e h hx=>?_) H
   cases x <;> first | exact hQ _ _ _ hx | skip
   rename_i id'
   by_cases hid:id'=id
   · simp only [Age,hid,if_true] at hx ⊢;exact hQ _ _ _ hx
   · simp only [Age,hid,if_false] at hx ⊢;exact hQ _ _ _ hx
 | loop c ih=>
   intro Q Q' e h hQ H
   obtain ⟨I,n,h0,hI⟩:=H
   refine ⟨I,n,h0,fun n e h hi=>ih (fun x e h hx=>?_) (hI n e h hi)⟩
   cases x <;> first | exact hQ _ _ _ hx | exact hx
 | exit id=>intro Q Q' e h hQ H;exact hQ _ _ _ H
 | ret=>intro Q Q' e h hQ H;exact hQ _ _ _ H
 | rangeFunc=>intro Q Q' e h _ H;exact H.elim
 | scope c ih=>
   intro Q Q' e h hQ H
   refine ih (fun x e h hx=>?_) H
   cases x <;> first | exact hQ _ _ _ hx | exact hx
 | label=>intro Q Q' e h hQ H;exact hQ _ _ _ H
 | goto=>intro Q Q' e h _ H;exact H.elim
 | refuse=>intro Q Q' e h _ H;exact H.elim
theorem W.sound {P:Program} (hmx:P.follows .mixedOrders=true) {n:Nat} {c:Code}:∀ {Q:Exit->Env->AGt->Prop} {Q':Exit->Act->World->Prop} {e:Env} {a:Act} {w:World},okC n c=true->Rep n e a->W P c Q e w.heap->
    (∀ x e' a' w',Rep n e' a'->Same w w'->Q x e' w'.heap->Q' x a' w')->c.wp P Q' a w:=by
 induction c with
 | skip=>intro Q Q' e a w _ r H hQ;exact wp_skip (hQ _ _ _ _ r (.refl w) H)
 | region id ops draw=>intro Q Q' e a w hok r H hQ;exact H hmx n id a w Q' hok r rfl (fun e' a' w' r' s k _=>hQ _ _ _ _ r' s k)
 | seq x y ihx ihy=>
   intro Q Q' e a w hok r H hQ
   simp only [okC,Bool.and_eq_true] at hok
   refine wp_seq (ihx hok.1 r H fun ex e' a' w' r' s k=>?_)
   cases ex <;> first | exact hQ _ _ _ _ r' s k | exact ihy hok.2 r' k fun Ak e2 a2 w2 r2 s2 k2=>hQ _ _ _ _ r2 (s.trans s2) k2
 | cond c x y ihx ihy=>
   intro Q Q' e a w hok r H hQ
   simp only [okC,Bool.and_eq_true] at hok
   obtain ⟨b,hb,h1,h2⟩:=H
   refine wp_cond_split (t:=b) (by rw [r.eval];exact hb) (fun hh=>ihx hok.1 r (h1 hh) hQ) (fun hh=>ihy hok.2 r (h2 hh) hQ)
 | block id c ih=>
   intro Q Q' e a w hok r H hQ
   refine wp_block (ih hok r H fun ex e' a' w' r' s k=>?_)
   cases ex <;> first | exact hQ _ _ _ _ r' s k | skip
   rename_i id'
   by_cases hid:id'=id
   · simp only [Age,Exit.inBlock,hid,if_true] at k ⊢;exact hQ _ _ _ _ r' s k
   · simp only [Age,Exit.inBlock,hid,if_false] at k ⊢;exact hQ _ _ _ _ r' s k
 | loop c ih=>
   intro Q Q' e a w hok r H hQ
   obtain ⟨I,k,h0,hI⟩:=H
   refine wp_loop_ghost (fun k a' w'=> ∃ e',Rep n e' a'/\Same w w'/\I k e' w'.heap) k ⟨e,r,.refl w,h0⟩ fun k1 a1 w1 ⟨e1,r1,s1,i1⟩=>?_
   refine ih hok r1 (hI k1 e1 w1.heap i1) fun ex e' a' w' r' s k=>?_
   cases ex <;> first | exact hQ _ _ _ _ r' (s1.trans s) k | skip
   obtain ⟨k2,hlt,hk⟩:=k
   exact ⟨k2,hlt,e',r',s1.trans s,hk⟩
 | exit id=>intro Q Q' e a w _ r H hQ;exact wp_exit (hQ _ _ _ _ r (.refl w) H)
 | ret=>intro Q Q' e a w _ r H hQ;exact wp_ret (hQ _ _ _ _ r (.refl w) H)
 | rangeFunc=>intro Q Q' e a w _ _ H;exact H.elim
 | scope c ih=>
   intro Q Q' e a w hok r H hQ
   refine wp_scope_straight (ih hok r H fun ex e' a' w' r' s k=>?_)
   cases ex <;> first | exact hQ _ _ _ _ r' s k | exact k.elim
 | label=>intro Q Q' e a w _ r H hQ;exact wp_label (hQ _ _ _ _ r (.refl w) H)
 | goto=>intro Q Q' e a w _ _ H;exact H.elim
 | refuse=>intro Q Q' e a w _ _ H;exact H.elim
def inM (m t:Nat):Bool:=Nat.beq (Nat.land (Nat.shiftRight m t) 1) 1
def mix (m:Nat) (s e:Env):Env:=fun t=>bif inM m t then s t else e t
def Aod (m:Nat):Code->Bool
  | .region _ ops _=>ops.toList.all fun o=>match o.dst with | some d=>inM m d | none=>true
  | .seq a b=>Aod m a && Aod m b
  | .cond _ a b=>Aod m a && Aod m b
  | .block _ c=>Aod m c
  | .loop c=>Aod m c
  | .scope c=>Aod m c
  | _=>true
def setL:List (Nat × Value)->Env->Env
  | [],e=>e
  | (t,v) :: l,e=>(setL l e).set t v
def Al9:List (Nat × Value)->Env->Prop
  | [],_=>True
  | (t,v) :: l,e=>e t=v/\Al9 l e
theorem Al9.setL {l:List (Nat × Value)} {e:Env} (h:Al9 l e):setL l e=e:=by
 induction l with
 | nil=>rfl
 | cons x l ih=>
   obtain ⟨t,v⟩:=x
   obtain ⟨h1,h2⟩:=h
   show (QF.setL l e).set t v=e
   rw [ih h2]
   funext u
   by_cases hu:u=t
   · subst hu;rw [Env.set_same,h1]
   · rw [Env.set_other _ _ hu]
theorem Aru {m:Nat} {s e:Env} (h:∀ t,inM m t=false->s t=e t):mix m s e=s:=by
 funext t;unfold mix;cases hm:inM m t
 ·exact (h t hm).symm
 ·rfl
theorem W.frame {P:Program} {m:Nat} {c:Code}:∀ {Q:Exit->Env->AGt->Prop} {e:Env} {h:AGt},Aod m c=true->W P c Q e h->W P c (fun x e' h'=>Q x e' h'/\ ∀ t,inM m t=false->e' t=e t) e h:=by
 induction c with
 | skip=>intro Q e h _ H;exact ⟨H,fun _ _=>rfl⟩
 | region id ops draw=>
   intro Q e h hm H hmx n id a w Q' hb r hw hQ
   refine H hmx n id a w Q' hb r hw fun e' a' w' r' s k hf=>hQ e' a' w' r' s ⟨k,fun t ht=>hf t fun o ho hd=>?_⟩ hf
   have h1:=List.all_eq_true.1 hm o ho
   simp only [hd] at h1
   rw [h1] at ht
   cases ht
 | seq a b iha ihb=>
   intro Q e h hm H
   simp only [Aod,Bool.and_eq_true] at hm
   refine W.mono (c:=a) (fun x e1 h1 hx=>?_) (iha hm.1 H)
   obtain ⟨hx,hf⟩:=hx
   cases x <;> first | exact ⟨hx,hf⟩ | exact W.mono (c:=b) (fun x e2 h2 hy=>⟨hy.1,fun t ht=>(hy.2 t ht).trans (hf t ht)⟩) (ihb hm.2 hx)
 | cond c x y ihx ihy=>
   intro Q e h hm H
   simp only [Aod,Bool.and_eq_true] at hm
   obtain ⟨b,hb,h1,h2⟩:=H
   exact ⟨b,hb,fun hh=>ihx hm.1 (h1 hh),fun hh=>ihy hm.2 (h2 hh)⟩
 | block id c ih=>
   intro Q e h hm H
   refine W.mono (c:=c) (fun x e1 h1 hx=>?_) (ih hm H)
   obtain ⟨hx,hf⟩:=hx
   cases x <;> first | exact ⟨hx,hf⟩ | skip
   rename_i id'
   by_cases hid:id'=id
   · simp only [Age,hid,if_true] at hx ⊢;exact ⟨hx,hf⟩
   · simp only [Age,hid,if_false] at hx ⊢;exact ⟨hx,hf⟩
 | loop c ih=>
   intro Q e h hm H
   obtain ⟨I,k,h0,hI⟩:=H
   refine ⟨fun k e1 h1=>I k e1 h1/\ ∀ t,inM m t=false->e1 t=e t,k,⟨h0,fun _ _=>rfl⟩,fun k1 e1 h1 hi=>?_⟩
   refine W.mono (fun x e2 h2 hx=>?_) (ih hm (hI k1 e1 h1 hi.1))
   obtain ⟨hx,hf⟩:=hx
   cases x <;> first | exact ⟨hx,fun t ht=>(hf t ht).trans (hi.2 t ht)⟩ | (obtain ⟨k2,hlt,hk⟩:=hx;exact ⟨k2,hlt,hk,fun t ht=>(hf t ht).trans (hi.2 t ht)⟩)
 | exit id=>intro Q e h _ H;exact ⟨H,fun _ _=>rfl⟩
 | ret=>intro Q e h _ H;exact ⟨H,fun _ _=>rfl⟩
 | rangeFunc=>intro Q e h _ H;exact H.elim
 | scope c ih=>
   intro Q e h hm H
   refine W.mono (c:=c) (fun x e1 h1 hx=>?_) (ih hm H)
   obtain ⟨hx,hf⟩:=hx
   cases x <;> first | exact ⟨hx,hf⟩ | exact hx
 | label=>intro Q e h _ H;exact ⟨H,fun _ _=>rfl⟩
 | goto=>intro Q e h _ H;exact H.elim
 | refuse=>intro Q e h _ H;exact H.elim
section
variable {P:Program} {Q:Exit->Env->AGt->Prop} {e:Env} {h:AGt}
theorem AGy (H:Q .normal e h):W P .skip Q e h:=H
theorem AGz (H:Q .ret e h):W P .ret Q e h:=H
theorem AS8 {id:Nat} (H:Q (.exit id) e h):W P (.exit id) Q e h:=H
theorem AGo {a b:Code} (H:W P a (Agd (fun e h=>W P b Q e h) Q) e h):W P (.seq a b) Q e h:=H
theorem AGp {id:Nat} {c:Code} (H:W P c (Age id Q) e h):W P (.block id c) Q e h:=H
theorem A7v {c:Code} (H:W P c (Ayv Q) e h):W P (.scope c) Q e h:=H
theorem A7w {l:Nat} (H:Q .normal e h):W P (.label l) Q e h:=H
theorem AS3 {id:Nat} {l:List Oper} (H:RL P (fun _=>True) false l.toArray l e h (Q .normal)):W P (.region id l.toArray false) Q e h:=RW.of_RL (B:=fun _=>True) rfl H
theorem Aix {id:Nat} {l:List Oper} (hst:(Ah6 l.toArray true,Atu l.toArray true)=(false,true)) (H:RL P (fun _=>True) false l.toArray l e h (Q .normal)):W P (.region id l.toArray true) Q e h:=
  RW.of_RL (B:=fun _=>True) (Prod.mk.inj hst).2 (by rw [(Prod.mk.inj hst).1];exact H)
theorem AVa {id:Nat} {l:List Oper} (B:AGt->Prop) (hst:(Ah6 l.toArray true,Atu l.toArray true)=(true,true)) (H:RL P B true l.toArray l e h (Q .normal)):W P (.region id l.toArray true) Q e h:=
  RW.of_RL (B:=B) (Prod.mk.inj hst).2 (by rw [(Prod.mk.inj hst).1];exact H)
theorem ATp {c:Operand} {x y:Code} (hc:e.ev c= .bool true) (H:W P x Q e h):W P (.cond c x y) Q e h:=⟨true,hc,fun _=>H,fun hh=>by cases hh⟩
theorem ATr {c:Operand} {x y:Code} (hc:e.ev c= .bool false) (H:W P y Q e h):W P (.cond c x y) Q e h:=⟨false,hc,(fun hh=>by cases hh),fun _=>H⟩
theorem AX0 {c:Code} {X:Type} (m:Nat) (live:X->List (Nat × Value)) (J:Nat->X->AGt->Prop) (hm:Aod m c=true) (k0:Nat) (x0:X) (h0:J k0 x0 h) (hl:Al9 (live x0) e)
    (H:∀ k x s h',J k x h'->W P c (Agd (fun e' h''=> ∃ k' x',k' < k/\J k' x' h''/\Al9 (live x') e') Q) (setL (live x) (mix m s e)) h'):W P (.loop c) Q e h:=by
  refine ⟨fun k e1 h1=>(∃ x,J k x h1/\Al9 (live x) e1)/\ ∀ t,inM m t=false->e1 t=e t,k0,⟨⟨x0,h0,hl⟩,fun _ _=>rfl⟩,fun k e1 h1 hi=>?_⟩;obtain ⟨⟨x,hJ,hA⟩,hf1⟩:=hi;have he:setL (live x) (mix m e1 e)=e1:=by rw [Aru hf1];exact hA.setL
  have H1:=H k x e1 h1 hJ;rw [he] at H1;refine W.mono (fun y e2 h2 hx=>?_) (W.frame hm H1);obtain ⟨hx,hf⟩:=hx;cases y <;> first | exact hx | skip
  obtain ⟨k',x',hlt,hJ',hA'⟩:=hx;exact ⟨k',hlt,⟨x',hJ',hA'⟩,fun t ht=>(hf t ht).trans (hf1 t ht)⟩
theorem Amp {a b:Code} {X:Type} (m:Nat) (live:X->List (Nat × Value)) (J:X->AGt->Prop) (hm:Aod m a=true) (H:W P a (Agd (fun e' h'=> ∃ x,J x h'/\Al9 (live x) e') Q) e h)
    (H2:∀ x s h',J x h'->W P b Q (setL (live x) (mix m s e)) h'):W P (.seq a b) Q e h:=by
  refine AGo (W.mono (fun x e1 h1 hx=>?_) (W.frame hm H));obtain ⟨hx,hf⟩:=hx;cases x <;> first | exact hx | skip
  obtain ⟨x,hJ,hA⟩:=hx;have he:setL (live x) (mix m e1 e)=e1:=by rw [Aru hf];exact hA.setL
  have:=H2 x e1 h1 hJ;rw [he] at this;exact this
end
section
variable {P:Program} {Q:Exit->Env->AGt->Prop} {K:Env->AGt->Prop} {e:Env} {h:AGt}
theorem q_t (H:K e h):Agd K Q .normal e h:=H
theorem q_b {id:Nat} (H:Q .normal e h):Age id Q .normal e h:=H
theorem ATa {id:Nat} (H:Q (.exit id) e h):Agd K Q (.exit id) e h:=H
theorem AT7 {id:Nat} (H:Q .normal e h):Age id Q (.exit id) e h:=by simp only [Age,if_true];exact H
theorem Atl {id id':Nat} (hne:id'≠id) (H:Q (.exit id') e h):Age id Q (.exit id') e h:=by simp only [Age,if_neg hne];exact H
theorem ATc (H:Q .ret e h):Agd K Q .ret e h:=H
theorem AUg {id:Nat} (H:Q .ret e h):Age id Q .ret e h:=H
theorem BAw (H:Q .ret e h):Ayv Q .ret e h:=H
end
def Awn (P:Program) (f:FuncId):Prop:= ∃ fn,P.funcs[f]? =some fn/\(fn.name == "runtime.NumGoroutine")=false/\fn.body.isNone=false
def ATs (P:Program) (f:FuncId) (args:Array Value) (h:AGt) (K:Value->AGt->Prop):Prop:=
  Awn P f/\ ∀ w:World,w.heap=h->Calls P f args w fun en w'=> ∃ v,en= .returned v/\Same w w'/\K v w'.heap
theorem ATs.mono {P:Program} {f:FuncId} {args:Array Value} {h:AGt} {K K':Value->AGt->Prop} (H:ATs P f args h K) (hK:∀ v h',K v h'->K' v h'):ATs P f args h K':=
  ⟨H.1,fun w hw=>Calls.mono (H.2 w hw) fun en w' ⟨v,he,hs,hk⟩=>⟨v,he,hs,hK _ _ hk⟩⟩
def Awo:List Value->Env
  | [],_=>undef
  | v :: _,0=>v
  | _ :: l,t + 1=>Awo l t
theorem Awp (l:List Value) (t:Nat):Awo l t=(l[t]?).getD undef:=by
 induction l generalizing t with
 | nil=>simp [Awo]
 | cons v l ih=>
   cases t with
   | zero=>simp [Awo]
   | succ t=>simp [Awo,ih]
def Auz (P:Program) (rs:List ResultVar) (e:Env) (h:AGt) (v:Value):Prop:=
  ∀ (fn:Func) (tmps:Array Value) (w:World),fn.results=rs.toArray->(∀ t,tmps.getD t undef=e t)->w.heap=h->(results fn tmps).run P w= .ok v w
theorem AZt {P:Program} {e:Env} {h:AGt}:Auz P [] e h (.tuple #[]):=fun fn tmps w hr _ _=>by simp [results,hr]
theorem AS2 {P:Program} {e:Env} {h:AGt} {t:Tmp}:Auz P [.tmp t] e h (e t):=fun fn tmps w hr hg _=>by rw [<- hg t];simp [results,hr]
theorem AUk {P:Program} {e:Env} {h:AGt} {t u:Tmp}:Auz P [.tmp t,.tmp u] e h (.tuple #[e t,e u]):=fun fn tmps w hr hg _=>by rw [<- hg t,<- hg u];simp [results,hr]
theorem Abo {P:Program} {e:Env} {h:AGt} {t u v:Tmp}:Auz P [.tmp t,.tmp u,.tmp v] e h (.tuple #[e t,e u,e v]):=fun fn tmps w hr hg _=>by rw [<- hg t,<- hg u,<- hg v];simp [results,hr]
def BAx (P:Program) (rs:List ResultVar) (K:Value->AGt->Prop):Exit->Env->AGt->Prop
  | .normal,e,h | .ret,e,h=> ∃ v,Auz P rs e h v/\K v h
  | _,_,_=>False
theorem AT5 {P:Program} (hmx:P.follows .mixedOrders=true) {f:FuncId} {fn:Func} {c:Code} {rs:List ResultVar} {n:Nat} {l:List Value} {h:AGt} {K:Value->AGt->Prop}
    (hf:P.funcs[f]? =some fn) (hn:(fn.name == "runtime.NumGoroutine")=false) (hb:fn.body=some c) (hr:fn.results=rs.toArray) (hnt:fn.ntmps=n) (hl:Nat.ble l.length n=true) (hok:okC n c=true)
    (H:W P c (BAx P rs K) (Awo l) h):ATs P f l.toArray h K:=by
 refine ⟨⟨fn,hf,hn,by simp [hb]⟩,fun w hw=>?_⟩;subst hw;have hl:=Nat.le_of_ble_eq_true hl;refine calls_of_wp hf hb (W.sound hmx (n:=n) hok ⟨?_,rfl,fun t=>?_⟩ H fun x e' a' w' r s k=>?_)
 ·simp [hnt];omega
 ·rw [Awp];simp only [Array.getD_eq_getD_getElem?];rw [Array.getElem?_append];split
  ·simp
  ·rename_i hge;simp at hge;simp only [List.size_toArray];rw [List.getElem?_eq_none hge];rw [Array.getElem?_replicate];split <;> rfl
 ·cases x with
  | normal=>obtain ⟨v,hv,hk⟩:=k;exact ⟨r.defers,v,hv fn _ w' hr r.get rfl,v,rfl,s,hk⟩
  | ret=>obtain ⟨v,hv,hk⟩:=k;exact ⟨r.defers,v,hv fn _ w' hr r.get rfl,v,rfl,s,hk⟩
  | exit id=>exact k.elim
  | goto l=>exact k.elim
  | panic ch=>exact k.elim
  | outgrown=>exact k.elim
end Go.QF
namespace Go.QF
open Go
def AWy (h:AGt) (a:Addr):Option Value:=
  match h[a.block]? with
  | some (.cells c _ _)=>if a.spot.isSome then none else c[a.off]?
  | _=>none
def Alg (h:AGt) (a:Addr):Bool:=
  match h[a.block]? with
  | some (.cells _ _ (lo,hi))=>lo<=a.off && a.off < hi
  | _=>false
def An2 (h:AGt) (a:Addr) (v:Value):AGt:=
  h.modify a.block fun
    | .cells c elem frozen=> .cells (if a.spot.isSome then c else c.setIfInBounds a.off v) elem frozen
    | o=>o
theorem Aoz (w:World) (a:Addr):w.cell? a=AWy w.heap a:=rfl
def SlT (P:Program) (t el s:Nat):Prop:=P.underlying t=some (.slice el)/\ ∃ i,P.info? el=some i/\i.size=s
def Apz:TypeDesc->Bool
  | .struct _ | .array _ _=>true
  | _=>false
def NaT (P:Program) (t:Nat):Prop:=(∃ d,P.underlying t=some d/\Apz d=false)/\ ∃ i,P.info? t=some i/\i.size=1
def AgT (P:Program) (t s:Nat):Prop:=(∃ d,P.underlying t=some d/\Apz d=true)/\ ∃ i,P.info? t=some i/\i.size=s
def ZeT (P:Program) (t:Nat) (zero:Value) (bytes:Nat):Prop:= ∃ i,P.info? t=some i/\i.zero=some zero/\i.size=zero.cells.size/\i.bytes=bytes
def Alh (P:Program) (t:Nat) (k:IntKind):Prop:=P.underlying t=some (.int k)
def FdT (P:Program) (t f off ft:Nat):Prop:= ∃ fs fd,P.underlying t=some (.struct fs)/\fs[f]? =some fd/\fd.offset=off/\fd.type=ft
section
variable {P:Program} {t:TypeId}
theorem Adk {d:TypeDesc} (h:P.underlying t=some d) (w:World):(underlying t).run P w= .ok d w:=by simp [underlying,h]
theorem A98 {i:TypeInfo} (h:P.info? t=some i) (w:World):(typeInfo t).run P w= .ok i w:=by simp [typeInfo,h]
theorem Ag7 {i:TypeInfo} (h:P.info? t=some i) (w:World):(sizeOf t).run P w= .ok i.size w:=by simp [sizeOf,A98 h]
theorem Awq {i:TypeInfo} {v:Value} (h:P.info? t=some i) (hz:i.zero=some v) (w:World):(zeroValue t).run P w= .ok v w:=by simp [zeroValue,A98 h,hz]
theorem A0h {d:TypeDesc} (h:P.underlying t=some d) (w:World):(isAgg t).run P w= .ok (Apz d) w:=by
 cases d <;> simp [isAgg,Adk h,Apz]
end
section
variable {P:Program} {B:AGt->Prop} {st:Bool} {ops:Array Oper} {rest:List Oper} {e:Env} {h:AGt} {K:Env->AGt->Prop}
variable {d:Nat} {ty:TypeId} {pos:String} {af:Array Edge}
theorem ATh (H:K e h):RL P B st ops [] e h K:=H
theorem AXp {o:Oper} {v:Value} (hg:o.guard=none) (hk:kindOf o.op= .pure) (hv:Aoy P e.ev o v) (H:RL P B st ops rest (e.put o.dst v) h K):RL P B st ops (o :: rest) e h K:=by
 show GOp P B st ops o e h _;unfold GOp;rw [if_pos (by simp [Region.wanted,hg])];unfold SOp;rw [hk];exact ⟨v,hv,H⟩
theorem Agf {o:Oper} (hg:o.guard=none) (hk:kindOf o.op= .eff) (hb:B h) (hv:Aiw P e.ev o h fun v h'=>B h'/\RL P B st ops rest (e.put o.dst v) h' K):RL P B st ops (o :: rest) e h K:=by
 show GOp P B st ops o e h _;unfold GOp;rw [if_pos (by simp [Region.wanted,hg])];unfold SOp;rw [hk];exact ⟨hb,hv⟩
theorem BAy {o:Oper} (hg:o.guard=none) (hk:kindOf o.op= .wr) (hv:Aiw P e.ev o h fun v h'=>RL P B st ops rest (e.put o.dst v) h' K):RL P B st ops (o :: rest) e h K:=by
 show GOp P B st ops o e h _;unfold GOp;rw [if_pos (by simp [Region.wanted,hg])];unfold SOp;rw [hk];exact hv
theorem AUd {dst:Option Nat} {op:Op} {j:Nat} {want:Bool} (t:Nat) (b:Bool) (ht:(ops[j]?).bind (·.dst)=some t) (hv:e t= .bool b) (hb:(b == want)=false)
    (H:RL P B st ops rest (e.put dst undef) h K):RL P B st ops (⟨dst,op,ty,pos,af,some (j,want)⟩ :: rest) e h K:=by
  show GOp P B st ops _ e h _;unfold GOp
  rw [if_neg]
  · exact H
  · simp only [Region.wanted,Acf,ht,hv];cases b <;> cases want <;> simp_all
theorem AWa {dst:Option Nat} {op:Op} {j:Nat} {want:Bool} (t:Nat) (ht:(ops[j]?).bind (·.dst)=some t) (hv:e t=undef)
    (H:RL P B st ops rest (e.put dst undef) h K):RL P B st ops (⟨dst,op,ty,pos,af,some (j,want)⟩ :: rest) e h K:=by
  show GOp P B st ops _ e h _;unfold GOp
  rw [if_neg]
  · exact H
  · simp only [Region.wanted,Acf,ht,hv,undef];simp
theorem AUn {dst:Option Nat} {op:Op} {j:Nat} {want:Bool} (t:Nat) (b:Bool) (ht:(ops[j]?).bind (·.dst)=some t) (hv:e t= .bool b) (hb:(b == want)=true)
    (H:RL P B st ops (⟨dst,op,ty,pos,af,none⟩ :: rest) e h K):RL P B st ops (⟨dst,op,ty,pos,af,some (j,want)⟩ :: rest) e h K:=by
  have H:GOp P B st ops ⟨dst,op,ty,pos,af,none⟩ e h _:=H;show GOp P B st ops _ e h _;unfold GOp at H ⊢;rw [if_pos (by simp [Region.wanted])] at H
  rw [if_pos]
  · exact H
  · simp only [Region.wanted,Acf,ht,hv];cases b <;> cases want <;> simp_all
theorem AGj {x:Operand} (H:RL P B st ops rest (e.mv d x) h K):RL P B st ops (⟨some d,.move x,ty,pos,af,none⟩ :: rest) e h K:=
  AXp (v:=e.ev x) rfl rfl (fun w=>rfl) H
theorem ATi {x:Operand} (H:RL P B st ops rest (e.mv d x) h K):RL P B st ops (⟨some d,.assign x,ty,pos,af,none⟩ :: rest) e h K:=
  AXp (v:=e.ev x) rfl rfl (fun w=>rfl) H
theorem ATj {c x y:Operand} (hc:e.ev c= .bool true) (H:RL P B st ops rest (e.mv d x) h K):RL P B st ops (⟨some d,.pick c x y,ty,pos,af,none⟩ :: rest) e h K:=
  AXp (v:=e.ev x) rfl rfl (fun w=>by simp only [execOp,hc];rfl) H
theorem ATm {c x y:Operand} (hc:e.ev c= .bool false) (H:RL P B st ops rest (e.mv d y) h K):RL P B st ops (⟨some d,.pick c x y,ty,pos,af,none⟩ :: rest) e h K:=
  AXp (v:=e.ev y) rfl rfl (fun w=>by simp only [execOp,hc];rfl) H
theorem Amq {x:Operand} {t el s n c:Nat} {a:Option Addr} (hT:SlT P t el s) (hx:e.ev x= .slice a n c) (H:RL P B st ops rest (e.set d (.int .i64 n)) h K):
    RL P B st ops (⟨some d,.call ⟨.builtin .len,#[x],#[t]⟩,ty,pos,af,none⟩ :: rest) e h K:=
  AXp (v:= .int .i64 n) rfl rfl (fun w=>by
    obtain ⟨hu,_⟩:=hT
    simp [execOp,resolve,invoke,builtin,Builtin.len_,Adk hu,hx,goInt]) H
theorem ATk {x y:Operand} {t t2:TypeId} {k:IntKind} {a b:Int} (hx:e.ev x= .int k a) (hy:e.ev y= .int k b) (H:RL P B st ops rest (e.set d (.int k (k.wrap (a + b)))) h K):
    RL P B st ops (⟨some d,.binOp .add t x y t2,ty,pos,af,none⟩ :: rest) e h K:=
  AXp (v:= .int k (k.wrap (a + b))) rfl rfl (fun w=>by simp [execOp,hx,hy,eqGuard,binOp,Op.intArith]) H
theorem AVd {x y:Operand} {t t2:TypeId} {k:IntKind} {a b:Int} (hx:e.ev x= .int k a) (hy:e.ev y= .int k b) (H:RL P B st ops rest (e.set d (.int k (k.wrap (a - b)))) h K):
    RL P B st ops (⟨some d,.binOp .sub t x y t2,ty,pos,af,none⟩ :: rest) e h K:=
  AXp (v:= .int k (k.wrap (a - b))) rfl rfl (fun w=>by simp [execOp,hx,hy,eqGuard,binOp,Op.intArith]) H
theorem AZe {x y:Operand} {t t2:TypeId} {k:IntKind} {a b:Int} (hx:e.ev x= .int k a) (hy:e.ev y= .int k b) (H:RL P B st ops rest (e.set d (.int k (k.wrap (a * b)))) h K):
    RL P B st ops (⟨some d,.binOp .mul t x y t2,ty,pos,af,none⟩ :: rest) e h K:=
  AXp (v:= .int k (k.wrap (a * b))) rfl rfl (fun w=>by simp [execOp,hx,hy,eqGuard,binOp,Op.intArith]) H
theorem Amr {x y:Operand} {t t2:TypeId} {k:IntKind} {a b:Int} (hx:e.ev x= .int k a) (hy:e.ev y= .int k b) (hb:b≠0) (H:RL P B st ops rest (e.set d (.int k (k.wrap (a.tdiv b)))) h K):
    RL P B st ops (⟨some d,.binOp .quo t x y t2,ty,pos,af,none⟩ :: rest) e h K:=
  AXp (v:= .int k (k.wrap (a.tdiv b))) rfl rfl (fun w=>by simp [execOp,hx,hy,eqGuard,binOp,Op.intDiv,hb]) H
theorem Acw {x y:Operand} {t t2:TypeId} {k:IntKind} {a b:Int} (hx:e.ev x= .int k a) (hy:e.ev y= .int k b) (hb:b≠0) (H:RL P B st ops rest (e.set d (.int k (a.tmod b))) h K):
    RL P B st ops (⟨some d,.binOp .rem t x y t2,ty,pos,af,none⟩ :: rest) e h K:=
  AXp (v:= .int k (a.tmod b)) rfl rfl (fun w=>by simp [execOp,hx,hy,eqGuard,binOp,Op.intDiv,hb]) H
def Au0 (op:BinOp) (a b:Int):Option Bool:=
  match op with
  | .eql=>some (a == b) | .neq=>some (a != b) | .lss=>some (decide (a < b)) | .leq=>some (decide (a<=b)) | .gtr=>some (decide (a > b)) | .geq=>some (decide (a >= b))
  | _=>none
theorem Arw {op:BinOp} {x y:Operand} {t t2:TypeId} {k:IntKind} {a b:Int} {r:Bool} (hx:e.ev x= .int k a) (hy:e.ev y= .int k b) (hr:Au0 op a b=some r) (H:RL P B st ops rest (e.set d (.bool r)) h K):
    RL P B st ops (⟨some d,.binOp op t x y t2,ty,pos,af,none⟩ :: rest) e h K:=
  AXp (v:= .bool r) rfl rfl (fun w=>by
    cases op <;> simp only [Au0] at hr <;> first | (injection hr with hr;subst hr;simp [execOp,hx,hy,eqGuard,binOp,Op.intCmp];done) | cases hr) H
theorem A19 {op:BinOp} {x y:Operand} {t t2:TypeId} {k:IntKind} {a b:Int} {r:Bool} (hx:e.ev x= .int k a) (hy:e.ev y= .int k b) (hr:Au0 op a b=some r)
    (HT:r=true->RL P B st ops rest (e.set d (.bool true)) h K) (HF:r=false->RL P B st ops rest (e.set d (.bool false)) h K):
    RL P B st ops (⟨some d,.binOp op t x y t2,ty,pos,af,none⟩ :: rest) e h K:=by
  refine Arw hx hy hr ?_
  cases r
  · exact HF rfl
  · exact HT rfl
theorem Aqq {x:Operand} {t:TypeId} {k:IntKind} {a:Int} (hx:e.ev x= .int k a) (H:RL P B st ops rest (e.set d (.int k (k.wrap (0 - a)))) h K):
    RL P B st ops (⟨some d,.unOp .neg t x,ty,pos,af,none⟩ :: rest) e h K:=
  AXp (v:= .int k (k.wrap (0 - a))) rfl rfl (fun w=>by simp [execOp,hx,Op.unary,Op.intArith]) H
theorem AWq {x:Operand} {t:TypeId} {b:Bool} (hx:e.ev x= .bool b) (H:RL P B st ops rest (e.set d (.bool !b)) h K):
    RL P B st ops (⟨some d,.unOp .not t x,ty,pos,af,none⟩ :: rest) e h K:=
  AXp (v:= .bool !b) rfl rfl (fun w=>by simp [execOp,hx,Op.unary]) H
theorem Aes {x:Operand} {src dst:TypeId} {k k':IntKind} {a:Int} (hs:Alh P src k') (hd:Alh P dst k) (hx:e.ev x= .int k' a) (H:RL P B st ops rest (e.set d (.int k (k.wrap a))) h K):
    RL P B st ops (⟨some d,.convert src dst x,ty,pos,af,none⟩ :: rest) e h K:=
  AXp (v:= .int k (k.wrap a)) rfl rfl (fun w=>by
    unfold Alh at hs hd
    simp [execOp,hx,convert,Adk hs,Adk hd,Conv.intToInt]) H
theorem AUb {x:Operand} {vs:Array Value} {i:Nat} {v:Value} (hx:e.ev x= .tuple vs) (hv:vs[i]? =some v) (H:RL P B st ops rest (e.set d v) h K):
    RL P B st ops (⟨some d,.extract x i,ty,pos,af,none⟩ :: rest) e h K:=
  AXp (v:=v) rfl rfl (fun w=>by simp [execOp,hx,Instr.extract,hv]) H
theorem Ayw {x i:Operand} {t el s:Nat} {a:Addr} {len cap:Nat} {k:IntKind} {n:Int} (hT:SlT P t el s) (hx:e.ev x= .slice (some a) len cap) (hi:e.ev i= .int k n) (h0:0<=n) (h1:n < len)
    (H:RL P B st ops rest (e.set d (.pointer (some (a.add (n.toNat * s))))) h K):RL P B st ops (⟨some d,.indexAddr t x i,ty,pos,af,none⟩ :: rest) e h K:=
  AXp (v:= .pointer (some (a.add (n.toNat * s)))) rfl rfl (fun w=>by
    obtain ⟨hu,i,hi',hs⟩:=hT
    simp [execOp,hx,hi,Instr.indexAt,asIntOf,Adk hu,Ag7 hi',hs,h0,h1]) H
theorem Atv {t:TypeId} (ht:NaT P t) {a:Addr} {v:Value} (w:World) (hc:AWy w.heap a=some v) (ρ:Operand->Value) (x:Operand) (hx:ρ x= .pointer (some a)) (o:Oper) (ho:o.op= .load t x):
    (execOp ρ o).run P w= .ok (.value v) w:=by
 obtain ⟨⟨d,hd,hna⟩,_⟩:=ht;have hc':w.cell? a=some v:=hc;have h2:=A0h (P:=P) hd w;rw [hna] at h2;simp [execOp,ho,Instr.loadAt,hx,Instr.sureAddr,loadVar,h2,hc']
theorem AT3 {x:Operand} {t:TypeId} {a:Addr} {v:Value} (ht:NaT P t) (hx:e.ev x= .pointer (some a)) (hc:AWy h a=some v) (H:RL P B false ops rest (e.set d v) h K):
    RL P B false ops (⟨some d,.load t x,ty,pos,af,none⟩ :: rest) e h K:=by
 show GOp P B false ops _ e h _;unfold GOp;rw [if_pos (by simp [Region.wanted])];exact ⟨v,fun w hw=>Atv ht w (by rw [hw];exact hc) _ x hx _ rfl,H⟩
theorem AU1 {x:Operand} {t:TypeId} {a:Addr} {v:Value} (ht:NaT P t) (hx:e.ev x= .pointer (some a)) (hb:B h) (hc:∀ h',B h'->AWy h' a=some v) (H:RL P B true ops rest (e.set d v) h K):
    RL P B true ops (⟨some d,.load t x,ty,pos,af,none⟩ :: rest) e h K:=by
 show GOp P B true ops _ e h _;unfold GOp;rw [if_pos (by simp [Region.wanted])];exact ⟨v,hb,fun w hw=>Atv ht w (hc _ hw) _ x hx _ rfl,H⟩
def isOne:Value->Bool
  | .agg _=>false
  | .tuple _=>false
  | _=>true
theorem Ayx {a:Addr} {v v0:Value} {w:World} (h1:isOne v=true) (hc:w.cell? a=some v0) (hf:w.frozen? a=false):(store a v).run P w= .ok () (w.setCell a v):=by
 unfold store;cases v <;> first | (simp only [Sem.run,hc,hf];rfl) | (simp [isOne] at h1)
theorem A7x {x y:Operand} {t:TypeId} {a:Addr} {v v0:Value} (ht:NaT P t) (hx:e.ev x= .pointer (some a)) (hy:e.ev y=v) (h1:isOne v=true) (hc:AWy h a=some v0) (hf:Alg h a=false)
    (H:RL P B st ops rest e (An2 h a v) K):RL P B st ops (⟨none,.store t x y,ty,pos,af,none⟩ :: rest) e h K:=by
 refine BAy rfl rfl fun w hw=>?_;subst hw;obtain ⟨_,i,hi,hsz⟩:=ht;have hc':w.cell? a=some v0:=hc;have hf':w.frozen? a=false:=hf;have hcl:v.cells= #[v]:=by cases v <;> first | rfl | cases h1
 have hrun:(execOp e.ev ⟨none,.store t x y,ty,pos,af,none⟩).run P w= .ok .skip (w.setCell a v):=by
   simp only [execOp,Instr.storeAt,hx,Instr.sureAddr,hy]
   have h2:=Ayx (P:=P) h1 hc' hf'
   simp [storeVar,Ag7 hi,hcl,hsz,storeCells,Addr.add,h2]
 rw [hrun];exact ⟨⟨rfl,rfl,rfl⟩,H⟩
theorem Ao0 {f:FuncId} (hc:Awn P f) (args:Array Value) (w:World):(callFunc f args).run P w= .ok (.enter f args) w:=by
 obtain ⟨fn,hf,hn,hb⟩:=hc;show (Sem.bind program _).run P w=_;show Sem.run P (match P.funcs[f]? with | none=>_ | some fn=>_) w=_;rw [hf];show Sem.run P (if (fn.name == "runtime.NumGoroutine")=true then _ else _) w=_;rw [if_neg (by simp [hn]),if_neg (by simp [hb])];rfl
theorem Awr {f:FuncId} {args:Array Value} {ρ:Operand->Value} {o:Oper} {K':Value->AGt->Prop} (hrun:∀ w,(execOp ρ o).run P w= .ok (.enter f args) w) (HC:ATs P f args h K'):Aiw P ρ o h K':=by
 intro w hw;rw [hrun w];exact ⟨.refl w,HC.2 w hw⟩
theorem ATd {f:FuncId} {xs:List Operand} {ts:Array TypeId} {l:List Value} {K':Value->AGt->Prop} (hb:B h) (hxs:xs.map e.ev=l) (HC:ATs P f l.toArray h K')
    (H:∀ v h',K' v h'->B h'/\RL P B st ops rest (e.set d v) h' K):RL P B st ops (⟨some d,.call ⟨.value (.func f),xs.toArray,ts⟩,ty,pos,af,none⟩ :: rest) e h K:=by
 refine Agf rfl rfl hb (Awr (f:=f) (args:=l.toArray) (fun w=>?_) (HC.mono H));have:=Ao0 HC.1 l.toArray w;simp only [execOp,resolve,List.map_toArray,hxs,Env.ev,Deferred.ofValue,pure,bind,Sem.bind,invoke,Array.append_empty,Array.empty_append];exact this
theorem Aq9 {f:FuncId} {c:Operand} {xs:List Operand} {ts:Array TypeId} {l cl:List Value} {K':Value->AGt->Prop} (hb:B h) (hc:e.ev c= .func (.func f) #[] cl.toArray) (hxs:xs.map e.ev=l) (HC:ATs P f (l ++ cl).toArray h K')
    (H:∀ v h',K' v h'->B h'/\RL P B st ops rest (e.set d v) h' K):RL P B st ops (⟨some d,.call ⟨.value c,xs.toArray,ts⟩,ty,pos,af,none⟩ :: rest) e h K:=by
  refine Agf rfl rfl hb (Awr (f:=f) (args:=(l ++ cl).toArray) (fun w=>?_) (HC.mono H));have:=Ao0 HC.1 (l ++ cl).toArray w;simp only [execOp,resolve,List.map_toArray,hxs,hc,Deferred.ofValue,pure,bind,Sem.bind,invoke,Array.empty_append,List.append_toArray];exact this
end
end Go.QF
namespace Go.QF
open Go
def Upd (S:Nat->Prop) (h h':AGt):Prop:=h.size<=h'.size/\ ∀ k,k < h.size->¬ S k->h'[k]? =h[k]?
def Ext (h h':AGt):Prop:=h.size<=h'.size/\ ∀ k,k < h.size->h'[k]? =h[k]?
theorem Ext.refl (h:AGt):Ext h h:=⟨Nat.le_refl _,fun _ _=>rfl⟩
theorem Ext.trans {a b c:AGt} (h:Ext a b) (k:Ext b c):Ext a c:=⟨Nat.le_trans h.1 k.1,fun i hi=>(k.2 i (Nat.lt_of_lt_of_le hi h.1)).trans (h.2 i hi)⟩
theorem Ext.upd {S:Nat->Prop} {a b:AGt} (h:Ext a b):Upd S a b:=⟨h.1,fun k hk _=>h.2 k hk⟩
theorem Upd.refl (S:Nat->Prop) (h:AGt):Upd S h h:=⟨Nat.le_refl _,fun _ _ _=>rfl⟩
theorem Upd.trans {S:Nat->Prop} {a b c:AGt} (h:Upd S a b) (k:Upd S b c):Upd S a c:=⟨Nat.le_trans h.1 k.1,fun i hi hs=>(k.2 i (Nat.lt_of_lt_of_le hi h.1) hs).trans (h.2 i hi hs)⟩
theorem Upd.mono {S T:Nat->Prop} {a b:AGt} (h:Upd S a b) (hST:∀ k,k < a.size->S k->T k):Upd T a b:=⟨h.1,fun k hk ht=>h.2 k hk fun hs=>ht (hST k hk hs)⟩
theorem Ext.thenUpd {S:Nat->Prop} {a b c:AGt} (h:Ext a b) (k:Upd S b c) (hS:∀ i,S i->a.size<=i):Ext a c:=
  ⟨Nat.le_trans h.1 k.1,fun i hi=>(k.2 i (Nat.lt_of_lt_of_le hi h.1) fun hs=>by have:=hS i hs;omega).trans (h.2 i hi)⟩
theorem AV0 (h:AGt) (o:Obj):Ext h (h.push o):=⟨ATv,fun k hk=>by rw [Array.getElem?_push,if_neg AGi]⟩
theorem Aho (h:AGt) (a:Addr) (v:Value):Upd (· =a.block) h (An2 h a v):=by
 refine ⟨by simp [An2],fun k hk hs=>?_⟩;simp only [An2,Array.getElem?_modify];rw [if_neg (fun he=>hs he.symm)]
theorem Aws {h:AGt} {a:Addr} {v:Value} (hc:AWy h a=some v):a.block < h.size:=by
 unfold AWy at hc;rcases Nat.lt_or_ge a.block h.size with hl | hl
 ·exact hl
 ·rw [Array.getElem?_eq_none hl] at hc;simp at hc
theorem Aqr {h h':AGt} {a:Addr} (he:h'[a.block]? =h[a.block]?):AWy h' a=AWy h a:=by unfold AWy;rw [he]
theorem ATo {h h':AGt} {a:Addr} {v:Value} (hc:AWy h a=some v) (he:Ext h h'):AWy h' a=some v:=by
 rw [Aqr (he.2 _ (Aws hc))];exact hc
theorem Atw {S:Nat->Prop} {h h':AGt} {a:Addr} {v:Value} (hc:AWy h a=some v) (he:Upd S h h') (hS: ¬ S a.block):AWy h' a=some v:=by
 rw [Aqr (he.2 _ (Aws hc) hS)];exact hc
def Sl (h:AGt) (v:Value) (l:List Value):Prop:= ∃ a cap,v= .slice a l.length cap/\ ∀ i x,l[i]? =some x-> ∃ b o,a=some ⟨b,o,none⟩/\AWy h ⟨b,o + i,none⟩=some x
theorem Sl.ext {h h':AGt} {v:Value} {l:List Value} (H:Sl h v l) (he:Ext h h'):Sl h' v l:=by
 obtain ⟨a,cap,hv,hc⟩:=H;exact ⟨a,cap,hv,fun i x hx=>let ⟨b,o,ha,hx⟩:=hc i x hx;⟨b,o,ha,ATo hx he⟩⟩
theorem Sl.upd {S:Nat->Prop} {h h':AGt} {v:Value} {l:List Value} (H:Sl h v l) (he:Upd S h h') (hS:∀ b,v.ownBlock=some b->¬ S b):Sl h' v l:=by
 obtain ⟨a,cap,hv,hc⟩:=H;refine ⟨a,cap,hv,fun i x hx=>?_⟩;obtain ⟨b,o,ha,hx⟩:=hc i x hx;exact ⟨b,o,ha,Atw hx he (hS b (by subst hv;subst ha;rfl))⟩
theorem A30 (h:AGt):Sl h (.slice none 0 0) []:=⟨none,0,rfl,fun i x hx=>by simp at hx⟩
theorem Sl.pre {h:AGt} {a:Option Addr} {n cap:Nat} {l:List Value} (H:Sl h (.slice a n cap) l) (k:Nat) (hk:k<=l.length) (cap':Nat):Sl h (.slice a k cap') (l.take k):=by
  obtain ⟨a',c',hv,hc⟩:=H;injection hv with ha hl hcap;subst ha;refine ⟨a,cap',by simp [Nat.min_eq_left hk],fun i x hx=>hc i x ?_⟩;rw [List.getElem?_take] at hx
  split at hx
  · exact hx
  · cases hx
def Ayy (h:AGt) (v:Value) (zs:List Int):Prop:=Sl h v (zs.map (.int .i64))
def Mat (h:AGt) (v:Value) (M:List (List Int)):Prop:= ∃ rs:List Value,Sl h v rs/\rs.length=M.length/\ ∀ (i:Nat) (r:Value) (z:List Int),rs[i]? =some r->M[i]? =some z->Sl h r (z.map (.int .i64))
theorem Mat.ext {h h':AGt} {v:Value} {M:List (List Int)} (H:Mat h v M) (he:Ext h h'):Mat h' v M:=by
 obtain ⟨rs,h1,h2,h3⟩:=H;exact ⟨rs,h1.ext he,h2,fun i r z hr hz=>(h3 i r z hr hz).ext he⟩
theorem Mat.row {h:AGt} {v:Value} {M:List (List Int)} (H:Mat h v M) {i:Nat} {z:List Int} (hz:M[i]? =some z):∃ r,(∃ rs,Sl h v rs/\rs[i]? =some r)/\Sl h r (z.map (.int .i64)):=by
 obtain ⟨rs,h1,h2,h3⟩:=H;have hi:i < rs.length:=by have:=(List.getElem?_eq_some_iff.1 hz).1;omega
 exact ⟨rs[i],⟨rs,h1,List.getElem?_eq_getElem hi⟩,h3 i _ z (List.getElem?_eq_getElem hi) hz⟩
theorem Mat.len {h:AGt} {v:Value} {M:List (List Int)} (H:Mat h v M):∃ a cap,v= .slice a M.length cap:=by
 obtain ⟨rs,⟨a,cap,hv,_⟩,h2,_⟩:=H;exact ⟨a,cap,by rw [hv,h2]⟩
def AV5 (h:AGt) (el g:Nat) (v:Value) (l:List Value):Prop:=
  ∃ cap cur,v= .slice (some ⟨g,0,none⟩) l.length cap/\h[g]? =some (.cells cur el (0,0))/\l.length<=cap/\cap<=maxLen/\cur.size=cap/\cur.toList.take l.length=l
theorem AV5.lt {h:AGt} {el g:Nat} {v:Value} {l:List Value} (H:AV5 h el g v l):g < h.size:=by
 obtain ⟨cap,cur,_,hg,_⟩:=H;exact (Array.getElem?_eq_some_iff.1 hg).1
theorem AV5.blk {h:AGt} {el g:Nat} {v:Value} {l:List Value} (H:AV5 h el g v l):v.ownBlock=some g:=by
 obtain ⟨cap,cur,rfl,_⟩:=H;rfl
theorem AV5.one {h:AGt} {el g:Nat} {v:Value} {l:List Value} (H:AV5 h el g v l):isOne v=true:=by
 obtain ⟨cap,cur,rfl,_⟩:=H;rfl
theorem AV5.cell {h:AGt} {el g:Nat} {v:Value} {l:List Value} (H:AV5 h el g v l) {i:Nat} {x:Value} (hx:l[i]? =some x):AWy h ⟨g,i,none⟩=some x:=by
 obtain ⟨cap,cur,_,hg,_,_,_,ht⟩:=H;have hi:=(List.getElem?_eq_some_iff.1 hx).1;simp only [AWy,hg];rw [<- ht,List.getElem?_take,if_pos hi] at hx;simpa using hx
theorem AV5.free {h:AGt} {el g:Nat} {v:Value} {l:List Value} (H:AV5 h el g v l) (i:Nat):Alg h ⟨g,i,none⟩=false:=by
 obtain ⟨cap,cur,_,hg,_⟩:=H;simp [Alg,hg]
theorem AV5.sl {h:AGt} {el g:Nat} {v:Value} {l:List Value} (H:AV5 h el g v l):Sl h v l:=by
 have H':=H;obtain ⟨cap,cur,hv,_⟩:=H;exact ⟨_,cap,hv,fun i x hx=>⟨g,0,rfl,by rw [Nat.zero_add];exact H'.cell hx⟩⟩
theorem AV5.congr {h h':AGt} {el g:Nat} {v:Value} {l:List Value} (H:AV5 h el g v l) (he:h'[g]? =h[g]?):AV5 h' el g v l:=by
 obtain ⟨cap,cur,hv,hg,r⟩:=H;exact ⟨cap,cur,hv,he.trans hg,r⟩
theorem AV5.ext {h h':AGt} {el g:Nat} {v:Value} {l:List Value} (H:AV5 h el g v l) (he:Ext h h'):AV5 h' el g v l:=H.congr (he.2 g H.lt)
theorem AV5.upd {S:Nat->Prop} {h h':AGt} {el g:Nat} {v:Value} {l:List Value} (H:AV5 h el g v l) (he:Upd S h h') (hS: ¬ S g):AV5 h' el g v l:=H.congr (he.2 g H.lt hS)
theorem AV5.set {h:AGt} {el g:Nat} {v:Value} {l:List Value} (H:AV5 h el g v l) (i:Nat) (y:Value) (hi:i < l.length):AV5 (An2 h ⟨g,i,none⟩ y) el g v (l.set i y):=by
 obtain ⟨cap,cur,hv,hg,hl,hm,hs,ht⟩:=H;refine ⟨cap,cur.setIfInBounds i y,by rw [List.length_set];exact hv,?_,by rw [List.length_set];exact hl,hm,by simp [hs],?_⟩
 ·simp only [An2,Array.getElem?_modify,if_true,hg,Option.map_some];rfl
 ·rw [List.length_set,Array.toList_setIfInBounds,List.take_set,ht]
theorem Ams (h:AGt) (el n:Nat) (z:Value) (hm:n<=maxLen):AV5 (h.push (.cells (List.replicate n z).toArray el (0,0))) el h.size (.slice (some ⟨h.size,0,none⟩) n n) (List.replicate n z):=
  ⟨n,(List.replicate n z).toArray,ATv,ATv,ATv,hm,ATv,ATv⟩
theorem Arx (h:AGt) (el:Nat) (l:List Value) (hm:l.length<=maxLen):AV5 (h.push (.cells l.toArray el (0,0))) el h.size (.slice (some ⟨h.size,0,none⟩) l.length l.length) l:=
  ⟨l.length,l.toArray,rfl,ATv,Nat.le_refl _,hm,ATv,ATv⟩
theorem Aof {l:List Nat} (hn:l.Nodup) {i j g:Nat} (hi:l[i]? =some g) (hj:l[j]? =some g):i=j:=by
 obtain ⟨Aa,Ab⟩:=List.getElem?_eq_some_iff.1 hi;obtain ⟨Ac,Ad⟩:=List.getElem?_eq_some_iff.1 hj;have hp:=List.pairwise_iff_getElem.1 hn;rcases Nat.lt_trichotomy i j with h | h | h
 ·exact absurd (Ab.trans Ad.symm) (hp i j Aa Ac h)
 ·exact h
 ·exact absurd (Ad.trans Ab.symm) (hp j i Ac Aa h)
section
variable {P:Program} {B:AGt->Prop} {st:Bool} {ops:Array Oper} {rest:List Oper} {e:Env} {h:AGt} {K:Env->AGt->Prop}
variable {d:Nat} {ty:TypeId} {pos:String} {af:Array Edge}
theorem AXq (b o i:Nat):(⟨b,o,none⟩:Addr).add i=⟨b,o + i,none⟩:=by
 unfold Addr.add;split
 ·rename_i hi;subst hi;rfl
 ·rfl
theorem Ary {x i:Operand} {t el:Nat} {v u:Value} {l:List Value} {k:IntKind} {n:Nat} (hT:SlT P t el 1) (hx:e.ev x=v) (HS:Sl h v l) (hi:e.ev i= .int k (n:Int)) (hu:l[n]? =some u)
    (H:∀ a,AWy h a=some u->RL P B st ops rest (e.set d (.pointer (some a))) h K):RL P B st ops (⟨some d,.indexAddr t x i,ty,pos,af,none⟩ :: rest) e h K:=by
  obtain ⟨a,cap,rfl,hc⟩:=HS;obtain ⟨b,o,rfl,hcu⟩:=hc n u hu;have hn:=(List.getElem?_eq_some_iff.1 hu).1;refine Ayw hT hx hi AGi AGi ?_;have he:(⟨b,o,none⟩:Addr).add ((n:Int).toNat * 1)=⟨b,o + n,none⟩:=by rw [AXq];simp
  rw [he];exact H _ hcu
theorem Akt {x i:Operand} {t el g er:Nat} {v:Value} {l:List Value} {k:IntKind} {n:Nat} (hT:SlT P t el 1) (hx:e.ev x=v) (HO:AV5 h er g v l) (hi:e.ev i= .int k (n:Int)) (hn:n < l.length)
    (H:RL P B st ops rest (e.set d (.pointer (some ⟨g,n,none⟩))) h K):RL P B st ops (⟨some d,.indexAddr t x i,ty,pos,af,none⟩ :: rest) e h K:=by
  obtain ⟨cap,cur,rfl,_⟩:=HO;refine Ayw hT hx hi AGi AGi ?_;have he:(⟨g,0,none⟩:Addr).add ((n:Int).toNat * 1)=⟨g,n,none⟩:=by rw [AXq];simp
  rw [he];exact H
theorem A31 {x y:Operand} {t g er n:Nat} {v u:Value} {l:List Value} (ht:NaT P t) (hx:e.ev x= .pointer (some ⟨g,n,none⟩)) (hy:e.ev y=u) (h1:isOne u=true) (HO:AV5 h er g v l) (hn:n < l.length)
    (H:RL P B st ops rest e (An2 h ⟨g,n,none⟩ u) K):RL P B st ops (⟨none,.store t x y,ty,pos,af,none⟩ :: rest) e h K:=
  A7x ht hx hy h1 (HO.cell (List.getElem?_eq_getElem hn)) (HO.free n) H
theorem Ab5 {x:Operand} {t t2:TypeId} {i:Nat} (hx:e.ev x= .int .i64 (i:Int)) (hi:i < 4611686018427387904) (H:RL P B st ops rest (e.set d (.int .i64 ((i + 1:Nat):Int))) h K):
    RL P B st ops (⟨some d,.binOp .add t x (.const (.int .i64 1)) t2,ty,pos,af,none⟩ :: rest) e h K:=by
  refine ATk hx rfl ?_;have:IntKind.i64.wrap ((i:Int) + 1)=((i + 1:Nat):Int):=by rw [IntKind.wrap_i64];omega
  rw [this];exact H
theorem Au1 {x y:Operand} {t t2:TypeId} {a b:Int} (hx:e.ev x= .int .i64 a) (hy:e.ev y= .int .i64 b) (h0: -9223372036854775808<=a + b) (h1:a + b<=9223372036854775807) (H:RL P B st ops rest (e.set d (.int .i64 (a + b))) h K):
    RL P B st ops (⟨some d,.binOp .add t x y t2,ty,pos,af,none⟩ :: rest) e h K:=by
 refine ATk hx hy ?_;have:IntKind.i64.wrap (a + b)=a + b:=by rw [IntKind.wrap_i64];omega
 rw [this];exact H
theorem Aet {x y:Operand} {t t2:TypeId} {a b:Int} (hx:e.ev x= .int .i64 a) (hy:e.ev y= .int .i64 b) (h0: -9223372036854775808<=a - b) (h1:a - b<=9223372036854775807) (H:RL P B st ops rest (e.set d (.int .i64 (a - b))) h K):
    RL P B st ops (⟨some d,.binOp .sub t x y t2,ty,pos,af,none⟩ :: rest) e h K:=by
 refine AVd hx hy ?_;have:IntKind.i64.wrap (a - b)=a - b:=by rw [IntKind.wrap_i64];omega
 rw [this];exact H
theorem Agg {x y:Operand} {t t2:TypeId} {a b:Int} (hx:e.ev x= .int .i64 a) (hy:e.ev y= .int .i64 b) (h0: -9223372036854775808<=a * b) (h1:a * b<=9223372036854775807) (H:RL P B st ops rest (e.set d (.int .i64 (a * b))) h K):
    RL P B st ops (⟨some d,.binOp .mul t x y t2,ty,pos,af,none⟩ :: rest) e h K:=by
 refine AZe hx hy ?_;have:IntKind.i64.wrap (a * b)=a * b:=by rw [IntKind.wrap_i64];omega
 rw [this];exact H
theorem Aog {x y:Operand} {t t2:TypeId} {k:IntKind} {a b:Int} (hx:e.ev x= .int k a) (hy:e.ev y= .int k b) (ha:0<=a) (hb:0 < b) (H:RL P B st ops rest (e.set d (.int k (a % b))) h K):
    RL P B st ops (⟨some d,.binOp .rem t x y t2,ty,pos,af,none⟩ :: rest) e h K:=by
 refine Acw hx hy AGi ?_;rw [Int.tmod_eq_emod_of_nonneg ha];exact H
theorem Au2 {x y:Operand} {t t2:TypeId} {a b:Int} (hx:e.ev x= .int .i64 a) (hy:e.ev y= .int .i64 b) (ha:0<=a) (Ac:a<=9223372036854775807) (hb:0 < b) (H:RL P B st ops rest (e.set d (.int .i64 (a / b))) h K):
    RL P B st ops (⟨some d,.binOp .quo t x y t2,ty,pos,af,none⟩ :: rest) e h K:=by
 refine Amr hx hy AGi ?_;have h1:a.tdiv b=a / b:=Int.tdiv_eq_ediv_of_nonneg ha;have h2:a / b<=a:=Int.ediv_le_self _ ha;have h3:0<=a / b:=Int.ediv_nonneg ha AGi;have:IntKind.i64.wrap (a.tdiv b)=a / b:=by rw [h1,IntKind.wrap_i64];omega
 rw [this];exact H
theorem AXh {x y:Operand} {t t2:TypeId} {k:IntKind} {a b:Int} (hx:e.ev x= .int k a) (hy:e.ev y= .int k b)
    (HT:a < b->RL P B st ops rest (e.set d (.bool true)) h K) (HF:b<=a->RL P B st ops rest (e.set d (.bool false)) h K):RL P B st ops (⟨some d,.binOp .lss t x y t2,ty,pos,af,none⟩ :: rest) e h K:=
  A19 hx hy rfl (fun hc=>HT (by simpa using hc)) (fun hc=>HF (by simpa using hc))
theorem Amt {x y:Operand} {t t2:TypeId} {k:IntKind} {a b:Int} (hx:e.ev x= .int k a) (hy:e.ev y= .int k b)
    (HT:a<=b->RL P B st ops rest (e.set d (.bool true)) h K) (HF:b < a->RL P B st ops rest (e.set d (.bool false)) h K):RL P B st ops (⟨some d,.binOp .leq t x y t2,ty,pos,af,none⟩ :: rest) e h K:=
  A19 hx hy rfl (fun hc=>HT (by simpa using hc)) (fun hc=>HF (by simpa using hc))
theorem Aju {x y:Operand} {t t2:TypeId} {k:IntKind} {a b:Int} (hx:e.ev x= .int k a) (hy:e.ev y= .int k b)
    (HT:b < a->RL P B st ops rest (e.set d (.bool true)) h K) (HF:a<=b->RL P B st ops rest (e.set d (.bool false)) h K):RL P B st ops (⟨some d,.binOp .gtr t x y t2,ty,pos,af,none⟩ :: rest) e h K:=
  A19 hx hy rfl (fun hc=>HT (by simpa using hc)) (fun hc=>HF (by simpa using hc))
theorem Amu {x y:Operand} {t t2:TypeId} {k:IntKind} {a b:Int} (hx:e.ev x= .int k a) (hy:e.ev y= .int k b)
    (HT:b<=a->RL P B st ops rest (e.set d (.bool true)) h K) (HF:a < b->RL P B st ops rest (e.set d (.bool false)) h K):RL P B st ops (⟨some d,.binOp .geq t x y t2,ty,pos,af,none⟩ :: rest) e h K:=
  A19 hx hy rfl (fun hc=>HT (by simpa using hc)) (fun hc=>HF (by simpa using hc))
theorem Ama {x y:Operand} {t t2:TypeId} {k:IntKind} {a b:Int} (hx:e.ev x= .int k a) (hy:e.ev y= .int k b)
    (HT:a=b->RL P B st ops rest (e.set d (.bool true)) h K) (HF:a≠b->RL P B st ops rest (e.set d (.bool false)) h K):RL P B st ops (⟨some d,.binOp .eql t x y t2,ty,pos,af,none⟩ :: rest) e h K:=
  A19 hx hy rfl (fun hc=>HT (by simpa using hc)) (fun hc=>HF (by simpa using hc))
theorem Awt {x y:Operand} {t t2:TypeId} {k:IntKind} {a b:Int} (hx:e.ev x= .int k a) (hy:e.ev y= .int k b)
    (HT:a≠b->RL P B st ops rest (e.set d (.bool true)) h K) (HF:a=b->RL P B st ops rest (e.set d (.bool false)) h K):RL P B st ops (⟨some d,.binOp .neq t x y t2,ty,pos,af,none⟩ :: rest) e h K:=
  A19 hx hy rfl (fun hc=>HT (by simpa using hc)) (fun hc=>HF (by simpa using hc))
theorem An7 (z:Value) (h1:isOne z=true) (n:Nat):madeCells z.cells n=(List.replicate n z).toArray:=by
 have:z.cells= #[z]:=by cases z <;> first | rfl | cases h1
 rw [this];apply Array.ext
 ·simp [madeCells]
 ·intro i h1 h2;simp [madeCells,Nat.mod_one]
theorem A32 {x y:Operand} {t el n bytes:Nat} {z:Value} (hT:SlT P t el 1) (hz:ZeT P el z bytes) (h1:isOne z=true) (hb:B h) (hx:e.ev x= .int .i64 (n:Int)) (hy:e.ev y= .int .i64 (n:Int)) (hn:bytes * n<=281474976710656) (Ad:n<=281474976710656)
    (H:B (h.push (.cells (List.replicate n z).toArray el (0,0)))/\RL P B st ops rest (e.set d (.slice (some ⟨h.size,0,none⟩) n n)) (h.push (.cells (List.replicate n z).toArray el (0,0))) K):
    RL P B st ops (⟨some d,.makeSlice t x y,ty,pos,af,none⟩ :: rest) e h K:=by
 refine Agf rfl rfl hb fun w hw=>?_;subst hw;obtain ⟨hu,i0,Aa,Ac⟩:=hT;obtain ⟨i,hi,hzz,hsz,hby⟩:=hz;rw [hi] at Aa;injection Aa with Aa;subst Aa;have hr:=run_make (P:=P) w t el i z hu hi hzz .i64 .i64 (n:Int) (n:Int) AGi AGi (by rw [hby];omega) AGi
 have:(execOp e.ev ⟨some d,.makeSlice t x y,ty,pos,af,none⟩).run P w= .ok (.value (.slice (some ⟨w.heap.size,0,none⟩) n n)) (w.alloc (.cells (List.replicate n z).toArray el)):=by
   simp only [execOp,hx,hy]
   simp only [Int.toNat_natCast,Ac,Nat.mul_one,An7 z h1] at hr
   simp [hr]
 rw [this];exact ⟨⟨rfl,rfl,rfl⟩,H⟩
theorem A99 {s x:Operand} {t el g bytes:Nat} {z v xv:Value} {l news:List Value} (hT:SlT P t el 1) (hz:ZeT P el z bytes) (h1:isOne z=true) (hb:B h) (hs:e.ev s=v) (HO:AV5 h el g v l) (hx:e.ev x=xv) (HX:Sl h xv news) (hone:∀ u∈news,isOne u=true)
    (hn0:news≠[]) (hlen:(l.length + news.length) * bytes<=140737488355328) (hlen2:l.length + news.length<=140737488355328)
    (H:∀ v' g' h',AV5 h' el g' v' (l ++ news)->(g'=g∨g'=h.size)->Upd (· =g) h h'->B h'/\RL P B st ops rest (e.set d v') h' K):
    RL P B st ops (⟨some d,.call ⟨.builtin .append,#[s,x],#[t,t]⟩,ty,pos,af,none⟩ :: rest) e h K:=by
  refine Agf rfl rfl hb fun w hw=>?_;subst hw;obtain ⟨hu,i0,hi0,hs0⟩:=hT;obtain ⟨i,hi,hzz,hsz,hby⟩:=hz;rw [hi] at hi0;injection hi0 with hi0;subst hi0;have HO':=HO;obtain ⟨cap,cur,rfl,hg,hlc,hcm,hcs,ht⟩:=HO;obtain ⟨xa,xc,rfl,hxc⟩:=HX;obtain ⟨u0,hu0⟩:∃ u,news[0]? =some u:=by cases news with | nil=>exact absurd rfl hn0 | cons a l=>exact ⟨a,rfl⟩
  obtain ⟨xb,xo,rfl,_⟩:=hxc 0 u0 hu0
  have hnews:∀ j u,news[j]? =some u->w.cell? ((⟨xb,xo,none⟩:Addr).add j)=some u:=fun j u hu'=>by
    obtain ⟨b,o,ha,hc⟩:=hxc j u hu';injection ha with ha;injection ha with h1 h2;subst h1;subst h2;rw [AXq];exact hc
  have hone':∀ u∈news,u.oneCell'=true:=fun u hu'=>by have:=hone u hu';cases u <;> first | rfl | cases this
  have hown:w.ownsRow 0 el 1 (.slice (some ⟨g,0,none⟩) l.length cap) l.length l:=
    ⟨ATv,.inr ⟨g,cap,cur,rfl,Nat.zero_le _,hg,hlc,hcm,by simp [hcs],by simpa using ht⟩⟩
  have hzs:z.cells.size=1:=by cases z <;> first | rfl | cases h1
  by_cases hroom:l.length + news.length<=cap
  · have hr:=run_append_room (P:=P) w t ty el i hu hi g l.length cap cur hg ⟨xb,xo,none⟩ news.length xc news (by simp [hs0]) hnews hone' hroom (by simp [hs0,hcs];omega)
    have hrun:(execOp e.ev ⟨some d,.call ⟨.builtin .append,#[s,x],#[t,t]⟩,ty,pos,af,none⟩).run P w= .ok (.value (.slice (some ⟨g,0,none⟩) (l.length + news.length) cap)) (w.setRow g (cur.toList.take (l.length * i.size) ++ news ++ cur.toList.drop (l.length * i.size + news.length)).toArray):=by
      simp [execOp,resolve,invoke,builtin,hs,hx,hr]
    rw [hrun]
    refine ⟨⟨rfl,rfl,rfl⟩,H _ g _ ?_ (.inl rfl) ?_⟩
    · refine ⟨cap,_,ATv,setRow_heap w g cur _ el (0,0) hg,by simpa using hroom,hcm,?_,?_⟩
      · simp only [hs0,Nat.mul_one,List.size_toArray,List.length_append,List.length_take,List.length_drop,Array.length_toList,hcs];omega
      · simp only [hs0,Nat.mul_one,ht];exact List.take_left
    · exact ⟨by simp [World.setRow],fun k hk hne=>setRow_other w g k _ (fun he=>hne he)⟩
  · have hr:=run_append_grow (P:=P) w t ty el i z hu hi hzz ⟨g,0,none⟩ l.length cap l (by simp [hs0]) (fun j u hu'=>by rw [AXq,Nat.zero_add];exact HO'.cell hu') ⟨xb,xo,none⟩ news.length xc news (by simp [hs0]) hnews AGi
      AGi (by rw [hby];exact growslice_fits AGi hlen)
    have hrun:(execOp e.ev ⟨some d,.call ⟨.builtin .append,#[s,x],#[t,t]⟩,ty,pos,af,none⟩).run P w= .ok (.value (.slice (some ⟨w.heap.size,0,none⟩) (l.length + news.length) (grownCap w (l.length + news.length) cap el)))
        (w.drew.alloc (.cells (l.toArray ++ news.toArray ++ Builtin.zeroCells z.cells (grownCap w (l.length + news.length) cap el - (l.length + news.length))) el)):=by
      simp [execOp,resolve,invoke,builtin,hs,hx,hr]
    rw [hrun];have hge:=grownCap_ge w (l.length + news.length) cap el;have hcm':grownCap w (l.length + news.length) cap el<=maxLen:=grownCap_le_maxLen w _ _ el (by unfold maxLen;omega)
    refine ⟨⟨rfl,rfl,rfl⟩,H _ w.heap.size _ ?_ (.inr rfl) ?_⟩
    · refine ⟨_,_,ATv,heap_alloc_new w.drew _,by simpa using hge,hcm',?_,?_⟩
      · simp [size_zeroCells,hzs];omega
      · simp only [Array.toList_append,List.append_assoc];rw [<- List.append_assoc];exact List.take_left
    · exact (Ext.upd ⟨ATv,fun k hk=>heap_alloc_old w.drew _ k hk⟩)
theorem A33 {s x:Operand} {t el bytes:Nat} {z xv:Value} {news:List Value} (hT:SlT P t el 1) (hz:ZeT P el z bytes) (h1:isOne z=true) (hb:B h) (hs:e.ev s= .slice none 0 0) (hx:e.ev x=xv) (HX:Sl h xv news) (hone:∀ u∈news,isOne u=true)
    (hn0:news≠[]) (hlen:news.length * bytes<=140737488355328) (hlen2:news.length<=140737488355328)
    (H:∀ v' h',AV5 h' el h.size v' news->Ext h h'->B h'/\RL P B st ops rest (e.set d v') h' K):
    RL P B st ops (⟨some d,.call ⟨.builtin .append,#[s,x],#[t,t]⟩,ty,pos,af,none⟩ :: rest) e h K:=by
  refine Agf rfl rfl hb fun w hw=>?_;subst hw;obtain ⟨hu,i0,hi0,hs0⟩:=hT;obtain ⟨i,hi,hzz,hsz,hby⟩:=hz;rw [hi] at hi0;injection hi0 with hi0;subst hi0;obtain ⟨xa,xc,rfl,hxc⟩:=HX;obtain ⟨u0,hu0⟩:∃ u,news[0]? =some u:=by cases news with | nil=>exact absurd rfl hn0 | cons a l=>exact ⟨a,rfl⟩
  obtain ⟨xb,xo,rfl,_⟩:=hxc 0 u0 hu0
  have hnews:∀ j u,news[j]? =some u->w.cell? ((⟨xb,xo,none⟩:Addr).add j)=some u:=fun j u hu'=>by
    obtain ⟨b,o,ha,hc⟩:=hxc j u hu';injection ha with ha;injection ha with h1 h2;subst h1;subst h2;rw [AXq];exact hc
  have hpos:0 < news.length:=(List.getElem?_eq_some_iff.1 hu0).1;have hzs:z.cells.size=1:=by cases z <;> first | rfl | cases h1
  have hr:=run_append_nil (P:=P) w t ty el i z hu hi hzz ⟨xb,xo,none⟩ news.length xc news (by simp [hs0]) hnews hpos AGi (by rw [hby];omega)
  have hrun:(execOp e.ev ⟨some d,.call ⟨.builtin .append,#[s,x],#[t,t]⟩,ty,pos,af,none⟩).run P w= .ok (.value (.slice (some ⟨w.heap.size,0,none⟩) news.length (grownCap w news.length 0 el)))
      (w.drew.alloc (.cells (news.toArray ++ Builtin.zeroCells z.cells (grownCap w news.length 0 el - news.length)) el)):=by
    simp [execOp,resolve,invoke,builtin,hs,hx,hr]
  rw [hrun];have hge:=grownCap_ge w news.length 0 el;have hcm':grownCap w news.length 0 el<=maxLen:=grownCap_le_maxLen w _ _ el (by unfold maxLen;omega);refine ⟨⟨rfl,rfl,rfl⟩,H _ _ ?_ ⟨ATv,fun k hk=>heap_alloc_old w.drew _ k hk⟩⟩
  refine ⟨_,_,rfl,heap_alloc_new w.drew _,hge,hcm',?_,?_⟩
  · simp [size_zeroCells,hzs];omega
  · simp only [Array.toList_append];exact List.take_left
theorem Amv {x i:Operand} {t el:Nat} {v:Value} {M:List (List Int)} {z:List Int} {k:IntKind} {n:Nat} (hT:SlT P t el 1) (hx:e.ev x=v) (HM:Mat h v M) (hi:e.ev i= .int k (n:Int)) (hz:M[n]? =some z)
    (H:∀ a r,AWy h a=some r->Ayy h r z->RL P B st ops rest (e.set d (.pointer (some a))) h K):RL P B st ops (⟨some d,.indexAddr t x i,ty,pos,af,none⟩ :: rest) e h K:=by
 obtain ⟨r,⟨rs,h1,h2⟩,h3⟩:=HM.row hz;exact Ary hT hx h1 hi h2 fun a ha=>H a r ha h3
theorem Aku {x i:Operand} {t el:Nat} {v:Value} {zs:List Int} {z:Int} {k:IntKind} {n:Nat} (hT:SlT P t el 1) (hx:e.ev x=v) (HI:Ayy h v zs) (hi:e.ev i= .int k (n:Int)) (hz:zs[n]? =some z)
    (H:∀ a,AWy h a=some (.int .i64 z)->RL P B st ops rest (e.set d (.pointer (some a))) h K):RL P B st ops (⟨some d,.indexAddr t x i,ty,pos,af,none⟩ :: rest) e h K:=
  Ary hT hx HI hi (by rw [List.getElem?_map,hz];rfl) H
theorem Ap0 {x:Operand} {t el s:Nat} {v:Value} {M:List (List Int)} (hT:SlT P t el s) (hx:e.ev x=v) (HM:Mat h v M) (H:RL P B st ops rest (e.set d (.int .i64 (M.length:Int))) h K):
    RL P B st ops (⟨some d,.call ⟨.builtin .len,#[x],#[t]⟩,ty,pos,af,none⟩ :: rest) e h K:=by
 obtain ⟨a,cap,rfl⟩:=HM.len;exact Amq hT hx H
theorem A34 {x:Operand} {t el s:Nat} {v:Value} {zs:List Int} (hT:SlT P t el s) (hx:e.ev x=v) (HI:Ayy h v zs) (H:RL P B st ops rest (e.set d (.int .i64 (zs.length:Int))) h K):
    RL P B st ops (⟨some d,.call ⟨.builtin .len,#[x],#[t]⟩,ty,pos,af,none⟩ :: rest) e h K:=by
 obtain ⟨a,cap,rfl,_⟩:=HI;rw [List.length_map] at hx;exact Amq hT hx H
theorem Aoh {x:Operand} {t el s:Nat} {v:Value} {l:List Value} (hT:SlT P t el s) (hx:e.ev x=v) (HI:Sl h v l) (H:RL P B st ops rest (e.set d (.int .i64 (l.length:Int))) h K):
    RL P B st ops (⟨some d,.call ⟨.builtin .len,#[x],#[t]⟩,ty,pos,af,none⟩ :: rest) e h K:=by
 obtain ⟨a,cap,rfl,_⟩:=HI;exact Amq hT hx H
end
theorem Ayy.ext {h h':AGt} {v:Value} {zs:List Int} (H:Ayy h v zs) (he:Ext h h'):Ayy h' v zs:=Sl.ext H he
end Go.QF
namespace Go.QF
open Go
theorem Aiy {P:Program} {t el s:Nat} (hu:P.underlying t=some (.slice el)) (hi:(P.info? el).map (·.size)=some s):SlT P t el s:=by
 refine ⟨hu,?_⟩
 cases h:P.info? el with
 | none=>rw [h] at hi;cases hi
 | some i=>rw [h] at hi;exact ⟨i,rfl,by simpa using hi⟩
theorem Ah7 {P:Program} {t:Nat} {d:TypeDesc} (hu:P.underlying t=some d) (hd:Apz d=false) (hi:(P.info? t).map (·.size)=some 1):NaT P t:=by
 refine ⟨⟨d,hu,hd⟩,?_⟩
 cases h:P.info? t with
 | none=>rw [h] at hi;cases hi
 | some i=>rw [h] at hi;exact ⟨i,rfl,by simpa using hi⟩
theorem Amw {P:Program} {t s:Nat} {d:TypeDesc} (hu:P.underlying t=some d) (hd:Apz d=true) (hi:(P.info? t).map (·.size)=some s):AgT P t s:=by
 refine ⟨⟨d,hu,hd⟩,?_⟩
 cases h:P.info? t with
 | none=>rw [h] at hi;cases hi
 | some i=>rw [h] at hi;exact ⟨i,rfl,by simpa using hi⟩
theorem Ah8 {P:Program} {t bytes:Nat} {z:Value} (hi:(P.info? t).map (fun i=>(i.zero,i.size,i.bytes))=some (some z,z.cells.size,bytes)):ZeT P t z bytes:=by
 cases h:P.info? t with
 | none=>rw [h] at hi;cases hi
 | some i=>
   rw [h] at hi
   simp only [Option.map_some,Option.some.injEq,Prod.mk.injEq] at hi
   exact ⟨i,h,hi.1,hi.2.1,hi.2.2⟩
def partsOf:Nat->List Value->List (Nat × Value)
  | _,[]=>[]
  | k,v :: l=>(k,v) :: partsOf (k + 1) l
theorem Atx {v:Value} (h1:isOne v=true):v.cells= #[v]:=by cases v <;> first | rfl | cases h1
theorem Ayz (l:List Value):∀ (pre old:List Value),(∀ u∈l,isOne u=true)->old.length=l.length->
    Instr.fill (fun i=>some (i * 1,1)) (pre ++ old).toArray (partsOf pre.length l)=some (pre ++ l).toArray:=by
 induction l with
 | nil=>
   intro pre old _ ho
   obtain rfl:old=[]:=List.eq_nil_of_length_eq_zero ho
   simp [partsOf,Instr.fill]
 | cons v l ih=>
   intro pre old h1 ho
   cases old with
   | nil=>simp at ho
   | cons o old=>
     have hc:=Atx (h1 v (List.mem_cons_self ..))
     simp only [partsOf,Instr.fill,hc]
     have hs: ¬ ((#[v].size≠1 || decide (pre.length * 1 + #[v].size > (pre ++ o :: old).toArray.size))=true):=by simp
     rw [if_neg hs]
     have hset:(#[v].zipIdx.foldl (fun cs (x:Value × Nat)=>cs.setIfInBounds (pre.length * 1 + x.2) x.1) (pre ++ o :: old).toArray)=((pre ++ [v]) ++ old).toArray:=by
       simp
     have:=ih (pre ++ [v]) old (fun u hu=>h1 u (List.mem_cons_of_mem _ hu)) (by simpa using ho)
     simp only [List.length_append,List.length_cons,List.length_nil,Nat.zero_add] at this
     rw [show pre ++ v :: l=pre ++ [v] ++ l by simp]
     rw [<- this]
     congr 1
section
variable {P:Program} {B:AGt->Prop} {st:Bool} {ops:Array Oper} {rest:List Oper} {e:Env} {h:AGt} {K:Env->AGt->Prop}
variable {d:Nat} {ty:TypeId} {pos:String} {af:Array Edge}
theorem A35 {t el bytes n:Nat} {z:Value} {parts:List (Nat × Operand)} (l:List Value) (hT:SlT P t el 1) (hz:ZeT P el z bytes) (h1:isOne z=true) (hb:B h) (hn:l.length=n) (hn2:n<=16777216) (hpos:0 < n) (hp:(parts.map fun (i,x)=>(i,e.ev x))=partsOf 0 l)
    (hone:∀ u∈l,isOne u=true) (H:B (h.push (.cells l.toArray el (0,0)))/\RL P B st ops rest (e.set d (.slice (some ⟨h.size,0,none⟩) n n)) (h.push (.cells l.toArray el (0,0))) K):
    RL P B st ops (⟨some d,.buildSlice t n parts.toArray,ty,pos,af,none⟩ :: rest) e h K:=by
  refine Agf rfl rfl hb fun w hw=>?_;subst hw;obtain ⟨hu,i0,hi0,hs0⟩:=hT;obtain ⟨i,hi,hzz,hsz,hby⟩:=hz;rw [hi] at hi0;injection hi0 with hi0;subst hi0;have hf:=Ayz l [] (List.replicate n z) hone (by simp [hn]);simp only [List.nil_append,List.length_nil,Nat.mul_one] at hf;have hmade:(Array.range n).map (fun x=>z.cells[x % z.cells.size]!)=(List.replicate n z).toArray:=An7 z h1 n;have hne: ¬ n=0:=by omega
  have:(execOp e.ev ⟨some d,.buildSlice t n parts.toArray,ty,pos,af,none⟩).run P w= .ok (.value (.slice (some ⟨w.heap.size,0,none⟩) n n)) (w.alloc (.cells l.toArray el)):=by
    simp only [execOp,List.map_toArray];rw [hp];have h3: ¬ (n * i.size > 2 ^ 24):=by rw [hs0];omega
    have h4: ¬ (n * i.size=0):=by rw [hs0];omega
    simp only [Instr.buildSlice,Sem.run_bind,Adk hu,Result.andThen,Ag7 hi,if_neg h3,if_neg h4,Awq hi hzz];have hp1:Sem.run P (pure z.cells:Sem (Array Value)) w= .ok z.cells w:=rfl;simp only [hp1,hs0,Nat.mul_one];rw [hmade,hf];simp [newRow]
  rw [this];exact ⟨⟨rfl,rfl,rfl⟩,H⟩
theorem BAa {x:Operand} {t:Nat} {v:Value} (hb:B h) (hx:e.ev x=v) (H:B (h.push (.cells v.cells t (0,0)))/\RL P B st ops rest (e.set d (.pointer (some ⟨h.size,0,none⟩))) (h.push (.cells v.cells t (0,0))) K):
    RL P B st ops (⟨some d,.box t x,ty,pos,af,none⟩ :: rest) e h K:=by
 refine Agf rfl rfl hb fun w hw=>?_;subst hw
 have:(execOp e.ev ⟨some d,.box t x,ty,pos,af,none⟩).run P w= .ok (.value (.pointer (some ⟨w.heap.size,0,none⟩))) (w.alloc (.cells v.cells t)):=by
   simp [execOp,hx,Instr.box,newVar,newRow]
 rw [this];exact ⟨⟨rfl,rfl,rfl⟩,H⟩
theorem A0i {t bytes:Nat} {z:Value} (hz:ZeT P t z bytes) (hb:B h) (H:B (h.push (.cells z.cells t (0,0)))/\RL P B st ops rest (e.set d (.pointer (some ⟨h.size,0,none⟩))) (h.push (.cells z.cells t (0,0))) K):
    RL P B st ops (⟨some d,.alloc t,ty,pos,af,none⟩ :: rest) e h K:=by
 refine Agf rfl rfl hb fun w hw=>?_;subst hw;obtain ⟨i,hi,hzz,hsz,hby⟩:=hz
 have:(execOp e.ev ⟨some d,.alloc t,ty,pos,af,none⟩).run P w= .ok (.value (.pointer (some ⟨w.heap.size,0,none⟩))) (w.alloc (.cells z.cells t)):=by
   simp [execOp,Instr.alloc,Awq hi hzz,newVar,newRow]
 rw [this];exact ⟨⟨rfl,rfl,rfl⟩,H⟩
theorem AV6 {t:Nat} {parts:List (Nat × Operand)} {v:Value} (hv:∀ w,(Instr.build t (parts.map fun (i,x)=>(i,e.ev x)).toArray).run P w= .ok v w) (H:RL P B st ops rest (e.set d v) h K):
    RL P B st ops (⟨some d,.build t parts.toArray,ty,pos,af,none⟩ :: rest) e h K:=
  AXp (v:=v) rfl rfl (fun w=>by simp only [execOp,List.map_toArray,Sem.run_bind,hv w];rfl) H
theorem AUt {x:Operand} {a:Addr} (hx:e.ev x= .pointer (some a)) (H:RL P B st ops rest (e.set d (.pointer (some a))) h K):
    RL P B st ops (⟨some d,.nilCheck x,ty,pos,af,none⟩ :: rest) e h K:=
  AXp (v:= .pointer (some a)) rfl rfl (fun w=>by simp [execOp,hx]) H
theorem BEg {x:Operand} {t f off ft fs:Nat} {a:Addr} (hf:FdT P t f off ft) (hs:(P.info? ft).map (·.size)=some fs) (hfs:fs≠0) (hx:e.ev x= .pointer (some a)) (H:RL P B st ops rest (e.set d (.pointer (some (a.add off)))) h K):
    RL P B st ops (⟨some d,.fieldAddr t x f,ty,pos,af,none⟩ :: rest) e h K:=
  AXp (v:= .pointer (some (a.add off))) rfl rfl (fun w=>by
    obtain ⟨fds,fd,hu,hfd,ho,hft⟩:=hf
    subst hft
    cases hi:P.info? fd.type with
    | none=>rw [hi] at hs;cases hs
    | some i=>
      rw [hi] at hs
      have hs':i.size=fs:=by simpa using hs
      simp [execOp,hx,Instr.fieldAt,Adk hu,hfd,Instr.sureAddr,fieldPlace,Ag7 hi,hs',hfs,ho]) H
theorem A36 {x i:Operand} {t:Nat} {cs:Array Value} {v u:Value} (hv:∀ w,(Instr.index t (e.ev x) (e.ev i)).run P w= .ok u w) (H:RL P B st ops rest (e.set d u) h K):
    RL P B st ops (⟨some d,.index t x i,ty,pos,af,none⟩ :: rest) e h K:=
  AXp (v:=u) rfl rfl (fun w=>by simp only [execOp,Sem.run_bind,hv w];rfl) H
theorem BC7 {x:Operand} {t f:Nat} {u:Value} (hv:∀ w,(Instr.field t (e.ev x) f).run P w= .ok u w) (H:RL P B st ops rest (e.set d u) h K):
    RL P B st ops (⟨some d,.field t x f,ty,pos,af,none⟩ :: rest) e h K:=
  AXp (v:=u) rfl rfl (fun w=>by simp only [execOp,Sem.run_bind,hv w];rfl) H
theorem A37 {f:Fn} {cs:List Operand} {l:List Value} (hcs:cs.map e.ev=l) (H:RL P B st ops rest (e.set d (.func f #[] l.toArray)) h K):
    RL P B st ops (⟨some d,.makeFunc f #[] cs.toArray,ty,pos,af,none⟩ :: rest) e h K:=
  AXp (v:= .func f #[] l.toArray) rfl rfl (fun w=>by simp [execOp,Instr.makeFunc,hcs]) H
theorem run_loadCells {a:Addr} {w:World} (l:List Value):∀ (k:Nat) (acc:Array Value),(∀ i u,l[i]? =some u->w.cell? (a.add (k + i))=some u)->(loadCellsFrom a k l.length acc).run P w= .ok (acc ++ l.toArray) w:=by
 induction l with
 | nil=>intro k acc _;simp [loadCellsFrom]
 | cons v l ih=>
   intro k acc hc
   have h0:=hc 0 v rfl
   have ih':=ih (k + 1) (acc.push v) (fun i u hu=>by have:=hc (i + 1) u (by simpa using hu);rw [show k + 1 + i=k + (i + 1) by omega];exact this)
   simp only [Nat.add_zero] at h0
   simp [loadCellsFrom,h0,ih']
theorem Aty {t s:Nat} (ht:AgT P t s) {a:Addr} {l:List Value} (hl:l.length=s) (w:World) (hc:∀ i u,l[i]? =some u->AWy w.heap (a.add i)=some u) (ρ:Operand->Value) (x:Operand) (hx:ρ x= .pointer (some a)) (o:Oper) (ho:o.op= .load t x):
    (execOp ρ o).run P w= .ok (.value (.agg l.toArray)) w:=by
 obtain ⟨⟨dd,hd,hag⟩,i,hi,hsz⟩:=ht;have h1:=run_loadCells (P:=P) (a:=a) (w:=w) l 0 #[] (fun i u hu=>by rw [Nat.zero_add];exact hc i u hu);rw [hl,<- hsz] at h1;have h2:=A0h (P:=P) hd w;rw [hag] at h2;simp only [execOp,ho,Instr.loadAt,hx,Instr.sureAddr,loadVar];simp [h2,Ag7 hi,loadCells,h1]
theorem Acx {x:Operand} {t s:Nat} {a:Addr} (l:List Value) (ht:AgT P t s) (hl:l.length=s) (hx:e.ev x= .pointer (some a)) (hc:∀ i u,l[i]? =some u->AWy h (a.add i)=some u) (H:RL P B false ops rest (e.set d (.agg l.toArray)) h K):
    RL P B false ops (⟨some d,.load t x,ty,pos,af,none⟩ :: rest) e h K:=by
 show GOp P B false ops _ e h _;unfold GOp;rw [if_pos (by simp [Region.wanted])];exact ⟨_,fun w hw=>Aty ht hl w (by rw [hw];exact hc) _ x hx _ rfl,H⟩
theorem Aa5 {x:Operand} {t s:Nat} {a:Addr} (l:List Value) (ht:AgT P t s) (hl:l.length=s) (hx:e.ev x= .pointer (some a)) (hb:B h) (hc:∀ h',B h'-> ∀ i u,l[i]? =some u->AWy h' (a.add i)=some u) (H:RL P B true ops rest (e.set d (.agg l.toArray)) h K):
    RL P B true ops (⟨some d,.load t x,ty,pos,af,none⟩ :: rest) e h K:=by
 show GOp P B true ops _ e h _;unfold GOp;rw [if_pos (by simp [Region.wanted])];exact ⟨_,hb,fun w hw=>Aty ht hl w (hc _ hw) _ x hx _ rfl,H⟩
theorem BAz {x y:Operand} {t el s:Nat} {a:Option Addr} {n cap k:Nat} {kk:IntKind} (hT:SlT P t el s) (hx:e.ev x= .slice a n cap) (hy:e.ev y= .int kk (k:Int)) (hk:k<=cap) (H:RL P B st ops rest (e.set d (.slice a k cap)) h K):
    RL P B st ops (⟨some d,.slice t x none (some y) none,ty,pos,af,none⟩ :: rest) e h K:=
  AXp (v:= .slice a k cap) rfl rfl (fun w=>by
    obtain ⟨hu,i,hi,hs⟩:=hT;have h1:(k:Int)<=(cap:Int):=by omega
    have ha:(if cap=0 then a else Option.map (fun x=>x.add (0 * i.size)) a)=a:=by
      split
      · rfl
      · cases a <;> simp [Addr.add]
    simp [execOp,hx,hy,Instr.sliceAt,Instr.slice,Adk hu,Instr.sliceBounds,Instr.sliceBound,asIntOf,h1,Ag7 hi,Addr.add];intro hlt;omega) H
theorem Awu {x y:Operand} {t el s:Nat} {a:Option Addr} {n cap k:Nat} {kk:IntKind} (hT:SlT P t el s) (hx:e.ev x= .slice a n cap) (hy:e.ev y= .int kk (k:Int)) (hk:k<=n) (hn:n<=cap)
    (H:RL P B st ops rest (e.set d (.slice (if cap=k then a else a.map (·.add (k * s))) (n - k) (cap - k))) h K):
    RL P B st ops (⟨some d,.slice t x (some y) none none,ty,pos,af,none⟩ :: rest) e h K:=
  AXp (v:= .slice (if cap=k then a else a.map (·.add (k * s))) (n - k) (cap - k)) rfl rfl (fun w=>by
    obtain ⟨hu,i,hi,hs⟩:=hT
    have h1:(k:Int)<=(n:Int):=by omega
    simp [execOp,hx,hy,Instr.sliceAt,Instr.slice,Adk hu,Instr.sliceBounds,Instr.sliceBound,asIntOf,h1,Ag7 hi,hs]
    intro hlt;omega) H
end
end Go.QF
namespace Go.QF
open Go
section
variable {P:Program} {B:AGt->Prop} {st:Bool} {ops:Array Oper} {rest:List Oper} {e:Env} {h:AGt} {K:Env->AGt->Prop} {ty:TypeId} {pos:String} {af:Array Edge}
theorem ATn {dst:Option Nat} {op:Op} {j:Nat} {want:Bool} (t:Nat) (b:Bool) (H:RL P B st ops (⟨dst,op,ty,pos,af,none⟩ :: rest) e h K) (ht:(ops[j]?).bind (·.dst)=some t:=by kernel_rfl) (hv:e t= .bool b:=by rfl) (hb:(b == want)=true:=by rfl):RL P B st ops (⟨dst,op,ty,pos,af,some (j,want)⟩ :: rest) e h K:=AUn t b ht hv hb H
theorem Atz {dst:Option Nat} {op:Op} {j:Nat} {want:Bool} (t:Nat) (b:Bool) (H:RL P B st ops rest (e.put dst undef) h K) (ht:(ops[j]?).bind (·.dst)=some t:=by kernel_rfl) (hv:e t= .bool b:=by rfl) (hb:(b == want)=false:=by rfl):RL P B st ops (⟨dst,op,ty,pos,af,some (j,want)⟩ :: rest) e h K:=AUd t b ht hv hb H
end
section
variable {P:Program} {B:AGt->Prop} {st:Bool} {ops:Array Oper} {rest:List Oper} {e:Env} {h:AGt} {K:Env->AGt->Prop} {y1 y2 y3 y4 y5 y6:TypeId} {z1 z2 z3 z4 z5 z6:String} {a1 a2 a3 a4 a5 a6:Array Edge} {d1 d2 d3 d4 d5 d6:Option Nat} {o1 o2 o3 o4 o5 o6:Op} {j:Nat} {want:Bool}
theorem Aej (t:Nat) (b:Bool) (H:RL P B st ops rest ((e.put d1 undef).put d2 undef) h K) (ht:(ops[j]?).bind (·.dst)=some t:=by kernel_rfl) (hb:(b == want)=false:=by rfl) (v1:e t= .bool b:=by rfl) (v2:(e.put d1 undef) t= .bool b:=by rfl):RL P B st ops (⟨d1,o1,y1,z1,a1,some (j,want)⟩ :: ⟨d2,o2,y2,z2,a2,some (j,want)⟩ :: rest) e h K:=AUd t b ht v1 hb (AUd t b ht v2 hb H)
theorem Ab6 (t:Nat) (b:Bool) (H:RL P B st ops rest (((e.put d1 undef).put d2 undef).put d3 undef) h K) (ht:(ops[j]?).bind (·.dst)=some t:=by kernel_rfl) (hb:(b == want)=false:=by rfl) (v1:e t= .bool b:=by rfl) (v2:(e.put d1 undef) t= .bool b:=by rfl) (v3:((e.put d1 undef).put d2 undef) t= .bool b:=by rfl):RL P B st ops (⟨d1,o1,y1,z1,a1,some (j,want)⟩ :: ⟨d2,o2,y2,z2,a2,some (j,want)⟩ :: ⟨d3,o3,y3,z3,a3,some (j,want)⟩ :: rest) e h K:=Aej t b (AUd t b ht v3 hb H) ht hb v1 v2
theorem Afz (t:Nat) (b:Bool) (H:RL P B st ops rest ((((e.put d1 undef).put d2 undef).put d3 undef).put d4 undef) h K) (ht:(ops[j]?).bind (·.dst)=some t:=by kernel_rfl) (hb:(b == want)=false:=by rfl) (v1:e t= .bool b:=by rfl) (v2:(e.put d1 undef) t= .bool b:=by rfl) (v3:((e.put d1 undef).put d2 undef) t= .bool b:=by rfl) (v4:(((e.put d1 undef).put d2 undef).put d3 undef) t= .bool b:=by rfl):RL P B st ops (⟨d1,o1,y1,z1,a1,some (j,want)⟩ :: ⟨d2,o2,y2,z2,a2,some (j,want)⟩ :: ⟨d3,o3,y3,z3,a3,some (j,want)⟩ :: ⟨d4,o4,y4,z4,a4,some (j,want)⟩ :: rest) e h K:=Ab6 t b (AUd t b ht v4 hb H) ht hb v1 v2 v3
theorem Acp (t:Nat) (b:Bool) (H:RL P B st ops rest (((((e.put d1 undef).put d2 undef).put d3 undef).put d4 undef).put d5 undef) h K) (ht:(ops[j]?).bind (·.dst)=some t:=by kernel_rfl) (hb:(b == want)=false:=by rfl) (v1:e t= .bool b:=by rfl) (v2:(e.put d1 undef) t= .bool b:=by rfl) (v3:((e.put d1 undef).put d2 undef) t= .bool b:=by rfl) (v4:(((e.put d1 undef).put d2 undef).put d3 undef) t= .bool b:=by rfl) (v5:((((e.put d1 undef).put d2 undef).put d3 undef).put d4 undef) t= .bool b:=by rfl):RL P B st ops (⟨d1,o1,y1,z1,a1,some (j,want)⟩ :: ⟨d2,o2,y2,z2,a2,some (j,want)⟩ :: ⟨d3,o3,y3,z3,a3,some (j,want)⟩ :: ⟨d4,o4,y4,z4,a4,some (j,want)⟩ :: ⟨d5,o5,y5,z5,a5,some (j,want)⟩ :: rest) e h K:=Afz t b (AUd t b ht v5 hb H) ht hb v1 v2 v3 v4
end
section
variable {P:Program} {Q:Exit->Env->AGt->Prop} {K:Env->AGt->Prop} {e:Env} {h:AGt} {B:AGt->Prop} {st:Bool} {ops:Array Oper} {d:Nat} {ty:TypeId} {pos:String} {af:Array Edge}
theorem AGr (H:K e h):RL P B st ops [] e h (Agd K Q .normal):=ATh (q_t H)
theorem AGm {id:Nat} {l:List Oper} {b:Code} (H:RL P (fun _=>True) false l.toArray l e h (Agd (fun e h=>W P b Q e h) Q .normal)):W P (.seq (.region id l.toArray false) b) Q e h:=AGo (AS3 H)
theorem AGu {x:Operand} (H:K (e.mv d x) h):RL P B st ops [⟨some d,.assign x,ty,pos,af,none⟩] e h (Agd K Q .normal):=ATi (ATh (q_t H))
theorem ATw {Q':Exit->Env->AGt->Prop} {x:Operand} {id:Nat} {l:List Oper} {b:Code} (H:RL P (fun _=>True) false l.toArray l (e.mv d x) h (Agd (fun e h=>W P b Q e h) Q .normal)):RL P B st ops [⟨some d,.assign x,ty,pos,af,none⟩] e h (Agd (fun e h=>W P (.seq (.region id l.toArray false) b) Q e h) Q' .normal):=ATi (ATh (q_t (AGo (AS3 H))))
theorem AZg {Q':Exit->Env->AGt->Prop} {id:Nat} {l:List Oper} {b:Code} (H:RL P (fun _=>True) false l.toArray l e h (Agd (fun e h=>W P b Q e h) Q .normal)):RL P B st ops [] e h (Agd (fun e h=>W P (.seq (.region id l.toArray false) b) Q e h) Q' .normal):=ATh (q_t (AGo (AS3 H)))
theorem Acg {a b:Code} {X:Type} (m:Nat) (live:X->List (Nat × Value)) (J:X->AGt->Prop) (H:W P a (Agd (fun e' h'=> ∃ x,J x h'/\Al9 (live x) e') Q) e h)
    (H2:∀ x s h',J x h'->W P b Q (setL (live x) (mix m s e)) h') (hm:Aod m a=true:=by kernel_rfl):W P (.seq a b) Q e h:=Amp m live J hm H H2
theorem AXr {id:Nat} {l:List Oper} (H:RL P (fun _=>True) false l.toArray l e h (Q .normal)) (hst:(Ah6 l.toArray true,Atu l.toArray true)=(false,true):=by kernel_rfl):W P (.region id l.toArray true) Q e h:=Aix hst H
end
end Go.QF
namespace Go.QF
theorem Amb (a b:Int):a < b∨b<=a:=by omega
theorem Ap1 {a b A B:Int} (ha:0<=a) (hA:a<=A) (hb:0<=b) (hB:b<=B):0<=a * b/\a * b<=A * B:=
  ⟨Int.mul_nonneg ha hb,Int.mul_le_mul hA hB hb (Int.le_trans ha hA)⟩
theorem BC8 {x:Int} (hx:0<=x) (h:x * x<=2147483647):x<=46340:=by
 rcases Amb 46340 x with hc | hc
 ·have:=(Ap1 (a:=46341) (b:=46341) (A:=x) (B:=x) AGi AGi AGi AGi).2;omega
 ·exact hc
def Pr (n:Int):Prop:=2<=n/\ ∀ d,2<=d->d < n->n % d≠0
theorem Ali {n d:Int} (h:n % d=0):d ∣ n:=Int.dvd_of_emod_eq_zero h
theorem Aoi {n d:Int} (h:d ∣ n):n % d=0:=Int.emod_eq_zero_of_dvd h
theorem Ay0 {n d:Int} (hn:2<=n) (hd:2<=d) (hsq:n < d * d) (h:∀ c,2<=c->c < d->n % c≠0):Pr n:=by
  refine ⟨hn,fun c hc hcn hm=>?_⟩
  rcases Amb c d with hlt | hge
  · exact h c hc hlt hm
  · obtain ⟨q,hq⟩:=Ali hm
    have hq0:0 < q:=by
      rcases Amb 0 q with h | h
      · exact h
      · have:c * q<=0:=Int.mul_nonpos_of_nonneg_of_nonpos AGi h;omega
    have hqd:q < d:=by
      rcases Amb q d with h | h
      · exact h
      · have:=(Ap1 (a:=d) (b:=d) (A:=c) (B:=q) AGi hge AGi h).2;omega
    have hq2:2<=q:=by
      rcases Amb q 2 with h | h
      · have:q=1:=by omega
        subst this;omega
      · exact h
    exact h q hq2 hqd (Aoi ⟨c,by rw [hq,Int.mul_comm]⟩)
theorem A38 {n d:Int} (hd:2<=d) (h:d * d<=n):d < n:=by
 have:d * 2<=d * d:=Int.mul_le_mul_of_nonneg_left hd AGi;omega
open Classical in
noncomputable def Aft (n:Int):Bool:=decide (n<=2147483647/\Pr n)
theorem Arz {n:Int} (h1:n<=2147483647) (h2:Pr n):true=Aft n:=by simp [Aft,h1,h2]
theorem Ar0 {n:Int} (h: ¬ (n<=2147483647/\Pr n)):false=Aft n:=by simp [Aft,h]
theorem A2a {n:Int} (h:Aft n=true):n<=2147483647/\Pr n:=by simpa [Aft] using h
theorem Aea {n c d:Int} (hc:n % c≠0) (hcd:d % c=0):n % d≠0:=by
 intro h;have h1:=Ali h;have h2:=Ali hcd;exact hc (Aoi (Int.dvd_trans h2 h1))
theorem BC9 {n lo hi:Int} (h2:n % 2≠0) (h3:n % 3≠0) (h5:n % 5≠0) (h:∀ d,2<=d->d < lo->n % d≠0) (hlo:n % lo≠0) (hb:∀ d,lo < d->d < hi->d % 2=0∨d % 3=0∨d % 5=0):
    ∀ d,2<=d->d < hi->n % d≠0:=by
  intro d hd hdh
  rcases Amb d lo with h1 | h1
  · exact h d hd h1
  · rcases Int.lt_or_eq_of_le h1 with h1 | h1
    · rcases hb d h1 hdh with e | e | e
      · exact Aea h2 e
      · exact Aea h3 e
      · exact Aea h5 e
    · rw [<- h1];exact hlo
theorem BA0 {n:Int} (h2:n % 2≠0) (h3:n % 3≠0) (h5:n % 5≠0):∀ d,2<=d->d < 7->n % d≠0:=by
 intro d hd hdh;have Ad:d=2∨d=3∨d=4∨d=5∨d=6:=by omega
 have:d % 2=0∨d % 3=0∨d % 5=0:=by rcases Ad with rfl | rfl | rfl | rfl | rfl <;> omega
 rcases this with e | e | e
 ·exact Aea h2 e
 ·exact Aea h3 e
 ·exact Aea h5 e
def A2b:List Int:=[7,11,13,17,19,23,29,31]
def Ake (j:Nat):Int:=(A2b ++ [37])[j]?.getD 0
theorem A2c {base:Int} (hb:base % 30=0) {j:Nat} (hj:j < 8):∀ d,base + Ake j < d->d < base + Ake (j + 1)->d % 2=0∨d % 3=0∨d % 5=0:=by
 intro d h1 h2;have:j=0∨j=1∨j=2∨j=3∨j=4∨j=5∨j=6∨j=7:=by omega
 obtain ⟨q,rfl⟩:∃ q,base=30 * q:=⟨base / 30,AGi⟩;obtain ⟨r,rfl⟩:∃ r,d=30 * q + r:=⟨d - 30 * q,AGi⟩;rcases this with rfl | rfl | rfl | rfl | rfl | rfl | rfl | rfl <;> simp [Ake,A2b] at h1 h2
 ·have:r=8∨r=9∨r=10:=by omega
  rcases this with rfl | rfl | rfl <;> omega
 ·omega
 ·have:r=14∨r=15∨r=16:=by omega
  rcases this with rfl | rfl | rfl <;> omega
 ·omega
 ·have:r=20∨r=21∨r=22:=by omega
  rcases this with rfl | rfl | rfl <;> omega
 ·have:r=24∨r=25∨r=26∨r=27∨r=28:=by omega
  rcases this with rfl | rfl | rfl | rfl | rfl <;> omega
 ·omega
 ·have:r=32∨r=33∨r=34∨r=35∨r=36:=by omega
  rcases this with rfl | rfl | rfl | rfl | rfl <;> omega
theorem Ajv {j:Nat} (hj:j < 8):7<=Ake j/\Ake j<=31:=by
 have:j=0∨j=1∨j=2∨j=3∨j=4∨j=5∨j=6∨j=7:=by omega
 rcases this with rfl | rfl | rfl | rfl | rfl | rfl | rfl | rfl <;> simp [Ake,A2b]
def Ar1 (m x r:Int):Prop:=0<=r/\r < m/\r * x % m=1 % m
end Go.QF
namespace Go.Proofs.YthbndcbclhkepaaGreatDoor
open Go Go.QF
theorem mx:Tryz.prog.follows .mixedOrders=true:=by kernel_rfl
theorem ATb:SlT Tryz.prog 25 49 1:=Aiy Tryz.underlying25 AGx
theorem AS9:SlT Tryz.prog 49 2 1:=Aiy Tryz.underlying49 AGx
theorem An8:SlT Tryz.prog 168 3 1:=Aiy Tryz.underlying168 AGx
theorem Ajw:SlT Tryz.prog 22 179 1:=Aiy Tryz.underlying22 AGx
theorem ATq:NaT Tryz.prog 49:=Ah7 Tryz.underlying49 rfl AGx
theorem Aiz:NaT Tryz.prog 22:=Ah7 Tryz.underlying22 rfl AGx
theorem ATe:NaT Tryz.prog 2:=Ah7 Tryz.underlying2 rfl AGx
theorem Ar2:NaT Tryz.prog 179:=Ah7 Tryz.underlying179 rfl AGx
theorem AT1:NaT Tryz.prog 3:=Ah7 Tryz.underlying3 rfl AGx
theorem BAb:NaT Tryz.prog 5:=Ah7 Tryz.underlying5 rfl AGx
theorem AWl:NaT Tryz.prog 4:=Ah7 Tryz.underlying4 rfl AGx
theorem Ado:Alh Tryz.prog 2 .i64:=Tryz.underlying2
theorem Alj:Alh Tryz.prog 3 .i64:=Tryz.underlying3
theorem Ar3:Alh Tryz.prog 179 .i8:=Tryz.underlying179
theorem Akv:Alh Tryz.prog 5 .u8:=Tryz.underlying5
theorem Aff:ZeT Tryz.prog 49 (.slice none 0 0) 24:=Ah8 AGx
theorem Acy:ZeT Tryz.prog 2 (.int .i64 0) 8:=Ah8 AGx
theorem Aoj:ZeT Tryz.prog 3 (.int .i64 0) 8:=Ah8 AGx
theorem A7y:AgT Tryz.prog 194 8:=Amw Tryz.underlying194 rfl AGx
def An3 (h:AGt):Prop:= ∀ i u,(A2b.map (Value.int .i64))[i]? =some u->AWy h ⟨0,i,none⟩=some u
theorem An3.ext {h h':AGt} (H:An3 h) (he:Ext h h'):An3 h':=fun i u hu=>ATo (H i u hu) he
open Go.ChangeShapes Go.WideShapes Go.ChangeAt Go.RowKit
theorem own:ownKnob Tryz.prog.godebug=none:=by kernel_rfl
theorem laidOut:laidOutB Tryz.prog=true:=by kernel_rfl
theorem BDa:Tryz.prog.globalNamed "quadform/prime.offsets"=some 0:=by kernel_rfl
theorem A39:(Tryz.prog.globals[0]?).map (·.type)=some 194:=by kernel_rfl
theorem A4a:Tryz.prog.cellsOf 194=8:=by kernel_rfl
theorem A2d:Tryz.prog.cellsOf 2=1:=by kernel_rfl
theorem Awv {W:World} (h:laidMetH Tryz.prog [("quadform/prime.offsets",Rows.laid_quadform_prime_offsets)] W):An3 W.heap:=by
 have T:Lib.TabIs Tryz.prog W "quadform/prime.offsets" .i64 [7,11,13,17,19,23,29,31]:=
   Lib.tabIs_of_head (rest:=[]) BDa A39 Tryz.underlying194 Tryz.underlying2 A2d A4a h
 intro i u hu;have Aa:(([7,11,13,17,19,23,29,31]:List Int).map (Value.int .i64))[i]? =some u:=hu;have hi:i < ([7,11,13,17,19,23,29,31]:List Int).length:=by have:=(List.getElem?_eq_some_iff.1 Aa).1;simpa using this
 have hc:=T.cell BDa i hi;rw [List.getElem?_map,List.getElem?_eq_getElem hi] at Aa;simp only [Option.map_some,Option.some.injEq] at Aa;rw [<- Aa];rw [List.getD_eq_getElem?_getD,List.getElem?_eq_getElem hi] at hc;exact hc
theorem A2e {W:World} {a:Addr} {v:Value} (h:W.cell? a=some v):a=⟨a.block,a.off,none⟩:=by
 obtain ⟨b,o,s⟩:=a
 cases s with
 | none=>rfl
 | some s=>
   unfold World.cell? at h
   split at h
   · simp at h
   · cases h
theorem Aww {W:World} {a:Option Addr} {len cap:Nat} {l:List Value} (hl:l.length=len) (hn:a=none->len=0) (hc:∀ a',a=some a'-> ∀ i x,l[i]? =some x->W.cell? (a'.add i)=some x):Sl W.heap (.slice a len cap) l:=by
 refine ⟨a,cap,by rw [hl],fun i x hx=>?_⟩
 cases a with
 | none=>have:=hn rfl;have:=(List.getElem?_eq_some_iff.1 hx).1;omega
 | some a'=>
   have h0:0 < l.length:=by have:=(List.getElem?_eq_some_iff.1 hx).1;omega
   have hs:=A2e (hc a' rfl 0 _ (List.getElem?_eq_getElem h0))
   have Ab:a'.add 0=a':=by simp [Addr.add]
   rw [Ab] at hs
   refine ⟨a'.block,a'.off,by rw [<- hs],?_⟩
   have:=hc a' rfl i x hx
   rw [hs] at this
   rw [show (⟨a'.block,a'.off + i,none⟩:Addr)=(⟨a'.block,a'.off,none⟩:Addr).add i by rw [AXq]]
   exact this
theorem Ay1 {f:FuncId} {args:Array Value} {W:World} (H:ATs Tryz.prog f args W.heap fun x h'=>Ext W.heap h'/\x= .bool true):Calls Tryz.prog f args W fun e W'=>e= .returned (.bool true)/\Below W.heap.size W W':=by
 refine Calls.mono (H.2 W rfl) fun e W' hk=>?_;obtain ⟨v,rfl,hs,hE,rfl⟩:=hk;exact ⟨rfl,⟨hs.os,hs.tape,hs.output,hE.1,hE.2⟩⟩
noncomputable def Ap2 (os:Os):World:=
  { World.holding Tryz.prog os ⟨#[],#[],[]⟩ with heap:=(World.holding Tryz.prog os ⟨#[],#[],[]⟩).heap.modify 0 fun
      | .cells _ t frozen=> .cells #[.int .i64 7,.int .i64 11,.int .i64 13,.int .i64 17,.int .i64 19,.int .i64 23,.int .i64 29,.int .i64 31] t frozen
      | o=>o }
end Go.Proofs.YthbndcbclhkepaaGreatDoor
namespace Go.QF
def Agh (M:List (List Int)):Nat:=(M[0]?.getD []).length
def Valid (M:List (List Int)):Prop:=1<=M.length/\M.length<=16/\1<=Agh M/\Agh M<=16/\ ∀ z∈M,z.length=Agh M
instance (M:List (List Int)):Decidable (Valid M):=by unfold Valid;infer_instance
def A4b (M:List (List Int)):Prop:=Valid M/\M.length=Agh M/\M.length<=8
instance (M:List (List Int)):Decidable (A4b M):=by unfold A4b;infer_instance
def ent (A:List (List Int)) (i j:Nat):Int:=(A[i]?.getD [])[j]?.getD 0
theorem BA1 {A:List (List Int)} {i j:Nat} (hi:i < A.length) (hj:j < A[i].length):ent A i j=A[i][j]:=by
 simp [ent,hi,hj]
def psum (f:Nat->Int):Nat->Int
  | 0=>0
  | n + 1=>psum f n + f n
theorem AT0 {f g:Nat->Int} {n:Nat} (h:∀ k,k < n->f k=g k):psum f n=psum g n:=by
 induction n with
 | zero=>rfl
 | succ n ih=>simp only [psum];rw [ih (fun k hk=>h k AGi),h n AGi]
def tab (r c:Nat) (f:AS5):List (List Int):=(List.range r).map fun i=>(List.range c).map fun j=>f i j
theorem AT8 (r c:Nat) (f:AS5):(tab r c f).length=r:=by simp [tab]
theorem Abf {r c:Nat} {f:AS5} {i:Nat} (hi:i < r):(tab r c f)[i]? =some ((List.range c).map fun j=>f i j):=by simp [tab,hi]
theorem A7z {r c:Nat} {f:AS5} {i j:Nat} (hi:i < r) (hj:j < c):ent (tab r c f) i j=f i j:=by simp [ent,tab,hi,hj]
theorem A4c {r c:Nat} {f:AS5} (hr:0 < r):Agh (tab r c f)=c:=by simp [Agh,tab,hr]
theorem Af0 {r c:Nat} {f g:AS5} (h:∀ i j,i < r->j < c->f i j=g i j):tab r c f=tab r c g:=by
 unfold tab;refine List.map_congr_left fun i hi=>List.map_congr_left fun j hj=>h i j (by simpa using hi) (by simpa using hj)
theorem Ay2 {A:List (List Int)} {c:Nat} (h:∀ z∈A,z.length=c):A=tab A.length c (ent A):=by
 refine List.ext_getElem (by simp [tab]) fun i h1 h2=>?_;simp only [tab,List.getElem_map,List.getElem_range];have hl:=h A[i] (List.getElem_mem _);refine List.ext_getElem (by simp [hl]) fun j h3 h4=>?_;simp only [List.getElem_map,List.getElem_range];rw [BA1 h1 h3]
theorem Ao1 {r c:Nat} {f:AS5}:∀ z∈tab r c f,z.length=c:=by
 intro z hz;simp only [tab,List.mem_map] at hz;obtain ⟨i,_,rfl⟩:=hz;simp
def Aq3 (C:Nat) (f g:Nat->Int) (j:Nat):List Int:=(List.range C).map fun c=>if c < j then f c else g c
theorem A2f (C:Nat) (f g:Nat->Int):Aq3 C f g 0=(List.range C).map g:=by simp [Aq3]
theorem A4d {C:Nat} (f g:Nat->Int) {j:Nat} (h:C<=j):Aq3 C f g j=(List.range C).map f:=by
 unfold Aq3;refine List.map_congr_left fun c hc=>if_pos (by have:=List.mem_range.1 hc;omega)
theorem Amx (C:Nat) (f g:Nat->Int) (j:Nat):(Aq3 C f g j).length=C:=by simp [Aq3]
theorem Ar4 {C:Nat} {f g:Nat->Int} {j c:Nat} (hc:c < C):(Aq3 C f g j)[c]? =some (if c < j then f c else g c):=by simp [Aq3,hc]
theorem A4e {C:Nat} {f g:Nat->Int} {j:Nat} {y:Int} (hc:j < C) (hy:y=f j):(Aq3 C f g j).set j y=Aq3 C f g (j + 1):=by
 subst hy;refine List.ext_getElem? fun c=>?_;rw [List.getElem?_set];by_cases hjc:j=c
 ·subst hjc;rw [if_pos rfl,if_pos (by rw [Amx];exact hc),Ar4 hc,if_pos AGi]
 ·rw [if_neg hjc];rcases Nat.lt_or_ge c C with h | h
  ·rw [Ar4 h,Ar4 h];by_cases hlt:c < j
   ·rw [if_pos hlt,if_pos AGi]
   ·rw [if_neg hlt,if_neg AGi]
  ·rw [List.getElem?_eq_none (by rw [Amx];exact h),List.getElem?_eq_none (by rw [Amx];exact h)]
theorem Ay3 {α:Type} (f:Nat->α) (i:Nat):(List.range i).map f ++ [f i]=(List.range (i + 1)).map f:=by
 rw [List.range_succ,List.map_append];rfl
theorem A2g (C:Nat):(List.range C).map (fun _=>(0:Int))=List.replicate C 0:=by
 refine List.ext_getElem ATv fun i h1 h2=>by simp
end Go.QF
namespace Go.Proofs.YthbndcbclhkepaaGreatDoor
open Go Go.QF
set_option maxRecDepth 100000
theorem A2h {n p:Int} (hn:2<=n) (hp:p=2∨p=3∨p=5) (hm:n % p=0):p=n↔Pr n:=by
 constructor
 ·rintro rfl;refine ⟨hn,fun d h1 h2 h3=>?_⟩;have:d=2∨d=3∨d=4:=by omega
  rcases hp with rfl | rfl | rfl <;> rcases this with rfl | rfl | rfl <;> omega
 ·intro h;rcases Amb p n with h1 | h1
  ·exact absurd hm (h.2 p AGi h1)
  ·rcases hp with rfl | rfl | rfl <;> omega
def pv (i:Nat):Int:=[2,3,5][i]?.getD 0
theorem A4f {i:Nat} (hi:i < 3):pv i=2/\i=0∨pv i=3/\i=1∨pv i=5/\i=2:=by
 have:i=0∨i=1∨i=2:=by omega
 rcases this with rfl | rfl | rfl <;> simp [pv]
theorem BEh {i:Nat} (hi:i < 3) (w:World):(Instr.index 160 (.agg #[.int .i64 2,.int .i64 3,.int .i64 5]) (.int .i64 (i:Int))).run Tryz.prog w= .ok (.int .i64 (pv i)) w:=by
 have:i=0∨i=1∨i=2:=by omega
 rcases this with rfl | rfl | rfl <;> (show _=_;kernel_rfl)
theorem BEi {i:Nat} (hi:i < 8) (w:World):(Instr.index 194 (.agg (A2b.map (Value.int .i64)).toArray) (.int .i64 (i:Int))).run Tryz.prog w= .ok (.int .i64 (Ake i)) w:=by
 have:i=0∨i=1∨i=2∨i=3∨i=4∨i=5∨i=6∨i=7:=by omega
 rcases this with rfl | rfl | rfl | rfl | rfl | rfl | rfl | rfl <;> (show _=_;kernel_rfl)
theorem A4g {n:Int} (hn:2<=n) (Am:n<=2147483647) {h:AGt} (HO:An3 h):ATs Tryz.prog 147 #[.int .i64 n] h fun v h'=>h'=h/\ ∃ f,v= .int .i64 f/\(f=n↔Pr n):=by
 refine AT5 (l:=[_]) mx Tryz.func147 rfl rfl rfl rfl rfl AGx (AGm (AGu (A7v (AGo (AGm (AV6 (v:= .agg #[.int .i64 2,.int .i64 3,.int .i64 5]) (fun _=>by kernel_rfl) (AGj (AGr (AGp (AX0 1046548 (fun i:Nat=>[(11,.int .i64 (i:Int))]) (fun k i h'=>h'=h/\k=3 - i/\i<=3/\(1<=i->n % 2≠0)/\(2<=i->n % 3≠0)/\(3<=i->n % 5≠0)) AGx 3 0 ?_ ⟨rfl,trivial⟩ ?_))))))))))
 ·exact ⟨rfl,rfl,AGi,fun h=>by omega,fun h=>by omega,fun h=>by omega⟩
 rintro k i s h1 ⟨rfl,rfl,hi,h2,h3,h5⟩;refine AGm (AXh rfl rfl (fun Af=>?_) (fun Af=>?_))
 ·refine AGr (AGo (ATp rfl (AGy (q_t (AGo (AGp (AGm (A36 (cs:= #[]) (v:=undef) (BEh AGi) (ATw (AGj (AGj (Aog rfl rfl AGi (by have:=A4f (i:=i) AGi;omega) (Ama rfl rfl (fun Aa=>?_) (fun Aa=>?_))))))))))))))
  ·refine AGr (ATp rfl (AGm (AGj (AGu (AGz (AUg (ATc (ATc (AUg (ATc (BAw (⟨_,AS2,?_⟩))))))))))));exact ⟨rfl,pv i,rfl,A2h AGi (by have:=A4f (i:=i) AGi;omega) (by assumption)⟩
  ·refine AGr (ATr rfl (AGy (q_b (q_t (AS3 (Ab5 rfl AGi (AGj (AGr ?_))))))));have hp:=A4f (i:=i) AGi;exact ⟨3 - (i + 1),i + 1,AGi,⟨rfl,rfl,AGi,fun h=>by rcases hp with ⟨e,_⟩ | ⟨e,_⟩ | ⟨e,_⟩ <;> first | (rw [e] at Aa;exact Aa) | exact h2 AGi,fun h=>by rcases hp with ⟨e,_⟩ | ⟨e,_⟩ | ⟨e,_⟩ <;> first | omega | (rw [e] at Aa;exact Aa) | exact h3 AGi,fun h=>by rcases hp with ⟨e,_⟩ | ⟨e,_⟩ | ⟨e,_⟩ <;> first | omega | (rw [e] at Aa;exact Aa)⟩,rfl,trivial⟩
 ·refine AGr (AGo (ATr rfl (AS8 (ATa (ATa (AT7 (q_t (AGm (AGj (AGu (AGo (A7w (q_t (AGo (AGm (AGu ?_))))))))))))))));refine AGp ?_;have h2:=h2 AGi;have h3:=h3 AGi;have h5:=h5 AGi;refine AX0 2199021159264 (fun b:Int=>[(5,.int .i64 n),(6,.int .i64 b)]) (fun k b h'=>h'=h1/\k=(50000 - b).toNat/\0<=b/\b<=46400/\b % 30=0/\ ∀ d,2<=d->d < b + 7->n % d≠0) AGx 50000 0 ?_ ⟨rfl,rfl,trivial⟩ ?_
  ·exact ⟨rfl,rfl,AGi,AGi,AGi,fun d a b=>BA0 h2 h3 h5 d a AGi⟩
  rintro k b s h1 ⟨rfl,rfl,Ao,Ap,Ag,hJ⟩;refine AGo (AGp (AGm (Acx (A2b.map (Value.int .i64)) A7y rfl rfl (fun i u hu=>by rw [AXq,Nat.zero_add];exact HO i u hu) ?_)));refine AGj (AGr (AGp (AX0 2199006479136 (fun j:Nat=>[(24,.int .i64 (j:Int)),(5,.int .i64 n)]) (fun k j h'=>h'=h1/\k=8 - j/\j<=8/\(1<=j->(b + Ake (j - 1)) * (b + Ake (j - 1))<=n)/\ ∀ d,2<=d->d < b + Ake j->n % d≠0) AGx 8 0 ?_ ⟨rfl,rfl,trivial⟩ ?_)))
  ·exact ⟨rfl,rfl,AGi,fun h=>by omega,hJ⟩
  rintro k j s h1 ⟨rfl,rfl,hj,Ah,hjJ⟩;refine AGm (AXh rfl rfl (fun Ai=>?_) (fun Ai=>?_))
  ·refine AGr (AGo (ATp rfl (AGy (q_t (AGo (AGp (AGm (A36 (cs:= #[]) (v:=undef) (BEi AGi) (ATw (AGj (AGj (Au1 rfl rfl (by have:=Ajv (j:=j) AGi;omega) (by have:=Ajv (j:=j) AGi;omega) (AGu ?_)))))))))))));refine AGo (AGm (AGj (AGj (Agg rfl rfl (by have:=Ajv (j:=j) AGi;have:=Ap1 (a:=b + Ake j) (b:=b + Ake j) (A:=47000) (B:=47000) AGi AGi AGi AGi;omega) (by have:=Ajv (j:=j) AGi;have:=Ap1 (a:=b + Ake j) (b:=b + Ake j) (A:=47000) (B:=47000) AGi AGi AGi AGi;omega) (AGj (Aju rfl rfl (fun Aj=>?_) (fun Aj=>?_)))))))
   ·refine AGr (ATp rfl (AS8 (ATa (Atl AGk (ATa (ATa (Atl AGk (Atl AGk (ATa (ATa (AT7 (q_t (AGm (AGj (AGu (AGz (BAw (⟨_,AS2,?_⟩))))))))))))))))));have hob:=Ajv (j:=j) AGi;exact ⟨rfl,n,rfl,⟨fun _=>Ay0 AGi (d:=b + Ake j) AGi AGi hjJ,fun _=>rfl⟩⟩
   ·refine AGr (ATr rfl (AGy (q_t (AGm (AGj (AGj (Aog rfl rfl AGi (by have:=Ajv (j:=j) AGi;omega) (Ama rfl rfl (fun Ak=>?_) (fun Ak=>?_)))))))))
    ·refine AGr (ATp rfl (AGm (AGj (AGu (AS8 (Atl AGk (ATa (ATa (Atl AGk (Atl AGk (ATa (ATa (AT7 (q_t (AGm (AGj (AGu (AGz (BAw (⟨_,AS2,?_⟩))))))))))))))))))));have hob:=Ajv (j:=j) AGi;have hlt:=A38 (n:=n) (d:=b + Ake j) AGi AGi;exact ⟨rfl,b + Ake j,rfl,⟨fun he=>by omega,fun hp=>absurd (by assumption) (hp.2 (b + Ake j) AGi hlt)⟩⟩
    ·refine AGr (ATr rfl (AGy (q_b (q_t (AS3 (Ab5 rfl AGi (AGj (AGr ?_))))))));exact ⟨8 - (j + 1),j + 1,AGi,⟨rfl,rfl,AGi,fun h=>by rw [show j + 1 - 1=j by omega];omega,BC9 h2 h3 h5 hjJ (by assumption) (A2c Ag AGi)⟩,rfl,rfl,trivial⟩
  ·refine AGr (AGo (ATr rfl (AS8 (ATa (ATa (AT7 (q_b (q_t (AS3 (AGj (Au1 rfl rfl AGi AGi (AGu ?_))))))))))));have hsq:=Ah AGi;have Aq:=BC8 (x:=b + Ake (j - 1)) (by have:=Ajv (j:=j - 1) AGi;omega) AGi;obtain rfl:j=8:=by omega
   have e7:Ake (8 - 1)=31:=rfl;exact ⟨(50000 - (b + 30)).toNat,b + 30,AGi,⟨rfl,rfl,AGi,AGi,AGi,fun d a c=>hjJ d a (by have:Ake 8=37:=rfl;omega)⟩,rfl,rfl,trivial⟩
theorem BAc (n:Int) {h:AGt} (HO:An3 h):ATs Tryz.prog 114 #[.int .i64 n] h fun v h'=>h'=h/\v= .bool (Aft n):=by
 refine AT5 (l:=[_]) mx Tryz.func114 rfl rfl rfl rfl rfl AGx (AGm (ATw (AGj (Amu rfl rfl (fun Aa=>?_) (fun Aa=>?_)))))
 ·refine AGj (AUn 5 true AGx rfl rfl (AGj (AUn 5 true AGx rfl rfl (Amt rfl rfl (fun Ab=>?_) (fun Ab=>?_)))))
  ·refine ATj rfl (AGj (AUn 9 true AGx rfl rfl (AGj (AUn 9 true AGx rfl rfl (ATd trivial rfl (A4g AGi AGi HO) fun v' h' hk=>?_)))));obtain ⟨rfl,f,rfl,hf⟩:=hk;refine ⟨trivial,?_⟩;refine AUn 9 true AGx rfl rfl (AGj (AUn 9 true AGx rfl rfl (Ama rfl rfl (fun Ac=>?_) (fun Ac=>?_))))
   ·refine ATj rfl (AGu (AGz (⟨_,AS2,?_⟩)));exact ⟨rfl,show Value.bool true=_ from congrArg _ (Arz AGi (hf.1 (by assumption)))⟩
   ·refine ATj rfl (AGu (AGz (⟨_,AS2,?_⟩)));exact ⟨rfl,show Value.bool false=_ from congrArg _ (Ar0 fun hp=>absurd (hf.2 hp.2) (by assumption))⟩
  ·refine ATj rfl (AGj (AUd 9 false AGx rfl rfl (AUd 9 false AGx rfl rfl (AUd 9 false AGx rfl rfl (AUd 9 false AGx rfl rfl (ATm rfl (AGu (AGz (⟨_,AS2,?_⟩)))))))));exact ⟨rfl,show Value.bool false=_ from congrArg _ (Ar0 fun hp=>by omega)⟩
 ·refine AGj (AUd 5 false AGx rfl rfl (AUd 5 false AGx rfl rfl (ATm rfl (AGj (AUd 9 false AGx rfl rfl (AUd 9 false AGx rfl rfl (AUd 9 false AGx rfl rfl (AUd 9 false AGx rfl rfl (ATm rfl (AGu (AGz (⟨_,AS2,?_⟩))))))))))));exact ⟨rfl,show Value.bool false=_ from congrArg _ (Ar0 fun hp=>by have:=hp.2.1;omega)⟩
def EI (m x a b u v:Int):Prop:=
  0<=b/\0<=a/\a<=m/\b<=m/\(∃ s U V:Int,(s=1∨s= -1)/\u=s * U/\v= -s * V/\0<=U/\0<=V/\a * V + b * U=m)/\m ∣ u * x - a/\m ∣ v * x - b/\ ∀ g:Int,g ∣ a->g ∣ b->g ∣ m/\g ∣ x
theorem EI.start {m x:Int} (hx:0<=x) (hxm:x < m):EI m x m x 0 1:=
  ⟨hx,AGi,AGi,AGi,⟨-1,0,1,.inr rfl,AGi,AGi,AGi,AGi,AGi⟩,⟨-1,AGi⟩,⟨0,AGi⟩,fun g h1 h2=>⟨h1,h2⟩⟩
theorem EI.bounds {m x a b u v:Int} (H:EI m x a b u v) (hb:0 < b):0<=a / b/\a / b<=m/\0<=a / b * b/\a / b * b<=a/\ -m<=a / b * v/\a / b * v<=m/\ -m<=u - a / b * v/\u - a / b * v<=m:=by
 obtain ⟨h0,ha,ham,hbm,⟨s,U,V,hs,rfl,rfl,hU,hV,hm⟩,_⟩:=H;have hq:0<=a / b:=Int.ediv_nonneg ha h0;have hqa:a / b * b<=a:=Int.ediv_mul_le _ AGi;have Ac:a / b<=a:=Int.ediv_le_self _ ha;have hqb:0<=a / b * b:=Int.mul_nonneg hq h0;have hqV:0<=a / b * V:=Int.mul_nonneg hq hV
 have hV':b * (U + a / b * V)<=m:=by
   have e:b * (U + a / b * V)=b * U + (a / b * b) * V:=by rw [Int.mul_add,<- Int.mul_assoc,Int.mul_comm b (a / b)]
   have:(a / b * b) * V<=a * V:=Int.mul_le_mul_of_nonneg_right hqa hV
   omega
 have hW:U + a / b * V<=b * (U + a / b * V):=by
   have:1 * (U + a / b * V)<=b * (U + a / b * V):=Int.mul_le_mul_of_nonneg_right AGi AGi
   omega
 rcases hs with rfl | rfl
 ·have e1:a / b * (-1 * V)= -(a / b * V):=by rw [Int.neg_mul,Int.one_mul,Int.mul_neg]
  rw [e1];omega
 ·have e1:a / b * (- -1 * V)=a / b * V:=by rw [Int.neg_neg,Int.one_mul]
  rw [e1];omega
theorem EI.step {m x a b u v:Int} (H:EI m x a b u v) (hb:0 < b):EI m x b (a - a / b * b) v (u - a / b * v):=by
 have hbd:=H.bounds hb;obtain ⟨h0,ha,ham,hbm,⟨s,U,V,hs,rfl,rfl,hU,hV,hm⟩,hu,hv,hg⟩:=H;have hmod:a - a / b * b=a % b:=by rw [Int.emod_def,Int.mul_comm]
 have h1:=Int.emod_nonneg a (b:=b) AGi;have h2:=Int.emod_lt_of_pos a hb;have hqV:0<=a / b * V:=Int.mul_nonneg hbd.1 hV;refine ⟨AGi,h0,hbm,AGi,⟨-s,V,U + a / b * V,AGi,rfl,?_,hV,AGi,?_⟩,hv,?_,fun g g1 g2=>?_⟩
 ·rw [Int.neg_neg,Int.mul_add,Int.neg_mul,Int.mul_neg,Int.sub_neg,Int.mul_left_comm]
 ·rw [Int.mul_add,Int.sub_mul,<- Int.mul_assoc,Int.mul_comm b (a / b)];omega
 ·have e:(s * U - a / b * (-s * V)) * x - (a - a / b * b)=(s * U * x - a) - a / b * (-s * V * x - b):=by
    rw [Int.sub_mul,Int.mul_sub,Int.mul_assoc (a / b)];omega
  rw [e];exact Int.dvd_sub hu (Int.dvd_mul_of_dvd_right hv)
 ·have:g ∣ a:=by
    have:=Int.dvd_add g2 (Int.dvd_trans g1 (Int.dvd_mul_left (a / b) b))
    rwa [Int.sub_add_cancel] at this
  exact hg g this g1
theorem EI.done {m x a u v:Int} (hm:2<=m) (H:EI m x a 0 u v):1<=a/\(a=1->Ar1 m x (u % m))/\(a≠1->¬ ∃ y,Ar1 m x y):=by
 obtain ⟨h0,ha,ham,hbm,⟨s,U,V,hs,_,_,hU,hV,hmm⟩,hu,hv,hg⟩:=H
 have Aa:1<=a:=by
   rcases Amb 0 a with h | h
   · omega
   · obtain rfl:a=0:=by omega
     omega
 refine ⟨Aa,fun he=>?_,fun hne=>?_⟩
 ·subst he;refine ⟨Int.emod_nonneg _ AGi,Int.emod_lt_of_pos _ AGi,?_⟩;rw [Int.mul_emod,Int.emod_emod,<- Int.mul_emod];exact Int.emod_eq_emod_iff_emod_sub_eq_zero.2 (Aoi hu)
 ·rintro ⟨y,_,_,hy⟩;obtain ⟨g1,g2⟩:=hg a (Int.dvd_refl _) ⟨0,AGi⟩;have e1:a ∣ y * x - 1:=Int.dvd_trans g1 (Ali (Int.emod_eq_emod_iff_emod_sub_eq_zero.1 hy));have e2:a ∣ y * x:=Int.dvd_mul_of_dvd_right g2;have e3:a ∣ 1:=by have:=Int.dvd_sub e2 e1;rwa [Int.sub_sub_self] at this
  have:=Int.le_of_dvd AGi e3;omega
end Go.Proofs.YthbndcbclhkepaaGreatDoor
namespace Go.QF
open Go
def Acq (h:AGt) (er ei b:Nat) (gs:List Nat) (v:Value) (n:Nat) (Z:List (List Int)):Prop:=
  ∃ rs:List Value,AV5 h er b v rs/\rs.length=n/\Z.length<=n/\gs.length=Z.length/\
    (∀ (i g:Nat) (r:Value) (z:List Int),gs[i]? =some g->rs[i]? =some r->Z[i]? =some z->AV5 h ei g r (z.map (.int .i64)))/\(b :: gs).Nodup
def BA2 (h:AGt) (er ei b:Nat) (gs:List Nat) (v:Value) (M:List (List Int)):Prop:=Acq h er ei b gs v M.length M
theorem BA2.mat {h:AGt} {er ei b:Nat} {gs:List Nat} {v:Value} {M:List (List Int)} (H:BA2 h er ei b gs v M):Mat h v M:=by
 obtain ⟨rs,h1,h2,_,h3,h4,_⟩:=H;refine ⟨rs,h1.sl,h2,fun i r z hr hz=>?_⟩;have hi:i < gs.length:=by have:=(List.getElem?_eq_some_iff.1 hz).1;omega
 exact (h4 i gs[i] r z (List.getElem?_eq_getElem hi) hr hz).sl
theorem Acq.upd {S:Nat->Prop} {h h':AGt} {er ei b n:Nat} {gs:List Nat} {v:Value} {M:List (List Int)} (H:Acq h er ei b gs v n M) (he:Upd S h h') (hS:∀ g∈b :: gs,¬ S g):Acq h' er ei b gs v n M:=by
 obtain ⟨rs,h1,h2,h2',h3,h4,h5⟩:=H;exact ⟨rs,h1.upd he (hS b (List.mem_cons_self ..)),h2,h2',h3,fun i g r z hg hr hz=>(h4 i g r z hg hr hz).upd he (hS g (List.mem_cons_of_mem _ (List.mem_of_getElem? hg))),h5⟩
theorem Acq.ext {h h':AGt} {er ei b n:Nat} {gs:List Nat} {v:Value} {M:List (List Int)} (H:Acq h er ei b gs v n M) (he:Ext h h'):Acq h' er ei b gs v n M:=H.upd (S:=fun _=>False) he.upd (fun _ _ h=>h)
theorem Acq.lt {h:AGt} {er ei b n:Nat} {gs:List Nat} {v:Value} {M:List (List Int)} (H:Acq h er ei b gs v n M):∀ g∈b :: gs,g < h.size:=by
 obtain ⟨rs,h1,h2,h2',h3,h4,h5⟩:=H;intro g hg;rcases List.mem_cons.1 hg with rfl | hg
 ·exact h1.lt
 ·obtain ⟨i,hi⟩:=List.getElem?_of_mem hg;have hi':i < M.length:=by have:=(List.getElem?_eq_some_iff.1 hi).1;omega
  exact (h4 i g (rs[i]'AGi) M[i] hi (List.getElem?_eq_getElem _) (List.getElem?_eq_getElem _)).lt
theorem Acq.ne {h:AGt} {er ei b n:Nat} {gs:List Nat} {v:Value} {M:List (List Int)} (H:Acq h er ei b gs v n M) {i g:Nat} (hg:gs[i]? =some g):g≠b:=by
 obtain ⟨rs,h1,h2,h2',h3,h4,h5⟩:=H;intro he;exact (List.nodup_cons.1 h5).1 (he ▸ List.mem_of_getElem? hg)
theorem Acq.row {h:AGt} {er ei b n:Nat} {gs:List Nat} {v:Value} {M:List (List Int)} (H:Acq h er ei b gs v n M) {i:Nat} {z:List Int} (hz:M[i]? =some z):
    ∃ g r rs,gs[i]? =some g/\AV5 h er b v rs/\rs[i]? =some r/\rs.length=n/\AV5 h ei g r (z.map (.int .i64))/\g≠b:=by
  have H':=H;obtain ⟨rs,h1,h2,h2',h3,h4,h5⟩:=H;have hi:=(List.getElem?_eq_some_iff.1 hz).1;exact ⟨gs[i]'AGi,rs[i]'AGi,rs,List.getElem?_eq_getElem _,h1,List.getElem?_eq_getElem _,h2,h4 i _ _ z (List.getElem?_eq_getElem _) (List.getElem?_eq_getElem _) hz,H'.ne (List.getElem?_eq_getElem _)⟩
theorem Acq.setRow {h h':AGt} {er ei b n:Nat} {gs:List Nat} {v:Value} {M:List (List Int)} (H:Acq h er ei b gs v n M) {i g:Nat} (hg:gs[i]? =some g) (hu:Upd (· =g) h h') {z':List Int}
    (hr:∀ r z,M[i]? =some z->AV5 h ei g r (z.map (.int .i64))->AV5 h' ei g r (z'.map (.int .i64))):Acq h' er ei b gs v n (M.set i z'):=by
  obtain ⟨rs,h1,h2,h2',h3,h4,h5⟩:=H;have hi:i < gs.length:=(List.getElem?_eq_some_iff.1 hg).1;have hgm:=List.mem_of_getElem? hg;refine ⟨rs,h1.upd hu (fun he=>(List.nodup_cons.1 h5).1 (he ▸ hgm)),h2,by simpa using h2',by simp [h3],fun j g' r z hg' hr' hz=>?_,h5⟩
  by_cases hij:i=j
  · subst hij;rw [hg] at hg';injection hg' with hg';subst hg';rw [List.getElem?_set_self AGi] at hz;injection hz with hz;subst hz;have hz2:M[i]? =some (M[i]'AGi):=List.getElem?_eq_getElem _;exact hr r _ hz2 (h4 i g r _ hg hr' hz2)
  · rw [List.getElem?_set_ne hij] at hz;exact (h4 j g' r z hg' hr' hz).upd hu (fun he=>hij (Aof (List.nodup_cons.1 h5).2 hg (he ▸ hg')))
theorem Acq.setElem {h:AGt} {er ei b n:Nat} {gs:List Nat} {v:Value} {M:List (List Int)} (H:Acq h er ei b gs v n M) {i g j:Nat} {z:List Int} (hg:gs[i]? =some g) (hz:M[i]? =some z) (hj:j < z.length) (y:Int):
    Acq (An2 h ⟨g,j,none⟩ (.int .i64 y)) er ei b gs v n (M.set i (z.set j y)):=by
 refine H.setRow hg (Aho _ _ _) fun r z2 Aa ho=>?_;rw [hz] at Aa;injection Aa with Aa;subst Aa;rw [List.map_set];exact ho.set j _ (by simpa using hj)
theorem A2i (h:AGt) (er ei n:Nat) (hm:n<=maxLen):Acq (h.push (.cells (List.replicate n (.slice none 0 0)).toArray er (0,0))) er ei h.size [] (.slice (some ⟨h.size,0,none⟩) n n) n []:=
  ⟨_,Ams h er n _ hm,ATv,ATv,rfl,fun i g r z hg=>by simp at hg,ATv⟩
theorem Acq.push {h:AGt} {er ei b n i:Nat} {gs:List Nat} {v r:Value} {M:List (List Int)} (H:Acq h er ei b gs v n M) (hi:M.length=i) (hn:i < n) {g:Nat} {z:List Int} (hr:AV5 h ei g r (z.map (.int .i64))) (hg:g ∉ b :: gs):
    Acq (An2 h ⟨b,i,none⟩ r) er ei b (gs ++ [g]) v n (M ++ [z]):=by
  subst hi;obtain ⟨rs,h1,h2,h2',h3,h4,h5⟩:=H;have hb:=(List.nodup_cons.1 h5).1;have hgb:g≠b:=fun he=>hg (he ▸ List.mem_cons_self ..)
  refine ⟨rs.set M.length r,h1.set _ _ AGi,by simp [h2],by simp;omega,by simp [h3],fun i g' r' z' hg' hr' hz'=>?_,?_⟩
  · rcases Nat.lt_trichotomy i M.length with hi | hi | hi
    · rw [List.getElem?_append_left AGi] at hg' hz';rw [List.getElem?_set_ne AGi] at hr';exact (h4 i g' r' z' hg' hr' hz').upd (Aho _ _ _) (fun he=>hb (by have he':g'=b:=he;exact he' ▸ List.mem_of_getElem? hg'))
    · subst hi;rw [List.getElem?_append_right AGi,h3] at hg';rw [List.getElem?_append_right AGi] at hz';rw [List.getElem?_set_self AGi] at hr';simp at hg' hz' hr';subst hg';subst hz';subst hr';exact hr.upd (Aho _ _ _) hgb
    · rw [List.getElem?_append_right AGi] at hz';rw [List.getElem?_eq_none (by simp;omega)] at hz';cases hz'
  · rw [<- List.cons_append];exact List.nodup_append.2 ⟨h5,ATv,fun a ha c hc=>by simp at hc;subst hc;exact fun he=>hg (he ▸ ha)⟩
section
variable {P:Program} {B:AGt->Prop} {st:Bool} {ops:Array Oper} {rest:List Oper} {e:Env} {h:AGt} {K:Env->AGt->Prop}
variable {d:Nat} {ty:TypeId} {pos:String} {af:Array Edge}
theorem BDb {x i:Operand} {t el er ei b n:Nat} {gs:List Nat} {v:Value} {M:List (List Int)} {z:List Int} {k:IntKind} {j:Nat} (hT:SlT P t el 1) (hx:e.ev x=v) (HP:Acq h er ei b gs v n M) (hi:e.ev i= .int k (j:Int)) (hz:M[j]? =some z)
    (H:∀ a r g,AWy h a=some r->gs[j]? =some g->AV5 h ei g r (z.map (.int .i64))->RL P B st ops rest (e.set d (.pointer (some a))) h K):RL P B st ops (⟨some d,.indexAddr t x i,ty,pos,af,none⟩ :: rest) e h K:=by
  obtain ⟨g,r,rs,hg,h1,h2,_,h3,_⟩:=HP.row hz;exact Ary hT hx h1.sl hi h2 fun a ha=>H a r g ha hg h3
theorem BA3 {x i:Operand} {t el:Nat} {h0:AGt} {v:Value} {M:List (List Int)} {z:List Int} {k:IntKind} {n:Nat} (hT:SlT P t el 1) (hx:e.ev x=v) (HM:Mat h0 v M) (hE:Ext h0 h) (hi:e.ev i= .int k (n:Int)) (hz:M[n]? =some z)
    (H:∀ a r,AWy h a=some r->Ayy h0 r z->RL P B st ops rest (e.set d (.pointer (some a))) h K):RL P B st ops (⟨some d,.indexAddr t x i,ty,pos,af,none⟩ :: rest) e h K:=by
  obtain ⟨r,⟨rs,h1,h2⟩,h3⟩:=HM.row hz;exact Ary hT hx (h1.ext hE) hi h2 fun a ha=>H a r ha h3
theorem Acq.top {h:AGt} {er ei b n:Nat} {gs:List Nat} {v:Value} {M:List (List Int)} (H:Acq h er ei b gs v n M):∃ rs,AV5 h er b v rs/\rs.length=n:=let ⟨rs,h1,h2,_⟩:=H;⟨rs,h1,h2⟩
theorem Ay4 {x:Operand} {t el s er ei b n:Nat} {gs:List Nat} {v:Value} {M:List (List Int)} (hT:SlT P t el s) (hx:e.ev x=v) (HP:Acq h er ei b gs v n M) (H:RL P B st ops rest (e.set d (.int .i64 (n:Int))) h K):
    RL P B st ops (⟨some d,.call ⟨.builtin .len,#[x],#[t]⟩,ty,pos,af,none⟩ :: rest) e h K:=by
 obtain ⟨rs,h1,h2,_⟩:=HP;have:=Aoh (ops:=ops) (rest:=rest) (K:=K) (B:=B) (st:=st) (d:=d) (ty:=ty) (pos:=pos) (af:=af) hT hx h1.sl;rw [h2] at this;exact this H
end
theorem A4h (h:AGt) (el n:Nat) (x:Int) (hm:n<=maxLen):AV5 (h.push (.cells (List.replicate n (.int .i64 x)).toArray el (0,0))) el h.size (.slice (some ⟨h.size,0,none⟩) n n) ((List.replicate n x).map (.int .i64)):=by
 rw [List.map_replicate];exact Ams h el n (.int .i64 x) hm
theorem Awx {α:Type} {l:List α} {x:α} {i:Nat} (h:l.length=i):(l ++ [x])[i]? =some x:=by
 subst h;simp
theorem A4i {α:Type} {l:List α} {x y:α} {i:Nat} (h:l.length=i):(l ++ [x]).set i y=l ++ [y]:=by
 subst h;simp
theorem At0 {α:Type} {l:List α} {i:Nat} {x:α} (h:l[i]? =some x):l.take i ++ [x]=l.take (i + 1):=by
 obtain ⟨hi,rfl⟩:=List.getElem?_eq_some_iff.1 h;rw [List.take_succ_eq_append_getElem hi]
end Go.QF
namespace Go.QF
open Go
def Gro (h:AGt) (el lo:Nat) (v:Value) (l:List Value):Prop:=(l=[]/\v= .slice none 0 0)∨ ∃ g,lo<=g/\AV5 h el g v l
theorem Au3 (h:AGt) (el lo:Nat):Gro h el lo (.slice none 0 0) []:= .inl ⟨rfl,rfl⟩
theorem Gro.blk {h:AGt} {el lo:Nat} {v:Value} {l:List Value} (H:Gro h el lo v l):∀ g,v.ownBlock=some g->lo<=g/\g < h.size:=by
 intro g hg;rcases H with ⟨rfl,rfl⟩ | ⟨g',hg',H⟩
 ·cases hg
 ·have:=H.blk;rw [hg] at this;injection this with this;subst this;exact ⟨hg',H.lt⟩
section
variable {P:Program} {B:AGt->Prop} {st:Bool} {ops:Array Oper} {rest:List Oper} {e:Env} {h:AGt} {K:Env->AGt->Prop}
variable {d d':Nat} {ty ty':TypeId} {pos pos':String} {af af':Array Edge}
theorem BA4 {s y:Operand} {t el bytes lo:Nat} {z v u:Value} {l:List Value} (hT:SlT P t el 1) (hz:ZeT P el z bytes) (h1:isOne z=true) (hbB:∀ h',B h') (hs:∀ p,(e.set d p).ev s=v) (hy:e.ev y=u) (hu:isOne u=true) (HG:Gro h el lo v l) (hlo:lo<=h.size) (hby:bytes<=1000)
    (hl:l.length<=100000000)
    (H:∀ p v' h',Gro h' el lo v' (l ++ [u])->Upd (fun k=>v.ownBlock=some k) h h'->(v'.ownBlock=v.ownBlock∨ ∃ g,v'.ownBlock=some g/\h.size<=g)->RL P B st ops rest ((e.set d p).set d' v') h' K):
    RL P B st ops (⟨some d,.buildSlice t 1 #[(0,y)],ty,pos,af,none⟩ :: ⟨some d',.call ⟨.builtin .append,#[s,.tmp d],#[t,t]⟩,ty',pos',af',none⟩ :: rest) e h K:=by
  have hsz:l.length * bytes<=100000000 * 1000:=Nat.mul_le_mul hl hby;have hb2:(l.length + 1) * bytes<=140737488355328:=by rw [Nat.add_mul];omega
  refine A35 [u] hT hz h1 (hbB h) rfl AGi AGi (by simp [partsOf,hy]) (by simpa using hu) ⟨hbB _,?_⟩;have hnew:=(Arx h el [u] (by simp [maxLen])).sl;have hE:=AV0 h (.cells #[u] el (0,0));have hsz2:(h.push (.cells #[u] el (0,0))).size=h.size + 1:=by simp
  rcases HG with ⟨rfl,rfl⟩ | ⟨g,hg,HO⟩
  · refine A33 hT hz h1 (hbB _) (hs _) (Env.set_same _ _ _) hnew (by simpa using hu) ATv (by simp;omega) ATv fun v' h' HO' he=>⟨hbB _,?_⟩;exact H _ v' h' (.inr ⟨_,AGi,HO'⟩) (hE.trans he).upd (.inr ⟨_,HO'.blk,AGi⟩)
  · refine A99 hT hz h1 (hbB _) (hs _) (HO.ext hE) (Env.set_same _ _ _) hnew (by simpa using hu) ATv (by simpa using hb2) (by simp;omega) fun v' g' h' HO' hgg hup=>⟨hbB _,?_⟩
    refine H _ v' h' (.inr ⟨g',?_,HO'⟩) ?_ ?_
    · rcases hgg with rfl | rfl
      · exact hg
      · omega
    · refine (hE.upd.trans hup).mono fun k _ hk=>?_;have hk2:k=g:=hk;rw [hk2];exact HO.blk
    · rcases hgg with rfl | rfl
      · exact .inl (HO'.blk.trans HO.blk.symm)
      · exact .inr ⟨_,HO'.blk,AGi⟩
end
end Go.QF
namespace Go.Proofs.YthbndcbclhkepaaGreatDoor
open Go Go.QF
set_option maxRecDepth 100000
abbrev tR:Nat:=49
abbrev tI:Nat:=2
end Go.Proofs.YthbndcbclhkepaaGreatDoor
namespace Go.QF
open Go
def AUw (F:AS5) (i:Nat) (g:Nat->Int):AS5:=fun k=>if k=i then g else F k
theorem AUx (F:AS5) (i:Nat) (g:Nat->Int):AUw F i g i=g:=if_pos rfl
theorem AYe (F:AS5) {i k:Nat} (g:Nat->Int) (h:k≠i):AUw F i g k=F k:=if_neg h
theorem Aeu {r c i:Nat} {F:AS5} {g:Nat->Int}:(tab r c F).set i ((List.range c).map g)=tab r c (AUw F i g):=by
 refine List.ext_getElem (by simp [tab]) fun k h1 h2=>?_;rw [List.getElem_set];simp only [tab,List.getElem_map,List.getElem_range];by_cases hik:i=k
 ·subst hik;rw [if_pos rfl,AUx]
 ·rw [if_neg hik,AYe _ _ (fun he=>hik he.symm)]
def AX3 (F:AS5) (a b:Nat):AS5:=AUw (AUw F a (F b)) b (F a)
end Go.QF
namespace Go.QF
theorem Ar5 {p:Int} (hp:Pr p):∀ (n:Nat) (x:Int),x.toNat<=n->0 < x->x < p-> ∃ y,y * x % p=1:=by
 intro n
 induction n with
 | zero=>intro x h1 h2;omega
 | succ n ih=>
   intro x hn hx hxp
   have h2:=hp.1
   rcases Amb 1 x with h1 | h1
   · have hr:p % x≠0:=hp.2 x AGi hxp
     have Ac:=Int.emod_nonneg p (b:=x) AGi
     have Ad:=Int.emod_lt_of_pos p (b:=x) hx
     obtain ⟨s,hs⟩:=ih (p % x) AGi AGi AGi
     refine ⟨-(s * (p / x)),?_⟩
     have hd:=Int.mul_ediv_add_emod p x
     have he: -(s * (p / x)) * x=s * (p % x) + p * (-s):=by
       have:s * (x * (p / x) + p % x)=s * p:=by rw [hd]
       rw [Int.mul_add] at this
       rw [Int.neg_mul,Int.mul_assoc,Int.mul_comm (p / x) x,Int.mul_neg,Int.mul_comm p s]
       omega
     rw [he,Int.add_mul_emod_self_left,hs]
   · obtain rfl:x=1:=by omega
     exact ⟨1,Int.emod_eq_of_lt AGi AGi⟩
theorem Awy {α:Type} [DecidableEq α]:∀ (l t:List α),l.Nodup->(∀ x∈l,x∈t)->t.length<=l.length->l.Perm t:=by
 intro l
 induction l with
 | nil=>
   intro t _ _ h
   obtain rfl:t=[]:=List.eq_nil_of_length_eq_zero (by simpa using h)
   exact .nil
 | cons x l ih=>
   intro t hn hs hl
   have hx:=hs x (List.mem_cons_self ..)
   have hp:=List.perm_cons_erase hx
   refine .trans (.cons x (ih (t.erase x) (List.nodup_cons.1 hn).2 (fun y hy=>?_) ?_)) hp.symm
   · refine (List.mem_erase_of_ne (fun he:y=x=>(List.nodup_cons.1 hn).1 (he ▸ hy))).2 (hs y (List.mem_cons_of_mem _ hy))
   · have:=hp.length_eq
     simp at this hl
     omega
def AXl:List Int->Int
  | []=>1
  | x :: l=>x * AXl l
theorem Ay5 {l t:List Int} (h:l.Perm t):AXl l=AXl t:=by
 induction h with
 | nil=>rfl
 | cons x _ ih=>simp only [AXl];rw [ih]
 | swap x y l=>simp only [AXl];rw [<- Int.mul_assoc,<- Int.mul_assoc,Int.mul_comm x y]
 | trans _ _ Aa Ab=>exact Aa.trans Ab
def upN (n:Nat):List Int:=(List.range n).map fun i:Nat=>((i:Int) + 1)
theorem Aik {n:Nat} {x:Int}:x∈upN n↔1<=x/\x<=n:=by
 simp only [upN,List.mem_map,List.mem_range];constructor
 ·rintro ⟨i,hi,rfl⟩;omega
 ·rintro ⟨h1,h2⟩;exact ⟨(x - 1).toNat,AGi,AGi⟩
theorem A2j (n:Nat):(upN n).Nodup:=by
 unfold upN;rw [List.nodup_iff_pairwise_ne,List.pairwise_map];refine List.Pairwise.imp ?_ List.nodup_range;intro a b h he;omega
theorem cancel {p x a b:Int} (hp:Pr p) (hx:0 < x) (hxp:x < p) (h:a * x % p=b * x % p):a % p=b % p:=by
 obtain ⟨y,hy⟩:=Ar5 hp x.toNat x (Nat.le_refl _) hx hxp;have h2:=hp.1
 have key:∀ c:Int,c % p=c * x * y % p:=fun c=>by
   rw [Int.mul_assoc,Int.mul_emod,Int.mul_comm x y,hy,Int.mul_one,Int.emod_emod]
 rw [key a,key b,Int.mul_emod,h,<- Int.mul_emod]
theorem A4j {p a x:Int} (hp:Pr p) (ha:0 < a) (hap:a < p) (hx:0 < x) (hxp:x < p):a * x % p≠0:=by
 intro h;have:=cancel (a:=a) (b:=0) hp hx hxp (by rw [h];simp);rw [Int.emod_eq_of_lt AGi hap] at this;simp at this;omega
theorem A70 {p a b:Int} (hp:Pr p):∀ l:List Int,(∀ x∈l,0 < x/\x < p)->a * AXl l % p=b * AXl l % p->a % p=b % p:=by
 intro l
 induction l generalizing a b with
 | nil=>intro _ h;simpa [AXl] using h
 | cons x l ih=>
   intro hl h
   have hx:=hl x (List.mem_cons_self ..)
   simp only [AXl,<- Int.mul_assoc] at h
   exact cancel hp hx.1 hx.2 (ih (fun y hy=>hl y (List.mem_cons_of_mem _ hy)) h)
end Go.QF
namespace Go.QF
theorem Awz (F:AS5) (a b:Nat):AX3 F a b b=F a:=AUx _ _ _
theorem Ap3 (F:AS5) {a b:Nat}:AX3 F a b a=F b:=by
 unfold AX3;by_cases h:a=b
 ·subst h;rw [AUx]
 ·rw [AYe _ _ h,AUx]
theorem Ar6 (F:AS5) {a b k:Nat} (ha:k≠a) (hb:k≠b):AX3 F a b k=F k:=by
 unfold AX3;rw [AYe _ _ hb,AYe _ _ ha]
def Zc (n:Nat) (F:AS5) (c:Nat):Prop:= ∀ c' i,c' < c->c' < i->i < n->F i c'=0
def Zi (F:AS5) (c i:Nat):Prop:= ∀ k,c < k->k < i->F k c=0
theorem A71 {F:AS5} {c i:Nat} (H:Zi F c i) (h:F i c=0):Zi F c (i + 1):=by
 intro k h1 h2;rcases Nat.lt_or_ge k i with h3 | h3
 ·exact H k h1 h3
 ·obtain rfl:k=i:=by omega
  exact h
theorem A72 {n:Nat} {F:AS5} {c:Nat} (H:Zc n F c) (h:Zi F c n):Zc n F (c + 1):=by
 intro c' k h1 h2 h3;rcases Nat.lt_or_ge c' c with h4 | h4
 ·exact H c' k h4 h2 h3
 ·obtain rfl:c'=c:=by omega
  exact h k h2 h3
end Go.QF
namespace Go.QF
open Go
theorem Atm {z:Value} (h1:isOne z=true) (n:Nat):Builtin.zeroCells z.cells n=(List.replicate n z).toArray:=by
 have hc:=Atx h1;have hsz:=size_zeroCells z.cells n;refine Array.ext (by rw [hsz,hc];simp) fun i h2 h3=>?_;have hm:i % 1=0:=Nat.mod_one i;simp [Builtin.zeroCells,hc,hm]
section
variable {P:Program} {B:AGt->Prop} {st:Bool} {ops:Array Oper} {rest:List Oper} {e:Env} {h:AGt} {K:Env->AGt->Prop}
variable {d:Nat} {ty:TypeId} {pos:String} {af:Array Edge}
theorem BA5 {s x:Operand} {t tn el g bytes n:Nat} {z v:Value} {l:List Value} {k kn:IntKind} (hT:SlT P t el 1) (hN:Alh P tn kn) (hz:ZeT P el z bytes) (h1:isOne z=true) (hb:B h) (hs:e.ev s=v) (HO:AV5 h el g v l) (hx:e.ev x= .int k (n:Int)) (Ad:0 < n) (hlen:(l.length + n) * bytes<=140737488355328) (Ae:l.length + n<=140737488355328) (H:∀ v' g' h',AV5 h' el g' v' (l ++ List.replicate n z)->(g'=g∨g'=h.size)->Upd (· =g) h h'->(∃ cur,h'[g]? =some (.cells cur el (0,0)))->B h'/\RL P B st ops rest (e.set d v') h' K):
    RL P B st ops (⟨some d,.call ⟨.builtin .append,#[s,x],#[t,tn]⟩,ty,pos,af,none⟩ :: rest) e h K:=by
 refine Agf rfl rfl hb fun w hw=>?_;subst hw;obtain ⟨hu,i0,Ab,Aa⟩:=hT;obtain ⟨i,hi,hzz,hsz,hby⟩:=hz;rw [hi] at Ab;injection Ab with Ab;subst Ab;have HO':=HO;obtain ⟨cap,cur,rfl,hg,hlc,hcm,hcs,ht⟩:=HO;have hnn:n≠0:=by omega
 have hw:IntKind.i64.wrap (n:Int)=n:=by rw [IntKind.wrap_i64];omega
 have hneg: ¬ ((n:Int) < 0):=by omega
 have hnb:n * i.bytes<=140737488355328:=by rw [hby];rw [Nat.add_mul] at hlen;omega
 have h48i: ¬ (281474976710656 < (n:Int) * (i.bytes:Int)):=by
   rw [<- Int.natCast_mul]
   omega
 have hzc:=Atm h1 n
 have hone':∀ u∈List.replicate n z,u.oneCell'=true:=fun u hu'=>by
   have:=(List.mem_replicate.1 hu').2
   subst this
   cases u <;> first | rfl | cases h1
 by_cases hroom:l.length + n<=cap
 ·have hst:=run_storeCells_at P g (l.length * i.size) el (List.replicate n z) 0 cur w hg (by simp [Aa,hcs];omega) hone';simp only [Nat.add_zero] at hst
  have hr:(Builtin.append_ #[t,tn] ty #[.slice (some ⟨g,0,none⟩) l.length cap,.int k (n:Int)]).run P w= .ok (.slice (some ⟨g,0,none⟩) (l.length + n) cap) (w.setRow g (cur.toList.take (l.length * i.size) ++ List.replicate n z ++ cur.toList.drop (l.length * i.size + (List.replicate n z).length)).toArray):=by
    simp [Builtin.append_,Adk hu,Adk hN,run_underlying hu,run_underlying hN,sizeOf,typeInfo,hi,asInt,asIntOf,hw,hneg,h48i,hroom,Aa,hnn,zeroValue,hzz,hzc,Addr.add_lit]
    have hst':=hst
    simp [Aa] at hst'
    simp [Addr.add,hst']
  have hrun:(execOp e.ev ⟨some d,.call ⟨.builtin .append,#[s,x],#[t,tn]⟩,ty,pos,af,none⟩).run P w= .ok (.value (.slice (some ⟨g,0,none⟩) (l.length + n) cap)) (w.setRow g (cur.toList.take (l.length * i.size) ++ List.replicate n z ++ cur.toList.drop (l.length * i.size + (List.replicate n z).length)).toArray):=by
    simp only [execOp,resolve,invoke,builtin]
    simp [hs,hx,hr]
  rw [hrun];refine ⟨⟨rfl,rfl,rfl⟩,H _ g _ ?_ (.inl rfl) ?_ ?_⟩
  ·refine ⟨cap,_,ATv,setRow_heap w g cur _ el (0,0) hg,by simpa using hroom,hcm,?_,?_⟩
   ·simp only [Aa,Nat.mul_one,List.size_toArray,List.length_append,List.length_take,List.length_drop,Array.length_toList,hcs,List.length_replicate];omega
   ·simp only [Aa,Nat.mul_one,ht];exact List.take_left
  ·exact ⟨by simp [World.setRow],fun k hk hne=>setRow_other w g k _ (fun he=>hne he)⟩
  ·exact ⟨_,setRow_heap w g cur _ el (0,0) hg⟩
 ·have hfit:Builtin.nextslicecap (l.length + n) cap * i.bytes<=281474976710656:=by rw [hby];exact growslice_fits AGi hlen
  have hn: ¬ (l.length + n<=cap):=hroom;have h63': ¬ (9223372036854775807 < ((l.length:Int) + (n:Int))):=by omega
  have h48': ¬ (281474976710656 < Builtin.nextslicecap (l.length + n) cap * i.bytes):=by omega
  have hfo:=run_firstCells_some (P:=P) w.drew i.size l.length ⟨g,0,none⟩ l.length cap l (by simp [Aa]) (fun j u hu'=>by
    rw [AXq,Nat.zero_add];exact HO'.cell hu')
  rw [Aa] at hfo
  have hr:(Builtin.append_ #[t,tn] ty #[.slice (some ⟨g,0,none⟩) l.length cap,.int k (n:Int)]).run P w= .ok (.slice (some ⟨w.heap.size,0,none⟩) (l.length + n) (grownCap w (l.length + n) cap el))
      (w.drew.alloc (.cells (l.toArray ++ (List.replicate n z).toArray ++ Builtin.zeroCells z.cells (grownCap w (l.length + n) cap el - (l.length + n))) el)):=by
    simp [Builtin.append_,Adk hu,Adk hN,run_underlying hu,run_underlying hN,sizeOf,typeInfo,zeroValue,hi,hzz,asInt,asIntOf,hw,hneg,h48i,hn,h63',h48',Question.forced,hfo,newRow,grownCap,Aa,hnn,hzc]
  have hrun:(execOp e.ev ⟨some d,.call ⟨.builtin .append,#[s,x],#[t,tn]⟩,ty,pos,af,none⟩).run P w= .ok (.value (.slice (some ⟨w.heap.size,0,none⟩) (l.length + n) (grownCap w (l.length + n) cap el)))
      (w.drew.alloc (.cells (l.toArray ++ (List.replicate n z).toArray ++ Builtin.zeroCells z.cells (grownCap w (l.length + n) cap el - (l.length + n))) el)):=by
    simp only [execOp,resolve,invoke,builtin]
    simp [hs,hx,hr]
  rw [hrun];have hzs:z.cells.size=1:=by cases z <;> first | rfl | cases h1
  have hge:=grownCap_ge w (l.length + n) cap el;have hcm':grownCap w (l.length + n) cap el<=maxLen:=grownCap_le_maxLen w _ _ el (by unfold maxLen;omega);refine ⟨⟨rfl,rfl,rfl⟩,H _ w.heap.size _ ?_ (.inr rfl) ?_ ?_⟩
  ·refine ⟨_,_,ATv,heap_alloc_new w.drew _,by simpa using hge,hcm',?_,?_⟩
   ·simp [size_zeroCells,hzs];omega
   ·simp only [Array.toList_append,List.append_assoc];rw [<- List.append_assoc];exact List.take_left
  ·exact (Ext.upd ⟨ATv,fun k hk=>heap_alloc_old w.drew _ k hk⟩)
  ·exact ⟨cur,(heap_alloc_old w.drew _ g (Array.getElem?_eq_some_iff.1 hg).1).trans hg⟩
end
end Go.QF
namespace Go.QF
open Go
section
variable {P:Program} {B:AGt->Prop} {st:Bool} {ops:Array Oper} {rest:List Oper} {e:Env} {h:AGt} {K:Env->AGt->Prop}
variable {d:Nat} {ty:TypeId} {pos:String} {af:Array Edge}
theorem Ahb {x y:Operand} {t t2:TypeId} {a b:Nat} (hx:e.ev x= .int .i64 (a:Int)) (hy:e.ev y= .int .i64 (b:Int)) (h1:a + b<=9223372036854775807) (H:RL P B st ops rest (e.set d (.int .i64 ((a + b:Nat):Int))) h K):
    RL P B st ops (⟨some d,.binOp .add t x y t2,ty,pos,af,none⟩ :: rest) e h K:=by
 refine Au1 hx hy AGi AGi ?_;rw [<- Int.natCast_add];exact H
end
end Go.QF
namespace Go.QF
open Go
section
variable {P:Program} {B:AGt->Prop} {st:Bool} {ops:Array Oper} {rest:List Oper} {e:Env} {h:AGt} {K:Env->AGt->Prop}
variable {d:Nat} {ty:TypeId} {pos:String} {af:Array Edge}
theorem A4k {x y:Operand} {t t2:TypeId} {a b:Nat} {k:IntKind} (hx:e.ev x= .int k (a:Int)) (hy:e.ev y= .int k (b:Int)) (hb:0 < b) (H:RL P B st ops rest (e.set d (.int k ((a % b:Nat):Int))) h K):
    RL P B st ops (⟨some d,.binOp .rem t x y t2,ty,pos,af,none⟩ :: rest) e h K:=by
 refine Aog hx hy AGi AGi ?_;rw [<- Int.natCast_emod];exact H
theorem BAd {x:Operand} {t t2:TypeId} {k k2:IntKind} {a:Int} (h1:Alh P t k) (h2:Alh P t2 k2) (hx:e.ev x= .int k a) (hw:k2.wrap a=a) (H:RL P B st ops rest (e.set d (.int k2 a)) h K):
    RL P B st ops (⟨some d,.convert t t2 x,ty,pos,af,none⟩ :: rest) e h K:=by
  refine Aes h1 h2 hx ?_;rw [hw];exact H
end
section
variable {P:Program} {B:AGt->Prop} {st:Bool} {ops:Array Oper} {rest:List Oper} {e:Env} {h:AGt} {K:Env->AGt->Prop}
variable {d:Nat} {ty:TypeId} {pos:String} {af:Array Edge}
end
theorem wrap_small {a:Int} (h0: -9223372036854775808<=a) (h1:a<=9223372036854775807):IntKind.i64.wrap a=a:=by rw [IntKind.wrap_i64];omega
end Go.QF
namespace Go.Proofs.YthbndcbclhkepaaGreatDoor
open Go Go.QF
set_option maxRecDepth 100000
def i8V (z:Int):Value:= .int .i8 z
end Go.Proofs.YthbndcbclhkepaaGreatDoor
namespace Go.Proofs.YthbndcbclhkepaaGreatDoor
open Go Go.QF
open Go.ChangeShapes Go.WideShapes Go.ChangeAt Go.RowKit
set_option maxRecDepth 100000
theorem A4l:Tryz.prog.cellsOf 179=1:=by kernel_rfl
theorem A4m:Tryz.prog.cellsOf 5=1:=by kernel_rfl
theorem A4n:Tryz.prog.cellsOf 22=1:=by kernel_rfl
theorem wf_i8 {z:Int} (h:(Lit.int .i8 z).wf=true): -128<=z/\z<=127:=by
 simp [Lit.wf,IntKind.min,IntKind.max,IntKind.bits,IntKind.signed] at h;omega
theorem wf_u8 {z:Int} (h:(Lit.int .u8 z).wf=true):0<=z/\z<=255:=by
 simp [Lit.wf,IntKind.min,IntKind.max,IntKind.bits,IntKind.signed] at h;omega
theorem A4o {H:Type} {enc:TypeId × Value->H} {W:World} {fuel:Nat} {v:Value} {x:DataW H × List MemPlace} (hf:DataW.trod enc Tryz.prog W 0 (fun _=>true) true fuel 22 [v]=some x):∃ Z:List Int,Sl W.heap v (Z.map i8V)/\ ∀ z∈Z,-128<=z/\z<=127:=by
 rcases open_ints Tryz.underlying22 Tryz.underlying179 A4l hf with ⟨hcs,_⟩ | ⟨a,len,cap,zs,hcs,_,hl,_,hz,_,hcell,hwz⟩
 ·simp at hcs;subst hcs;exact ⟨[],A30 _,fun z hz=>by cases hz⟩
 ·simp at hcs;subst hcs;simp only [if_true] at hz;refine ⟨zs.take len,Aww (by simp;omega) (fun h=>by cases h) fun a' ha i x hx=>?_,fun z hz'=>wf_i8 (hwz z (List.mem_of_mem_take hz'))⟩;injection ha with ha;subst ha;have hi:i < len:=by have:=(List.getElem?_eq_some_iff.1 hx).1;simp at this;omega
  rw [hcell i AGi];rw [List.getElem?_map,List.getElem?_take,if_pos hi,List.getElem?_eq_getElem AGi] at hx;simp only [Option.map_some,Option.some.injEq] at hx;rw [<- hx,List.getD_eq_getElem?_getD,List.getElem?_eq_getElem AGi];rfl
end Go.Proofs.YthbndcbclhkepaaGreatDoor
namespace Go.QF
open Go
def AVv (t:Nat) (h:AGt) (b:Nat) (l:List Value):Prop:=h[b]? =some (.cells l.toArray t (0,0))
theorem AVv.lt {t:Nat} {h:AGt} {b:Nat} {l:List Value} (H:AVv t h b l):b < h.size:=(Array.getElem?_eq_some_iff.1 H).1
theorem AVv.cell {t:Nat} {h:AGt} {b:Nat} {l:List Value} (H:AVv t h b l) {i:Nat} {u:Value} (hu:l[i]? =some u):AWy h ⟨b,i,none⟩=some u:=by
 unfold AVv at H;simp [AWy,H,hu]
theorem AVv.free {t:Nat} {h:AGt} {b:Nat} {l:List Value} (H:AVv t h b l) (i:Nat):Alg h ⟨b,i,none⟩=false:=by
 unfold AVv at H;simp [Alg,H]
theorem AVv.agg {t:Nat} {h:AGt} {b:Nat} {l:List Value} (H:AVv t h b l):∀ i u,l[i]? =some u->AWy h ((⟨b,0,none⟩:Addr).add i)=some u:=by
 intro i u hu;rw [AXq,Nat.zero_add];exact H.cell hu
theorem AVv.upd {S:Nat->Prop} {t:Nat} {h h':AGt} {b:Nat} {l:List Value} (H:AVv t h b l) (hU:Upd S h h') (hS: ¬ S b):AVv t h' b l:=(hU.2 b H.lt hS).trans H
theorem AVv.ext {t:Nat} {h h':AGt} {b:Nat} {l:List Value} (H:AVv t h b l) (hE:Ext h h'):AVv t h' b l:=(hE.2 b H.lt).trans H
theorem AVv.set {t:Nat} {h:AGt} {b:Nat} {l:List Value} (H:AVv t h b l) (i:Nat) (y:Value):AVv t (An2 h ⟨b,i,none⟩ y) b (l.set i y):=by
 unfold AVv at H ⊢;simp only [An2,Array.getElem?_modify,if_true,H,Option.map_some];simp
def SlK (h:AGt) (k:Nat) (v:Value) (L:List (List Value)):Prop:= ∃ a cap,v= .slice a L.length cap/\ ∀ i row,L[i]? =some row-> ∃ b o,a=some ⟨b,o,none⟩/\ ∀ j x,row[j]? =some x->AWy h ⟨b,o + i * k + j,none⟩=some x
theorem SlK.ext {h h':AGt} {k:Nat} {v:Value} {L:List (List Value)} (H:SlK h k v L) (he:Ext h h'):SlK h' k v L:=by
 obtain ⟨a,cap,hv,hc⟩:=H;exact ⟨a,cap,hv,fun i r hr=>let ⟨b,o,ha,hx⟩:=hc i r hr;⟨b,o,ha,fun j x hj=>ATo (hx j x hj) he⟩⟩
theorem A0j (h:AGt) (k:Nat):SlK h k (.slice none 0 0) []:=⟨none,0,rfl,fun i x hx=>by simp at hx⟩
def Abp (h:AGt) (el k g:Nat) (v:Value) (L:List (List Value)):Prop:=
  ∃ cap cur,v= .slice (some ⟨g,0,none⟩) L.length cap/\h[g]? =some (.cells cur el (0,0))/\L.length<=cap/\cap<=maxLen/\cur.size=cap * k/\(∀ r∈L,r.length=k)/\cur.toList.take (L.length * k)=L.flatten
theorem AZ5 {k:Nat}:∀ {L:List (List Value)},(∀ r∈L,r.length=k)->L.flatten.length=L.length * k:=by
 intro L
 induction L with
 | nil=>intro _;simp
 | cons r L ih=>intro h;simp [h r (List.mem_cons_self ..),ih fun r hr=>h r (List.mem_cons_of_mem _ hr),Nat.add_mul,Nat.add_comm]
theorem Amy {k:Nat}:∀ {L:List (List Value)} {i j:Nat} {r:List Value} {x:Value},(∀ r∈L,r.length=k)->L[i]? =some r->r[j]? =some x->L.flatten[i * k + j]? =some x:=by
 intro L
 induction L with
 | nil=>intro i j r x _ h;simp at h
 | cons s L ih=>
   intro i j r x h hi hj
   have hs:=h s (List.mem_cons_self ..)
   cases i with
   | zero=>
     simp at hi;subst hi
     have hjl:=(List.getElem?_eq_some_iff.1 hj).1
     rw [List.flatten_cons,Nat.zero_mul,Nat.zero_add,List.getElem?_append_left hjl];exact hj
   | succ i=>
     simp only [List.getElem?_cons_succ] at hi
     have:=ih (fun r hr=>h r (List.mem_cons_of_mem _ hr)) hi hj
     rw [List.flatten_cons,List.getElem?_append_right (by rw [hs,Nat.add_mul];omega),hs,show (i + 1) * k + j - k=i * k + j by rw [Nat.add_mul];omega]
     exact this
theorem Abp.lt {h:AGt} {el k g:Nat} {v:Value} {L:List (List Value)} (H:Abp h el k g v L):g < h.size:=by
 obtain ⟨cap,cur,_,hg,_⟩:=H;exact (Array.getElem?_eq_some_iff.1 hg).1
theorem Abp.blk {h:AGt} {el k g:Nat} {v:Value} {L:List (List Value)} (H:Abp h el k g v L):v.ownBlock=some g:=by
 obtain ⟨cap,cur,rfl,_⟩:=H;rfl
theorem Abp.cell {h:AGt} {el k g:Nat} {v:Value} {L:List (List Value)} (H:Abp h el k g v L) {i j:Nat} {r:List Value} {x:Value} (hr:L[i]? =some r) (hx:r[j]? =some x):AWy h ⟨g,i * k + j,none⟩=some x:=by
 obtain ⟨cap,cur,_,hg,_,_,_,hk,ht⟩:=H;have h1:=Amy hk hr hx;have hi:=(List.getElem?_eq_some_iff.1 h1).1;rw [AZ5 hk] at hi;rw [<- ht,List.getElem?_take,if_pos hi] at h1;simp only [AWy,hg];simpa using h1
theorem Abp.free {h:AGt} {el k g:Nat} {v:Value} {L:List (List Value)} (H:Abp h el k g v L) (i:Nat):Alg h ⟨g,i,none⟩=false:=by
 obtain ⟨cap,cur,_,hg,_⟩:=H;simp [Alg,hg]
theorem Abp.sl {h:AGt} {el k g:Nat} {v:Value} {L:List (List Value)} (H:Abp h el k g v L):SlK h k v L:=by
 have H':=H;obtain ⟨cap,cur,hv,_⟩:=H;exact ⟨_,cap,hv,fun i r hr=>⟨g,0,rfl,fun j x hx=>by rw [Nat.zero_add];exact H'.cell hr hx⟩⟩
theorem Abp.congr {h h':AGt} {el k g:Nat} {v:Value} {L:List (List Value)} (H:Abp h el k g v L) (he:h'[g]? =h[g]?):Abp h' el k g v L:=by
 obtain ⟨cap,cur,hv,hg,r⟩:=H;exact ⟨cap,cur,hv,he.trans hg,r⟩
theorem Abp.ext {h h':AGt} {el k g:Nat} {v:Value} {L:List (List Value)} (H:Abp h el k g v L) (he:Ext h h'):Abp h' el k g v L:=H.congr (he.2 g H.lt)
theorem Abp.upd {S:Nat->Prop} {h h':AGt} {el k g:Nat} {v:Value} {L:List (List Value)} (H:Abp h el k g v L) (he:Upd S h h') (hS: ¬ S g):Abp h' el k g v L:=H.congr (he.2 g H.lt hS)
theorem A4p {k:Nat}:∀ {L:List (List Value)} {i j:Nat} {r:List Value} (y:Value),(∀ r∈L,r.length=k)->L[i]? =some r->j < k->(L.set i (r.set j y)).flatten=L.flatten.set (i * k + j) y:=by
 intro L
 induction L with
 | nil=>intro i j r y _ h;simp at h
 | cons s L ih=>
   intro i j r y h hi hj
   have hs:=h s (List.mem_cons_self ..)
   cases i with
   | zero=>
     simp at hi;subst hi
     simp only [List.set_cons_zero,List.flatten_cons,Nat.zero_mul,Nat.zero_add]
     rw [List.set_append_left _ _ AGi]
   | succ i=>
     simp only [List.getElem?_cons_succ] at hi
     have:=ih y (fun r hr=>h r (List.mem_cons_of_mem _ hr)) hi hj
     simp only [List.set_cons_succ,List.flatten_cons]
     rw [this,List.set_append_right _ _ (by rw [hs,Nat.add_mul];omega),hs,show (i + 1) * k + j - k=i * k + j by rw [Nat.add_mul];omega]
theorem Abp.set {h:AGt} {el k g:Nat} {v:Value} {L:List (List Value)} (H:Abp h el k g v L) {i j:Nat} {r:List Value} (y:Value) (hr:L[i]? =some r) (hj:j < k):Abp (An2 h ⟨g,i * k + j,none⟩ y) el k g v (L.set i (r.set j y)):=by
 obtain ⟨cap,cur,hv,hg,hl,hm,hs,hk,ht⟩:=H;have hrk:=hk r (List.mem_of_getElem? hr);refine ⟨cap,cur.setIfInBounds (i * k + j) y,by rw [List.length_set];exact hv,?_,by rw [List.length_set];exact hl,hm,by simp [hs],?_,?_⟩
 ·simp only [An2,Array.getElem?_modify,if_true,hg,Option.map_some];rfl
 ·intro q hq;rcases List.mem_or_eq_of_mem_set hq with hq | rfl
  ·exact hk q hq
  ·rw [List.length_set];exact hrk
 ·rw [List.length_set,Array.toList_setIfInBounds,List.take_set,ht,A4p y hk hr hj]
def A4q (h:AGt) (el k lo:Nat) (v:Value) (L:List (List Value)):Prop:=(L=[]/\v= .slice none 0 0)∨ ∃ g,lo<=g/\Abp h el k g v L
theorem At1:∀ (l pre old:List Value),old.length=l.length->((l.zipIdx pre.length).foldl (fun (cs:Array Value) (x:Value × Nat)=>cs.setIfInBounds (0 + x.2) x.1) (pre ++ old).toArray)=(pre ++ l).toArray:=by
 intro l
 induction l with
 | nil=>intro pre old h;obtain rfl:old=[]:=List.eq_nil_of_length_eq_zero h;simp
 | cons v l ih=>
   intro pre old h
   cases old with
   | nil=>simp at h
   | cons o old=>
     have:=ih (pre ++ [v]) old (by simpa using h)
     simp only [List.zipIdx_cons,List.foldl_cons]
     rw [show (pre ++ o :: old).toArray.setIfInBounds (0 + pre.length) v=(pre ++ [v] ++ old).toArray by simp]
     rw [List.length_append,List.length_cons,List.length_nil,Nat.zero_add] at this
     rw [this]
     simp
section
variable {P:Program} {B:AGt->Prop} {st:Bool} {ops:Array Oper} {rest:List Oper} {e:Env} {h:AGt} {K:Env->AGt->Prop}
variable {d d':Nat} {ty ty':TypeId} {pos pos':String} {af af':Array Edge}
theorem Abq {x:Operand} {t:Nat} {v:Value} (l:List Value) (hbB:∀ h',B h') (hx:e.ev x=v) (hl:v.cells=l.toArray) (H:∀ b h',AVv t h' b l->Ext h h'->h.size<=b->b < h'.size->RL P B st ops rest (e.set d (.pointer (some ⟨b,0,none⟩))) h' K):
    RL P B st ops (⟨some d,.box t x,ty,pos,af,none⟩ :: rest) e h K:=by
  refine BAa (hbB _) hx ⟨hbB _,?_⟩;exact H h.size _ (by unfold AVv;rw [hl];simp) (AV0 _ _) (Nat.le_refl _) ATv
theorem AYx {t bytes:Nat} {z:Value} (l:List Value) (hz:ZeT P t z bytes) (hl:z.cells=l.toArray) (hbB:∀ h',B h') (H:∀ b h',AVv t h' b l->Ext h h'->h.size<=b->b < h'.size->RL P B st ops rest (e.set d (.pointer (some ⟨b,0,none⟩))) h' K):
    RL P B st ops (⟨some d,.alloc t,ty,pos,af,none⟩ :: rest) e h K:=by
  refine A0i hz (hbB _) ⟨hbB _,?_⟩;exact H h.size _ (by unfold AVv;rw [hl];simp) (AV0 _ _) (Nat.le_refl _) ATv
theorem Ag8 {x y:Operand} {t tb b i:Nat} {u:Value} {l:List Value} (l':List Value) (ht:NaT P t) (hx:e.ev x= .pointer (some ⟨b,i,none⟩)) (hy:e.ev y=u) (h1:isOne u=true) (HB:AVv tb h b l) (hi:i < l.length) (hl:l.set i u=l')
    (H:∀ h',AVv tb h' b l'->Upd (· =b) h h'->RL P B st ops rest e h' K):RL P B st ops (⟨none,.store t x y,ty,pos,af,none⟩ :: rest) e h K:=
  A7x ht hx hy h1 (HB.cell (List.getElem?_eq_getElem hi)) (HB.free i) (H _ (hl ▸ HB.set i u) (Aho _ _ _))
theorem Ay6 {b t:Nat} {w:World} {l l':List Value} (HB:AVv t w.heap b l) (hl:l'.length=l.length) (h1:∀ u∈l',isOne u=true):∃ w',(storeCells ⟨b,0,none⟩ l').run P w= .ok () w'/\w'.tape=w.tape/\w'.os=w.os/\w'.output=w.output/\AVv t w'.heap b l'/\Upd (· =b) w.heap w'.heap:=by
 have hone':∀ u∈l',u.oneCell'=true:=fun u hu'=>by have:=h1 u hu';cases u <;> first | rfl | cases this
 have:=run_storeCells_at P b 0 t l' 0 l.toArray w HB (by simp [hl]) hone';refine ⟨_,this,rfl,rfl,rfl,?_,?_⟩
 ·unfold AVv;rw [setRow_heap w b l.toArray _ t (0,0) HB];simp [hl]
 ·exact ⟨by simp [World.setRow],fun k hk hne=>setRow_other w b k _ (fun he=>hne he)⟩
theorem AU0 {x y:Operand} {t tb b s:Nat} {l:List Value} (l':List Value) (ht:AgT P t s) (hl':l'.length=s) (hl:l.length=s) (hx:e.ev x= .pointer (some ⟨b,0,none⟩)) (hy:e.ev y= .agg l'.toArray) (h1:∀ u∈l',isOne u=true) (HB:AVv tb h b l)
    (H:∀ h',AVv tb h' b l'->Upd (· =b) h h'->RL P B st ops rest e h' K):RL P B st ops (⟨none,.store t x y,ty,pos,af,none⟩ :: rest) e h K:=by
  refine BAy rfl rfl fun w hw=>?_;subst hw;obtain ⟨_,i,hi,hsz⟩:=ht;obtain ⟨w',hr,ht',ho',hu',HB',hU⟩:=Ay6 (P:=P) HB (hl'.trans hl.symm) h1
  have hrun:(execOp e.ev ⟨none,.store t x y,ty,pos,af,none⟩).run P w= .ok .skip w':=by
    simp only [execOp,Instr.storeAt,hx,Instr.sureAddr,hy];simp [storeVar,Ag7 hi,Value.cells,hsz,hl',hr]
  rw [hrun];exact ⟨⟨ho',ht',hu'⟩,H _ HB' hU⟩
theorem AX1 {x:Operand} {t f off ft fs b o:Nat} (hf:FdT P t f off ft) (hs:(P.info? ft).map (·.size)=some fs) (hfs:fs≠0) (hx:e.ev x= .pointer (some ⟨b,o,none⟩)) (H:RL P B st ops rest (e.set d (.pointer (some ⟨b,o + off,none⟩))) h K):
    RL P B st ops (⟨some d,.fieldAddr t x f,ty,pos,af,none⟩ :: rest) e h K:=by
  refine BEg hf hs hfs hx ?_;rw [AXq];exact H
theorem BDc {t el bytes s:Nat} {z:Value} {y:Operand} (l:List Value) (hT:SlT P t el s) (hz:ZeT P el z bytes) (hb:B h) (hy:e.ev y= .agg l.toArray) (hl:l.length=s) (hs1:0 < s) (hs2:s<=1000)
    (H:B (h.push (.cells l.toArray el (0,0)))/\RL P B st ops rest (e.set d (.slice (some ⟨h.size,0,none⟩) 1 1)) (h.push (.cells l.toArray el (0,0))) K):
    RL P B st ops (⟨some d,.buildSlice t 1 #[(0,y)],ty,pos,af,none⟩ :: rest) e h K:=by
  refine Agf rfl rfl hb fun w hw=>?_;subst hw;obtain ⟨hu,i0,hi0,hs0⟩:=hT;obtain ⟨i,hi,hzz,hsz,hby⟩:=hz;rw [hi] at hi0;injection hi0 with hi0;subst hi0;have h3: ¬ (1 * i.size > 2 ^ 24):=by rw [hs0];omega
  have h4: ¬ (1 * i.size=0):=by rw [hs0];omega
  have hfill:Instr.fill (fun j=>some (j * i.size,i.size)) ((Array.range (1 * i.size)).map (z.cells[· % z.cells.size]!)) [(0,.agg l.toArray)]=some l.toArray:=by
    have hvc:(Value.agg l.toArray).cells=l.toArray:=rfl;generalize z.cells=zc;simp only [Instr.fill,hvc,List.size_toArray,hl,hs0];rw [if_neg ATv];congr 1;obtain ⟨old,ho⟩:∃ old:List Value,((Array.range (1 * s)).map (zc[· % zc.size]!))=old.toArray:=⟨_,(Array.toArray_toList).symm⟩;have hol:old.length=l.length:=by have:=congrArg Array.size ho;simp at this;omega
    rw [ho];have:=At1 l [] old hol;simp only [List.nil_append,List.length_nil] at this;simp only [Nat.zero_mul];rw [<- Array.foldl_toList];simp only [Array.toList_zipIdx];exact this
  have:(execOp e.ev ⟨some d,.buildSlice t 1 #[(0,y)],ty,pos,af,none⟩).run P w= .ok (.value (.slice (some ⟨w.heap.size,0,none⟩) 1 1)) (w.alloc (.cells l.toArray el)):=by
    simp only [execOp,List.map_toArray,List.map,hy];simp only [Instr.buildSlice,Sem.run_bind,Adk hu,Result.andThen,Ag7 hi,if_neg h3,if_neg h4,Awq hi hzz];have hp1:Sem.run P (pure z.cells:Sem (Array Value)) w= .ok z.cells w:=rfl;simp only [hp1];rw [hfill];simp [newRow]
  rw [this];exact ⟨⟨rfl,rfl,rfl⟩,H⟩
theorem A4r (h:AGt) (el k:Nat) (l:List Value) (hl:l.length=k):Abp (h.push (.cells l.toArray el (0,0))) el k h.size (.slice (some ⟨h.size,0,none⟩) 1 1) [l]:=
  ⟨1,l.toArray,rfl,ATv,ATv,by simp [maxLen],by simp [hl],by simpa using hl,by simp [<- hl]⟩
theorem Amz {op:BinOp} {x y:Operand} {t t2:TypeId} {k:IntKind} {a b c:Int} (hx:e.ev x= .int k a) (hy:e.ev y= .int k b) (hop:op= .and∨op= .or∨op= .xor∨op= .andNot) (hv:∀ w,(Op.intBits op k a b).run P w= .ok (.int k c) w) (H:RL P B st ops rest (e.set d (.int k c)) h K):
    RL P B st ops (⟨some d,.binOp op t x y t2,ty,pos,af,none⟩ :: rest) e h K:=
  AXp (v:= .int k c) rfl rfl (fun w=>by
    rcases hop with rfl | rfl | rfl | rfl <;> simp [execOp,hx,hy,eqGuard,binOp,hv]) H
theorem At2 {x y:Operand} {t t2:TypeId} {k k':IntKind} {a:Int} {n:Nat} (hx:e.ev x= .int k a) (hy:e.ev y= .int k' (n:Int)) (hn:n<=k.bits) (H:RL P B st ops rest (e.set d (.int k (k.wrap (a * 2 ^ n)))) h K):
    RL P B st ops (⟨some d,.binOp .shl t x y t2,ty,pos,af,none⟩ :: rest) e h K:=
  AXp (v:= .int k (k.wrap (a * 2 ^ n))) rfl rfl (fun w=>by
    have h1: ¬ ((n:Int) < 0):=by omega
    have h2:min n k.bits=n:=by omega
    simp [execOp,hx,hy,eqGuard,binOp,Op.shift,h1,h2]) H
theorem Aqt {x y:Operand} {t t2:TypeId} {k k':IntKind} {a:Int} {n:Nat} (hx:e.ev x= .int k a) (hy:e.ev y= .int k' (n:Int)) (hn:n<=k.bits) (H:RL P B st ops rest (e.set d (.int k (a / 2 ^ n))) h K):
    RL P B st ops (⟨some d,.binOp .shr t x y t2,ty,pos,af,none⟩ :: rest) e h K:=
  AXp (v:= .int k (a / 2 ^ n)) rfl rfl (fun w=>by
    have h1: ¬ ((n:Int) < 0):=by omega
    have h2:min n k.bits=n:=by omega
    have h3:a.fdiv (2 ^ n)=a / 2 ^ n:=Int.fdiv_eq_ediv_of_nonneg _ (Int.le_of_lt (Int.pow_pos AGi))
    simp [execOp,hx,hy,eqGuard,binOp,Op.shift,h1,h2,h3]) H
theorem Ar7 {t:TypeId} {a b:Bool} (ht:P.underlying t=some .bool) (w:World):(Op.equal t (.bool a) (.bool b)).run P w= .ok (a == b) w:=by
 show (Op.equalIn (9999 + 1) t _ _).run P w=_;rw [Op.equalIn];simp [Adk ht]
theorem Aw0 {x y:Operand} {t t2:TypeId} {a b:Bool} (ht:P.underlying t=some .bool) (hx:e.ev x= .bool a) (hy:e.ev y= .bool b) (H:RL P B st ops rest (e.set d (.bool (a == b))) h K):
    RL P B st ops (⟨some d,.binOp .eql t x y t2,ty,pos,af,none⟩ :: rest) e h K:=
  AXp (v:= .bool (a == b)) rfl rfl (fun w=>by
    simp [execOp,hx,hy,eqGuard,binOp,Ar7 ht]) H
theorem Ar8 {x y:Operand} {t t2:TypeId} {a b:Bool} (ht:P.underlying t=some .bool) (hx:e.ev x= .bool a) (hy:e.ev y= .bool b) (H:RL P B st ops rest (e.set d (.bool (!(a == b)))) h K):
    RL P B st ops (⟨some d,.binOp .neq t x y t2,ty,pos,af,none⟩ :: rest) e h K:=
  AXp (v:= .bool (!(a == b))) rfl rfl (fun w=>by
    simp [execOp,hx,hy,eqGuard,binOp,Ar7 ht]) H
theorem BDd {x y:Operand} {t t2:TypeId} {a b:Array Value} {r:Bool} (hg:P.eqGuardType P.depth t=false) (hx:e.ev x= .agg a) (hy:e.ev y= .agg b) (hv:∀ w,(Op.equal t (.agg a) (.agg b)).run P w= .ok r w) (H:RL P B st ops rest (e.set d (.bool !r)) h K):
    RL P B st ops (⟨some d,.binOp .neq t x y t2,ty,pos,af,none⟩ :: rest) e h K:=
  AXp (v:= .bool !r) rfl rfl (fun w=>by
    simp [execOp,hx,hy,eqGuard,binOp,hv,hg]) H
end
theorem Aw1 {P:Program} {t:TypeId} {cs:Array Value} {off:Nat} {v:Value} (ht:NaT P t) (hv:cs[off]? =some v) (w:World):(part t cs off).run P w= .ok v w:=by
 obtain ⟨⟨d,hd,hna⟩,_⟩:=ht;have h2:=A0h (P:=P) hd w;rw [hna] at h2;simp [part,h2,hv]
theorem A2k {P:Program} {t:TypeId} {k:IntKind} {a b:Int} (ht:Alh P t k) (w:World):(Op.equalIn 9999 t (.int k a) (.int k b)).run P w= .ok (a == b) w:=by
 show (Op.equalIn (9998 + 1) t _ _).run P w=_;unfold Alh at ht;rw [Op.equalIn];simp [Adk ht]
theorem Ay7 {P:Program} {t:TypeId} {a b:Bool} (ht:P.underlying t=some .bool) (w:World):(Op.equalIn 9999 t (.bool a) (.bool b)).run P w= .ok (a == b) w:=by
 show (Op.equalIn (9998 + 1) t _ _).run P w=_;rw [Op.equalIn];simp [Adk ht]
theorem Agi {P:Program} {t s:Nat} (ht:AgT P t s) {a:Addr} {l:List Value} (hl:l.length=s) (w:World) (hc:∀ i u,l[i]? =some u->AWy w.heap (a.add i)=some u):(loadVar t a).run P w= .ok (.agg l.toArray) w:=by
 obtain ⟨⟨dd,hd,hag⟩,i,hi,hsz⟩:=ht;have h1:=run_loadCells (P:=P) (a:=a) (w:=w) l 0 #[] (fun i u hu=>by rw [Nat.zero_add];exact hc i u hu);rw [hl,<- hsz] at h1;have h2:=A0h (P:=P) hd w;rw [hag] at h2;simp [loadVar,h2,Ag7 hi,loadCells,h1]
theorem AU7 {P:Program} {e:Env} {h:AGt} {t:Tmp} {ty s tb b:Nat} {l:List Value} (ht:AgT P ty s) (hl:l.length=s) (he:e t= .pointer (some ⟨b,0,none⟩)) (HB:AVv tb h b l):Auz P [.cell t ty] e h (.agg l.toArray):=
  fun fn tmps w hr hg hw=>by
    have h1:tmps[t]?.getD undef= .pointer (some ⟨b,0,none⟩):=by rw [<- Array.getD_eq_getD_getElem?,hg];exact he
    have h2:=Agi ht hl w (a:=⟨b,0,none⟩) (by rw [hw];exact HB.agg)
    simp only [results,hr]
    simp [h1,asAddr,h2]
theorem Alk {P:Program} {e:Env} {h:AGt} {t u:Tmp} {ty s tb b:Nat} {l:List Value} (ht:AgT P ty s) (hl:l.length=s) (he:e t= .pointer (some ⟨b,0,none⟩)) (HB:AVv tb h b l):Auz P [.cell t ty,.tmp u] e h (.tuple #[.agg l.toArray,e u]):=
  fun fn tmps w hr hg hw=>by
    have h1:tmps[t]?.getD undef= .pointer (some ⟨b,0,none⟩):=by rw [<- Array.getD_eq_getD_getElem?,hg];exact he
    have h2:=Agi ht hl w (a:=⟨b,0,none⟩) (by rw [hw];exact HB.agg)
    rw [<- hg u]
    simp only [results,hr]
    simp [h1,asAddr,h2]
theorem Agj {P:Program} {e:Env} {h:AGt} {t t2 u:Tmp} {ty Ad s s2 tb Ae b b2:Nat} {l l2:List Value} (ht:AgT P ty s) (hl:l.length=s) (he:e t= .pointer (some ⟨b,0,none⟩)) (HB:AVv tb h b l) (Af:AgT P Ad s2) (Ag:l2.length=s2) (Ah:e t2= .pointer (some ⟨b2,0,none⟩)) (Ai:AVv Ae h b2 l2):Auz P [.cell t ty,.cell t2 Ad,.tmp u] e h (.tuple #[.agg l.toArray,.agg l2.toArray,e u]):=
  fun fn tmps w hr hg hw=>by
    have h1:tmps[t]?.getD undef= .pointer (some ⟨b,0,none⟩):=by rw [<- Array.getD_eq_getD_getElem?,hg];exact he
    have h3:tmps[t2]?.getD undef= .pointer (some ⟨b2,0,none⟩):=by rw [<- Array.getD_eq_getD_getElem?,hg];exact Ah
    have h2:=Agi ht hl w (a:=⟨b,0,none⟩) (by rw [hw];exact HB.agg)
    have h4:=Agi Af Ag w (a:=⟨b2,0,none⟩) (by rw [hw];exact Ai.agg)
    rw [<- hg u]
    simp only [results,hr]
    simp [h1,h3,asAddr,h2,h4]
end Go.QF
namespace Go.QF
open Go
def Af1 (v:Value):Prop:= ∃ a n c,v= .slice a n c/\n<=c
theorem Ap4:Af1 (.slice none 0 0):=⟨_,_,_,rfl,Nat.le_refl _⟩
theorem AV5.cap {h:AGt} {el g:Nat} {v:Value} {l:List Value} (H:AV5 h el g v l):Af1 v:=by
 obtain ⟨cap,cur,rfl,_,hl,_⟩:=H;exact ⟨_,_,_,rfl,hl⟩
theorem Sl.drop {h:AGt} {a:Option Addr} {n cap k:Nat} {l:List Value} (H:Sl h (.slice a n cap) l) (hk:k<=n) (hc:n<=cap):
    Sl h (.slice (if cap=k then a else a.map (·.add (k * 1))) (n - k) (cap - k)) (l.drop k):=by
 obtain ⟨a',c',hv,hx⟩:=H;injection hv with ha hl hcap;subst ha;refine ⟨_,_,by rw [List.length_drop,hl],fun i x hi=>?_⟩;rw [List.getElem?_drop] at hi;have hil:=(List.getElem?_eq_some_iff.1 hi).1;obtain ⟨b,o,ha,hcell⟩:=hx _ _ hi;refine ⟨b,o + k,?_,by rw [Nat.add_assoc];exact hcell⟩;rw [if_neg AGi,ha];simp [Addr.add]
theorem Mat.drop {h:AGt} {a:Option Addr} {n cap k:Nat} {M:List (List Int)} (H:Mat h (.slice a n cap) M) (hk:k<=n) (hc:n<=cap):
    Mat h (.slice (if cap=k then a else a.map (·.add (k * 1))) (n - k) (cap - k)) (M.drop k):=by
 obtain ⟨rs,h1,h2,h3⟩:=H;refine ⟨rs.drop k,h1.drop hk hc,by simp [h2],fun i r z hr hz=>?_⟩;rw [List.getElem?_drop] at hr hz;exact h3 _ r z hr hz
section
variable {P:Program} {B:AGt->Prop} {st:Bool} {ops:Array Oper} {rest:List Oper} {e:Env} {h:AGt} {K:Env->AGt->Prop}
variable {d:Nat} {ty:TypeId} {pos:String} {af:Array Edge}
theorem A2l {x y:Operand} {t el k:Nat} {v:Value} {M:List (List Int)} {kk:IntKind} (hT:SlT P t el 1) (hx:e.ev x=v) (HM:Mat h v M) (hc:Af1 v) (hy:e.ev y= .int kk (k:Int)) (hk:k<=M.length) (H:∀ v',Mat h v' (M.drop k)->Af1 v'->RL P B st ops rest (e.set d v') h K):
    RL P B st ops (⟨some d,.slice t x (some y) none none,ty,pos,af,none⟩ :: rest) e h K:=by
 obtain ⟨a,n,c,rfl,hnc⟩:=hc;obtain ⟨a',c',hv⟩:=HM.len;injection hv with _ hn _;exact Awu hT hx hy AGi hnc (H _ (HM.drop AGi hnc) ⟨_,_,_,rfl,AGi⟩)
end
end Go.QF
namespace Go.QF
open Go
def Ahu (h:AGt) (er ei lo b:Nat) (gs:List Nat) (v:Value) (n:Nat) (Z:List (List Int)):Prop:=Acq h er ei b gs v n Z/\ ∀ g∈b :: gs,lo<=g
theorem Ahu.ext {h h':AGt} {er ei lo b n:Nat} {gs:List Nat} {v:Value} {M:List (List Int)} (H:Ahu h er ei lo b gs v n M) (he:Ext h h'):Ahu h' er ei lo b gs v n M:=⟨H.1.ext he,H.2⟩
theorem Ahu.cap {h:AGt} {er ei lo b n:Nat} {gs:List Nat} {v:Value} {M:List (List Int)} (H:Ahu h er ei lo b gs v n M):Af1 v:=let ⟨_,h1,_⟩:=H.1.top;h1.cap
theorem Ahu.mat {h:AGt} {er ei lo b:Nat} {gs:List Nat} {v:Value} {M:List (List Int)} (H:Ahu h er ei lo b gs v M.length M):Mat h v M:=BA2.mat H.1
section
variable {P:Program} {B:AGt->Prop} {st:Bool} {ops:Array Oper} {rest:List Oper} {e:Env} {h:AGt} {K:Env->AGt->Prop}
variable {d:Nat} {ty:TypeId} {pos:String} {af:Array Edge}
theorem BDe {x y:Operand} {t er ei n bytes:Nat} (hT:SlT P t er 1) (hz:ZeT P er (.slice none 0 0) bytes) (hbB:∀ h',B h') (hx:e.ev x= .int .i64 (n:Int)) (hy:e.ev y= .int .i64 (n:Int)) (hby:bytes<=1000) (hn:n<=100000000)
    (H:∀ b v h',Ahu h' er ei h.size b [] v n []->Ext h h'->h.size<=b->b < h'.size->RL P B st ops rest (e.set d v) h' K):
    RL P B st ops (⟨some d,.makeSlice t x y,ty,pos,af,none⟩ :: rest) e h K:=by
  have h1:bytes * n<=1000 * 100000000:=Nat.mul_le_mul hby hn;refine A32 hT hz rfl (hbB _) hx hy AGi AGi ⟨hbB _,?_⟩;exact H h.size _ _ ⟨A2i h er ei n (by unfold maxLen;omega),ATv⟩ (AV0 _ _) (Nat.le_refl _) ATv
theorem BDf {x y:Operand} {t ei n bytes:Nat} (hT:SlT P t ei 1) (hz:ZeT P ei (.int .i64 0) bytes) (hbB:∀ h',B h') (hx:e.ev x= .int .i64 (n:Int)) (hy:e.ev y= .int .i64 (n:Int)) (hby:bytes<=1000) (hn:n<=100000000)
    (H:∀ g v h',AV5 h' ei g v ((List.replicate n (0:Int)).map (.int .i64))->Ext h h'->h.size<=g->g < h'.size->RL P B st ops rest (e.set d v) h' K):
    RL P B st ops (⟨some d,.makeSlice t x y,ty,pos,af,none⟩ :: rest) e h K:=by
  have h1:bytes * n<=1000 * 100000000:=Nat.mul_le_mul hby hn;refine A32 hT hz rfl (hbB _) hx hy AGi AGi ⟨hbB _,?_⟩;exact H h.size _ _ (A4h h ei n 0 (by unfold maxLen;omega)) (AV0 _ _) (Nat.le_refl _) ATv
theorem A74 {x i:Operand} {t el er ei lo b n:Nat} {gs:List Nat} {v:Value} {Z:List (List Int)} {k:IntKind} {j:Nat} (hT:SlT P t el 1) (hx:e.ev x=v) (HP:Ahu h er ei lo b gs v n Z) (hi:e.ev i= .int k (j:Int)) (hj:j < n)
    (H:RL P B st ops rest (e.set d (.pointer (some ⟨b,j,none⟩))) h K):RL P B st ops (⟨some d,.indexAddr t x i,ty,pos,af,none⟩ :: rest) e h K:=by
  obtain ⟨rs,h1,h2⟩:=HP.1.top;exact Akt hT hx h1 hi AGi H
theorem A75 {x y:Operand} {t er ei lo b g n j:Nat} {gs:List Nat} {v r:Value} {Z:List (List Int)} {z:List Int} (ht:NaT P t) (hx:e.ev x= .pointer (some ⟨b,j,none⟩)) (hy:e.ev y=r) (HP:Ahu h er ei lo b gs v n Z) (hj:Z.length=j) (hjn:j < n) (hr:AV5 h ei g r (z.map (.int .i64))) (hg:g ∉ b :: gs) (hlo:lo<=g)
    (H:∀ h',Ahu h' er ei lo b (gs ++ [g]) v n (Z ++ [z])->Upd (· =b) h h'->RL P B st ops rest e h' K):RL P B st ops (⟨none,.store t x y,ty,pos,af,none⟩ :: rest) e h K:=by
  obtain ⟨rs,h1,h2⟩:=HP.1.top;refine A31 ht hx hy hr.one h1 AGi (H _ ⟨HP.1.push hj hjn hr hg,fun q hq=>?_⟩ (Aho _ _ _));rw [<- List.cons_append] at hq
  rcases List.mem_append.1 hq with hq | hq
  · exact HP.2 q hq
  · rw [List.mem_singleton.1 hq];exact hlo
theorem BDg {x i:Operand} {t el er ei lo b n:Nat} {gs:List Nat} {v:Value} {M:List (List Int)} {z:List Int} {k:IntKind} {j:Nat} (hT:SlT P t el 1) (hx:e.ev x=v) (HP:Ahu h er ei lo b gs v n M) (hi:e.ev i= .int k (j:Int)) (hz:M[j]? =some z)
    (H:∀ a r g,AWy h a=some r->gs[j]? =some g->AV5 h ei g r (z.map (.int .i64))->RL P B st ops rest (e.set d (.pointer (some a))) h K):RL P B st ops (⟨some d,.indexAddr t x i,ty,pos,af,none⟩ :: rest) e h K:=
  BDb hT hx HP.1 hi hz H
theorem A76 {x y:Operand} {t er ei lo b g n i j:Nat} {gs:List Nat} {v r:Value} {M:List (List Int)} {z:List Int} {u:Int} (z':List Int) (ht:NaT P t) (hx:e.ev x= .pointer (some ⟨g,j,none⟩)) (hy:e.ev y= .int .i64 u) (HP:Ahu h er ei lo b gs v n M) (hg:gs[i]? =some g) (hz:M[i]? =some z) (hr:AV5 h ei g r (z.map (.int .i64))) (hj:j < z.length) (hz':z.set j u=z')
    (H:∀ h',Ahu h' er ei lo b gs v n (M.set i z')->Upd (· =g) h h'->lo<=g->RL P B st ops rest e h' K):RL P B st ops (⟨none,.store t x y,ty,pos,af,none⟩ :: rest) e h K:=
  A31 ht hx hy rfl hr (by simpa using hj) (H _ ⟨hz' ▸ HP.1.setElem hg hz hj u,HP.2⟩ (Aho _ _ _) (HP.2 g (List.mem_cons_of_mem _ (List.mem_of_getElem? hg))))
end
end Go.QF
namespace Go.QF
open Go
def nv:List Nat->Nat
  | []=>0
  | x :: l=>x + 4294967296 * nv l
def Dig (L:List Nat):Prop:= ∀ x∈L,x < 4294967296
def TL (L:List Nat):Prop:= ∀ x,L.getLast?=some x->x≠0
theorem Anj (l m:List Nat):nv (l ++ m)=nv l + 4294967296 ^ l.length * nv m:=by
 induction l with
 | nil=>simp [nv]
 | cons x l ih=>simp only [List.cons_append,nv,ih,List.length_cons,Nat.pow_succ];grind
theorem Adp (l:List Nat) (x:Nat):nv (l ++ [x])=nv l + 4294967296 ^ l.length * x:=by rw [Anj];simp [nv]
theorem Ae9 {L:List Nat} (h:Dig L):nv L < 4294967296 ^ L.length:=by
 induction L with
 | nil=>simp [nv]
 | cons x l ih=>
   have h1:=h x (List.mem_cons_self ..)
   have h2:=ih fun y hy=>h y (List.mem_cons_of_mem _ hy)
   simp only [nv,List.length_cons,Nat.pow_succ]
   have h3:4294967296 * (nv l + 1)<=4294967296 * 4294967296 ^ l.length:=Nat.mul_le_mul_left _ h2
   rw [Nat.mul_comm (4294967296 ^ l.length)]
   rw [Nat.mul_add,Nat.mul_one] at h3
   omega
theorem Ao2 {L:List Nat} (h:Dig L) (k:Nat):Dig (L.take k):=fun x hx=>h x (List.mem_of_mem_take hx)
theorem AY4 {L:List Nat} (h:TL L) (h0:nv L=0):L=[]:=by
 rcases List.eq_nil_or_concat L with rfl | ⟨l,x,rfl⟩
 ·rfl
 ·rw [List.concat_eq_append,Adp] at h0;have hx:=h x ATv;have:0 < 4294967296 ^ l.length:=Nat.pow_pos AGk;have:=Nat.mul_le_mul_left (4294967296 ^ l.length) (Nat.one_le_iff_ne_zero.2 hx);omega
theorem A4s {L:List Nat} (h:TL L) (hL:L≠[]):4294967296 ^ (L.length - 1)<=nv L:=by
 rcases List.eq_nil_or_concat L with rfl | ⟨l,x,rfl⟩
 ·exact absurd rfl hL
 ·have hx:=h x ATv;rw [List.concat_eq_append,Adp];have h2:=Nat.mul_le_mul_left (4294967296 ^ l.length) (Nat.one_le_iff_ne_zero.2 hx);have h3:(l ++ [x]).length - 1=l.length:=by simp
  rw [h3];omega
def Afk (n:Nat):Value:= .int .u32 (n:Int)
structure DS (h:AGt) (lo:Nat) (v:Value) (L:List Nat):Prop where
  sl:Sl h v (L.map Afk)
  cap:Af1 v
  dig:Dig L
  lo:∀ g,v.ownBlock=some g->lo<=g
  tg:∀ g,v.ownBlock=some g-> ∃ cur off,h[g]? =some (.cells cur 170 off)
theorem DS.ext {h h':AGt} {lo:Nat} {v:Value} {L:List Nat} (H:DS h lo v L) (he:Ext h h'):DS h' lo v L:=⟨H.sl.ext he,H.cap,H.dig,H.lo,fun g hg=>let ⟨cur,off,hx⟩:=H.tg g hg;⟨cur,off,(he.2 g (Array.getElem?_eq_some_iff.1 hx).1).trans hx⟩⟩
theorem DS.updLo {b:Nat} {h h':AGt} {lo:Nat} {v:Value} {L:List Nat} (H:DS h lo v L) (he:Upd (· =b) h h') (hb:b < lo):DS h' lo v L:=
  ⟨H.sl.upd he (fun g hg hs=>by have:=H.lo g hg;have hs':g=b:=hs;omega),H.cap,H.dig,H.lo,fun g hg=>let ⟨cur,off,hx⟩:=H.tg g hg;⟨cur,off,(he.2 g (Array.getElem?_eq_some_iff.1 hx).1 (fun hs=>by have:=H.lo g hg;have hs':g=b:=hs;omega)).trans hx⟩⟩
theorem DS.mono {h:AGt} {lo lo':Nat} {v:Value} {L:List Nat} (H:DS h lo v L) (hl:lo'<=lo):DS h lo' v L:=⟨H.sl,H.cap,H.dig,fun g hg=>Nat.le_trans hl (H.lo g hg),H.tg⟩
theorem Af1.one {v:Value} (H:Af1 v):isOne v=true:=by
 obtain ⟨a,n,c,rfl,_⟩:=H;rfl
theorem Abn {ng:Bool} {s:Value} (H:Af1 s):∀ u∈[Value.bool ng,s],isOne u=true:=by
 intro u hu;simp only [List.mem_cons,List.not_mem_nil,or_false] at hu;rcases hu with rfl | rfl
 ·rfl
 ·exact H.one
theorem Ai1 (h:AGt) (lo:Nat):DS h lo (.slice none 0 0) []:=⟨by simpa using A30 h,Ap4,fun x hx=>by simp at hx,fun g hg=>(by cases hg),fun g hg=>(by cases hg)⟩
theorem Ajx {L:List Nat} {i x:Nat} (h:L[i]? =some x):(L.map Afk)[i]? =some (Afk x):=by simp [h]
def sgn (neg:Bool) (n:Nat):Int:=if neg then -(n:Int) else n
theorem Akf:TL []:=fun x hx=>by cases hx
theorem Aed {L:List Nat} (h:TL L) {k:Nat} (hk:nv L < 4294967296 ^ k):L.length<=k:=by
 by_cases hL:L=[]
 ·subst hL;simp
 ·have h1:=A4s h hL;have h2:4294967296 ^ (L.length - 1) < 4294967296 ^ k:=Nat.lt_of_le_of_lt h1 hk;have:=(Nat.pow_lt_pow_iff_right (by decide:1 < 4294967296)).1 h2;omega
structure ZV (h:AGt) (lo:Nat) (v:Value) (z:Int):Prop where
  out:∃ neg s L,v= .agg #[.bool neg,s]/\DS h lo s L/\TL L/\L.length<=100/\z=sgn neg (nv L)
theorem ZV.ext {h h':AGt} {lo:Nat} {v:Value} {z:Int} (H:ZV h lo v z) (he:Ext h h'):ZV h' lo v z:=by
 obtain ⟨n,s,L,h1,h2,h3⟩:=H.out;exact ⟨n,s,L,h1,h2.ext he,h3⟩
theorem ZV.updLo {b:Nat} {h h':AGt} {lo:Nat} {v:Value} {z:Int} (H:ZV h lo v z) (he:Upd (· =b) h h') (hb:b < lo):ZV h' lo v z:=by
 obtain ⟨n,s,L,h1,h2,h3⟩:=H.out;exact ⟨n,s,L,h1,h2.updLo he hb,h3⟩
section
variable {P:Program} {B:AGt->Prop} {st:Bool} {ops:Array Oper} {rest:List Oper} {e:Env} {h:AGt} {K:Env->AGt->Prop}
variable {d:Nat} {ty:TypeId} {pos:String} {af:Array Edge}
theorem Au4 {x y:Operand} {t el k:Nat} {v:Value} {l:List Value} {kk:IntKind} (hT:SlT P t el 1) (hx:e.ev x=v) (HS:Sl h v l) (hc:Af1 v) (hy:e.ev y= .int kk (k:Int)) (hk:k<=l.length)
    (H:∀ v',Sl h v' (l.take k)->Af1 v'->v'.ownBlock=v.ownBlock->RL P B st ops rest (e.set d v') h K):
    RL P B st ops (⟨some d,.slice t x none (some y) none,ty,pos,af,none⟩ :: rest) e h K:=by
  obtain ⟨a,n,c,rfl,hnc⟩:=hc
  have hn:n=l.length:=by
    obtain ⟨a',c',hv,_⟩:=HS;injection hv with _ h2 _
  refine BAz hT hx hy AGi (H _ (HS.pre k hk c) ⟨_,_,_,rfl,AGi⟩ ?_);cases a <;> rfl
theorem AUo {x:Operand} {t el s lo:Nat} {v:Value} {L:List Nat} (hT:SlT P t el s) (hx:e.ev x=v) (HI:DS h lo v L) (H:RL P B st ops rest (e.set d (.int .i64 (L.length:Int))) h K):
    RL P B st ops (⟨some d,.call ⟨.builtin .len,#[x],#[t]⟩,ty,pos,af,none⟩ :: rest) e h K:=by
 refine Aoh hT hx HI.sl ?_;rw [List.length_map];exact H
theorem Aa6 {x i:Operand} {t el lo:Nat} {v:Value} {L:List Nat} {u:Nat} {k:IntKind} {n:Nat} (hT:SlT P t el 1) (hx:e.ev x=v) (HS:DS h lo v L) (hi:e.ev i= .int k (n:Int)) (hu:L[n]? =some u) (H:∀ a,AWy h a=some (.int .u32 (u:Int))->RL P B st ops rest (e.set d (.pointer (some a))) h K):RL P B st ops (⟨some d,.indexAddr t x i,ty,pos,af,none⟩ :: rest) e h K:=
  Ary hT hx HS.sl hi (Ajx hu) H
theorem Ar9 {x y:Operand} {t el n bytes:Nat} (hT:SlT P t el 1) (hz:ZeT P el (.int .u32 0) bytes) (hbB:∀ h',B h') (hx:e.ev x= .int .i64 (n:Int)) (hy:e.ev y= .int .i64 (n:Int)) (hby:bytes<=1000) (hn:n<=100000000)
    (H:∀ g v h',AV5 h' el g v ((List.replicate n 0).map Afk)->Ext h h'->h.size<=g->g < h'.size->RL P B st ops rest (e.set d v) h' K):
    RL P B st ops (⟨some d,.makeSlice t x y,ty,pos,af,none⟩ :: rest) e h K:=by
  have h1:bytes * n<=1000 * 100000000:=Nat.mul_le_mul hby hn;refine A32 hT hz rfl (hbB _) hx hy AGi AGi ⟨hbB _,?_⟩;refine H h.size _ _ ?_ (AV0 _ _) (Nat.le_refl _) ATv;rw [List.map_replicate];exact Ams h el n (.int .u32 0) (by unfold maxLen;omega)
theorem Amc {x y:Operand} {t er g n u:Nat} {v:Value} {D:List Nat} (D':List Nat) (ht:NaT P t) (hx:e.ev x= .pointer (some ⟨g,n,none⟩)) (hy:e.ev y= .int .u32 (u:Int)) (HO:AV5 h er g v (D.map Afk)) (hn:n < D.length) (hD:D.set n u=D')
    (H:∀ h',AV5 h' er g v (D'.map Afk)->Upd (· =g) h h'->RL P B st ops rest e h' K):RL P B st ops (⟨none,.store t x y,ty,pos,af,none⟩ :: rest) e h K:=by
  have h2:=HO.set n (Afk u) (by simpa using hn);rw [<- List.map_set,hD] at h2;exact A31 ht hx hy rfl HO (by simpa using hn) (H _ h2 (Aho _ _ _))
theorem Agk {x y:Operand} {t t2:TypeId} {a b:Nat} (hx:e.ev x= .int .u64 (a:Int)) (hy:e.ev y= .int .u64 (b:Int)) (h1:a + b < 18446744073709551616) (H:RL P B st ops rest (e.set d (.int .u64 ((a + b:Nat):Int))) h K):
    RL P B st ops (⟨some d,.binOp .add t x y t2,ty,pos,af,none⟩ :: rest) e h K:=by
 refine ATk hx hy ?_;rw [show IntKind.u64.wrap ((a:Int) + (b:Int))=((a + b:Nat):Int) by simp only [IntKind.wrap,IntKind.bits,IntKind.signed];simp;omega];exact H
theorem Au5 {x y:Operand} {t t2:TypeId} {a b:Nat} (hx:e.ev x= .int .u64 (a:Int)) (hy:e.ev y= .int .u64 (b:Int)) (h1:a * b < 18446744073709551616) (H:RL P B st ops rest (e.set d (.int .u64 ((a * b:Nat):Int))) h K):
    RL P B st ops (⟨some d,.binOp .mul t x y t2,ty,pos,af,none⟩ :: rest) e h K:=by
 refine AZe hx hy ?_;rw [show IntKind.u64.wrap ((a:Int) * (b:Int))=((a * b:Nat):Int) by rw [<- Int.natCast_mul];simp only [IntKind.wrap,IntKind.bits,IntKind.signed];simp;rw [<- Int.natCast_mul];omega];exact H
theorem Alm {x y:Operand} {t t2:TypeId} {k:IntKind} {a:Nat} (hx:e.ev x= .int .u64 (a:Int)) (hy:e.ev y= .int k 32) (H:RL P B st ops rest (e.set d (.int .u64 ((a / 4294967296:Nat):Int))) h K):
    RL P B st ops (⟨some d,.binOp .shr t x y t2,ty,pos,af,none⟩ :: rest) e h K:=by
 refine Aqt (n:=32) hx hy AGk ?_;rw [show (a:Int) / 2 ^ 32=((a / 4294967296:Nat):Int) by omega];exact H
theorem Akg {x:Operand} {src dst:TypeId} {a:Nat} (hs:Alh P src .u32) (hd:Alh P dst .u64) (hx:e.ev x= .int .u32 (a:Int)) (ha:a < 4294967296) (H:RL P B st ops rest (e.set d (.int .u64 (a:Int))) h K):
    RL P B st ops (⟨some d,.convert src dst x,ty,pos,af,none⟩ :: rest) e h K:=by
 refine Aes hs hd hx ?_;rw [show IntKind.u64.wrap (a:Int)=(a:Int) by simp only [IntKind.wrap,IntKind.bits,IntKind.signed];simp;omega];exact H
theorem Amd {x:Operand} {src dst:TypeId} {a:Nat} (hs:Alh P src .u64) (hd:Alh P dst .u32) (hx:e.ev x= .int .u64 (a:Int)) (H:RL P B st ops rest (e.set d (.int .u32 ((a % 4294967296:Nat):Int))) h K):
    RL P B st ops (⟨some d,.convert src dst x,ty,pos,af,none⟩ :: rest) e h K:=by
 refine Aes hs hd hx ?_;rw [show IntKind.u32.wrap (a:Int)=((a % 4294967296:Nat):Int) by simp only [IntKind.wrap,IntKind.bits,IntKind.signed];simp];exact H
theorem A77 {x:Operand} {t t2 el:TypeId} {a:Option Addr} {n c:Nat} (ht:P.underlying t=some (.slice el)) (hx:e.ev x= .slice a n c) (H:RL P B st ops rest (e.set d (.bool a.isNone)) h K):
    RL P B st ops (⟨some d,.binOp .eql t x (.const (.slice none 0 0)) t2,ty,pos,af,none⟩ :: rest) e h K:=
  AXp (v:= .bool a.isNone) rfl rfl (fun w=>by
    have hr:(Op.equal t (.slice a n c) (.slice none 0 0)).run P w= .ok a.isNone w:=by
      show (Op.equalIn (9999 + 1) t _ _).run P w=_;rw [Op.equalIn];cases a <;> simp [Adk ht]
    have hy:e.ev (.const (.slice none 0 0))= .slice none 0 0:=rfl;simp [execOp,hx,hy,eqGuard,binOp,hr]) H
theorem BDh {t el s:Nat} (hT:SlT P t el s) (hbB:∀ h',B h') (H:∀ g v h',AV5 h' el g v []->Ext h h'->h.size<=g->g < h'.size->RL P B st ops rest (e.set d v) h' K):
    RL P B st ops (⟨some d,.buildSlice t 0 #[],ty,pos,af,none⟩ :: rest) e h K:=by
  refine Agf rfl rfl (hbB _) fun w hw=>?_;subst hw;obtain ⟨hu,i,hi,hs⟩:=hT
  have:(execOp e.ev ⟨some d,.buildSlice t 0 #[],ty,pos,af,none⟩).run P w= .ok (.value (.slice (some ⟨w.heap.size,0,none⟩) 0 0)) (w.alloc (.cells #[] el)):=by
    simp [execOp,Instr.buildSlice,Adk hu,Ag7 hi,Instr.fill,newRow];congr 2;apply Array.ext <;> simp
  rw [this];exact ⟨⟨rfl,rfl,rfl⟩,hbB _,H w.heap.size _ _ (Arx w.heap el [] (by simp [maxLen])) (AV0 _ _) (Nat.le_refl _) ATv⟩
theorem BA6 {s x:Operand} {t el g xc:Nat} {xa:Addr} {v:Value} {l:List Value} (hT:SlT P t el 1) (hbB:∀ h',B h') (hs:e.ev s=v) (HO:AV5 h el g v l) (hx:e.ev x= .slice (some xa) 0 xc)
    (H:∀ v' h',AV5 h' el g v' l->Upd (· =g) h h'->RL P B st ops rest (e.set d v') h' K):
    RL P B st ops (⟨some d,.call ⟨.builtin .append,#[s,x],#[t,t]⟩,ty,pos,af,none⟩ :: rest) e h K:=by
  refine Agf rfl rfl (hbB _) fun w hw=>?_;subst hw;obtain ⟨hu,i,hi,hs0⟩:=hT;obtain ⟨cap,cur,rfl,hg,hlc,hcm,hcs,ht⟩:=HO;have hr:=run_append_room (P:=P) w t ty el i hu hi g l.length cap cur hg xa 0 xc [] ATv (fun j u hu'=>by simp at hu') (fun u hu'=>by simp at hu') AGi (by simp [hs0,hcs];omega)
  have hrun:(execOp e.ev ⟨some d,.call ⟨.builtin .append,#[s,x],#[t,t]⟩,ty,pos,af,none⟩).run P w= .ok (.value (.slice (some ⟨g,0,none⟩) (l.length + 0) cap)) (w.setRow g (cur.toList.take (l.length * i.size) ++ [] ++ cur.toList.drop (l.length * i.size + 0)).toArray):=by
    simp [execOp,resolve,invoke,builtin,hs,hx,hr]
  rw [hrun];refine ⟨⟨rfl,rfl,rfl⟩,hbB _,H _ _ ?_ ⟨by simp [World.setRow],fun k hk hne=>setRow_other w g k _ (fun he=>hne he)⟩⟩
  refine ⟨cap,_,rfl,setRow_heap w g cur _ el (0,0) hg,hlc,hcm,?_,?_⟩
  · simp only [hs0,Nat.mul_one,List.size_toArray,List.length_append,List.length_take,List.length_drop,Array.length_toList,hcs,List.length_nil];omega
  · simp only [hs0,Nat.mul_one,ht,List.append_nil];exact List.take_left
theorem A4t {t el bytes n:Nat} {z:Value} {parts:List (Nat × Operand)} (l:List Value) (hT:SlT P t el 1) (hz:ZeT P el z bytes) (h1:isOne z=true) (hbB:∀ h',B h') (hn:l.length=n) (hn2:n<=1000000) (hpos:0 < n) (hp:(parts.map fun (i,x)=>(i,e.ev x))=partsOf 0 l)
    (hone:∀ u∈l,isOne u=true) (H:∀ g v h',AV5 h' el g v l->Ext h h'->h.size<=g->g < h'.size->RL P B st ops rest (e.set d v) h' K):
    RL P B st ops (⟨some d,.buildSlice t n parts.toArray,ty,pos,af,none⟩ :: rest) e h K:=by
  subst hn;refine A35 l hT hz h1 (hbB _) rfl AGi hpos hp hone ⟨hbB _,?_⟩;exact H h.size _ _ (Arx h el l (by unfold maxLen;omega)) (AV0 _ _) (Nat.le_refl _) ATv
end
theorem A78 {h:AGt} {lo n c:Nat} {a:Option Addr} {L:List Nat} (ha:a=none) (H:DS h lo (.slice a n c) L):L=[]:=by
 subst ha
 cases L with
 | nil=>rfl
 | cons x l=>
   obtain ⟨a',c',hv,hc⟩:=H.sl
   obtain ⟨b,o,ha,_⟩:=hc 0 _ rfl
   injection hv with h1
   rw [<- h1] at ha;cases ha
theorem A4u {h:AGt} {lo n c:Nat} {a:Option Addr} (H:DS h lo (.slice a n c) []):n=0:=by
 obtain ⟨a',c',hv,hc⟩:=H.sl;injection hv with _ h2 _
theorem Ara {D:List Nat} {u n i:Nat} (hi:D.length=i) (hn:i < n):(D ++ List.replicate (n - i) 0).set i u=D ++ [u] ++ List.replicate (n - (i + 1)) 0:=by
 rw [show n - i=(n - (i + 1)) + 1 by omega,List.replicate_succ,List.set_append_right _ _ AGi,hi,Nat.sub_self];simp
theorem Aev {D:List Nat} {u:Nat} (h:Dig D) (hu:u < 4294967296):Dig (D ++ [u]):=by
 intro x hx;rcases List.mem_append.1 hx with h1 | h1
 ·exact h x h1
 ·rw [List.mem_singleton.1 h1];exact hu
theorem Aln {i D c s S:Nat} (hD:D + 4294967296 ^ i * c=S):D + 4294967296 ^ i * ((c + s) % 4294967296) + 4294967296 ^ (i + 1) * ((c + s) / 4294967296)=S + 4294967296 ^ i * s:=by
 have h1:=Nat.mod_add_div (c + s) 4294967296
 have h2:4294967296 ^ i * (c + s)=4294967296 ^ i * ((c + s) % 4294967296) + 4294967296 ^ (i + 1) * ((c + s) / 4294967296):=by
   conv=>lhs;rw [<- h1]
   rw [Nat.mul_add,Nat.pow_succ,Nat.mul_assoc]
 rw [Nat.mul_add] at h2;omega
theorem AV5.ds {h:AGt} {g lo:Nat} {v:Value} {L:List Nat} (H:AV5 h 170 g v (L.map Afk)) (hd:Dig L) (hl:lo<=g):DS h lo v L:=
  ⟨H.sl,H.cap,hd,fun q hq=>by rw [H.blk] at hq;injection hq with hq;omega,fun q hq=>by
    rw [H.blk] at hq
    injection hq with hq
    subst hq
    obtain ⟨cap,cur,_,hg,_⟩:=H
    exact ⟨cur,(0,0),hg⟩⟩
theorem A4v {P:Program} {a b:Nat} (ha:a < 18446744073709551616) (hb:b < 18446744073709551616) (w:World):(Op.intBits .or .u64 (a:Int) (b:Int)).run P w= .ok (.int .u64 ((a ||| b:Nat):Int)) w:=by
 have h1:(BitVec.ofInt 64 (a:Int)).toNat=a:=by rw [BitVec.toNat_ofInt];omega
 have h2:(BitVec.ofInt 64 (b:Int)).toNat=b:=by rw [BitVec.toNat_ofInt];omega
 have h3:a ||| b < 2 ^ 64:=Nat.or_lt_two_pow AGi AGi;simp only [Op.intBits];show Result.ok (Value.int .u64 (IntKind.u64.wrap ((BitVec.ofInt 64 (a:Int) ||| BitVec.ofInt 64 (b:Int)).toNat:Int))) w=_;rw [BitVec.toNat_or,h1,h2]
 have:IntKind.u64.wrap ((a ||| b:Nat):Int)=((a ||| b:Nat):Int):=by
   simp only [IntKind.wrap,IntKind.bits,IntKind.signed]
   simp
   omega
 rw [this]
theorem A4w {a b i:Nat} (h:a < 2 ^ i):a ||| 2 ^ i * b=a + 2 ^ i * b:=by
 rw [Nat.or_comm,<- Nat.two_pow_add_eq_or_of_lt h,Nat.add_comm]
theorem AUu {L:List Nat} {i x:Nat} (h:L[i]? =some x):nv (L.take (i + 1))=nv (L.take i) + 4294967296 ^ i * x:=by
 rw [<- At0 h,Adp,List.length_take,Nat.min_eq_left (by have:=(List.getElem?_eq_some_iff.1 h).1;omega)]
theorem Ai2 {L:List Nat} (h:Dig L) {i:Nat} (hi:i<=L.length):nv (L.take i) < 4294967296 ^ i:=by
 have:=Ae9 (Ao2 h i);rwa [List.length_take,Nat.min_eq_left hi] at this
theorem Adq (L:List Nat) (i:Nat):nv (L.take (i + 1))=nv (L.take i) + 4294967296 ^ i * (L[i]?.getD 0):=by
 cases h:L[i]? with
 | some x=>rw [AUu h];rfl
 | none=>
   have:=List.getElem?_eq_none_iff.1 h
   rw [List.take_of_length_le AGi,List.take_of_length_le AGi];simp
theorem Am0 {i D c SA SB x y d c':Nat} (hD:D + SB=SA + 4294967296 ^ i * c) (hd:d + y + c=x + 4294967296 * c'):D + 4294967296 ^ i * d + (SB + 4294967296 ^ i * y)=SA + 4294967296 ^ i * x + 4294967296 ^ (i + 1) * c':=by
 have h1:4294967296 ^ i * (d + y + c)=4294967296 ^ i * (x + 4294967296 * c'):=by rw [hd]
 rw [Nat.mul_add,Nat.mul_add,Nat.mul_add,<- Nat.mul_assoc,<- Nat.pow_succ] at h1;have e:i.succ=i + 1:=rfl;rw [e] at h1;omega
theorem Aok (i:Nat):4294967296 ^ i=2 ^ (32 * i):=by rw [Nat.pow_mul]
theorem wrap_u32 (a:Int):IntKind.u32.wrap a=a % 4294967296:=by
 simp [IntKind.wrap,IntKind.bits,IntKind.signed]
theorem wrap_u64 (a:Int):IntKind.u64.wrap a=a % 18446744073709551616:=by
 simp [IntKind.wrap,IntKind.bits,IntKind.signed]
end Go.QF
namespace Go.QF
open Go
section
variable {P:Program} {B:AGt->Prop} {st:Bool} {ops:Array Oper} {rest:List Oper} {e:Env} {h:AGt} {K:Env->AGt->Prop}
variable {d d':Nat} {ty ty':TypeId} {pos pos':String} {af af':Array Edge}
theorem BAe {s x:Operand} {t bytes lo:Nat} {xv:Value} {L:List Nat} (hT:SlT P t 170 1) (hz:ZeT P 170 (.int .u32 0) bytes) (hbB:∀ h',B h') (hs:e.ev s= .slice none 0 0) (hx:e.ev x=xv) (HX:DS h lo xv L) (hby:bytes<=1000) (hn:L.length<=100000000)
    (H:∀ v' h',DS h' h.size v' L->Ext h h'->RL P B st ops rest (e.set d v') h' K):
    RL P B st ops (⟨some d,.call ⟨.builtin .append,#[s,x],#[t,t]⟩,ty,pos,af,none⟩ :: rest) e h K:=by
  by_cases hL:L=[]
  · subst hL;refine Agf rfl rfl (hbB _) fun w hw=>?_;subst hw;obtain ⟨hu,i,hi,hs0⟩:=hT;obtain ⟨xa,xc,hxe,_⟩:=HX.sl
    have hrun:(execOp e.ev ⟨some d,.call ⟨.builtin .append,#[s,x],#[t,t]⟩,ty,pos,af,none⟩).run P w= .ok (.value (.slice none 0 0)) w:=by
      subst hxe
      have hc:(Builtin.firstCells i.size 0 (.slice xa 0 xc)).run P w= .ok #[] w:=by
        cases xa with
        | none=>exact run_firstCells_none (P:=P) w _ 0 0 xc
        | some a=>exact run_firstCells_some (P:=P) w i.size 0 a 0 xc [] ATv (fun j v hj=>by simp at hj)
      simp only [List.map_nil,List.length_nil] at hx;simp [execOp,resolve,invoke,builtin,hs,hx,Builtin.append_,Adk hu,Ag7 hi,Builtin.lenOf,hc]
    rw [hrun];exact ⟨⟨rfl,rfl,rfl⟩,hbB _,H _ _ (Ai1 _ _) (Ext.refl _)⟩
  · have h1:L.length * bytes<=100000000 * 1000:=Nat.mul_le_mul hn hby;refine A33 hT hz rfl (hbB _) hs hx HX.sl (fun u hu=>by obtain ⟨y,_,rfl⟩:=List.mem_map.1 hu;rfl) (by simpa using hL) (by rw [List.length_map];omega) (by rw [List.length_map];omega) fun v' h' HO E=>⟨hbB _,H v' h' (HO.ds HX.dig (Nat.le_refl _)) E⟩
theorem Ank {h0:AGt} {s y:Operand} {t el bytes u:Nat} {v:Value} {D:List Nat} (hT:SlT P t el 1) (hz:ZeT P el (.int .u32 0) bytes) (hbB:∀ h',B h') (hs:∀ p,(e.set d p).ev s=v) (hy:e.ev y= .int .u32 (u:Int)) (E0:Ext h0 h) (HG:Gro h el h0.size v (D.map Afk)) (hby:bytes<=1000) (hl:D.length<=100000000)
    (H:∀ p v' h',Gro h' el h0.size v' ((D ++ [u]).map Afk)->Ext h0 h'->RL P B st ops rest ((e.set d p).set d' v') h' K):
    RL P B st ops (⟨some d,.buildSlice t 1 #[(0,y)],ty,pos,af,none⟩ :: ⟨some d',.call ⟨.builtin .append,#[s,.tmp d],#[t,t]⟩,ty',pos',af',none⟩ :: rest) e h K:=by
  refine BA4 hT hz rfl hbB hs hy rfl HG E0.1 hby (by rw [List.length_map];exact hl) fun p v' h' HG' U _=>?_;refine H p v' h' (by rw [List.map_append];exact HG') (E0.thenUpd U fun k hk=>?_);exact (HG.blk k hk).1
end
theorem Gro.ds {h:AGt} {lo:Nat} {v:Value} {D:List Nat} (H:Gro h 170 lo v (D.map Afk)) (hd:Dig D):DS h lo v D:=by
 rcases H with ⟨h1,rfl⟩ | ⟨g,hg,HO⟩
 ·have:D=[]:=by simpa using h1
  subst this;exact Ai1 _ _
 ·exact HO.ds hd hg
theorem A0k {L:List Nat} {n x:Nat} (hx:L[n - 1]? =some x) (h0:x≠0) (hn:0 < n):TL (L.take n):=by
 intro y hy;have hl:=(List.getElem?_eq_some_iff.1 hx).1;rw [List.getLast?_eq_getElem?,List.length_take,Nat.min_eq_left AGi,List.getElem?_take_of_lt AGi,hx] at hy;injection hy with hy;omega
theorem Am1 {L:List Nat}:∀ {q x:Nat} (u:Nat),L[q]? =some x->nv (L.set q u) + 4294967296 ^ q * x=nv L + 4294967296 ^ q * u:=by
 induction L with
 | nil=>intro q x u h;simp at h
 | cons y L ih=>
   intro q x u h
   cases q with
   | zero=>simp at h;subst h;simp [nv];omega
   | succ q=>
     have h1:=ih u (q:=q) (x:=x) (by simpa using h)
     simp only [List.set_cons_succ,nv,Nat.pow_succ]
     have e1:4294967296 ^ q * 4294967296 * x=4294967296 * (4294967296 ^ q * x):=by rw [Nat.mul_comm (4294967296 ^ q) 4294967296,Nat.mul_assoc]
     have e2:4294967296 ^ q * 4294967296 * u=4294967296 * (4294967296 ^ q * u):=by rw [Nat.mul_comm (4294967296 ^ q) 4294967296,Nat.mul_assoc]
     rw [e1,e2]
     omega
theorem Ajy {L:List Nat} {q u:Nat} (h:Dig L) (hu:u < 4294967296):Dig (L.set q u):=by
 intro x hx;rcases List.mem_or_eq_of_mem_set hx with h1 | h1
 ·exact h x h1
 ·omega
theorem Asa {O O' V0 Pi c x y o i j u c' S:Nat} (hset:O' + 4294967296 ^ (i + j) * o=O + 4294967296 ^ (i + j) * u) (hinv:O + 4294967296 ^ (i + j) * c=V0 + 4294967296 ^ i * (x * S)) (ht:u + 4294967296 * c'=c + (x * y + o)):
    O' + 4294967296 ^ (i + (j + 1)) * c'=V0 + 4294967296 ^ i * (x * (S + 4294967296 ^ j * y)):=by
  have e1:4294967296 ^ (i + (j + 1)) * c'=4294967296 ^ (i + j) * (4294967296 * c'):=by rw [<- Nat.add_assoc,Nat.pow_succ,Nat.mul_assoc]
  have e2:4294967296 ^ (i + j) * (u + 4294967296 * c')=4294967296 ^ (i + j) * (c + (x * y + o)):=by rw [ht]
  have e3:4294967296 ^ i * (x * (S + 4294967296 ^ j * y))=4294967296 ^ i * (x * S) + 4294967296 ^ (i + j) * (x * y):=by
    rw [Nat.mul_add,Nat.mul_add,Nat.pow_add];congr 1;rw [Nat.mul_assoc (4294967296 ^ i)];congr 1;rw [<- Nat.mul_assoc,<- Nat.mul_assoc,Nat.mul_comm x]
  rw [e1,e3];rw [Nat.mul_add,Nat.mul_add,Nat.mul_add] at e2;omega
theorem Au6 {c x y o:Nat} (hc:c < 4294967296) (hx:x < 4294967296) (hy:y < 4294967296) (ho:o < 4294967296):c + (x * y + o) < 18446744073709551616:=by
 have:x * y<=4294967295 * 4294967295:=Nat.mul_le_mul AGi AGi;omega
theorem Au7 {L:List Nat} (h:Dig L) (i:Nat):L[i]?.getD 0 < 4294967296:=by
 cases hq:L[i]? with
 | none=>simp
 | some q=>exact h q (List.mem_of_getElem? hq)
theorem A4x {i D b S x u b':Nat} (hD:D + 4294967296 ^ i * b=S) (hu:u + 4294967296 * b'=2 * x + b):D + 4294967296 ^ i * u + 4294967296 ^ (i + 1) * b'=S + 4294967296 ^ i * (2 * x):=by
  have e1:4294967296 ^ (i + 1) * b'=4294967296 ^ i * (4294967296 * b'):=by rw [Nat.pow_succ,Nat.mul_assoc]
  have e2:4294967296 ^ i * (u + 4294967296 * b')=4294967296 ^ i * (2 * x + b):=by rw [hu]
  rw [Nat.mul_add,Nat.mul_add] at e2;rw [e1];omega
theorem A4y {L:List Nat} (h:Dig L):∀ {k x:Nat},L[k]? =some x->nv L / 4294967296 ^ k % 4294967296=x:=by
 intro k x hx;have hk:=(List.getElem?_eq_some_iff.1 hx).1
 have e:nv L=nv (L.take k) + 4294967296 ^ k * nv (L.drop k):=by
   have:=Anj (L.take k) (L.drop k)
   rwa [List.take_append_drop,List.length_take,Nat.min_eq_left AGi] at this
 have hlt:=Ai2 h (i:=k) AGi;rw [e,Nat.add_mul_div_left _ _ (Nat.pow_pos AGk),Nat.div_eq_of_lt hlt,Nat.zero_add]
 have hd:L.drop k=x :: L.drop (k + 1):=by
   rw [List.drop_eq_getElem_cons hk]
   congr 1
   exact (List.getElem?_eq_some_iff.1 hx).2
 rw [hd];simp only [nv];have:=h x (List.mem_of_getElem? hx);omega
theorem Anl (i:Nat):(2:Nat) ^ i=4294967296 ^ (i / 32) * 2 ^ (i % 32):=by
 rw [Aok,<- Nat.pow_add];congr 1;omega
theorem A0l {L:List Nat} (h:Dig L) {i x:Nat} (hx:L[i / 32]? =some x):nv L / 2 ^ i % 2=x / 2 ^ (i % 32) % 2:=by
  rw [<- A4y h hx,Anl i,<- Nat.div_div_eq_div_mul];generalize nv L / 4294967296 ^ (i / 32)=y;have hs:i % 32 < 32:=Nat.mod_lt _ AGk;generalize i % 32=s at hs
  have h1:y=y % 4294967296 + 2 ^ s * (2 * 2 ^ (31 - s) * (y / 4294967296)):=by
    have e:2 ^ s * (2 * 2 ^ (31 - s))=(4294967296:Nat):=by
      rw [show (4294967296:Nat)=2 ^ 32 by decide,<- Nat.pow_succ',<- Nat.pow_add];congr 1;omega
    rw [<- Nat.mul_assoc,e];have:=Nat.mod_add_div y 4294967296;omega
  conv=>lhs;rw [h1]
  rw [Nat.add_mul_div_left _ _ (Nat.pow_pos AGk),Nat.mul_assoc,Nat.add_mul_mod_self_left]
theorem A0m {L:List Nat} (h:Dig L) {i x q:Nat} (hx:L[i / 32]? =some x) (hq:nv L=2 ^ (i + 1) * q):∃ t,x=2 ^ (i % 32 + 1) * t:=by
 have h1:=A4y h hx;rw [hq,Nat.pow_succ,Anl i] at h1;rw [Nat.mul_assoc,Nat.mul_assoc,Nat.mul_div_cancel_left _ (Nat.pow_pos AGk)] at h1;have hs:i % 32 < 32:=Nat.mod_lt _ AGk;generalize i % 32=s at hs h1;refine ⟨q % 2 ^ (31 - s),?_⟩;rw [<- h1,<- Nat.mul_assoc,<- Nat.pow_succ,show (4294967296:Nat)=2 ^ (s + 1) * 2 ^ (31 - s) by rw [<- Nat.pow_add,show s + 1 + (31 - s)=32 by omega],Nat.mul_mod_mul_left]
theorem A4z {t s:Nat}:2 ^ (s + 1) * t ||| 2 ^ s=2 ^ (s + 1) * t + 2 ^ s:=by
 rw [<- Nat.two_pow_add_eq_or_of_lt (Nat.pow_lt_pow_right AGk AGi)]
theorem Arb {s t:Nat} (hs:s < 32) (h:2 ^ (s + 1) * t < 4294967296):2 ^ (s + 1) * t + 2 ^ s < 4294967296:=by
 have e:2 ^ (s + 1) * 2 ^ (31 - s)=(4294967296:Nat):=by rw [<- Nat.pow_add,show s + 1 + (31 - s)=32 by omega]
 have h1:t < 2 ^ (31 - s):=by
   rw [<- e] at h
   exact Nat.lt_of_mul_lt_mul_left h
 have h2:2 ^ (s + 1) * (t + 1)<=4294967296:=by rw [<- e];exact Nat.mul_le_mul_left _ h1
 rw [Nat.mul_add,Nat.mul_one] at h2;have h3:(2:Nat) ^ s < 2 ^ (s + 1):=Nat.pow_lt_pow_right AGk AGi;omega
theorem Aw2 {N n i R:Nat} (hn:n≠0) (hR:R=N / 2 ^ (i + 1) % n):2 * R + N / 2 ^ i % 2=(2 * (N / 2 ^ (i + 1) % n) + N / 2 ^ i % 2)/\
    (n<=2 * R + N / 2 ^ i % 2->N / 2 ^ i % n=2 * R + N / 2 ^ i % 2 - n/\N / 2 ^ i / n=2 * (N / 2 ^ (i + 1) / n) + 1)/\(2 * R + N / 2 ^ i % 2 < n->N / 2 ^ i % n=2 * R + N / 2 ^ i % 2/\N / 2 ^ i / n=2 * (N / 2 ^ (i + 1) / n)):=by
  have e:N / 2 ^ (i + 1)=N / 2 ^ i / 2:=by rw [Nat.pow_succ,<- Nat.div_div_eq_div_mul]
  rw [e] at hR ⊢;generalize N / 2 ^ i=y at *
  refine ⟨by rw [hR],fun h=>?_,fun h=>?_⟩
  · have h1:=Nat.div_add_mod (y / 2) n;have h2:=Nat.mod_lt (y / 2) (Nat.pos_of_ne_zero hn);rw [<- hR] at h1 h2;generalize y / 2 / n=q at *
    have h3:y=n * (2 * q + 1) + (2 * R + y % 2 - n):=by
      rw [Nat.mul_add,Nat.mul_one,Nat.mul_left_comm];omega
    have h4:2 * R + y % 2 - n < n:=by omega
    generalize y % 2=b at *
    generalize 2 * R + b - n=r at *
    subst h3;exact ⟨by rw [Nat.mul_add_mod,Nat.mod_eq_of_lt h4],by rw [Nat.mul_add_div (Nat.pos_of_ne_zero hn),Nat.div_eq_of_lt h4,Nat.add_zero]⟩
  · have h1:=Nat.div_add_mod (y / 2) n;rw [<- hR] at h1;generalize y / 2 / n=q at *
    have h3:y=n * (2 * q) + (2 * R + y % 2):=by
      rw [Nat.mul_left_comm];omega
    generalize y % 2=b at *
    generalize 2 * R + b=r at *
    subst h3;exact ⟨by rw [Nat.mul_add_mod,Nat.mod_eq_of_lt h],by rw [Nat.mul_add_div (Nat.pos_of_ne_zero hn),Nat.div_eq_of_lt h,Nat.add_zero]⟩
theorem ZV.mono {h:AGt} {lo lo':Nat} {v:Value} {z:Int} (H:ZV h lo v z) (hl:lo'<=lo):ZV h lo' v z:=by
 obtain ⟨n,s,L,h1,h2,h3⟩:=H.out;exact ⟨n,s,L,h1,h2.mono hl,h3⟩
end Go.QF
namespace Go.QF
open Go
def BEj:Obj->Bool
  | .cells _ el _=>Nat.beq el 170
  | _=>false
def Akh (h:AGt) (b:Nat):Prop:= ∃ o,h[b]? =some o/\BEj o=false
def UpT (F:List Nat) (h h':AGt):Prop:=(h.size<=h'.size/\ ∀ k,k < h.size->k ∉ F->h'[k]? =h[k]?)/\ ∀ b∈F,b < h.size->Akh h b/\Akh h' b
theorem UpT.size {F:List Nat} {h h':AGt} (H:UpT F h h'):h.size<=h'.size:=H.1.1
theorem UpT.ext {h h':AGt} (H:UpT [] h h'):Ext h h':=⟨H.1.1,fun k hk=>H.1.2 k hk ATv⟩
theorem Ext.upT {h h':AGt} (H:Ext h h'):UpT [] h h':=⟨⟨H.1,fun k hk _=>H.2 k hk⟩,fun b hb=>by simp at hb⟩
theorem Akh.of {F:List Nat} {h h':AGt} {b:Nat} (H:Akh h b) (U:UpT F h h'):Akh h' b:=by
 obtain ⟨o,h1,h2⟩:=H;have hb:=(Array.getElem?_eq_some_iff.1 h1).1;by_cases hm:b∈F
 ·exact (U.2 b hm hb).2
 ·exact ⟨o,(U.1.2 b hb hm).trans h1,h2⟩
theorem UpT.refl' {F:List Nat} {h:AGt} (H:∀ b∈F,b < h.size->Akh h b):UpT F h h:=⟨⟨Nat.le_refl _,fun _ _ _=>rfl⟩,fun b hb hl=>⟨H b hb hl,H b hb hl⟩⟩
theorem UpT.then {F G:List Nat} {a b c:AGt} (H:UpT F a b) (K:UpT G b c) (hG:∀ x∈G,x∈F∨a.size<=x):UpT F a c:=by
  refine ⟨⟨Nat.le_trans H.1.1 K.1.1,fun k hk hF=>?_⟩,fun x hx hl=>⟨(H.2 x hx hl).1,(H.2 x hx hl).2.of K⟩⟩;rw [K.1.2 k (Nat.lt_of_lt_of_le hk H.1.1) (fun hg=>by rcases hG k hg with h1 | h1;exact hF h1;omega),H.1.2 k hk hF]
theorem UpT.mono {F G:List Nat} {a b:AGt} (H:UpT F a b) (hFG:∀ x∈F,x∈G) (hG:∀ x∈G,x < a.size->Akh a x):UpT G a b:=
  ⟨⟨H.1.1,fun k hk hF=>H.1.2 k hk fun h=>hF (hFG k h)⟩,fun x hx hl=>⟨hG x hx hl,(hG x hx hl).of H⟩⟩
theorem Ext.thenT {F:List Nat} {a b c:AGt} (H:Ext a b) (K:UpT F b c) (hF:∀ x∈F,a.size<=x):Ext a c:=(H.upT.then K fun x hx=> .inr (hF x hx)).ext
theorem Ah9 {F:List Nat} {g:Nat} {h h':AGt} (U:Upd (· =g) h h') (hg:g∈F) (hF:∀ b∈F,b < h.size->Akh h b) (hg':Akh h' g):UpT F h h':=by
 refine ⟨⟨U.1,fun k hk hF=>U.2 k hk (fun he=>hF (he ▸ hg))⟩,fun b hb hl=>⟨hF b hb hl,?_⟩⟩;by_cases he:b=g
 ·exact he ▸ hg'
 ·obtain ⟨o,h1,h2⟩:=hF b hb hl;exact ⟨o,(U.2 b hl he).trans h1,h2⟩
theorem DS.upT {F:List Nat} {h h':AGt} {lo:Nat} {v:Value} {L:List Nat} (H:DS h lo v L) (U:UpT F h h'):DS h' lo v L:=by
 have hne:∀ g,v.ownBlock=some g->g ∉ F:=fun g hg hgF=>by
   obtain ⟨cur',off',hx⟩:=H.tg g hg
   obtain ⟨⟨o,hb,hel⟩,_⟩:=U.2 g hgF (Array.getElem?_eq_some_iff.1 hx).1
   rw [hb] at hx
   injection hx with hx
   subst hx
   exact absurd (hel.symm.trans (Nat.beq_eq.mpr rfl)) Bool.false_ne_true
 have he:Upd (· ∈F) h h':=U.1;exact ⟨H.sl.upd he (fun g hg=>hne g hg),H.cap,H.dig,H.lo,fun g hg=>let ⟨cur,off,hx⟩:=H.tg g hg;⟨cur,off,(he.2 g (Array.getElem?_eq_some_iff.1 hx).1 (hne g hg)).trans hx⟩⟩
def ZZ (h:AGt) (v:Value) (z:Int):Prop:=ZV h 0 v z
theorem ZV.zz {h:AGt} {lo:Nat} {v:Value} {z:Int} (H:ZV h lo v z):ZZ h v z:=H.mono (Nat.zero_le _)
theorem ZZ.upT {F:List Nat} {h h':AGt} {v:Value} {z:Int} (H:ZZ h v z) (U:UpT F h h'):ZZ h' v z:=by
 obtain ⟨n,s,L,h1,h2,h3⟩:=H.out;exact ⟨n,s,L,h1,h2.upT U,h3⟩
structure Cod (α:Type) where
  k:Nat
  ag:Bool
  rep:AGt->α->List Value->Prop
  klen:∀ {h a cs},rep h a cs->cs.length=k
  one:∀ {h a cs},rep h a cs-> ∀ u∈cs,isOne u=true
  upT:∀ {F h h' a cs},rep h a cs->UpT F h h'->rep h' a cs
  pos:0 < k
  le:k<=1000
  sc:ag=false->k=1
def Cod.val {α:Type} (c:Cod α) (cs:List Value):Value:=bif c.ag then .agg cs.toArray else cs.headD undef
def A0n {α:Type} (k:Nat) (ag:Bool) (f:α->List Value) (hk:∀ a,(f a).length=k) (h1:∀ a,∀ u∈f a,isOne u=true) (hp:0 < k) (hl:k<=1000) (hs:ag=false->k=1):Cod α where
  k:=k
  ag:=ag
  rep:=fun _ a cs=>cs=f a
  klen:=fun h=>h ▸ hk _
  one:=fun h=>h ▸ h1 _
  upT:=fun h _=>h
  pos:=hp
  le:=hl
  sc:=hs
def cI (κ:IntKind):Cod Int:=A0n 1 false (fun a=>[.int κ a]) (fun _=>rfl) (fun a u hu=>by rw [List.mem_singleton.1 hu];rfl) AGk AGk (fun _=>rfl)
theorem BDi {P:Value->Prop} {a b c d e:Value} (ha:P a) (hb:P b) (hc:P c) (hd:P d) (he:P e):∀ u∈[a,b,c,d,e],P u:=by
 intro u hu;simp only [List.mem_cons,List.not_mem_nil,or_false] at hu;rcases hu with rfl | rfl | rfl | rfl | rfl <;> assumption
abbrev AWt:=Int × Int × Int × Int × Int
abbrev AX4:=Int × Int × Int × Bool × Int
def Alo:Cod AWt:=A0n 5 true (fun a=>[.int .i64 a.1,.int .i64 a.2.1,.int .i64 a.2.2.1,.int .i64 a.2.2.2.1,.int .i64 a.2.2.2.2]) (fun _=>rfl) (fun a=>BDi (P:=fun u=>isOne u=true) rfl rfl rfl rfl rfl) AGk AGk (fun h=>by cases h)
def Af8:Cod AX4:=A0n 5 true (fun a=>[.int .i64 a.1,.int .i64 a.2.1,.int .i64 a.2.2.1,.bool a.2.2.2.1,.int .i64 a.2.2.2.2]) (fun _=>rfl) (fun a=>BDi (P:=fun u=>isOne u=true) rfl rfl rfl rfl rfl) AGk AGk (fun h=>by cases h)
def cZ:Cod Int where
  k:=2
  ag:=true
  rep:=fun h z cs=>cs.length=2/\ZZ h (.agg cs.toArray) z
  klen:=fun h=>h.1
  one:=fun {h a cs} H=>by
    obtain ⟨hl,n,s,L,h1,h2,h3⟩:=H
    have:cs=[.bool n,s]:=by
      injection h1 with h1;have:=congrArg Array.toList h1;simpa using this
    subst this;exact Abn h2.cap
  upT:=fun H U=>⟨H.1,H.2.upT U⟩
  pos:=by decide
  le:=by decide
  sc:=fun h=>by cases h
theorem ZZ.cs {h:AGt} {v:Value} {z:Int} (H:ZZ h v z):∃ cs,v= .agg cs.toArray/\cZ.rep h z cs:=by
 have H':=H;obtain ⟨n,s,L,rfl,h2,h3⟩:=H'.out;exact ⟨[.bool n,s],rfl,rfl,H⟩
def Al {α:Type} (c:Cod α) (h:AGt) (L:List α) (Ls:List (List Value)):Prop:=Ls.length=L.length/\ ∀ (i:Nat) (cs:List Value) (a:α),Ls[i]? =some cs->L[i]? =some a->c.rep h a cs
theorem Al.upT {α:Type} {c:Cod α} {F:List Nat} {h h':AGt} {L:List α} {Ls:List (List Value)} (H:Al c h L Ls) (U:UpT F h h'):Al c h' L Ls:=⟨H.1,fun i cs a h1 h2=>c.upT (H.2 i cs a h1 h2) U⟩
theorem Ay8 {α:Type} (c:Cod α) (h:AGt):Al c h [] []:=⟨rfl,fun i cs a h1=>by simp at h1⟩
theorem Al.get {α:Type} {c:Cod α} {h:AGt} {L:List α} {Ls:List (List Value)} (H:Al c h L Ls) {i:Nat} {a:α} (ha:L[i]? =some a):∃ cs,Ls[i]? =some cs/\c.rep h a cs:=by
 have hi:=(List.getElem?_eq_some_iff.1 ha).1;exact ⟨Ls[i]'(by rw [H.1];exact hi),List.getElem?_eq_getElem _,H.2 i _ a (List.getElem?_eq_getElem _) ha⟩
theorem Al.push {α:Type} {c:Cod α} {h:AGt} {L:List α} {Ls:List (List Value)} (H:Al c h L Ls) {a:α} {cs:List Value} (hr:c.rep h a cs):Al c h (L ++ [a]) (Ls ++ [cs]):=by
 refine ⟨by simp [H.1],fun i cs' a' h1 h2=>?_⟩;rcases Nat.lt_or_ge i L.length with hi | hi
 ·rw [List.getElem?_append_left (by rw [H.1];exact hi)] at h1;rw [List.getElem?_append_left hi] at h2;exact H.2 i cs' a' h1 h2
 ·rw [List.getElem?_append_right (by rw [H.1];exact hi),H.1] at h1;rw [List.getElem?_append_right hi] at h2;have:i - L.length=0:=by have:=(List.getElem?_eq_some_iff.1 h2).1;simp at this;omega
  rw [this] at h1 h2;injection h1 with h1;injection h2 with h2;subst h1;subst h2;exact hr
theorem Al.set {α:Type} {c:Cod α} {h:AGt} {L:List α} {Ls:List (List Value)} (H:Al c h L Ls) (n:Nat) {a:α} {cs:List Value} (hr:c.rep h a cs):Al c h (L.set n a) (Ls.set n cs):=by
 refine ⟨by simp [H.1],fun i cs' a' h1 h2=>?_⟩;by_cases hi:n=i
 ·subst hi;have hn:n < L.length:=by have:=(List.getElem?_eq_some_iff.1 h2).1;simpa using this
  rw [List.getElem?_set_self (by rw [H.1];exact hn)] at h1;rw [List.getElem?_set_self hn] at h2;injection h1 with h1;injection h2 with h2;subst h1;subst h2;exact hr
 ·rw [List.getElem?_set_ne hi] at h1 h2;exact H.2 i cs' a' h1 h2
theorem A40 {α:Type} {c:Cod α} {h:AGt} {a:α} {cs:List Value} (hr:c.rep h a cs) (n:Nat):Al c h (List.replicate n a) (List.replicate n cs):=by
 refine ⟨ATv,fun i cs' a' h1 h2=>?_⟩;rw [List.eq_of_mem_replicate (List.mem_of_getElem? h1),List.eq_of_mem_replicate (List.mem_of_getElem? h2)];exact hr
def SlC {α:Type} (c:Cod α) (h:AGt) (v:Value) (L:List α):Prop:= ∃ Ls,SlK h c.k v Ls/\Al c h L Ls
theorem SlC.ext {α:Type} {c:Cod α} {h h':AGt} {v:Value} {L:List α} (H:SlC c h v L) (E:Ext h h'):SlC c h' v L:=by
 obtain ⟨Ls,h1,h2⟩:=H;exact ⟨Ls,h1.ext E,h2.upT E.upT⟩
theorem A79 {α:Type} (c:Cod α) (h:AGt):SlC c h (.slice none 0 0) []:=⟨[],A0j h c.k,Ay8 c h⟩
def AXs {α:Type} (c:Cod α) (h:AGt) (v:Value) (M:List (List α)):Prop:=Af1 v/\ ∃ rs:List Value,SlK h 1 v (rs.map fun r=>[r])/\rs.length=M.length/\ ∀ (i:Nat) (r:Value) (L:List α),rs[i]? =some r->M[i]? =some L->SlC c h r L
theorem AXs.ext {α:Type} {c:Cod α} {h h':AGt} {v:Value} {M:List (List α)} (H:AXs c h v M) (E:Ext h h'):AXs c h' v M:=by
 obtain ⟨h0,rs,h1,h2,h3⟩:=H;exact ⟨h0,rs,h1.ext E,h2,fun i r L hr hL=>(h3 i r L hr hL).ext E⟩
def OwC {α:Type} (c:Cod α) (el:Nat) (h:AGt) (F:List Nat) (v:Value) (L:List α):Prop:=
  (L=[]/\v= .slice none 0 0/\F=[])∨ ∃ g Ls,F=[g]/\Abp h el c.k g v Ls/\Al c h L Ls/\Nat.beq el 170=false
theorem A0o {α:Type} (c:Cod α) (el:Nat) (h:AGt):OwC c el h [] (.slice none 0 0) []:= .inl ⟨rfl,rfl,rfl⟩
theorem OwC.upT {α:Type} {c:Cod α} {el:Nat} {h h':AGt} {F G:List Nat} {v:Value} {L:List α} (H:OwC c el h F v L) (U:UpT G h h') (hd:∀ b∈F,b ∉ G):OwC c el h' F v L:=by
 rcases H with ⟨h1,h2,h3⟩ | ⟨g,Ls,rfl,h2,h3,h4⟩
 ·exact .inl ⟨h1,h2,h3⟩
 ·exact .inr ⟨g,Ls,rfl,h2.upd (S:=(· ∈G)) U.1 (hd g ATv),h3.upT U,h4⟩
theorem OwC.ext {α:Type} {c:Cod α} {el:Nat} {h h':AGt} {F:List Nat} {v:Value} {L:List α} (H:OwC c el h F v L) (E:Ext h h'):OwC c el h' F v L:=H.upT E.upT fun b _=>by simp
theorem OwC.rd {α:Type} {c:Cod α} {el:Nat} {h:AGt} {F:List Nat} {v:Value} {L:List α} (H:OwC c el h F v L):SlC c h v L:=by
 rcases H with ⟨rfl,rfl,_⟩ | ⟨g,Ls,rfl,h2,h3,_⟩
 ·exact A79 c h
 ·exact ⟨Ls,h2.sl,h3⟩
theorem OwC.lt {α:Type} {c:Cod α} {el:Nat} {h:AGt} {F:List Nat} {v:Value} {L:List α} (H:OwC c el h F v L):∀ b∈F,b < h.size:=by
 rcases H with ⟨rfl,rfl,rfl⟩ | ⟨g,Ls,rfl,h2,h3,_⟩
 ·intro b hb;simp at hb
 ·intro b hb;rw [List.mem_singleton.1 hb];exact h2.lt
theorem Abp.notD {h:AGt} {el k g:Nat} {v:Value} {L:List (List Value)} (H:Abp h el k g v L) (hel:Nat.beq el 170=false):Akh h g:=by
 obtain ⟨cap,cur,_,hg,_⟩:=H;exact ⟨_,hg,hel⟩
theorem OwC.notD {α:Type} {c:Cod α} {el:Nat} {h:AGt} {F:List Nat} {v:Value} {L:List α} (H:OwC c el h F v L):∀ b∈F,Akh h b:=by
 rcases H with ⟨rfl,rfl,rfl⟩ | ⟨g,Ls,rfl,h2,h3,h4⟩
 ·intro b hb;simp at hb
 ·intro b hb;rw [List.mem_singleton.1 hb];exact h2.notD h4
theorem OwC.nodup {α:Type} {c:Cod α} {el:Nat} {h:AGt} {F:List Nat} {v:Value} {L:List α} (H:OwC c el h F v L):F.Nodup:=by
 rcases H with ⟨rfl,rfl,rfl⟩ | ⟨g,Ls,rfl,_⟩ <;> simp
theorem OwC.isOne {α:Type} {c:Cod α} {el:Nat} {h:AGt} {F:List Nat} {v:Value} {L:List α} (H:OwC c el h F v L):isOne v=true:=by
 rcases H with ⟨rfl,rfl,rfl⟩ | ⟨g,Ls,rfl,⟨cap,cur,rfl,_⟩,_⟩ <;> rfl
def AVt {α:Type} (c:Cod α) (er el:Nat) (h:AGt) (F:List Nat) (Gs:List (List Nat)) (rs:List Value) (v:Value) (M:List (List α)):Prop:=
  (M=[]/\v= .slice none 0 0/\F=[]/\Gs=[]/\rs=[])∨ ∃ b,F=b :: Gs.flatten/\F.Nodup/\Abp h er 1 b v (rs.map fun r=>[r])/\Nat.beq er 170=false/\rs.length=M.length/\Gs.length=M.length/\
    ∀ (i:Nat) (G:List Nat) (r:Value) (L:List α),Gs[i]? =some G->rs[i]? =some r->M[i]? =some L->OwC c el h G r L
theorem A41 {α:Type} (c:Cod α) (er el:Nat) (h:AGt):AVt c er el h [] [] [] (.slice none 0 0) []:= .inl ⟨rfl,rfl,rfl,rfl,rfl⟩
theorem AWz {Gs:List (List Nat)} {i x:Nat} {G:List Nat} (h:Gs[i]? =some G) (hx:x∈G):x∈Gs.flatten:=List.mem_flatten.2 ⟨G,List.mem_of_getElem? h,hx⟩
theorem AVt.upT {α:Type} {c:Cod α} {er el:Nat} {h h':AGt} {F Q:List Nat} {Gs:List (List Nat)} {rs:List Value} {v:Value} {M:List (List α)} (H:AVt c er el h F Gs rs v M) (U:UpT Q h h') (hd:∀ b∈F,b ∉ Q):AVt c er el h' F Gs rs v M:=by
 rcases H with H | ⟨b,rfl,hn,h2,h3,h4,h5,h6⟩
 ·exact .inl H
 ·exact .inr ⟨b,rfl,hn,h2.upd (S:=(· ∈Q)) U.1 (hd b ATv),h3,h4,h5,fun i G r L hG hr hL=>(h6 i G r L hG hr hL).upT U fun x hx=>hd x (List.mem_cons_of_mem _ (AWz hG hx))⟩
theorem AVt.rd {α:Type} {c:Cod α} {er el:Nat} {h:AGt} {F:List Nat} {Gs:List (List Nat)} {rs:List Value} {v:Value} {M:List (List α)} (H:AVt c er el h F Gs rs v M):AXs c h v M:=by
 rcases H with ⟨rfl,rfl,rfl,rfl,rfl⟩ | ⟨b,rfl,hn,h2,h3,h4,h5,h6⟩
 ·exact ⟨Ap4,[],A0j h 1,rfl,fun i r L hr=>by simp at hr⟩
 ·refine ⟨let ⟨_,_,hv,_,hl,_⟩:=h2;⟨_,_,_,hv,hl⟩,rs,h2.sl,h4,fun i r L hr hL=>?_⟩;have hi:=(List.getElem?_eq_some_iff.1 hL).1;exact (h6 i (Gs[i]'AGi) r L (List.getElem?_eq_getElem _) hr hL).rd
theorem AVt.notD {α:Type} {c:Cod α} {er el:Nat} {h:AGt} {F:List Nat} {Gs:List (List Nat)} {rs:List Value} {v:Value} {M:List (List α)} (H:AVt c er el h F Gs rs v M):∀ b∈F,Akh h b:=by
 rcases H with ⟨rfl,rfl,rfl,rfl,rfl⟩ | ⟨b,rfl,hn,h2,h3,h4,h5,h6⟩
 ·intro b hb;simp at hb
 ·intro x hx;rcases List.mem_cons.1 hx with rfl | hx
  ·exact h2.notD h3
  ·obtain ⟨G,hG,hxG⟩:=List.mem_flatten.1 hx;obtain ⟨i,hi⟩:=List.getElem?_of_mem hG;have hil:=(List.getElem?_eq_some_iff.1 hi).1;exact (h6 i G (rs[i]'AGi) (M[i]'AGi) hi (List.getElem?_eq_getElem _) (List.getElem?_eq_getElem _)).notD x hxG
theorem Akh.lt {h:AGt} {b:Nat} (H:Akh h b):b < h.size:=by
 obtain ⟨o,h1,_⟩:=H;exact (Array.getElem?_eq_some_iff.1 h1).1
theorem AVt.lt {α:Type} {c:Cod α} {er el:Nat} {h:AGt} {F:List Nat} {Gs:List (List Nat)} {rs:List Value} {v:Value} {M:List (List α)} (H:AVt c er el h F Gs rs v M):∀ b∈F,b < h.size:=fun b hb=>(H.notD b hb).lt
theorem AVt.nodup {α:Type} {c:Cod α} {er el:Nat} {h:AGt} {F:List Nat} {Gs:List (List Nat)} {rs:List Value} {v:Value} {M:List (List α)} (H:AVt c er el h F Gs rs v M):F.Nodup:=by
 rcases H with ⟨rfl,rfl,rfl,rfl,rfl⟩ | ⟨b,rfl,hn,_⟩
 ·simp
 ·exact hn
theorem AVt.isOne {α:Type} {c:Cod α} {er el:Nat} {h:AGt} {F:List Nat} {Gs:List (List Nat)} {rs:List Value} {v:Value} {M:List (List α)} (H:AVt c er el h F Gs rs v M):isOne v=true:=by
 rcases H with ⟨rfl,rfl,rfl,rfl,rfl⟩ | ⟨b,rfl,hn,⟨cap,cur,rfl,_⟩,_⟩ <;> rfl
theorem AVt.row {α:Type} {c:Cod α} {er el:Nat} {h:AGt} {F:List Nat} {Gs:List (List Nat)} {rs:List Value} {v:Value} {M:List (List α)} (H:AVt c er el h F Gs rs v M) {i:Nat} {r:Value} {L:List α} (hr:rs[i]? =some r) (hL:M[i]? =some L):∃ G,Gs[i]? =some G/\OwC c el h G r L/\ ∀ x∈G,x∈F:=by
  rcases H with ⟨rfl,rfl,rfl,rfl,rfl⟩ | ⟨b,rfl,hn,h2,h3,h4,h5,h6⟩
  · simp at hL
  · have hi:=(List.getElem?_eq_some_iff.1 hL).1;exact ⟨Gs[i]'AGi,List.getElem?_eq_getElem _,h6 i _ r L (List.getElem?_eq_getElem _) hr hL,fun x hx=>List.mem_cons_of_mem _ (AWz (List.getElem?_eq_getElem _) hx)⟩
theorem AVt.rowRd {α:Type} {c:Cod α} {er el:Nat} {h:AGt} {F:List Nat} {Gs:List (List Nat)} {rs:List Value} {v:Value} {M:List (List α)} (H:AVt c er el h F Gs rs v M) {i:Nat} {r:Value} {L:List α} (hr:rs[i]? =some r) (hL:M[i]? =some L):SlC c h r L:=let ⟨_,_,h1,_⟩:=H.row hr hL;h1.rd
theorem A0p {t:Nat} {h:AGt} {b:Nat} {l:List Value} (H:AVv t h b l) (ht:Nat.beq t 170=false):Akh h b:=⟨_,H,ht⟩
theorem AVv.upT {t:Nat} {h h':AGt} {b:Nat} {G:List Nat} {l:List Value} (H:AVv t h b l) (U:UpT G h h') (hd:∀ x∈[b],x ∉ G):AVv t h' b l:=H.upd (S:=(· ∈G)) U.1 (hd b ATv)
def Sp (h:AGt) (lo:Nat) (Fs:List (List Nat)):Prop:=Fs.flatten.Nodup/\ ∀ b∈Fs.flatten,lo<=b/\b < h.size
theorem BA7 (h:AGt) (lo:Nat):Sp h lo []:=⟨ATv,fun b hb=>by simp at hb⟩
theorem Sp.keep {h h':AGt} {lo:Nat} {Fs:List (List Nat)} (S:Sp h lo Fs) (hs:h.size<=h'.size):Sp h' lo Fs:=⟨S.1,fun b hb=>⟨(S.2 b hb).1,Nat.lt_of_lt_of_le (S.2 b hb).2 hs⟩⟩
theorem Sp.app {h h':AGt} {lo:Nat} {Fs Ks:List (List Nat)} (S:Sp h lo Fs) (S':Sp h' h.size Ks) (hs:h.size<=h'.size) (hl:lo<=h.size):Sp h' lo (Fs ++ Ks):=by
 refine ⟨?_,fun b hb=>?_⟩
 ·rw [List.flatten_append];refine List.nodup_append.2 ⟨S.1,S'.1,fun x hx y hy he=>?_⟩;have h1:=(S.2 x hx).2;have h2:=(S'.2 y hy).1;omega
 ·rw [List.flatten_append] at hb;rcases List.mem_append.1 hb with h1 | h1
  ·exact ⟨(S.2 b h1).1,Nat.lt_of_lt_of_le (S.2 b h1).2 hs⟩
  ·exact ⟨Nat.le_trans hl (S'.2 b h1).1,(S'.2 b h1).2⟩
theorem AX2 {h h':AGt} {b:Nat} (h1:h.size<=b) (h2:b < h'.size):Sp h' h.size [[b]]:=⟨ATv,fun x hx=>by simp at hx;omega⟩
theorem Sp.lo {h:AGt} {lo:Nat} {Fs:List (List Nat)} (S:Sp h lo Fs) (i:Nat) {F:List Nat} (hi:Fs[i]? =some F):∀ b∈F,lo<=b/\b < h.size:=fun b hb=>S.2 b (AWz hi hb)
theorem Aw3 {Fs:List (List Nat)}:∀ {i j:Nat} {F G:List Nat},Fs.flatten.Nodup->Fs[i]? =some F->Fs[j]? =some G->i≠j-> ∀ b∈F,b ∉ G:=by
 induction Fs with
 | nil=>intro i j F G _ h;simp at h
 | cons K Fs ih=>
   intro i j F G hn hi hj hij b hb hg
   rw [List.flatten_cons] at hn
   obtain ⟨h1,h2,h3⟩:=List.nodup_append.1 hn
   cases i with
   | zero=>
     cases j with
     | zero=>exact hij rfl
     | succ j=>
       simp at hi hj;subst hi
       exact h3 b hb b (AWz hj hg) rfl
   | succ i=>
     cases j with
     | zero=>
       simp at hi hj;subst hj
       exact h3 b hg b (AWz hi hb) rfl
     | succ j=>exact ih h2 (by simpa using hi) (by simpa using hj) AGi b hb hg
theorem Sp.dj {h:AGt} {lo:Nat} {Fs:List (List Nat)} (S:Sp h lo Fs) (i j:Nat) {F G:List Nat} (hi:Fs[i]? =some F) (hj:Fs[j]? =some G) (hij:i≠j):∀ b∈F,b ∉ G:=Aw3 S.1 hi hj hij
theorem Adr {Fs:List (List Nat)}:∀ {i x:Nat} {F:List Nat},x∈(Fs.set i F).flatten->x∈F∨ ∃ j G,j≠i/\Fs[j]? =some G/\x∈G:=by
 induction Fs with
 | nil=>intro i x F h;simp at h
 | cons K Fs ih=>
   intro i x F h
   cases i with
   | zero=>
     rw [List.set_cons_zero,List.flatten_cons] at h
     rcases List.mem_append.1 h with h | h
     · exact .inl h
     · obtain ⟨G,hG,hx⟩:=List.mem_flatten.1 h
       obtain ⟨j,hj⟩:=List.getElem?_of_mem hG
       exact .inr ⟨j + 1,G,AGi,by simpa using hj,hx⟩
   | succ i=>
     rw [List.set_cons_succ,List.flatten_cons] at h
     rcases List.mem_append.1 h with h | h
     · exact .inr ⟨0,K,AGi,rfl,h⟩
     · rcases ih h with h1 | ⟨j,G,h1,h2,h3⟩
       · exact .inl h1
       · exact .inr ⟨j + 1,G,AGi,by simpa using h2,h3⟩
theorem Agl {Fs:List (List Nat)}:∀ {i:Nat} {F:List Nat},Fs.flatten.Nodup->F.Nodup->(∀ x∈F,∀ j G,j≠i->Fs[j]? =some G->x ∉ G)->(Fs.set i F).flatten.Nodup:=by
 induction Fs with
 | nil=>intro i F h1 h2 h3;simp
 | cons K Fs ih=>
   intro i F hn hF hd
   rw [List.flatten_cons] at hn
   obtain ⟨h1,h2,h3⟩:=List.nodup_append.1 hn
   cases i with
   | zero=>
     rw [List.set_cons_zero,List.flatten_cons]
     refine List.nodup_append.2 ⟨hF,h2,fun x hx y hy he=>?_⟩
     obtain ⟨G,hG,hy⟩:=List.mem_flatten.1 hy
     obtain ⟨j,hj⟩:=List.getElem?_of_mem hG
     exact hd x hx (j + 1) G AGi (by simpa using hj) (he ▸ hy)
   | succ i=>
     rw [List.set_cons_succ,List.flatten_cons]
     refine List.nodup_append.2 ⟨h1,ih h2 hF (fun x hx j G hj hG=>hd x hx (j + 1) G AGi (by simpa using hG)),fun x hx y hy he=>?_⟩
     rcases Adr hy with h4 | ⟨j,G,hj,hG,hy⟩
     · exact hd y h4 0 K AGi rfl (he ▸ hx)
     · exact h3 x hx y (AWz hG hy) he
theorem Sp.put {h h':AGt} {lo:Nat} {Fs:List (List Nat)} (S:Sp h lo Fs) (i:Nat) {F F':List Nat} (hi:Fs[i]? =some F) (hn:F'.Nodup) (hs:h.size<=h'.size) (hl:lo<=h.size) (hF:∀ x∈F',x < h'.size) (hsub:∀ x∈F',x∈F∨h.size<=x):Sp h' lo (Fs.set i F'):=by
  refine ⟨Agl S.1 hn fun x hx j G hj hG hxG=>?_,fun b hb=>?_⟩
  · rcases hsub x hx with h1 | h1
    · exact S.dj i j hi hG (fun he=>hj he.symm) x h1 hxG
    · have:=(S.lo j hG x hxG).2;omega
  · rcases Adr hb with h1 | ⟨j,G,hj,hG,hb⟩
    · refine ⟨?_,hF b h1⟩
      rcases hsub b h1 with h2 | h2
      · exact (S.lo i hi b h2).1
      · omega
    · have:=S.lo j hG b hb;exact ⟨this.1,AGi⟩
theorem Sp.sel {h:AGt} {lo:Nat} {Fs:List (List Nat)} (S:Sp h lo Fs) (is:List Nat) (hn:is.Nodup):Sp h lo (is.map fun i=>(Fs[i]?).getD []):=by
  have key:∀ is:List Nat,is.Nodup->(is.map fun i=>(Fs[i]?).getD []).flatten.Nodup/\ ∀ b∈(is.map fun i=>(Fs[i]?).getD []).flatten,∃ i F,i∈is/\Fs[i]? =some F/\b∈F:=by
    intro is;induction is with
    | nil=>intro _;exact ⟨ATv,fun b hb=>by simp at hb⟩
    | cons i is ih=>
      intro hn;obtain ⟨hni,hn⟩:=List.nodup_cons.1 hn;obtain ⟨h1,h2⟩:=ih hn;cases hi:Fs[i]? with
      | none=>
        simp only [List.map_cons,hi,Option.getD_none,List.flatten_cons,List.nil_append];exact ⟨h1,fun b hb=>let ⟨j,F,hj,hF⟩:=h2 b hb;⟨j,F,List.mem_cons_of_mem _ hj,hF⟩⟩
      | some F=>
        simp only [List.map_cons,hi,Option.getD_some,List.flatten_cons]
        refine ⟨List.nodup_append.2 ⟨?_,h1,fun x hx y hy he=>?_⟩,fun b hb=>?_⟩
        · obtain ⟨s,t,hst⟩:=List.append_of_mem (List.mem_of_getElem? hi);have:=S.1;rw [hst,List.flatten_append,List.flatten_cons] at this;exact (List.nodup_append.1 (List.nodup_append.1 this).2.1).1
        · obtain ⟨j,G,hj,hG,hy⟩:=h2 y hy;exact S.dj i j hi hG (fun h=>hni (h ▸ hj)) x hx (he ▸ hy)
        · rcases List.mem_append.1 hb with hb | hb
          · exact ⟨i,F,List.mem_cons_self ..,hi,hb⟩
          · obtain ⟨j,F,hj,hF⟩:=h2 b hb;exact ⟨j,F,List.mem_cons_of_mem _ hj,hF⟩
  obtain ⟨h1,h2⟩:=key is hn;exact ⟨h1,fun b hb=>let ⟨i,F,_,hF,hbF⟩:=h2 b hb;S.lo i hF b hbF⟩
def iter {S E:Type} (body:S->Option (S ⊕ E)):Nat->S->Option E
  | 0,_=>none
  | n + 1,s=>match body s with
    | none=>none
    | some (.inl s')=>iter body n s'
    | some (.inr e)=>some e
def BDj {S E:Type} (body:S->Option (S ⊕ E)) (n:Nat) (ex:E):S ⊕ E->Prop
  | .inl s'=>iter body n s'=some ex
  | .inr e=>e=ex
theorem A2m {S E:Type} {body:S->Option (S ⊕ E)} {n:Nat} {s:S} {ex:E} (H:iter body n s=some ex):∃ k r,n=k + 1/\body s=some r/\BDj body k ex r:=by
 cases n with
 | zero=>cases H
 | succ k=>
   rw [iter] at H
   cases hb:body s with
   | none=>rw [hb] at H;cases H
   | some r=>
     rw [hb] at H
     refine ⟨k,r,rfl,rfl,?_⟩
     cases r with
     | inl s'=>exact H
     | inr e=>exact Option.some.inj H
theorem AGn {α β:Type} {o:Option α} {f:α->Option β} {r:β} (H:o.bind f=some r):∃ x,o=some x/\f x=some r:=by
 cases o with
 | none=>cases H
 | some x=>exact ⟨x,rfl,H⟩
theorem ifT {c:Prop} [Decidable c] {α:Type} {a b:Option α} {r:α} (H:(if c then a else b)=some r) (hc:c):a=some r:=by rwa [if_pos hc] at H
theorem ifF {c:Prop} [Decidable c] {α:Type} {a b:Option α} {r:α} (H:(if c then a else b)=some r) (hc: ¬ c):b=some r:=by rwa [if_neg hc] at H
theorem Aa7 {c:Bool} {α:Type} {a b:Option α} {r:α} (H:(if c=true then a else b)=some r) (hc:c=false):b=some r:=by subst hc;exact H
theorem ifN {c:Prop} [Decidable c] {α:Type} {a:Option α} {r:α} (H:(if c then a else none)=some r):c/\a=some r:=by
 by_cases hc:c
 ·rw [if_pos hc] at H;exact ⟨hc,H⟩
 ·rw [if_neg hc] at H;cases H
theorem ATy {c:Prop} [Decidable c] {α:Type} {a b:Option α} {r:α} (H:(if c then a else b)=some r) (hc:decide c=true):a=some r:=ifT H (of_decide_eq_true hc)
theorem ATz {c:Prop} [Decidable c] {α:Type} {a b:Option α} {r:α} (H:(if c then a else b)=some r) (hc:decide c=false):b=some r:=ifF H (of_decide_eq_false hc)
def gI {α:Type} (L:List α) (i:Int):Option α:=if 0<=i then L[i.toNat]? else none
def sI {α:Type} (L:List α) (i:Int) (x:α):List α:=L.set i.toNat x
theorem AZu {α:Type} {L:List α} {i:Int} {a:α} (H:gI L i=some a):∃ n:Nat,i=n/\L[n]? =some a:=by
 unfold gI at H;split at H
 ·exact ⟨i.toNat,AGi,H⟩
 ·cases H
abbrev w64 (x:Int):Int:=IntKind.i64.wrap x
theorem A42 {F A B:List Nat} (h1:∀ b∈F,b ∉ A) (h2:∀ b∈F,b ∉ B):∀ b∈F,b ∉ A ++ B:=fun b hb hm=>by
  rcases List.mem_append.1 hm with h | h
  · exact h1 b hb h
  · exact h2 b hb h
theorem A43 {F:List Nat}:∀ b∈F,b ∉ ([]:List Nat):=fun b _ h=>by simp at h
theorem AVn {P:Nat->Prop} {A B:List Nat} (h1:∀ b∈A,P b) (h2:∀ b∈B,P b):∀ b∈A ++ B,P b:=fun b hb=>by
  rcases List.mem_append.1 hb with h | h
  · exact h1 b h
  · exact h2 b h
theorem all_nil {P:Nat->Prop}:∀ b∈([]:List Nat),P b:=fun b h=>by simp at h
theorem UpT.thenE {F:List Nat} {a b c:AGt} (H:UpT F a b) (E:Ext b c):UpT F a c:=H.then E.upT fun x hx=>by simp at hx
theorem UpT.start {F:List Nat} {h:AGt} (H:∀ b∈F,Akh h b):UpT F h h:=UpT.refl' fun b hb _=>H b hb
theorem AYf {t:Nat} {h:AGt} {b:Nat} {l:List Value} (H:AVv t h b l) (ht:Nat.beq t 170=false):∀ x∈[b],Akh h x:=fun x hx=>by rw [List.mem_singleton.1 hx];exact A0p H ht
theorem BA8 {F FO:List Nat} {a c:Nat} (h1:∀ x∈F,a<=x) (h3:c<=a):∀ x∈F,x∈FO∨c<=x:=fun x hx=> .inr (by have:=h1 x hx;omega)
theorem Afa {F A B:List Nat} {c:Nat} (h:F=A):∀ x∈F,x∈A ++ B∨c<=x:=fun x hx=> .inl (by subst h;simp [hx])
theorem Aeb {F:List Nat} {h h':AGt} {a:Addr} {v:Value} (hc:AWy h a=some v) (U:UpT F h h') (hd:a.block ∉ F):AWy h' a=some v:=Atw (S:=(· ∈F)) hc U.1 hd
theorem AVt.rowI {α:Type} {c:Cod α} {er el:Nat} {h:AGt} {F:List Nat} {Gs:List (List Nat)} {rs:List Value} {v:Value} {M:List (List α)} (H:AVt c er el h F Gs rs v M) {i:Int} {r:Value} {L:List α} (hr:rs[i.toNat]? =some r) (hL:gI M i=some L):SlC c h r L:=by
 obtain ⟨n,rfl,hL⟩:=AZu hL;exact H.rowRd hr hL
theorem Sp.loAll {h:AGt} {lo:Nat} {Fs:List (List Nat)} (S:Sp h lo Fs) (i:Nat) {F:List Nat} (hi:Fs[i]? =some F):∀ b∈F,lo<=b:=fun b hb=>(S.lo i hi b hb).1
theorem AVv.stA {tb b:Nat} {h h':AGt} {l':List Value} (H:AVv tb h' b l') (U:Upd (· =b) h h') (hN:∀ x∈[b],Akh h x) (ht:Nat.beq tb 170=false):UpT [b] h h':=Ah9 U ATv (fun x hx _=>hN x hx) (A0p H ht)
theorem Au8 {h:AGt} {el g:Nat} {v:Value} {l:List Value} (H:AV5 h el g v l):Abp h el 1 g v (l.map fun x=>[x]):=by
 obtain ⟨cap,cur,h1,h2,h3,h4,h5,h6⟩:=H;have hf:∀ l:List Value,(l.map fun x=>[x]).flatten=l:=fun l=>by induction l <;> simp_all
 exact ⟨cap,cur,by rw [List.length_map];exact h1,h2,by rw [List.length_map];exact h3,h4,AGi,fun r hr=>by obtain ⟨x,_,rfl⟩:=List.mem_map.1 hr;rfl,by rw [List.length_map,Nat.mul_one,hf];exact h6⟩
section
variable {P:Program} {B:AGt->Prop} {st:Bool} {ops:Array Oper} {rest:List Oper} {e:Env} {h:AGt} {K:Env->AGt->Prop}
variable {d d':Nat} {ty ty':TypeId} {pos pos':String} {af af':Array Edge}
theorem BDk {t el bytes s:Nat} {z w0:Value} {y:Operand} (l:List Value) (hT:SlT P t el s) (hz:ZeT P el z bytes) (hb:B h) (hy:e.ev y=w0) (Ad:w0.cells=l.toArray) (hl:l.length=s) (Ah:0 < s) (Ai:s<=1000) (H:B (h.push (.cells l.toArray el (0,0)))/\RL P B st ops rest (e.set d (.slice (some ⟨h.size,0,none⟩) 1 1)) (h.push (.cells l.toArray el (0,0))) K):
    RL P B st ops (⟨some d,.buildSlice t 1 #[(0,y)],ty,pos,af,none⟩ :: rest) e h K:=by
 refine Agf rfl rfl hb fun w hw=>?_;subst hw;obtain ⟨hu,i0,Aa,Ac⟩:=hT;obtain ⟨i,hi,hzz,hsz,hby⟩:=hz;rw [hi] at Aa;injection Aa with Aa;subst Aa;have h3: ¬ (1 * i.size > 2 ^ 24):=by rw [Ac];omega
 have h4: ¬ (1 * i.size=0):=by rw [Ac];omega
 have hfill:Instr.fill (fun j=>some (j * i.size,i.size)) ((Array.range (1 * i.size)).map (z.cells[· % z.cells.size]!)) [(0,w0)]=some l.toArray:=by
   generalize z.cells=zc
   simp only [Instr.fill,Ad,List.size_toArray,hl,Ac]
   rw [if_neg ATv]
   congr 1
   obtain ⟨old,ho⟩:∃ old:List Value,((Array.range (1 * s)).map (zc[· % zc.size]!))=old.toArray:=⟨_,(Array.toArray_toList).symm⟩
   have hol:old.length=l.length:=by have:=congrArg Array.size ho;simp at this;omega
   rw [ho]
   have:=At1 l [] old hol
   simp only [List.nil_append,List.length_nil] at this
   simp only [Nat.zero_mul]
   rw [<- Array.foldl_toList]
   simp only [Array.toList_zipIdx]
   exact this
 have:(execOp e.ev ⟨some d,.buildSlice t 1 #[(0,y)],ty,pos,af,none⟩).run P w= .ok (.value (.slice (some ⟨w.heap.size,0,none⟩) 1 1)) (w.alloc (.cells l.toArray el)):=by
   simp only [execOp,List.map_toArray,List.map,hy]
   simp only [Instr.buildSlice,Sem.run_bind,Adk hu,Result.andThen,Ag7 hi,if_neg h3,if_neg h4,Awq hi hzz]
   have Ag:Sem.run P (pure z.cells:Sem (Array Value)) w= .ok z.cells w:=rfl
   simp only [Ag]
   rw [hfill]
   simp [newRow]
 rw [this];exact ⟨⟨rfl,rfl,rfl⟩,H⟩
def PU (el:Nat) (v:Value) (h h':AGt):Prop:=Upd (fun k=>v.ownBlock=some k) h h'/\ ∀ g,v.ownBlock=some g-> ∃ cur,h'[g]? =some (.cells cur el (0,0))
theorem A44 {h h':AGt} {el k lo:Nat} {v:Value} {L:List (List Value)} (H:A4q h el k lo v L) (E:Ext h h'):PU el v h h':=by
 refine ⟨E.upd,fun g hg=>?_⟩;rcases H with ⟨_,rfl⟩ | ⟨g',_,HO⟩
 ·cases hg
 ·rw [HO.blk] at hg;injection hg with hg;subst hg;obtain ⟨cap,cur,_,hgg,_⟩:=HO.ext E;exact ⟨cur,hgg⟩
theorem A0q {s y:Operand} {t el bytes lo k:Nat} {z v w0:Value} {L:List (List Value)} (u:List Value) (hT:SlT P t el k) (hz:ZeT P el z bytes) (hzk:z.cells.size=k) (Af:B h) (hbB:∀ h',PU el v h h'->B h') (hs:∀ p,(e.set d p).ev s=v) (hy:e.ev y=w0) (Ag:w0.cells=u.toArray) (hu:u.length=k) (hone:∀ x∈u,isOne x=true) (Ah:0 < k) (Ai:k<=1000) (HG:A4q h el k lo v L) (hlo:lo<=h.size) (hby:bytes<=1000) (hl:L.length<=100000000) (H:∀ p v' h',A4q h' el k lo v' (L ++ [u])->PU el v h h'->(v'.ownBlock=v.ownBlock∨ ∃ g,v'.ownBlock=some g/\h.size<=g)->RL P B st ops rest ((e.set d p).set d' v') h' K):
    RL P B st ops (⟨some d,.buildSlice t 1 #[(0,y)],ty,pos,af,none⟩ :: ⟨some d',.call ⟨.builtin .append,#[s,.tmp d],#[t,t]⟩,ty',pos',af',none⟩ :: rest) e h K:=by
 have hsz:L.length * bytes<=100000000 * 1000:=Nat.mul_le_mul hl hby;have Aj:(L.length + 1) * bytes<=140737488355328:=by rw [Nat.add_mul];omega
 refine BDk u hT hz Af hy Ag hu Ah Ai ⟨hbB _ (A44 HG (AV0 _ _)),?_⟩;have hnew:=A4r h el k u hu;have hE:=AV0 h (.cells u.toArray el (0,0));have Ak:(h.push (.cells u.toArray el (0,0))).size=h.size + 1:=by simp
 have hone':∀ x∈u,x.oneCell'=true:=fun x hx'=>by have:=hone x hx';cases x <;> first | rfl | cases this
 refine Agf rfl rfl (hbB _ (A44 HG (AV0 _ _))) fun w hw=>?_;have hws:w.heap.size=h.size + 1:=by rw [hw];exact Ak
 have hEw:Ext h w.heap:=by rw [hw];exact hE
 obtain ⟨hut,i0,Ab,Aa⟩:=hT;obtain ⟨i,hi,hzz,hszz,hbyy⟩:=hz;rw [hi] at Ab;injection Ab with Ab;subst Ab
 have hnews:∀ j x,u[j]? =some x->w.cell? ((⟨h.size,0,none⟩:Addr).add j)=some x:=fun j x hx=>by
   rw [AXq,Nat.zero_add]
   have:=hnew.cell (i:=0) rfl hx
   rw [Nat.zero_mul,Nat.zero_add] at this
   rw [Aoz,hw];exact this
 rcases HG with ⟨rfl,rfl⟩ | ⟨g,hg,HO⟩
 ·have hr:=run_append_nil (P:=P) w t ty' el i z hut hi hzz ⟨h.size,0,none⟩ 1 1 u (by rw [hu,Aa];omega) hnews AGi AGi (by rw [hbyy];omega)
  have hrun:(execOp (e.set d (.slice (some ⟨h.size,0,none⟩) 1 1)).ev ⟨some d',.call ⟨.builtin .append,#[s,.tmp d],#[t,t]⟩,ty',pos',af',none⟩).run P w= .ok (.value (.slice (some ⟨w.heap.size,0,none⟩) 1 (grownCap w 1 0 el)))
      (w.drew.alloc (.cells (u.toArray ++ Builtin.zeroCells z.cells (grownCap w 1 0 el - 1)) el)):=by
    have hd:(e.set d (.slice (some ⟨h.size,0,none⟩) 1 1)).ev (.tmp d)= .slice (some ⟨h.size,0,none⟩) 1 1:=Env.set_same _ _ _
    simp [execOp,resolve,invoke,builtin,hs,hd,hr]
  rw [hrun];have hge:=grownCap_ge w 1 0 el;have hcm':grownCap w 1 0 el<=maxLen:=grownCap_le_maxLen w _ _ el (by unfold maxLen;omega);refine ⟨⟨rfl,rfl,rfl⟩,hbB _ ?Am,H _ _ _ (.inr ⟨w.heap.size,AGi,?_⟩) ?Am (.inr ⟨w.heap.size,rfl,AGi⟩)⟩;rotate_left
  ·refine ⟨_,_,rfl,heap_alloc_new w.drew _,hge,hcm',?_,by simpa using hu,?_⟩
   ·rw [Array.size_append,size_zeroCells,hzk,List.size_toArray,hu,Nat.sub_mul];have:1 * k<=grownCap w 1 0 el * k:=Nat.mul_le_mul_right k hge;omega
   ·simp only [Array.toList_append];simp only [List.nil_append,List.length_cons,List.length_nil,Nat.zero_add,Nat.one_mul,List.flatten_cons,List.flatten_nil,List.append_nil];rw [<- hu];exact List.take_left
  ·exact ⟨(hEw.trans ⟨ATv,fun k hk=>heap_alloc_old w.drew _ k hk⟩).upd,fun g hg=>by cases hg⟩
 ·have Ac:=HO.ext hE;rw [<- hw] at Ac
  have hcell:∀ j x,L.flatten[j]? =some x->w.cell? ((⟨g,0,none⟩:Addr).add j)=some x:=fun j x hx=>by
    obtain ⟨cap,cur,_,hgg,_,_,_,hkk,ht⟩:=Ac
    rw [AXq,Nat.zero_add,Aoz]
    have hj:=(List.getElem?_eq_some_iff.1 hx).1
    rw [AZ5 hkk] at hj
    rw [<- ht,List.getElem?_take,if_pos hj] at hx
    simp only [AWy,hgg]
    simpa using hx
  have Ar:=Ac;obtain ⟨cap,cur,rfl,hgg,hlc,hcm,hcs,hkk,ht⟩:=Ac;have hd:(e.set d (.slice (some ⟨h.size,0,none⟩) 1 1)).ev (.tmp d)= .slice (some ⟨h.size,0,none⟩) 1 1:=Env.set_same _ _ _;have hlu:(L ++ [u]).length=L.length + 1:=by simp
  have hkk':∀ r∈L ++ [u],r.length=k:=by
    intro r hr
    rcases List.mem_append.1 hr with h1 | h1
    · exact hkk r h1
    · rw [List.mem_singleton.1 h1];exact hu
  by_cases hroom:L.length + 1<=cap
  ·have hmul:(L.length + 1) * k<=cap * k:=Nat.mul_le_mul_right k hroom;rw [Nat.add_mul,Nat.one_mul] at hmul;have hr:=run_append_room (P:=P) w t ty' el i hut hi g L.length cap cur hgg ⟨h.size,0,none⟩ 1 1 u (by rw [hu,Aa];omega) hnews hone' hroom (by rw [Aa,hu,hcs];exact hmul)
   have hrun:(execOp (e.set d (.slice (some ⟨h.size,0,none⟩) 1 1)).ev ⟨some d',.call ⟨.builtin .append,#[s,.tmp d],#[t,t]⟩,ty',pos',af',none⟩).run P w= .ok (.value (.slice (some ⟨g,0,none⟩) (L.length + 1) cap)) (w.setRow g (cur.toList.take (L.length * i.size) ++ u ++ cur.toList.drop (L.length * i.size + u.length)).toArray):=by
     simp [execOp,resolve,invoke,builtin,hs,hd,hr]
   rw [hrun];refine ⟨⟨rfl,rfl,rfl⟩,hbB _ ?Ao,H _ _ _ (.inr ⟨g,hg,?_⟩) ?Ao (.inl rfl)⟩;rotate_left
   ·refine ⟨cap,_,by rw [hlu],setRow_heap w g cur _ el (0,0) hgg,by rw [hlu];exact hroom,hcm,?_,hkk',?_⟩
    ·simp only [Aa,List.size_toArray,List.length_append,List.length_take,List.length_drop,Array.length_toList,hcs,hu];omega
    ·simp only [Aa,ht,hlu];rw [List.flatten_append,List.flatten_cons,List.flatten_nil,List.append_nil];have:(L.length + 1) * k=(L.flatten ++ u).length:=by rw [List.length_append,AZ5 hkk,hu,Nat.add_mul,Nat.one_mul]
     rw [this];exact List.take_left
   ·exact ⟨hEw.upd.trans ⟨by simp [World.setRow],fun q hq hne=>setRow_other w g q _ (fun he=>hne (by rw [he];rfl))⟩,fun g' hg'=>by injection hg' with hg';subst hg';exact ⟨_,setRow_heap w g cur _ el (0,0) hgg⟩⟩
  ·have hr:=run_append_grow (P:=P) w t ty' el i z hut hi hzz ⟨g,0,none⟩ L.length cap L.flatten (by rw [AZ5 hkk,Aa]) hcell ⟨h.size,0,none⟩ 1 1 u (by rw [hu,Aa];omega) hnews AGi
     AGi (by rw [hbyy];exact growslice_fits AGi Aj)
   have hrun:(execOp (e.set d (.slice (some ⟨h.size,0,none⟩) 1 1)).ev ⟨some d',.call ⟨.builtin .append,#[s,.tmp d],#[t,t]⟩,ty',pos',af',none⟩).run P w= .ok (.value (.slice (some ⟨w.heap.size,0,none⟩) (L.length + 1) (grownCap w (L.length + 1) cap el)))
       (w.drew.alloc (.cells (L.flatten.toArray ++ u.toArray ++ Builtin.zeroCells z.cells (grownCap w (L.length + 1) cap el - (L.length + 1))) el)):=by
     simp [execOp,resolve,invoke,builtin,hs,hd,hr]
   rw [hrun];have hge:=grownCap_ge w (L.length + 1) cap el;have hcm':grownCap w (L.length + 1) cap el<=maxLen:=grownCap_le_maxLen w _ _ el (by unfold maxLen;omega);refine ⟨⟨rfl,rfl,rfl⟩,hbB _ ?Ap,H _ _ _ (.inr ⟨w.heap.size,AGi,?_⟩) ?Ap (.inr ⟨w.heap.size,rfl,AGi⟩)⟩;rotate_left
   ·refine ⟨_,_,by rw [hlu],heap_alloc_new w.drew _,by rw [hlu];exact hge,hcm',?_,hkk',?_⟩
    ·have hmm:(L.length + 1) * k<=grownCap w (L.length + 1) cap el * k:=Nat.mul_le_mul_right k hge;rw [Nat.add_mul] at hmm;rw [Array.size_append,Array.size_append,size_zeroCells,hzk,List.size_toArray,List.size_toArray,hu,AZ5 hkk,Nat.sub_mul,Nat.add_mul];omega
    ·simp only [Array.toList_append,hlu];rw [List.flatten_append,List.flatten_cons,List.flatten_nil,List.append_nil];have:(L.length + 1) * k=(L.flatten ++ u).length:=by rw [List.length_append,AZ5 hkk,hu,Nat.add_mul,Nat.one_mul]
     rw [this];exact List.take_left
   ·exact ⟨(hEw.trans ⟨ATv,fun k hk=>heap_alloc_old w.drew _ k hk⟩).upd,fun g' hg'=>by injection hg' with hg';subst hg';exact ⟨_,(heap_alloc_old w.drew _ g (Array.getElem?_eq_some_iff.1 hgg).1).trans hgg⟩⟩
theorem Aw4 {k:Nat}:∀ {L:List (List Value)} {i:Nat} {row:List Value},(∀ r∈L,r.length=k)->row.length=k->i < L.length->(L.set i row).flatten=L.flatten.take (i * k) ++ row ++ L.flatten.drop (i * k + k):=by
 intro L
 induction L with
 | nil=>intro i row _ _ h;simp at h
 | cons s L ih=>
   intro i row hk hr hi
   have hs:=hk s (List.mem_cons_self ..)
   cases i with
   | zero=>simp [hs,List.drop_append]
   | succ i=>
     have:=ih (fun r hr=>hk r (List.mem_cons_of_mem _ hr)) hr (by simpa using hi)
     simp only [List.set_cons_succ,List.flatten_cons,this]
     rw [List.take_append,List.drop_append,hs,show (i + 1) * k - k=i * k by rw [Nat.add_mul];omega,show (i + 1) * k + k - k=i * k + k by rw [Nat.add_mul];omega,List.take_of_length_le (l:=s) (by rw [hs,Nat.add_mul];omega),List.drop_of_length_le (l:=s) (by rw [hs,Nat.add_mul];omega)]
     simp
theorem Abp.setAll {el k g n:Nat} {v:Value} {L:List (List Value)} {h h':AGt} {row:List Value} (HO:Abp h el k g v L) (hn:n < L.length) (hrow:row.length=k) (hcur:∀ cur,h[g]? =some (.cells cur el (0,0))->h'[g]? =some (.cells (cur.toList.take (n * k) ++ row ++ cur.toList.drop (n * k + row.length)).toArray el (0,0))):Abp h' el k g v (L.set n row):=by
 obtain ⟨cap,cur,hv,hg,hl,hm,hs,hk,ht⟩:=HO;have hle':n * k + k<=L.length * k:=by rw [<- Nat.succ_mul];exact Nat.mul_le_mul_right k hn
 have hle2':L.length * k<=cap * k:=Nat.mul_le_mul_right k hl;have hcl:L.length * k<=cur.toList.length:=by have:cur.toList.length=cur.size:=Array.length_toList;omega
 refine ⟨cap,_,by rw [List.length_set];exact hv,hcur cur hg,by rw [List.length_set];exact hl,hm,?_,?_,?_⟩
 ·simp only [List.size_toArray,List.length_append,List.length_take,List.length_drop,Array.length_toList,hrow];omega
 ·intro q hq;rcases List.mem_or_eq_of_mem_set hq with hq | rfl
  ·exact hk q hq
  ·exact hrow
 ·rw [List.length_set,Aw4 hk hrow hn,<- ht];have e1:((cur.toList.take (n * k) ++ row ++ cur.toList.drop (n * k + row.length)).toArray).toList=cur.toList.take (n * k) ++ row ++ cur.toList.drop (n * k + row.length):=rfl;rw [e1,List.take_append,List.take_append,List.take_take,List.take_take,Nat.min_eq_right AGi,Nat.min_eq_left AGi,List.length_append,List.length_take,Nat.min_eq_left AGi,hrow];rw [List.take_of_length_le (l:=row) (by rw [hrow];omega),List.drop_take]
theorem BA9 {x y:Operand} {t el g s n:Nat} {v:Value} {L:List (List Value)} (row:List Value) (ht:AgT P t s) (hrow:row.length=s) (hx:e.ev x= .pointer (some ⟨g,n * s,none⟩)) (hy:e.ev y= .agg row.toArray) (h1:∀ u∈row,isOne u=true) (HO:Abp h el s g v L) (hn:n < L.length) (H:∀ h',(∀ v L,Abp h el s g v L->n < L.length->Abp h' el s g v (L.set n row))->Upd (· =g) h h'->RL P B st ops rest e h' K):RL P B st ops (⟨none,.store t x y,ty,pos,af,none⟩ :: rest) e h K:=by
 refine BAy rfl rfl fun w hw=>?_;subst hw;obtain ⟨_,i,hi,hsz⟩:=ht;obtain ⟨cap,cur,hv,hg,hl,hm,hs,hk,htk⟩:=HO;have hone':∀ u∈row,u.oneCell'=true:=fun u hu'=>by have:=h1 u hu';cases u <;> first | rfl | cases this
 have hle:n * s + s<=L.length * s:=by rw [<- Nat.succ_mul];exact Nat.mul_le_mul_right s hn
 have Ab:L.length * s<=cap * s:=Nat.mul_le_mul_right s hl;have hr:=run_storeCells_at P g (n * s) el row 0 cur w hg (by rw [hrow,hs];omega) hone'
 have hrun:(execOp e.ev ⟨none,.store t x y,ty,pos,af,none⟩).run P w= .ok .skip (w.setRow g (cur.toList.take (n * s + 0) ++ row ++ cur.toList.drop (n * s + 0 + row.length)).toArray):=by
   simp only [execOp,Instr.storeAt,hx,Instr.sureAddr,hy]
   simp only [Nat.add_zero] at hr
   simp [storeVar,Ag7 hi,Value.cells,hsz,hrow,hr]
 rw [hrun]
 exact ⟨⟨rfl,rfl,rfl⟩,H _ (fun v' L' HO' hn'=>HO'.setAll hn' hrow fun cur' hc'=>by
   rw [hg] at hc'
   injection hc' with hc'
   injection hc' with hc' _ _
   subst hc'
   exact setRow_heap w g cur _ el (0,0) hg) ⟨by simp [World.setRow],fun k hk hne=>setRow_other w g k _ (fun he=>hne he)⟩⟩
theorem Atn (a b:Value) (n:Nat):madeCells #[a,b] (n * 2)=((List.replicate n [a,b]).flatten).toArray:=by
 apply Array.ext
 ·simp [madeCells]
 ·intro i h1 h2;have hi:i < n * 2:=by simpa [madeCells] using h1
  simp only [madeCells,Array.getElem_map,Array.getElem_range];have hk:∀ r∈List.replicate n [a,b],r.length=2:=fun r hr=>by rw [(List.mem_replicate.1 hr).2];rfl
  have h3:(List.replicate n [a,b])[i / 2]? =some [a,b]:=by rw [List.getElem?_replicate,if_pos AGi]
  have hg:((List.replicate n [a,b]).flatten)[i]? =some (#[a,b][i % 2]!):=by
    have hm:i % 2=0∨i % 2=1:=by omega
    rcases hm with hm | hm
    · have:=Amy hk h3 (j:=0) (x:=a) rfl
      rw [show i / 2 * 2 + 0=i by omega] at this
      rw [this,hm];rfl
    · have:=Amy hk h3 (j:=1) (x:=b) rfl
      rw [show i / 2 * 2 + 1=i by omega] at this
      rw [this,hm];rfl
  have hl:i < ((List.replicate n [a,b]).flatten).length:=by rw [AZ5 hk];simp;omega
  rw [List.getElem?_eq_getElem hl] at hg;injection hg with hg;simpa using hg.symm
theorem BBa {x y:Operand} {t el n bytes:Nat} {a b:Value} (hT:SlT P t el 2) (hz:ZeT P el (.agg #[a,b]) bytes) (hb:B h) (hx:e.ev x= .int .i64 (n:Int)) (hy:e.ev y= .int .i64 (n:Int)) (hby:bytes<=1000) (hn:n<=100000000)
    (H:∀ h',Abp h' el 2 h.size (.slice (some ⟨h.size,0,none⟩) n n) (List.replicate n [a,b])->Ext h h'->h.size < h'.size->B h'->RL P B st ops rest (e.set d (.slice (some ⟨h.size,0,none⟩) n n)) h' K) (hbB:B (h.push (.cells ((List.replicate n [a,b]).flatten).toArray el (0,0)))):
    RL P B st ops (⟨some d,.makeSlice t x y,ty,pos,af,none⟩ :: rest) e h K:=by
  have h1:bytes * n<=1000 * 100000000:=Nat.mul_le_mul hby hn;refine Agf rfl rfl hb fun w hw=>?_;subst hw;obtain ⟨hu,i0,hi0,hs0⟩:=hT;obtain ⟨i,hi,hzz,hsz,hby'⟩:=hz;rw [hi] at hi0;injection hi0 with hi0;subst hi0;have hr:=run_make (P:=P) w t el i (.agg #[a,b]) hu hi hzz .i64 .i64 (n:Int) (n:Int) AGi AGi (by rw [hby'];omega) AGi
  have:(execOp e.ev ⟨some d,.makeSlice t x y,ty,pos,af,none⟩).run P w= .ok (.value (.slice (some ⟨w.heap.size,0,none⟩) n n)) (w.alloc (.cells ((List.replicate n [a,b]).flatten).toArray el)):=by
    simp only [execOp,hx,hy];have hc:(Value.agg #[a,b]).cells= #[a,b]:=rfl;simp only [Int.toNat_natCast,hs0,hc,Atn] at hr;simp [hr]
  rw [this];have hk:∀ r∈List.replicate n [a,b],r.length=2:=fun r hr=>by rw [(List.mem_replicate.1 hr).2];rfl
  refine ⟨⟨rfl,rfl,rfl⟩,hbB,H _ ⟨n,((List.replicate n [a,b]).flatten).toArray,ATv,heap_alloc_new w _,ATv,by unfold maxLen;omega,?_,hk,?_⟩ (AV0 _ _) ATv hbB⟩
  · rw [List.size_toArray,AZ5 hk];simp
  · rw [show ((List.replicate n [a,b]).flatten).toArray.toList=(List.replicate n [a,b]).flatten from rfl];exact List.take_of_length_le (by rw [AZ5 hk];exact Nat.le_refl _)
theorem Ao3 {x i:Operand} {t el er s g:Nat} {v:Value} {L:List (List Value)} {k:IntKind} {n:Nat} {h0:AGt} (hT:SlT P t el s) (hx:e.ev x=v) (HO:Abp h0 er s g v L) (hi:e.ev i= .int k (n:Int)) (hn:n < L.length) (H:RL P B st ops rest (e.set d (.pointer (some ⟨g,n * s,none⟩))) h K):RL P B st ops (⟨some d,.indexAddr t x i,ty,pos,af,none⟩ :: rest) e h K:=by
 obtain ⟨cap,cur,rfl,_⟩:=HO;refine Ayw hT hx hi AGi AGi ?_;have he:(⟨g,0,none⟩:Addr).add ((n:Int).toNat * s)=⟨g,n * s,none⟩:=by rw [AXq];simp
 rw [he];exact H
theorem Adl {α:Type} {c:Cod α} {x i:Operand} {t el:Nat} {v:Value} {L:List α} {κ:IntKind} {n:Int} {a:α} {h0:AGt} (hT:SlT P t el c.k) (hx:e.ev x=v) (HS:SlC c h0 v L) (hi:e.ev i= .int κ n) (ha:gI L n=some a) (H:∀ b o cs,c.rep h0 a cs->(∀ j u,cs[j]? =some u->AWy h0 ⟨b,o + j,none⟩=some u)->RL P B st ops rest (e.set d (.pointer (some ⟨b,o,none⟩))) h K):RL P B st ops (⟨some d,.indexAddr t x i,ty,pos,af,none⟩ :: rest) e h K:=by
 obtain ⟨m,rfl,Ab⟩:=AZu ha;clear ha;have ha:=Ab;obtain ⟨Ls,⟨ad,cap,rfl,hc⟩,HA⟩:=HS;obtain ⟨cs,hcs,hrep⟩:=HA.get ha;obtain ⟨b,o,rfl,hcu⟩:=hc m cs hcs;have hn:=(List.getElem?_eq_some_iff.1 hcs).1;refine Ayw hT hx hi AGi AGi ?_;have he:(⟨b,o,none⟩:Addr).add ((m:Int).toNat * c.k)=⟨b,o + m * c.k,none⟩:=by rw [AXq];simp
 rw [he];exact H b _ cs hrep hcu
theorem Am2 {α:Type} {c:Cod α} {x i:Operand} {t el:Nat} {v:Value} {M:List (List α)} {κ:IntKind} {n:Int} {L:List α} {h0:AGt} (hT:SlT P t el 1) (hx:e.ev x=v) (HS:AXs c h0 v M) (hi:e.ev i= .int κ n) (ha:gI M n=some L) (H:∀ b o r,AWy h0 ⟨b,o,none⟩=some r->SlC c h0 r L->RL P B st ops rest (e.set d (.pointer (some ⟨b,o,none⟩))) h K):RL P B st ops (⟨some d,.indexAddr t x i,ty,pos,af,none⟩ :: rest) e h K:=by
 obtain ⟨m,rfl,Ab⟩:=AZu ha;clear ha;have ha:=Ab;obtain ⟨_,rs,⟨ad,cap,rfl,hc⟩,hl,HA⟩:=HS;have hm:=(List.getElem?_eq_some_iff.1 ha).1;obtain ⟨r,hr⟩:∃ r,rs[m]? =some r:=⟨rs[m]'AGi,List.getElem?_eq_getElem _⟩;obtain ⟨b,o,rfl,hcu⟩:=hc m [r] (by simp [hr]);refine Ayw hT hx hi AGi (by simp;omega) ?_;have he:(⟨b,o,none⟩:Addr).add ((m:Int).toNat * 1)=⟨b,o + m * 1,none⟩:=by rw [AXq];simp
 rw [he];exact H b _ r (hcu 0 r rfl) (HA m r L hr ha)
theorem Ao4 {α:Type} {c:Cod α} {er el:Nat} {h0:AGt} {F:List Nat} {Gs:List (List Nat)} {rs:List Value} {v:Value} {M:List (List α)} {n:Nat} {L:List α} (HO:AVt c er el h0 F Gs rs v M) (ha:M[n]? =some L):∃ b r,F=b :: Gs.flatten/\Abp h0 er 1 b v (rs.map fun r=>[r])/\rs[n]? =some r/\n < rs.length:=by
 rcases HO with ⟨rfl,_⟩ | ⟨b,hF,hn,h2,h3,h4,h5,h6⟩
 ·simp at ha
 ·have hm:=(List.getElem?_eq_some_iff.1 ha).1;exact ⟨b,rs[n]'AGi,hF,h2,List.getElem?_eq_getElem _,AGi⟩
theorem AVf {α:Type} {c:Cod α} {x i:Operand} {t el0 er el:Nat} {F:List Nat} {Gs:List (List Nat)} {rs:List Value} {v:Value} {M:List (List α)} {κ:IntKind} {n:Int} {L:List α} {h0:AGt} (hT:SlT P t el0 1) (hx:e.ev x=v) (HO:AVt c er el h0 F Gs rs v M) (hi:e.ev i= .int κ n) (ha:gI M n=some L)
    (H:∀ b r,F=b :: Gs.flatten->rs[n.toNat]? =some r->AWy h0 ⟨b,n.toNat,none⟩=some r->RL P B st ops rest (e.set d (.pointer (some ⟨b,n.toNat,none⟩))) h K):RL P B st ops (⟨some d,.indexAddr t x i,ty,pos,af,none⟩ :: rest) e h K:=by
  obtain ⟨m,rfl,hm0⟩:=AZu ha;clear ha;have ha:=hm0;obtain ⟨b,r,hF,h2,hr,hm⟩:=Ao4 HO ha;have hcell:=h2.cell (i:=m) (j:=0) (r:=[r]) (x:=r) (by simp [hr]) rfl;refine Ao3 (er:=er) (n:=m) hT hx h2 hi (by simpa using hm) ?_;rw [Nat.mul_one];rw [Nat.mul_one,Nat.add_zero] at hcell;exact H b r hF hr hcell
theorem Ao5 {α:Type} {c:Cod α} {x i:Operand} {t el0 el:Nat} {F:List Nat} {v:Value} {L:List α} {κ:IntKind} {n:Int} {a:α} {h0:AGt} (hT:SlT P t el0 c.k) (hx:e.ev x=v) (HO:OwC c el h0 F v L) (hi:e.ev i= .int κ n) (ha:gI L n=some a)
    (H:∀ g,F=[g]->RL P B st ops rest (e.set d (.pointer (some ⟨g,n.toNat * c.k,none⟩))) h K):RL P B st ops (⟨some d,.indexAddr t x i,ty,pos,af,none⟩ :: rest) e h K:=by
  obtain ⟨m,rfl,hm0⟩:=AZu ha;clear ha;have ha:=hm0
  rcases HO with ⟨rfl,_⟩ | ⟨g,Ls,hF,h2,h3,_⟩
  · simp at ha
  · have hm:=(List.getElem?_eq_some_iff.1 ha).1;exact Ao3 (er:=el) (n:=m) hT hx h2 hi (by rw [h3.1];exact hm) (H g hF)
theorem OwC.cells {α:Type} {c:Cod α} {el g:Nat} {v:Value} {L:List α} {n:Int} {a:α} {h0:AGt} {F:List Nat} (HO:OwC c el h0 F v L) (hF:F=[g]) (ha:gI L n=some a):∃ cs,c.rep h0 a cs/\ ∀ j u,cs[j]? =some u->AWy h0 ⟨g,n.toNat * c.k + j,none⟩=some u:=by
 obtain ⟨m,rfl,Ab⟩:=AZu ha;clear ha;have ha:=Ab;rcases HO with ⟨rfl,_⟩ | ⟨g',Ls,hF',h2,h3,_⟩
 ·simp at ha
 ·rw [hF] at hF';injection hF' with hg;subst hg;obtain ⟨cs,hcs,hrep⟩:=h3.get ha;exact ⟨cs,hrep,fun j u hu=>h2.cell hcs hu⟩
theorem AWo {α:Type} {c:Cod α} {x i:Operand} {t el0 er el:Nat} {F:List Nat} {Gs:List (List Nat)} {rs:List Value} {v r:Value} {M:List (List α)} {κ:IntKind} {m n:Int} {L:List α} {a:α} {h0:AGt} (hT:SlT P t el0 c.k) (hx:e.ev x=r) (HO:AVt c er el h0 F Gs rs v M) (hr:rs[m.toNat]? =some r) (hL:gI M m=some L) (hi:e.ev i= .int κ n) (ha:gI L n=some a)
    (H:∀ g,Gs[m.toNat]? =some [g]->RL P B st ops rest (e.set d (.pointer (some ⟨g,n.toNat * c.k,none⟩))) h K):RL P B st ops (⟨some d,.indexAddr t x i,ty,pos,af,none⟩ :: rest) e h K:=by
  obtain ⟨q,rfl,hm0⟩:=AZu hL;clear hL;have hL:=hm0;obtain ⟨G,hG,HR,_⟩:=HO.row hr hL;exact Ao5 hT hx HR hi ha fun g hg=>H g (hg ▸ hG)
theorem AVt.cells {α:Type} {c:Cod α} {er el g:Nat} {F:List Nat} {Gs:List (List Nat)} {rs:List Value} {v:Value} {M:List (List α)} {m n:Int} {L:List α} {a:α} {h0:AGt} (HO:AVt c er el h0 F Gs rs v M) (hG:Gs[m.toNat]? =some [g]) (hL:gI M m=some L) (ha:gI L n=some a):∃ cs,c.rep h0 a cs/\ ∀ j u,cs[j]? =some u->AWy h0 ⟨g,n.toNat * c.k + j,none⟩=some u:=by
 obtain ⟨q,rfl,Ab⟩:=AZu hL;clear hL;have hL:=Ab;obtain ⟨b,r,hF,h2,hr,hm⟩:=Ao4 HO hL;obtain ⟨G,hG',HR,_⟩:=HO.row hr hL;rw [Int.toNat_natCast,hG'] at hG;injection hG with hG;subst hG;exact HR.cells rfl ha
theorem Afb {α:Type} {c:Cod α} {x:Operand} {t b o:Nat} {a:α} {cs:List Value} (ht:AgT P t c.k) (hx:e.ev x= .pointer (some ⟨b,o,none⟩)) (hrep:c.rep h a cs) (hc:∀ j u,cs[j]? =some u->AWy h ⟨b,o + j,none⟩=some u) (H:RL P B false ops rest (e.set d (.agg cs.toArray)) h K):
    RL P B false ops (⟨some d,.load t x,ty,pos,af,none⟩ :: rest) e h K:=
  Acx cs ht (c.klen hrep) hx (fun i u hu=>by rw [AXq];exact hc i u hu) H
theorem Aki {α:Type} {c:Cod α} {x:Operand} {t b o:Nat} {a:α} {cs:List Value} {h0:AGt} (ht:AgT P t c.k) (hx:e.ev x= .pointer (some ⟨b,o,none⟩)) (hrep:c.rep h0 a cs) (hb:B h) (hB:∀ h',B h'-> ∀ j u,cs[j]? =some u->AWy h' ⟨b,o + j,none⟩=some u) (H:RL P B true ops rest (e.set d (.agg cs.toArray)) h K):
    RL P B true ops (⟨some d,.load t x,ty,pos,af,none⟩ :: rest) e h K:=
  Aa5 cs ht (c.klen hrep) hx hb (fun h' hb i u hu=>by rw [AXq];exact hB h' hb i u hu) H
theorem AUp {α:Type} {c:Cod α} {x:Operand} {t el s:Nat} {v:Value} {L:List α} {h0:AGt} (hT:SlT P t el s) (hx:e.ev x=v) (HI:SlC c h0 v L) (H:RL P B st ops rest (e.set d (.int .i64 (L.length:Int))) h K):
    RL P B st ops (⟨some d,.call ⟨.builtin .len,#[x],#[t]⟩,ty,pos,af,none⟩ :: rest) e h K:=by
 obtain ⟨Ls,⟨a,cap,rfl,_⟩,HA⟩:=HI;rw [HA.1] at hx;exact Amq hT hx H
theorem AT4 {α:Type} {c:Cod α} {x:Operand} {t el s:Nat} {v:Value} {M:List (List α)} {h0:AGt} (hT:SlT P t el s) (hx:e.ev x=v) (HI:AXs c h0 v M) (H:RL P B st ops rest (e.set d (.int .i64 (M.length:Int))) h K):
    RL P B st ops (⟨some d,.call ⟨.builtin .len,#[x],#[t]⟩,ty,pos,af,none⟩ :: rest) e h K:=by
 obtain ⟨_,rs,⟨a,cap,rfl,_⟩,hl,_⟩:=HI;rw [List.length_map,hl] at hx;exact Amq hT hx H
def BBb (P:Program) (B:AGt->Prop) (st:Bool) (ops:Array Oper) (rest:List Oper) (e:Env) (h:AGt) (K:Env->AGt->Prop) (o:Oper) (el k g n:Nat) (row:List Value):Prop:=
  ∀ (v:Value) (L:List (List Value)),Abp h el k g v L->n < L.length->(∀ h',(∀ v' L',Abp h el k g v' L'->n < L'.length->Abp h' el k g v' (L'.set n row))->Upd (· =g) h h'->RL P B st ops rest e h' K)->RL P B st ops (o :: rest) e h K
theorem Ajz {x y:Operand} {t el g s n:Nat} {row:List Value} (ht:AgT P t s) (hrow:row.length=s) (hx:e.ev x= .pointer (some ⟨g,n * s,none⟩)) (hy:e.ev y= .agg row.toArray) (h1:∀ u∈row,isOne u=true):BBb P B st ops rest e h K ⟨none,.store t x y,ty,pos,af,none⟩ el s g n row:=
  fun v L HO hn H=>BA9 row ht hrow hx hy h1 HO hn H
theorem Ads {x y:Operand} {t el g n:Nat} {u:Value} (ht:NaT P t) (hx:e.ev x= .pointer (some ⟨g,n * 1,none⟩)) (hy:e.ev y=u) (h1:isOne u=true):BBb P B st ops rest e h K ⟨none,.store t x y,ty,pos,af,none⟩ el 1 g n [u]:=by
 intro v L HO hn H;rw [Nat.mul_one] at hx
 have hl:∀ v' L',Abp h el 1 g v' L'->n < L'.length-> ∃ x0,L'[n]? =some [x0]:=fun v' L' HO' hn'=>by
   obtain ⟨_,_,_,_,_,_,_,hk,_⟩:=HO'
   have:=hk (L'[n]'hn') (List.getElem_mem _)
   obtain ⟨x0,Ab⟩:=List.length_eq_one_iff.1 this
   exact ⟨x0,by rw [List.getElem?_eq_getElem hn',Ab]⟩
 obtain ⟨x0,Ab⟩:=hl v L HO hn;have hc:=HO.cell Ab (j:=0) (x:=x0) rfl;rw [Nat.mul_one,Nat.add_zero] at hc;refine A7x ht hx hy h1 hc (HO.free _) (H _ (fun v' L' HO' hn'=>?_) (Aho _ _ _));obtain ⟨x1,Ad⟩:=hl v' L' HO' hn';have:=HO'.set (j:=0) u Ad AGk;rw [Nat.mul_one,Nat.add_zero] at this;exact this
theorem Am3 {Gs:List (List Nat)} (hn:Gs.flatten.Nodup) {i j g:Nat} {G:List Nat} (hi:Gs[i]? =some [g]) (hj:Gs[j]? =some G) (hg:g∈G):i=j:=by
 by_cases hij:i=j
 ·exact hij
 ·exact absurd hg (Aw3 hn hi hj hij g ATv)
theorem Adt {α:Type} {c:Cod α} {o:Oper} {er el g:Nat} {F:List Nat} {Gs:List (List Nat)} {rs:List Value} {v:Value} {M:List (List α)} {m n:Int} {L:List α} {a a':α} {cs:List Value} (HS:BBb P B st ops rest e h K o el c.k g n.toNat cs) (HO:AVt c er el h F Gs rs v M) (hG:Gs[m.toNat]? =some [g]) (hL:gI M m=some L) (ha:gI L n=some a) (hrep:c.rep h a' cs) (H:∀ h',AVt c er el h' F Gs rs v (sI M m (sI L n a'))->UpT F h h'->RL P B st ops rest e h' K):RL P B st ops (o :: rest) e h K:=by
 obtain ⟨i,rfl,Ae⟩:=AZu hL;clear hL;have hL:=Ae;rw [Int.toNat_natCast] at hG;have hnd:=HO.notD;obtain ⟨b,r,hFb,Am,hr,hi⟩:=Ao4 HO hL;obtain ⟨G,hG',HR,hGF⟩:=HO.row hr hL;rw [hG] at hG';injection hG' with hG';subst hG';obtain ⟨j,rfl,ha'⟩:=AZu ha;rcases HO with ⟨rfl,_⟩ | ⟨b',hF',hn,h2,h3,h4,h5,h6⟩
 ·simp at hL
 rcases HR with ⟨_,_,Aa⟩ | ⟨g',Ls,Aa,Ad,Ab,Ac⟩
 ·cases Aa
 injection Aa with Aa;subst Aa;have hj:=(List.getElem?_eq_some_iff.1 ha').1;rw [Int.toNat_natCast] at HS;refine HS r Ls Ad (by rw [Ab.1];exact hj) fun h' hS hU=>?_;have hk2':=hS r Ls Ad (by rw [Ab.1];exact hj);have U:UpT F h h':=Ah9 hU (hGF g ATv) (fun b hb _=>hnd b hb) (hk2'.notD Ac)
 have hbg:b'≠g:=fun he=>by
   rw [hF'] at hn
   exact (List.nodup_cons.1 hn).1 (he ▸ AWz hG ATv)
 refine H h' (.inr ⟨b',hF',hn,h2.upd hU hbg,h3,by simp [sI,h4],by simp [sI,h5],fun i' G' r' L' hGi hri hLi=>?_⟩) U;by_cases hii:i'=i
 ·subst hii;rw [hG] at hGi;injection hGi with hGi;subst hGi;rw [hr] at hri;injection hri with hri;subst hri
  have:L'=sI L (j:Int) a':=by
    simp only [sI,Int.toNat_natCast] at hLi ⊢
    rw [List.getElem?_set_self (List.getElem?_eq_some_iff.1 hL).1] at hLi
    exact (Option.some.inj hLi).symm
  subst this;refine .inr ⟨g,_,rfl,hk2',?_,Ac⟩;simp only [sI,Int.toNat_natCast];exact (Ab.set j hrep).upT U
 ·have hLi':M[i']? =some L':=by
    simp only [sI,Int.toNat_natCast] at hLi
    rwa [List.getElem?_set_ne (fun he=>hii he.symm)] at hLi
  have U1:UpT [g] h h':=Ah9 hU ATv (fun b hb _=>hnd b (hGF b hb)) (hk2'.notD Ac)
  exact (h6 i' G' r' L' hGi hri hLi').upT U1 fun x hx hxg=>by
    rw [List.mem_singleton.1 hxg] at hx
    rw [hF'] at hn
    exact hii (Am3 (List.nodup_cons.1 hn).2 hG hGi hx).symm
theorem Aj0 {α:Type} {c:Cod α} {x y:Operand} {t er el:Nat} {F F':List Nat} {Gs:List (List Nat)} {rs:List Value} {v r':Value} {M:List (List α)} {n:Int} {L L':List α} (ht:NaT P t) (HO:AVt c er el h F Gs rs v M) (hL:gI M n=some L) {b:Nat} (hF:F=b :: Gs.flatten) (hx:e.ev x= .pointer (some ⟨b,n.toNat,none⟩)) (hy:e.ev y=r') (HR:OwC c el h F' r' L') (hd:∀ z∈F',z ∉ F)
    (H:∀ h',AVt c er el h' (b :: (Gs.set n.toNat F').flatten) (Gs.set n.toNat F') (rs.set n.toNat r') v (sI M n L')->UpT F h h'->(∀ z∈b :: (Gs.set n.toNat F').flatten,z∈F ++ F')->RL P B st ops rest e h' K):RL P B st ops (⟨none,.store t x y,ty,pos,af,none⟩ :: rest) e h K:=by
  obtain ⟨i,rfl,hm0⟩:=AZu hL;clear hL;have hL:=hm0;simp only [Int.toNat_natCast,sI] at hx H ⊢;have hnd:=HO.notD;have hlt:=HR.lt;have hi:=(List.getElem?_eq_some_iff.1 hL).1
  rcases HO with ⟨rfl,_⟩ | ⟨b',hF',hn,h2,h3,h4,h5,h6⟩
  · simp at hL
  rw [hF] at hF';injection hF' with hF';subst hF'
  have hsub:∀ z∈b :: (Gs.set i F').flatten,z∈F ++ F':=by
    intro z hz
    rcases List.mem_cons.1 hz with rfl | hz
    · simp [hF]
    · rcases Adr hz with h7 | ⟨j,G,_,hG,hz⟩
      · simp [h7]
      · rw [hF];simp only [List.cons_append,List.mem_cons,List.mem_append];exact .inr (.inl (AWz hG hz))
  rw [hF] at hn;have hnf:=List.nodup_cons.1 hn;refine (Ads (n:=i) (el:=er) (g:=b) ht (by rw [Nat.mul_one];exact hx) hy HR.isOne) v _ h2 (by simpa using (by omega:i < rs.length)) fun h' hS hU=>?_;have h2':=hS v _ h2 (by simpa using (by omega:i < rs.length));have U:UpT F h h':=Ah9 hU (by simp [hF]) (fun b hb _=>hnd b hb) (h2'.notD h3);have U1:UpT [b] h h':=Ah9 hU ATv (fun x hx _=>hnd x (by rw [List.mem_singleton.1 hx,hF];simp)) (h2'.notD h3)
  refine H h' (.inr ⟨b,rfl,?_,by rw [List.map_set];exact h2',h3,by simp [h4],by simp [h5],fun i' G' r2 L2 hGi hri hLi=>?_⟩) U hsub
  · refine List.nodup_cons.2 ⟨fun hz=>?_,Agl hnf.2 HR.nodup fun z hz j G _ hG hzG=>?_⟩
    · rcases Adr hz with h7 | ⟨j,G,_,hG,hz⟩
      · exact hd b h7 (by rw [hF];simp)
      · exact hnf.1 (AWz hG hz)
    · exact hd z hz (by rw [hF];exact List.mem_cons_of_mem _ (AWz hG hzG))
  · by_cases hii:i'=i
    · subst hii;rw [List.getElem?_set_self AGi] at hGi hri hLi;injection hGi with hGi;injection hri with hri;injection hLi with hLi;subst hGi;subst hri;subst hLi;exact HR.upT U hd
    · rw [List.getElem?_set_ne (fun he=>hii he.symm)] at hGi hri hLi
      exact (h6 i' G' r2 L2 hGi hri hLi).upT U1 fun z hz hzb=>by
        rw [List.mem_singleton.1 hzb] at hz;exact hnf.1 (AWz hGi hz)
theorem Ai3 {α:Type} {c:Cod α} {x y:Operand} {t el bytes:Nat} {n:Int} {z:Value} {a:α} (hT:SlT P t el 1) (hz:ZeT P el z bytes) (h1:isOne z=true) (hk:c.k=1) (hrep:∀ h,c.rep h a [z]) (hel:Nat.beq el 170=false) (hb:B h) (hBE:∀ h',Ext h h'->B h') (hx:e.ev x= .int .i64 n) (hy:e.ev y= .int .i64 n) (hby:bytes<=1000) (hn:0<=n/\n<=100000000) (H:∀ b v h',OwC c el h' [b] v (List.replicate n.toNat a)->Ext h h'->h.size<=b->b < h'.size->RL P B st ops rest (e.set d v) h' K):
    RL P B st ops (⟨some d,.makeSlice t x y,ty,pos,af,none⟩ :: rest) e h K:=by
 obtain ⟨m,rfl⟩:∃ m:Nat,n=m:=⟨n.toNat,AGi⟩;have h2:bytes * m<=1000 * 100000000:=Nat.mul_le_mul hby AGi;refine A32 hT hz h1 hb hx hy AGi AGi ⟨hBE _ (AV0 _ _),?_⟩;rw [Int.toNat_natCast] at H;refine H h.size _ _ (.inr ⟨h.size,_,rfl,by rw [hk];exact Au8 (Ams h el m z (by unfold maxLen;omega)),?_,hel⟩) (AV0 _ _) (Nat.le_refl _) ATv;rw [List.map_replicate];exact A40 (hrep _) m
theorem Ay9 {x y:Operand} {t el bytes:Nat} {n:Int} (hT:SlT P t el 2) (hz:ZeT P el (.agg #[.bool false,.slice none 0 0]) bytes) (hel:Nat.beq el 170=false) (hb:B h) (hBE:∀ h',Ext h h'->B h') (hx:e.ev x= .int .i64 n) (hy:e.ev y= .int .i64 n) (hby:bytes<=1000) (hn:0<=n/\n<=100000000) (H:∀ b v h',OwC cZ el h' [b] v (List.replicate n.toNat 0)->Ext h h'->h.size<=b->b < h'.size->RL P B st ops rest (e.set d v) h' K):
    RL P B st ops (⟨some d,.makeSlice t x y,ty,pos,af,none⟩ :: rest) e h K:=by
 obtain ⟨m,rfl⟩:∃ m:Nat,n=m:=⟨n.toNat,AGi⟩;rw [Int.toNat_natCast] at H;refine BBa hT hz hb hx hy hby AGi (fun h' HO E hlt _=>H h.size _ _ (.inr ⟨h.size,_,rfl,HO,A40 (c:=cZ) (show cZ.rep h' 0 _ from ⟨rfl,⟨false,_,[],rfl,Ai1 _ _,Akf,ATv,rfl⟩⟩) m,hel⟩) E (Nat.le_refl _) hlt) (hBE _ (AV0 _ _))
theorem Aj1 {α:Type} (c:Cod α) (el:Nat) {x y:Operand} {t er bytes:Nat} {n:Int} (hT:SlT P t er 1) (hz:ZeT P er (.slice none 0 0) bytes) (her:Nat.beq er 170=false) (hb:B h) (hBE:∀ h',Ext h h'->B h') (hx:e.ev x= .int .i64 n) (hy:e.ev y= .int .i64 n) (hby:bytes<=1000) (hn:0<=n/\n<=100000000) (H:∀ F Gs rs v h',AVt c er el h' F Gs rs v (List.replicate n.toNat [])->Ext h h'->Sp h' h.size [F]->RL P B st ops rest (e.set d v) h' K):
    RL P B st ops (⟨some d,.makeSlice t x y,ty,pos,af,none⟩ :: rest) e h K:=by
 obtain ⟨m,rfl⟩:∃ m:Nat,n=m:=⟨n.toNat,AGi⟩;rw [Int.toNat_natCast] at H;have h2:bytes * m<=1000 * 100000000:=Nat.mul_le_mul hby AGi;refine A32 hT hz rfl hb hx hy AGi AGi ⟨hBE _ (AV0 _ _),?_⟩;have hf:(List.replicate m ([]:List Nat)).flatten=[]:=by induction m <;> simp_all [List.replicate_succ]
 refine H [h.size] (List.replicate m []) (List.replicate m (.slice none 0 0)) _ _ (.inr ⟨h.size,by rw [hf],ATv,Au8 (Ams h er m _ (by unfold maxLen;omega)),her,ATv,ATv,fun i G r L hG hr hL=> .inl ⟨?_,?_,?_⟩⟩) (AV0 _ _) (AX2 (Nat.le_refl _) ATv)
 ·exact List.eq_of_mem_replicate (List.mem_of_getElem? hL)
 ·exact List.eq_of_mem_replicate (List.mem_of_getElem? hr)
 ·exact List.eq_of_mem_replicate (List.mem_of_getElem? hG)
theorem A2n {α:Type} {c:Cod α} {h:AGt} {a:α} {cs:List Value} (hrep:c.rep h a cs):(c.val cs).cells=cs.toArray:=by
 unfold Cod.val;have h1:=c.one hrep;have h2:=c.klen hrep
 cases hag:c.ag with
 | true=>rfl
 | false=>
   rw [c.sc hag] at h2
   obtain ⟨u,rfl⟩:=List.length_eq_one_iff.1 h2
   have:=h1 u ATv
   simp only [cond_false,List.headD]
   cases u <;> first | rfl | cases this
theorem Adu {α:Type} {c:Cod α} {s y:Operand} {t el bytes:Nat} {z v:Value} {F:List Nat} {L:List α} {a:α} {cs:List Value} (hT:SlT P t el c.k) (hz:ZeT P el z bytes) (hzk:z.cells.size=c.k) (hel:Nat.beq el 170=false) (hb0:B h) (hbB:∀ h',UpT F h h'->B h') (hs:∀ p,(e.set d p).ev s=v) (hy:e.ev y=c.val cs) (hrep:c.rep h a cs) (HO:OwC c el h F v L) (hby:bytes<=1000) (hl:L.length<=100000000)
    (H:∀ p F' v' h',OwC c el h' F' v' (L ++ [a])->UpT F h h'->(∀ x∈F',x∈F∨h.size<=x)->RL P B st ops rest ((e.set d p).set d' v') h' K):
    RL P B st ops (⟨some d,.buildSlice t 1 #[(0,y)],ty,pos,af,none⟩ :: ⟨some d',.call ⟨.builtin .append,#[s,.tmp d],#[t,t]⟩,ty',pos',af',none⟩ :: rest) e h K:=by
  have hG:∃ Ls,A4q h el c.k 0 v Ls/\Al c h L Ls/\(∀ x,v.ownBlock=some x->x∈F)/\(∀ x∈F,v.ownBlock=some x):=by
    rcases HO with ⟨rfl,rfl,rfl⟩ | ⟨g,Ls,rfl,h2,h3,h4⟩
    · exact ⟨[],.inl ⟨rfl,rfl⟩,Ay8 c h,(fun x hx=>by cases hx),(fun x hx=>by simp at hx)⟩
    · exact ⟨Ls,.inr ⟨g,Nat.zero_le _,h2⟩,h3,fun x hx=>by rw [h2.blk] at hx;injection hx with hx;simp [hx],fun x hx=>by rw [List.mem_singleton.1 hx];exact h2.blk⟩
  obtain ⟨Ls,HG,HA,hFb,hbF⟩:=hG;have hnd:=HO.notD
  have key:∀ h',PU el v h h'->UpT F h h':=fun h' U=>⟨⟨U.1.1,fun k hk hkF=>U.1.2 k hk fun hv=>hkF (hFb k hv)⟩,fun x hx hl=>⟨hnd x hx,by
    obtain ⟨cur,hc⟩:=U.2 x (hbF x hx);exact ⟨_,hc,hel⟩⟩⟩
  refine A0q (B:=B) (lo:=0) cs hT hz hzk hb0 (fun h' U=>hbB h' (key h' U)) hs hy (A2n hrep) (c.klen hrep) (c.one hrep) c.pos c.le HG (Nat.zero_le _) hby (by rw [HA.1];exact hl) fun p v' h' HG' U hv'=>?_;have UT:=key h' U
  rcases HG' with ⟨h1,_⟩ | ⟨g',_,HO'⟩
  · simp at h1
  · refine H p [g'] v' h' (.inr ⟨g',_,rfl,HO',(HA.upT UT).push (c.upT hrep UT),hel⟩) UT fun x hx=>?_;rw [List.mem_singleton.1 hx]
    rcases hv' with h1 | ⟨g2,h1,h2⟩
    · exact .inl (hFb _ (h1 ▸ HO'.blk))
    · rw [HO'.blk] at h1;injection h1 with h1;exact .inr AGi
theorem A0r {α:Type} {c:Cod α} {s y:Operand} {t er el bytes:Nat} {z v r:Value} {F F0:List Nat} {Gs:List (List Nat)} {rs:List Value} {M:List (List α)} {L:List α} (hT:SlT P t er 1) (hz:ZeT P er z bytes) (hzk:z.cells.size=1) (her:Nat.beq er 170=false) (hb0:B h) (hbB:∀ h',UpT F h h'->B h') (hs:∀ p,(e.set d p).ev s=v) (hy:e.ev y=r) (HR:OwC c el h F0 r L) (HO:AVt c er el h F Gs rs v M) (hdj:∀ x∈F0,x ∉ F) (hby:bytes<=1000) (hl:M.length<=100000000)
    (H:∀ p F' v' h',AVt c er el h' F' (Gs ++ [F0]) (rs ++ [r]) v' (M ++ [L])->UpT F h h'->(∀ x∈F',x∈F ++ F0∨h.size<=x)->RL P B st ops rest ((e.set d p).set d' v') h' K):
    RL P B st ops (⟨some d,.buildSlice t 1 #[(0,y)],ty,pos,af,none⟩ :: ⟨some d',.call ⟨.builtin .append,#[s,.tmp d],#[t,t]⟩,ty',pos',af',none⟩ :: rest) e h K:=by
  have hnd:=HO.notD;have hnd0:=HR.notD;have hlt0:=HR.lt;have hlt:=HO.lt
  have hG:∃ bs:List Nat,A4q h er 1 0 v (rs.map fun r=>[r])/\F=bs ++ Gs.flatten/\(∀ x,v.ownBlock=some x->bs=[x])/\(∀ x∈bs,v.ownBlock=some x)/\rs.length=M.length/\Gs.length=M.length/\F.Nodup/\ ∀ (i:Nat) (G:List Nat) (r:Value) (L:List α),Gs[i]? =some G->rs[i]? =some r->M[i]? =some L->OwC c el h G r L:=by
    rcases HO with ⟨rfl,rfl,rfl,rfl,rfl⟩ | ⟨b,rfl,hn,h2,h3,h4,h5,h6⟩
    · exact ⟨[],.inl ⟨rfl,rfl⟩,rfl,(fun x hx=>by cases hx),(fun x hx=>by simp at hx),rfl,rfl,ATv,(fun i G r L hG=>by simp at hG)⟩
    · exact ⟨[b],.inr ⟨b,Nat.zero_le _,h2⟩,rfl,fun x hx=>by rw [h2.blk] at hx;injection hx with hx;rw [hx],fun x hx=>by rw [List.mem_singleton.1 hx];exact h2.blk,h4,h5,hn,h6⟩
  obtain ⟨bs,HG,hF,hFb,hbF,h4,h5,hn,h6⟩:=hG
  have key:∀ h',PU er v h h'->UpT bs h h':=fun h' U=>⟨⟨U.1.1,fun k hk hkF=>U.1.2 k hk fun hv=>hkF (by rw [hFb k hv];simp)⟩,fun x hx hl=>⟨hnd x (by rw [hF];simp [hx]),by
    obtain ⟨cur,hc⟩:=U.2 x (hbF x hx);exact ⟨_,hc,her⟩⟩⟩
  have keyF:∀ h',UpT bs h h'->UpT F h h':=fun h' U=>U.mono (fun x hx=>by rw [hF];simp [hx]) fun x hx _=>hnd x hx;have hone:=HR.isOne;have hvc:r.cells=[r].toArray:=by cases r <;> first | rfl | cases hone
  refine A0q (B:=B) (lo:=0) [r] hT hz hzk hb0 (fun h' U=>hbB h' (keyF h' (key h' U))) hs hy hvc rfl (fun x hx=>by rw [List.mem_singleton.1 hx];exact hone) AGk AGk HG (Nat.zero_le _) hby (by rw [List.length_map,h4];exact hl) fun p v' h' HG' U hv'=>?_;have UT:=key h' U
  rcases HG' with ⟨h1,_⟩ | ⟨b',_,HO'⟩
  · simp at h1
  have hsub:b'∈F∨h.size<=b':=by
    rcases hv' with h1 | ⟨g2,h1,h2⟩
    · have:=hFb b' (h1 ▸ HO'.blk);rw [this] at hF;exact .inl (by rw [hF];simp)
    · rw [HO'.blk] at h1;injection h1 with h1;exact .inr AGi
  have hbG:b' ∉ Gs.flatten:=fun hm=>by
    rcases hv' with h1 | ⟨g2,h1,h2⟩
    · have:=hFb b' (h1 ▸ HO'.blk);rw [hF,this] at hn;exact (List.nodup_cons.1 hn).1 hm
    · rw [HO'.blk] at h1;injection h1 with h1;have:=hlt b' (by rw [hF];simp [hm]);omega
  have hbF0:b' ∉ F0:=fun hm=>by
    rcases hsub with h1 | h1
    · exact hdj b' hm h1
    · have:=hlt0 b' hm;omega
  have hnG:Gs.flatten.Nodup:=by rw [hF] at hn;exact (List.nodup_append.1 hn).2.1
  refine H p (b' :: (Gs ++ [F0]).flatten) v' h' (.inr ⟨b',rfl,?_,by rw [List.map_append];exact HO',her,by simp [h4],by simp [h5],fun i G r2 L2 hGi hri hLi=>?_⟩) (keyF h' UT) fun x hx=>?_
  · refine List.nodup_cons.2 ⟨by simp [hbG,hbF0],?_⟩;simp only [List.flatten_append,List.flatten_cons,List.flatten_nil,List.append_nil];exact List.nodup_append.2 ⟨hnG,HR.nodup,fun x hx y hy he=>hdj y hy (by rw [hF];simp [he ▸ hx])⟩
  · rcases Nat.lt_or_ge i M.length with hi | hi
    · rw [List.getElem?_append_left AGi] at hGi hri hLi
      exact (h6 i G r2 L2 hGi hri hLi).upT UT fun x hx hxb=>by
        have hxo:=hbF x hxb;have hb1:=hFb x hxo;rw [hF,hb1] at hn;exact (List.nodup_cons.1 hn).1 (AWz hGi hx)
    · rw [List.getElem?_append_right AGi] at hGi hri hLi;have:i - M.length=0:=by have:=(List.getElem?_eq_some_iff.1 hLi).1;simp at this;omega
      rw [show i - Gs.length=0 by omega] at hGi;rw [show i - rs.length=0 by omega] at hri;rw [this] at hLi;injection hGi with hGi;injection hri with hri;injection hLi with hLi;subst hGi;subst hri;subst hLi;exact HR.upT UT fun x hx hxb=>hdj x hx (by rw [hF];simp [hxb])
  · simp only [List.flatten_append,List.flatten_cons,List.flatten_nil,List.append_nil,List.mem_cons,List.mem_append] at hx
    rcases hx with rfl | hx | hx
    · rcases hsub with h1 | h1
      · exact .inl (by simp [h1])
      · exact .inr h1
    · exact .inl (by rw [hF];simp [hx])
    · exact .inl (by simp [hx])
theorem A45 {x:Operand} {t:Nat} {v:Value} (l:List Value) (hb:B h) (hBE:∀ h',Ext h h'->B h') (hx:e.ev x=v) (hl:v.cells=l.toArray) (H:∀ b h',AVv t h' b l->Ext h h'->Sp h' h.size [[b]]->RL P B st ops rest (e.set d (.pointer (some ⟨b,0,none⟩))) h' K):
    RL P B st ops (⟨some d,.box t x,ty,pos,af,none⟩ :: rest) e h K:=by
 refine BAa hb hx ⟨hBE _ (AV0 _ _),?_⟩;exact H h.size _ (by unfold AVv;rw [hl];simp) (AV0 _ _) (AX2 (Nat.le_refl _) ATv)
theorem Asb {t bytes:Nat} {z:Value} (l:List Value) (hz:ZeT P t z bytes) (hl:z.cells=l.toArray) (hb:B h) (hBE:∀ h',Ext h h'->B h') (H:∀ b h',AVv t h' b l->Ext h h'->Sp h' h.size [[b]]->RL P B st ops rest (e.set d (.pointer (some ⟨b,0,none⟩))) h' K):
    RL P B st ops (⟨some d,.alloc t,ty,pos,af,none⟩ :: rest) e h K:=by
 refine A0i hz hb ⟨hBE _ (AV0 _ _),?_⟩;exact H h.size _ (by unfold AVv;rw [hl];simp) (AV0 _ _) (AX2 (Nat.le_refl _) ATv)
theorem AXm {f:FuncId} {xs:List Operand} {ts:Array TypeId} {l:List Value} {K':Value->AGt->Prop} (hb:B h) (hBE:∀ h',Ext h h'->B h') (hxs:xs.map e.ev=l) (HC:ATs P f l.toArray h fun x h'=>Ext h h'/\K' x h')
    (H:∀ v h',Ext h h'->K' v h'->RL P B st ops rest (e.set d v) h' K):RL P B st ops (⟨some d,.call ⟨.value (.func f),xs.toArray,ts⟩,ty,pos,af,none⟩ :: rest) e h K:=
  ATd hb hxs HC fun v h' hk=>⟨hBE _ hk.1,H v h' hk.1 hk.2⟩
theorem AS7 (h:AGt):cZ.rep h 0 [.bool false,.slice none 0 0]:=⟨rfl,⟨false,_,[],rfl,Ai1 _ _,Akf,ATv,rfl⟩⟩
end
end Go.QF
namespace Go.Proofs.YthbndcbclhkepaaGreatDoor
open Go Go.QF
theorem Am4:SlT Tryz.prog 27 58 5:=Aiy Tryz.underlying27 AGx
theorem Aj2:SlT Tryz.prog 40 44 5:=Aiy Tryz.underlying40 AGx
theorem AU3:NaT Tryz.prog 25:=Ah7 Tryz.underlying25 rfl AGx
theorem Aqu:NaT Tryz.prog 27:=Ah7 Tryz.underlying27 rfl AGx
theorem Agm:AgT Tryz.prog 29 3:=Amw Tryz.underlying29 rfl AGx
theorem Acz:AgT Tryz.prog 58 5:=Amw Tryz.underlying58 rfl AGx
theorem Ap5:AgT Tryz.prog 44 5:=Amw Tryz.underlying44 rfl AGx
theorem Anm:Tryz.prog.underlying 4=some .bool:=Tryz.underlying4
theorem Au9:ZeT Tryz.prog 29 (.agg #[.int .i64 0,.slice none 0 0,.slice none 0 0]) 56:=Ah8 AGx
theorem Am5:ZeT Tryz.prog 58 (.agg #[.int .i64 0,.int .i64 0,.int .i64 0,.int .i64 0,.int .i64 0]) 40:=Ah8 AGx
theorem Asd:ZeT Tryz.prog 44 (.agg #[.int .i64 0,.int .i64 0,.int .i64 0,.bool false,.int .i64 0]) 40:=Ah8 AGx
theorem A0s:FdT Tryz.prog 29 0 0 2:=⟨_,_,Tryz.underlying29,rfl,rfl,rfl⟩
theorem Ann:FdT Tryz.prog 29 1 1 25:=⟨_,_,Tryz.underlying29,rfl,rfl,rfl⟩
theorem Aj3:FdT Tryz.prog 29 2 2 27:=⟨_,_,Tryz.underlying29,rfl,rfl,rfl⟩
theorem Acs:FdT Tryz.prog 58 0 0 3:=⟨_,_,Tryz.underlying58,rfl,rfl,rfl⟩
theorem Afp:FdT Tryz.prog 58 1 1 3:=⟨_,_,Tryz.underlying58,rfl,rfl,rfl⟩
theorem Agn:FdT Tryz.prog 58 2 2 2:=⟨_,_,Tryz.underlying58,rfl,rfl,rfl⟩
theorem Afq:FdT Tryz.prog 58 3 3 2:=⟨_,_,Tryz.underlying58,rfl,rfl,rfl⟩
theorem Aj4:FdT Tryz.prog 58 4 4 2:=⟨_,_,Tryz.underlying58,rfl,rfl,rfl⟩
theorem A0t:FdT Tryz.prog 44 0 0 3:=⟨_,_,Tryz.underlying44,rfl,rfl,rfl⟩
theorem Arc:FdT Tryz.prog 44 1 1 3:=⟨_,_,Tryz.underlying44,rfl,rfl,rfl⟩
theorem Ao6:FdT Tryz.prog 44 2 2 3:=⟨_,_,Tryz.underlying44,rfl,rfl,rfl⟩
theorem A0u:FdT Tryz.prog 44 3 3 4:=⟨_,_,Tryz.underlying44,rfl,rfl,rfl⟩
theorem A0v:FdT Tryz.prog 44 4 4 3:=⟨_,_,Tryz.underlying44,rfl,rfl,rfl⟩
theorem ATf:SlT Tryz.prog 91 170 1:=Aiy Tryz.underlying91 AGx
theorem AZy:NaT Tryz.prog 91:=Ah7 Tryz.underlying91 rfl AGx
theorem AU8:NaT Tryz.prog 170:=Ah7 Tryz.underlying170 rfl AGx
theorem AVx:Alh Tryz.prog 170 .u32:=Tryz.underlying170
theorem Adv:ZeT Tryz.prog 170 (.int .u32 0) 4:=Ah8 AGx
theorem AVg:Alh Tryz.prog 59 .u64:=Tryz.underlying59
theorem AUa:AgT Tryz.prog 93 2:=Amw Tryz.underlying93 rfl AGx
theorem AXi:ZeT Tryz.prog 93 (.agg #[.bool false,.slice none 0 0]) 32:=Ah8 AGx
theorem Adm:FdT Tryz.prog 93 0 0 4:=⟨_,_,Tryz.underlying93,rfl,rfl,rfl⟩
theorem Ad5:FdT Tryz.prog 93 1 1 91:=⟨_,_,Tryz.underlying93,rfl,rfl,rfl⟩
theorem AVp:SlT Tryz.prog 131 93 2:=Aiy Tryz.underlying131 AGx
theorem AWi:NaT Tryz.prog 131:=Ah7 Tryz.underlying131 rfl AGx
theorem AUr:SlT Tryz.prog 51 131 1:=Aiy Tryz.underlying51 AGx
end Go.Proofs.YthbndcbclhkepaaGreatDoor
