/-
  Texts of a proof, joined. Conditions stand in each statement.
-/
import Derived.KernelRfl
import Derived.Calls
import Derived.Orders
import Derived.Tactics
import Derived.OwnWalk
import Derived.Scope
import Derived.Deep.LoopGhost
import Derived.Laws.MakeOwn
import Derived.Test.YtdkldlbgcfpglaaGreatDoorProg
import Derived.Test.YtdkldlbgcfpglaaGreatDoorCards
import Derived.Test.YtdkldlbgcfpglaaGreatDoorTie
import Derived.ProofKit
import Derived.OpenShut
import Derived.ShutString
import Derived.ChangeOld
import Derived.Below
import Derived.Carry
import Derived.Deep.Matrix
import Derived.Deep.DeepHandedRow
import Derived.Lib.LaidTab
import Derived.Deep.Strs
set_option linter.unusedVariables false
set_option linter.unusedSimpArgs false
namespace Go.QF
theorem Zj {p:Prop} (h:p:=by omega):p:=h
theorem Zl {p:Prop} (h:p:=by decide):p:=h
theorem Zw {p:Prop} (h:p:=by kernel_rfl):p:=h
theorem AAx {p:Prop} (h:p:=by simp):p:=h
abbrev Z4:=Nat->Nat->Int
end Go.QF
namespace Go.QF
open Go
abbrev Zs:=Array Obj
abbrev Env:=Nat->Value
def Env.set (e:Env) (d:Nat) (v:Value):Env:=fun t=>bif Nat.beq t d then v else e t
def Env.put (e:Env):Option Nat->Value->Env
  | some d,v=>e.set d v
  | none,_=>e
def Env.ev (e:Env):Operand->Value
  | .tmp t=>e t
  | .const v=>v
  | .global g=> .pointer (some ⟨g,0,none⟩)
  | .func f=> .func (.func f) #[] #[]
def Env.mv (e:Env) (d:Nat) (x:Operand):Env:=fun t=>bif Nat.beq t d then e.ev x else e t
theorem Env.set_same (e:Env) (d:Nat) (v:Value):e.set d v d=v:=by
 have h:Nat.beq d d=true:=Nat.beq_eq.mpr rfl;simp only [Env.set,h,cond_true]
theorem Env.set_other (e:Env) {d t:Nat} (v:Value) (h:t≠d):e.set d v t=e t:=by
 have h:Nat.beq t d=false:=by
   cases hb:Nat.beq t d
   · rfl
   · exact absurd (Nat.eq_of_beq_eq_true hb) h
 simp only [Env.set,h,cond_false]
structure Rep (n:Nat) (e:Env) (a:Act):Prop where
  size:a.tmps.size=n
  defers:a.defers=[]
  get:∀ t,a.tmps.getD t undef=e t
theorem Rep.eval {n:Nat} {e:Env} {a:Act} (r:Rep n e a):a.eval=e.ev:=by
 funext x
 cases x with
 | tmp t=>exact r.get t
 | _=>rfl
theorem Rep.put {n:Nat} {e:Env} {a:Act} (r:Rep n e a) (d:Option Nat) (v:Value) (hd:∀ x,d=some x->x < n):
    Rep n (e.put d v) (a.put d v):=by
 cases d with
 | none=>exact r
 | some d=>
   have hdn:=hd d rfl
   refine ⟨by simp [Act.put,r.size],by simp [Act.put,r.defers],fun t=>?_⟩
   show (a.tmps.setIfInBounds d v).getD t undef=e.set d v t
   by_cases h:t=d
   · subst h
     rw [Env.set_same]
     simp [Array.getD_eq_getD_getElem?,r.size,hdn]
   · rw [Env.set_other e v h,<- r.get t]
     simp only [Array.getD_eq_getD_getElem?]
     rw [Array.getElem?_setIfInBounds_ne (fun he=>h he.symm)]
structure Same (w w':World):Prop where
  os:w'.os=w.os
  tape:w'.tape=w.tape
  output:w'.output=w.output
theorem Same.refl (w:World):Same w w:=⟨rfl,rfl,rfl⟩
theorem Same.trans {a b c:World} (h:Same a b) (k:Same b c):Same a c:=⟨k.os.trans h.os,k.tape.trans h.tape,k.output.trans h.output⟩
inductive Kind where
  | pure | read | eff | wr
def kindOf:Op->Kind
  | .move _ | .assign _ | .pick .. | .binOp .. | .unOp .. | .convert .. | .fieldAddr .. | .field .. | .indexAddr .. | .index .. | .extract .. | .slice .. | .nilCheck _ | .makeInterface .. | .makeFunc .. | .build .. => .pure
  | .call { callee:= .builtin .len,.. } => .pure
  | .call { callee:= .builtin .min,.. } => .pure
  | .call { callee:= .builtin .max,.. } => .pure
  | .load .. => .read
  | .store .. => .wr
  | _=> .eff
def AU7 (P:Program) (ρ:Operand->Value) (o:Oper) (v:Value):Prop:= ∀ w,(execOp ρ o).run P w= .ok (.value v) w
def Ajq (P:Program) (B:Zs->Prop) (ρ:Operand->Value) (o:Oper) (v:Value):Prop:= ∀ w:World,B w.heap->(execOp ρ o).run P w= .ok (.value v) w
def Anm (P:Program) (ρ:Operand->Value) (o:Oper) (h:Zs) (v:Value):Prop:= ∀ w,w.heap=h->(execOp ρ o).run P w= .ok (.value v) w
def AOq (P:Program) (w:World) (K:Value->Zs->Prop):Result Next->Prop
  | .ok (.value v) w'=>Same w w'/\K v w'.heap
  | .ok .skip w'=>Same w w'/\K undef w'.heap
  | .ok (.enter f args) w'=>Same w w'/\Calls P f args w' fun en w''=> ∃ v,en= .returned v/\Same w' w''/\K v w''.heap
  | _=>False
def AO9 (P:Program) (ρ:Operand->Value) (o:Oper) (h:Zs) (K:Value->Zs->Prop):Prop:= ∀ w,w.heap=h->AOq P w K ((execOp ρ o).run P w)
theorem AOq.mono {P:Program} {w:World} {K K':Value->Zs->Prop} (hK:∀ v h,K v h->K' v h) {r:Result Next} (h:AOq P w K r):AOq P w K' r:=by
 cases r with
 | ok n w'=>
   cases n <;> simp only [AOq] at h ⊢ <;>
     first
       | exact ⟨h.1,hK _ _ h.2⟩
       | exact ⟨h.1,Calls.mono h.2 fun en w'' ⟨v,he,hs,hk⟩=>⟨v,he,hs,hK _ _ hk⟩⟩
 | halt x w'=>exact h
theorem AO9.mono {P:Program} {ρ:Operand->Value} {o:Oper} {h:Zs} {K K':Value->Zs->Prop} (hK:∀ v h,K v h->K' v h) (H:AO9 P ρ o h K):AO9 P ρ o h K':=
  fun w hw=>(H w hw).mono hK
def AMj (h:Zs):World:= { heap:=h,tape:=fun _ _=>0,drawn:=0,os:=default,output:= #[] }
theorem AOq.some {P:Program} {w:World} {K:Value->Zs->Prop} {r:Result Next} (h:AOq P w K r):∃ v h',K v h':=by
 cases r with
 | ok n w'=>
   cases n <;> simp only [AOq] at h <;>
     first
       | exact ⟨_,_,h.2⟩
       | (obtain ⟨en,w'',fr,⟨v,_,_,hk⟩,_⟩:=h.2 [];exact ⟨_,_,hk⟩)
 | halt x w'=>exact h.elim
theorem AO9.some {P:Program} {ρ:Operand->Value} {o:Oper} {h:Zs} {K:Value->Zs->Prop} (H:AO9 P ρ o h K):∃ v h',K v h':=(H (AMj h) rfl).some
def SOp (P:Program) (B:Zs->Prop) (st:Bool) (o:Oper) (e:Env) (h:Zs) (K:Env->Zs->Prop):Prop:=
  match kindOf o.op,st with
  | .pure,_=> ∃ v,AU7 P e.ev o v/\K (e.put o.dst v) h
  | .read,false=> ∃ v,Anm P e.ev o h v/\K (e.put o.dst v) h
  | .read,true=> ∃ v,B h/\Ajq P B e.ev o v/\K (e.put o.dst v) h
  | .eff,_=>B h/\AO9 P e.ev o h fun v h'=>B h'/\K (e.put o.dst v) h'
  | .wr,_=>AO9 P e.ev o h fun v h'=>K (e.put o.dst v) h'
theorem SOp.mono {P:Program} {B:Zs->Prop} {st:Bool} {o:Oper} {e:Env} {h:Zs} {K K':Env->Zs->Prop} (hK:∀ v h',K (e.put o.dst v) h'->K' (e.put o.dst v) h') (H:SOp P B st o e h K):SOp P B st o e h K':=by
 unfold SOp at *;split at H
 ·obtain ⟨v,hv,hk⟩:=H;exact ⟨v,hv,hK _ _ hk⟩
 ·obtain ⟨v,hv,hk⟩:=H;exact ⟨v,hv,hK _ _ hk⟩
 ·obtain ⟨v,hb,hv,hk⟩:=H;exact ⟨v,hb,hv,hK _ _ hk⟩
 ·exact ⟨H.1,H.2.mono fun v h' hk=>⟨hk.1,hK _ _ hk.2⟩⟩
 ·exact H.mono fun v h' hk=>hK _ _ hk
def AI6 (ops:Array Oper) (e:Env) (j:Nat):Option Bool:=
  match (ops[j]?).bind (·.dst) with
  | some t=>match e t with
    | .bool b=>some b
    | _=>none
  | none=>none
theorem Rep.yields {n:Nat} {e:Env} {a:Act} (r:Rep n e a) (ops:Array Oper):yielded ops a.tmps=AI6 ops e:=by
 funext j;unfold yielded AI6
 cases h:(ops[j]?).bind (·.dst) with
 | none=>rfl
 | some t=>
   have hg:=r.get t
   simp only [Option.bind_some]
   rw [<- hg]
   rcases Nat.lt_or_ge t a.tmps.size with hl | hl
   · simp only [Array.getD_eq_getD_getElem?,Array.getElem?_eq_getElem hl,Option.getD_some]
     cases a.tmps[t] <;> rfl
   · simp [Array.getD_eq_getD_getElem?,Array.getElem?_eq_none hl,undef]
def GOp (P:Program) (B:Zs->Prop) (st:Bool) (ops:Array Oper) (o:Oper) (e:Env) (h:Zs) (K:Env->Zs->Prop):Prop:=
  if Region.wanted o (AI6 ops e)=true then SOp P B st o e h K else K (e.put o.dst undef) h
theorem GOp.mono {P:Program} {B:Zs->Prop} {st:Bool} {ops:Array Oper} {o:Oper} {e:Env} {h:Zs} {K K':Env->Zs->Prop} (hK:∀ v h',K (e.put o.dst v) h'->K' (e.put o.dst v) h') (H:GOp P B st ops o e h K):GOp P B st ops o e h K':=by
 unfold GOp at *;split
 ·rename_i hw;rw [if_pos hw] at H;exact H.mono hK
 ·rename_i hw;rw [if_neg hw] at H;exact hK _ _ H
def LI (P:Program) (B:Zs->Prop) (st:Bool) (ops:Array Oper):List Nat->Env->Zs->(Env->Zs->Prop)->Prop
  | [],e,h,K=>K e h
  | i :: l,e,h,K=>match ops[i]? with
    | none=>LI P B st ops l e h K
    | some o=>GOp P B st ops o e h fun e' h'=>LI P B st ops l e' h' K
def RL (P:Program) (B:Zs->Prop) (st:Bool) (ops:Array Oper):List Oper->Env->Zs->(Env->Zs->Prop)->Prop
  | [],e,h,K=>K e h
  | o :: l,e,h,K=>GOp P B st ops o e h fun e' h'=>RL P B st ops l e' h' K
theorem As8 {P:Program} {B:Zs->Prop} {st:Bool} {ops:Array Oper} {K:Env->Zs->Prop} (l:List Oper):∀ (k:Nat),(∀ j,l[j]? =ops[k + j]?)-> ∀ e h,RL P B st ops l e h K->LI P B st ops (List.range' k l.length) e h K:=by
 induction l with
 | nil=>intro k _ e h H;exact H
 | cons o l ih=>
   intro k hk e h H
   have h0:ops[k]? =some o:=by simpa using (hk 0).symm
   have ih':=ih (k + 1) (fun j=>by have:=hk (j + 1);simpa [Nat.add_assoc,Nat.add_comm 1 j] using this)
   simp only [List.length_cons,List.range'_succ,LI,h0]
   exact GOp.mono (fun v h' hr=>ih' _ _ hr) H
theorem AJu {P:Program} {B:Zs->Prop} {st:Bool} {ops:Array Oper} {Q:Exit->Act->World->Prop} {i:Nat} {o:Oper} {n:Nat} {e:Env} {a:Act} {w:World} {K:Env->Zs->Prop} {K':Act->World->Prop}
    (hi:ops[i]? =some o) (hd:∀ x,o.dst=some x->x < n) (r:Rep n e a) (H:GOp P B st ops o e w.heap K)
    (hK:∀ e' a' w',Rep n e' a'->Same w w'->K e' w'.heap->K' a' w'):wpOp P ops Q i K' a w:=by
 unfold wpOp;simp only [hi];unfold GOp at H;rw [r.yields ops];split
 ·rename_i hw;rw [if_pos hw] at H;refine .inl ?_;unfold Oper.wp;rw [r.eval]
  have eff:∀ {K:Value->Zs->Prop},AO9 P e.ev o w.heap K->(∀ v h',K v h'-> ∀ a' w',Rep n (e.put o.dst v) a'->Same w w'->w'.heap=h'->K' a' w')->o.upon P a K' Q ((execOp e.ev o).run P w):=by
    intro K H hK
    have H':=H w rfl
    generalize (execOp e.ev o).run P w=res at H'
    cases res with
    | ok nx w'=>
      cases nx <;> simp only [AOq] at H' <;> simp only [Oper.upon]
      case value v=>exact hK _ _ H'.2 _ _ (r.put _ _ hd) H'.1 rfl
      case skip=>exact hK _ _ H'.2 _ _ (r.put _ _ hd) H'.1 rfl
      case enter f args=>
        refine Calls.mono H'.2 fun en w'' ⟨v,he,hs,hk⟩=>?_
        subst he
        exact hK _ _ hk _ _ (r.put _ _ hd) (H'.1.trans hs) rfl
    | halt x w'=>exact H'.elim
  unfold SOp at H;split at H
  ·obtain ⟨v,hv,hk⟩:=H;rw [hv w];exact hK _ _ _ (r.put _ _ hd) (.refl w) hk
  ·obtain ⟨v,hv,hk⟩:=H;rw [hv w rfl];exact hK _ _ _ (r.put _ _ hd) (.refl w) hk
  ·obtain ⟨v,hb,hv,hk⟩:=H;rw [hv w hb];exact hK _ _ _ (r.put _ _ hd) (.refl w) hk
  ·exact eff H.2 fun v h' hk a' w' r' s' hh=>hK _ _ _ r' s' (by rw [hh];exact hk.2)
  ·exact eff H fun v h' hk a' w' r' s' hh=>hK _ _ _ r' s' (by rw [hh];exact hk)
 ·rename_i hw;rw [if_neg hw] at H;exact hK _ _ _ (r.put _ _ hd) (.refl w) H
def reach (ops:Array Oper):Nat->Nat->Nat->Bool
  | 0,_,_=>false
  | n + 1,i,j=>match ops[j]? with
    | none=>false
    | some o=>o.after.any fun ed=>Region.binds .any ed && (Nat.beq ed.on i || reach ops n i ed.on)
def indep (st:Bool) (ops:Array Oper) (x y:Oper):Bool:=
  x.apart ops y && match kindOf x.op,kindOf y.op with
    | .pure,_=>true
    | _,.pure=>true
    | .read,.read=>true
    | .read,.eff=>st
    | .eff,.read=>st
    | _,_=>false
def AHf (o:Oper):Bool:=match o.op with | .select .. =>false | _=>true
def ASt (m i:Nat):Bool:=Nat.beq (Nat.land (Nat.shiftRight m i) 1) 1
def As9 (acc:List Nat) (o:Oper):Nat:=o.after.toList.foldl (fun m ed=>bif Region.binds .any ed then Nat.lor m (Nat.lor (Nat.shiftLeft 1 ed.on) (acc.getD ed.on 0)) else m) 0
def Ajr:List Oper->List Nat->List Nat
  | [],acc=>acc
  | o :: l,acc=>Ajr l (acc ++ [As9 acc o])
def Aub (ops:Array Oper):List Nat:=Ajr ops.toList []
def ahead (ops:Array Oper) (i j:Nat):Bool:=ASt ((Aub ops).getD j 0) i
def AOc (ops:Array Oper):Bool->Bool
  | false=>false
  | true=>(List.range ops.size).any fun j=>(List.range j).any fun i=>match ops[i]?,ops[j]? with
    | some oi,some oj=>(match kindOf oi.op,kindOf oj.op with | .read,.eff=>true | .eff,.read=>true | _,_=>false) && !ahead ops i j
    | _,_=>false
def AZ1 (n:Nat) (ops:Array Oper) (draw:Bool):Bool:=
  (List.range ops.size).all fun j=>match ops[j]? with
    | none=>false
    | some oj=>(match oj.dst with | some d=>decide (d < n) | none=>true) && AHf oj &&
      (!draw || (oj.after.all (fun ed=> !Region.binds .any ed || decide (ed.on < j)) &&
        (List.range j).all fun i=>match ops[i]? with
          | none=>false
          | some oi=>ahead ops i j || (indep false ops oi oj || (indep true ops oi oj && AOc ops true))))
theorem Agb (a b i:Nat):ASt (Nat.lor a b) i=(ASt a i || ASt b i):=by
 have h:∀ m,ASt m i=m.testBit i:=fun m=>by
   unfold ASt
   rw [Nat.testBit]
   show Nat.beq (m >>> i &&& 1) 1=(1 &&& (m >>> i) != 0)
   rw [Nat.and_comm]
   rcases Nat.mod_two_eq_zero_or_one (m >>> i) with h | h <;> simp [Nat.one_and_eq_mod_two,h] <;> rfl
 rw [h,h,h];exact Nat.testBit_or a b i
theorem Ann (k i:Nat) (h:ASt (Nat.shiftLeft 1 k) i=true):k=i:=by
 have h2:∀ m,ASt m i=m.testBit i:=fun m=>by
   unfold ASt
   rw [Nat.testBit]
   show Nat.beq (m >>> i &&& 1) 1=(1 &&& (m >>> i) != 0)
   rw [Nat.and_comm]
   rcases Nat.mod_two_eq_zero_or_one (m >>> i) with h | h <;> simp [Nat.one_and_eq_mod_two,h] <;> rfl
 rw [h2] at h;have h3:(1 <<< k).testBit i=true:=h;rw [Nat.one_shiftLeft,Nat.testBit_two_pow] at h3;simpa using h3
theorem AX5 (i:Nat):ASt 0 i=false:=by
 unfold ASt;show Nat.beq (0 >>> i &&& 1) 1=false;rw [Nat.zero_shiftRight];rfl
theorem Ah2 {acc:List Nat} {o:Oper} {i:Nat} (h:ASt (As9 acc o) i=true):∃ ed∈o.after,Region.binds .any ed=true/\(ed.on=i∨ASt (acc.getD ed.on 0) i=true):=by
 have key:∀ (l:List Edge) (m:Nat),ASt (l.foldl (fun m ed=>bif Region.binds .any ed then Nat.lor m (Nat.lor (Nat.shiftLeft 1 ed.on) (acc.getD ed.on 0)) else m) m) i=true->ASt m i=true∨ ∃ ed∈l,Region.binds .any ed=true/\(ed.on=i∨ASt (acc.getD ed.on 0) i=true):=by
   intro l
   induction l with
   | nil=>intro m h;exact .inl h
   | cons ed l ih=>
     intro m h
     rcases ih _ h with h1 | ⟨ed',hm,hh⟩
     · dsimp only at h1
       cases hb:Region.binds .any ed with
       | false=>rw [hb] at h1;exact .inl h1
       | true=>
         rw [hb] at h1
         simp only [cond_true] at h1
         rw [Agb,Agb,Bool.or_eq_true,Bool.or_eq_true] at h1
         rcases h1 with h1 | h1 | h1
         · exact .inl h1
         · exact .inr ⟨ed,List.mem_cons_self ..,hb,.inl (Ann _ _ h1)⟩
         · exact .inr ⟨ed,List.mem_cons_self ..,hb,.inr h1⟩
     · exact .inr ⟨ed',List.mem_cons_of_mem _ hm,hh⟩
 rcases key _ 0 h with h1 | ⟨ed,hm,hh⟩
 ·rw [AX5] at h1;cases h1
 ·exact ⟨ed,by simpa using hm,hh⟩
theorem Aev {ops:Array Oper}:∀ (l:List Oper) (acc:List Nat),(∀ k,l[k]? =ops[acc.length + k]?)->(∀ j i,ASt (acc.getD j 0) i=true-> ∃ n,reach ops n i j=true)-> ∀ j i,ASt ((Ajr l acc).getD j 0) i=true-> ∃ n,reach ops n i j=true:=by
 intro l
 induction l with
 | nil=>intro acc _ hacc;exact hacc
 | cons o l ih=>
   intro acc hk hacc
   refine ih _ (fun k=>by have:=hk (k + 1);simp only [List.getElem?_cons_succ] at this;rw [this];simp;congr 1;omega) fun j i hb=>?_
   rcases Nat.lt_trichotomy j acc.length with hj | hj | hj
   · rw [List.getD_eq_getElem?_getD,List.getElem?_append_left hj,<- List.getD_eq_getElem?_getD] at hb
     exact hacc j i hb
   · subst hj
     rw [List.getD_eq_getElem?_getD,List.getElem?_append_right (Nat.le_refl _)] at hb
     simp only [Nat.sub_self,List.getElem?_cons_zero,Option.getD_some] at hb
     obtain ⟨ed,hm,hbd,hh⟩:=Ah2 hb
     have ho:ops[acc.length]? =some o:=by have:=hk 0;simpa using this.symm
     rcases hh with rfl | hh
     · refine ⟨1,?_⟩
       simp only [reach,ho]
       refine Array.any_eq_true'.2 ⟨ed,hm,?_⟩
       rw [hbd,Nat.beq_refl];rfl
     · obtain ⟨n,hn⟩:=hacc _ _ hh
       refine ⟨n + 1,?_⟩
       simp only [reach,ho]
       refine Array.any_eq_true'.2 ⟨ed,hm,?_⟩
       rw [hbd,hn,Bool.or_true];rfl
   · rw [List.getD_eq_getElem?_getD,List.getElem?_eq_none (by simp;omega)] at hb
     simp only [Option.getD_none] at hb
     rw [AX5] at hb;cases hb
theorem ANy {ops:Array Oper} {i j:Nat} (h:ahead ops i j=true):∃ n,reach ops n i j=true:=
  Aev ops.toList [] AAx (fun j i hb=>by rw [List.getD_eq_getElem?_getD,List.getElem?_nil,Option.getD_none,AX5] at hb;cases hb) j i h
theorem Aew {ops:Array Oper} {x y:Oper} {b:Bool} (h:indep false ops x y=true):indep b ops x y=true:=by
 unfold indep at h ⊢;rw [Bool.and_eq_true] at h ⊢;refine ⟨h.1,?_⟩;cases hx:kindOf x.op <;> cases hy:kindOf y.op <;> simp_all
section
variable {P:Program} {ops:Array Oper}
theorem Env.put_comm (e:Env) {x y:Option Nat} (v u:Value) (h:∀ d,x=some d->y≠some d):
    (e.put x v).put y u=(e.put y u).put x v:=by
 cases x with
 | none=>rfl
 | some d=>
   cases y with
   | none=>rfl
   | some d'=>
     have hne:d≠d':=fun he=>h d rfl (he ▸ rfl)
     funext t
     show (e.set d v).set d' u t=(e.set d' u).set d v t
     by_cases h1:t=d
     · subst h1;rw [Env.set_other _ _ hne,Env.set_same,Env.set_same]
     · by_cases h2:t=d'
       · subst h2;rw [Env.set_same,Env.set_other _ _ h1,Env.set_same]
       · rw [Env.set_other _ _ h2,Env.set_other _ _ h1,Env.set_other _ _ h1,Env.set_other _ _ h2]
theorem Env.ev_put {e:Env} {d:Option Nat} {v:Value} {x:Operand} (h:∀ k,d=some k->x≠ .tmp k):(e.put d v).ev x=e.ev x:=by
 cases d with
 | none=>rfl
 | some k=>
   cases x with
   | tmp t=>exact Env.set_other e v (fun he=>h k rfl (he ▸ rfl))
   | _=>rfl
theorem AS1 (o:Oper) (hs:AHf o=true) (e:Env) (d:Option Nat) (v:Value) (h:∀ k,d=some k->k ∉ o.looksAt ops):
    execOp (e.put d v).ev o=execOp e.ev o:=
  execOp_congr o (fun cs b he=>by simp [AHf,he] at hs) fun x hx=>Env.ev_put fun k hk hxk=>h k hk (by
    subst hxk
    exact List.mem_append_left _ (List.mem_filterMap.2 ⟨.tmp k,by simpa using hx,rfl⟩))
theorem AS2 (o:Oper) (e:Env) (d:Option Nat) (v:Value) (h:∀ k,d=some k->k ∉ o.looksAt ops):
    Region.wanted o (AI6 ops (e.put d v))=Region.wanted o (AI6 ops e):=by
 cases d with
 | none=>rfl
 | some k=>
   unfold Region.wanted
   cases hg:o.guard with
   | none=>rfl
   | some gw=>
     obtain ⟨g,want⟩:=gw
     have hy:AI6 ops (e.put (some k) v) g=AI6 ops e g:=by
       unfold AI6
       cases ht:(ops[g]?).bind (·.dst) with
       | none=>rfl
       | some t=>
         have hne:t≠k:=fun he=>h k rfl (by subst he;simp [Oper.looksAt,hg,ht])
         show (match e.set k v t with | .bool b=>some b | _=>none)=_
         rw [Env.set_other e v hne]
     simp only [hy]
theorem SOp.swap {B:Zs->Prop} {st:Bool} {x y:Oper} {e:Env} {h:Zs} {K:Env->Zs->Prop}
    (hk:(match kindOf x.op,kindOf y.op with | .pure,_=>true | _,.pure=>true | .read,.read=>true | .read,.eff=>st | .eff,.read=>st | _,_=>false)=true)
    (ey:∀ (e:Env) v,execOp (e.put x.dst v).ev y=execOp e.ev y) (ex:∀ (e:Env) v,execOp (e.put y.dst v).ev x=execOp e.ev x)
    (pc:∀ (e:Env) v u,(e.put x.dst v).put y.dst u=(e.put y.dst u).put x.dst v)
    (H1:SOp P B st x e h fun e' h'=>SOp P B st y e' h' K):SOp P B st y e h fun e' h'=>SOp P B st x e' h' K:=by
  unfold SOp at H1 ⊢
  have un:∀ {u u2:Value} {w:World},(execOp e.ev y).run P w= .ok (.value u) w->(execOp e.ev y).run P w= .ok (.value u2) w->u2=u:=by
    intro u u2 w a1 a2;rw [a1] at a2;injection a2 with a2 _;injection a2 with a2;exact a2.symm
  cases kx:kindOf x.op with
  | pure=>
    simp only [kx] at H1;obtain ⟨v,hv,hh⟩:=H1;have hv':∀ u,AU7 P (e.put y.dst u).ev x v:=fun u w=>by rw [ex];exact hv w
    cases ky:kindOf y.op with
    | pure=>
      simp only [ky] at hh;obtain ⟨u,hu,hh⟩:=hh;exact ⟨u,fun w=>by rw [<- ey e v];exact hu w,v,hv' u,by rw [<- pc];exact hh⟩
    | read=>
      cases st with
      | false=>
        simp only [ky] at hh;obtain ⟨u,hu,hh⟩:=hh;exact ⟨u,fun w hw=>by rw [<- ey e v];exact hu w hw,v,hv' u,by rw [<- pc];exact hh⟩
      | true=>
        simp only [ky] at hh;obtain ⟨u,hb,hu,hh⟩:=hh;exact ⟨u,hb,fun w hw=>by rw [<- ey e v];exact hu w hw,v,hv' u,by rw [<- pc];exact hh⟩
    | eff=>
      simp only [ky] at hh;refine ⟨hh.1,fun w hw=>?_⟩;have:=hh.2 w hw;rw [ey e v] at this;exact this.mono fun u h' hk=>⟨hk.1,v,hv' u,by rw [<- pc];exact hk.2⟩
    | wr=>
      simp only [ky] at hh;intro w hw;have:=hh w hw;rw [ey e v] at this;exact this.mono fun u h' hk=>⟨v,hv' u,by rw [<- pc];exact hk⟩
  | read=>
    cases st with
    | false=>
      simp only [kx] at H1;obtain ⟨v,hv,hh⟩:=H1;cases ky:kindOf y.op with
      | pure=>
        simp only [ky] at hh;obtain ⟨u,hu,hh⟩:=hh;exact ⟨u,fun w=>by rw [<- ey e v];exact hu w,v,fun w hw=>by rw [ex];exact hv w hw,by rw [<- pc];exact hh⟩
      | read=>
        simp only [ky] at hh;obtain ⟨u,hu,hh⟩:=hh;exact ⟨u,fun w hw=>by rw [<- ey e v];exact hu w hw,v,fun w hw=>by rw [ex];exact hv w hw,by rw [<- pc];exact hh⟩
      | eff=>rw [kx,ky] at hk;cases hk
      | wr=>rw [kx,ky] at hk;cases hk
    | true=>
      simp only [kx] at H1;obtain ⟨v,hb,hv,hh⟩:=H1;have hv':∀ u,Ajq P B (e.put y.dst u).ev x v:=fun u w hw=>by rw [ex];exact hv w hw
      cases ky:kindOf y.op with
      | pure=>
        simp only [ky] at hh;obtain ⟨u,hu,hh⟩:=hh;exact ⟨u,fun w=>by rw [<- ey e v];exact hu w,v,hb,hv' u,by rw [<- pc];exact hh⟩
      | read=>
        simp only [ky] at hh;obtain ⟨u,hb2,hu,hh⟩:=hh;exact ⟨u,hb2,fun w hw=>by rw [<- ey e v];exact hu w hw,v,hb,hv' u,by rw [<- pc];exact hh⟩
      | eff=>
        simp only [ky] at hh;refine ⟨hh.1,fun w hw=>?_⟩;have:=hh.2 w hw;rw [ey e v] at this;exact this.mono fun u h' hk=>⟨hk.1,v,hk.1,hv' u,by rw [<- pc];exact hk.2⟩
      | wr=>rw [kx,ky] at hk;cases hk
  | eff=>
    simp only [kx] at H1;obtain ⟨hb,H1⟩:=H1;cases ky:kindOf y.op with
    | pure=>
      simp only [ky] at H1;obtain ⟨v0,h0,_,u,hu,_⟩:=H1.some;have hu':AU7 P e.ev y u:=fun w=>by rw [<- ey e v0];exact hu w
      refine ⟨u,hu',hb,fun w hw=>?_⟩;rw [ex];refine (H1 w hw).mono fun v h' ⟨hb',u2,hu2,hk⟩=>⟨hb',?_⟩;have:u2=u:=un (hu' (AMj h)) (by rw [<- ey e v];exact hu2 _);subst this;rw [<- pc];exact hk
    | read=>
      cases st with
      | false=>rw [kx,ky] at hk;cases hk
      | true=>
        simp only [ky] at H1;obtain ⟨v0,h0,_,u,_,hu,_⟩:=H1.some;have hu':Ajq P B e.ev y u:=fun w hw=>by rw [<- ey e v0];exact hu w hw
        refine ⟨u,hb,hu',hb,fun w hw=>?_⟩;rw [ex];refine (H1 w hw).mono fun v h' ⟨hb',u2,_,hu2,hk⟩=>⟨hb',?_⟩;have:u2=u:=un (hu' (AMj h) hb) (by rw [<- ey e v];exact hu2 _ hb);subst this;rw [<- pc];exact hk
    | eff=>rw [kx,ky] at hk;cases hk
    | wr=>rw [kx,ky] at hk;cases hk
  | wr=>
    simp only [kx] at H1;cases ky:kindOf y.op with
    | pure=>
      simp only [ky] at H1;obtain ⟨v0,h0,u,hu,_⟩:=H1.some;have hu':AU7 P e.ev y u:=fun w=>by rw [<- ey e v0];exact hu w
      refine ⟨u,hu',fun w hw=>?_⟩;rw [ex];refine (H1 w hw).mono fun v h' ⟨u2,hu2,hk⟩=>?_;have:u2=u:=un (hu' (AMj h)) (by rw [<- ey e v];exact hu2 _);subst this;rw [<- pc];exact hk
    | read=>rw [kx,ky] at hk;cases hk
    | eff=>rw [kx,ky] at hk;cases hk
    | wr=>rw [kx,ky] at hk;cases hk
theorem SOp.congr {B:Zs->Prop} {st:Bool} {x:Oper} {e e2:Env} {h:Zs} {K K2:Env->Zs->Prop} (he:execOp e2.ev x=execOp e.ev x) (hK:∀ v h',K (e.put x.dst v) h'->K2 (e2.put x.dst v) h')
    (H:SOp P B st x e h K):SOp P B st x e2 h K2:=by
 unfold SOp at H ⊢
 cases kx:kindOf x.op with
 | pure=>simp only [kx] at H;obtain ⟨v,hv,hh⟩:=H;exact ⟨v,fun w=>by rw [he];exact hv w,hK _ _ hh⟩
 | read=>
   cases st with
   | false=>simp only [kx] at H;obtain ⟨v,hv,hh⟩:=H;exact ⟨v,fun w hw=>by rw [he];exact hv w hw,hK _ _ hh⟩
   | true=>simp only [kx] at H;obtain ⟨v,hb,hv,hh⟩:=H;exact ⟨v,hb,fun w hw=>by rw [he];exact hv w hw,hK _ _ hh⟩
 | eff=>simp only [kx] at H;exact ⟨H.1,fun w hw=>by rw [he];exact (H.2 w hw).mono fun v h' hk=>⟨hk.1,hK _ _ hk.2⟩⟩
 | wr=>simp only [kx] at H;exact fun w hw=>by rw [he];exact (H w hw).mono fun v h' hk=>hK _ _ hk
theorem GOp.swap {B:Zs->Prop} {st:Bool} {x y:Oper} (hx:AHf x=true) (hy:AHf y=true) (hi:indep st ops x y=true) {e:Env} {h:Zs} {K:Env->Zs->Prop}
    (H:GOp P B st ops x e h fun e' h'=>GOp P B st ops y e' h' K):GOp P B st ops y e h fun e' h'=>GOp P B st ops x e' h' K:=by
 simp only [indep,Bool.and_eq_true] at hi;obtain ⟨hap,hk⟩:=hi;obtain ⟨h1,h2,h3⟩:=Oper.apart_spec hap;have wy:∀ (e:Env) v,Region.wanted y (AI6 ops (e.put x.dst v))=Region.wanted y (AI6 ops e):=fun e v=>AS2 y e x.dst v h1;have wx:∀ (e:Env) v,Region.wanted x (AI6 ops (e.put y.dst v))=Region.wanted x (AI6 ops e):=fun e v=>AS2 x e y.dst v h3;have ey:∀ (e:Env) v,execOp (e.put x.dst v).ev y=execOp e.ev y:=fun e v=>AS1 (ops:=ops) y hy e x.dst v h1;have ex:∀ (e:Env) v,execOp (e.put y.dst v).ev x=execOp e.ev x:=fun e v=>AS1 (ops:=ops) x hx e y.dst v h3;have pc:∀ (e:Env) v u,(e.put x.dst v).put y.dst u=(e.put y.dst u).put x.dst v:=fun e v u=>Env.put_comm e v u h2;unfold GOp at H ⊢;by_cases hwx:Region.wanted x (AI6 ops e)=true
 ·rw [if_pos hwx] at H;by_cases hwy:Region.wanted y (AI6 ops e)=true
  ·rw [if_pos hwy];have H1:SOp P B st x e h fun e' h'=>SOp P B st y e' h' K:=H.mono fun v h' hh=>by rw [wy,if_pos hwy] at hh;exact hh
   refine (SOp.swap hk ey ex pc H1).mono fun u h' hh=>?_;rw [wx,if_pos hwx];exact hh
  ·rw [if_neg hwy];dsimp only;rw [wx,if_pos hwx];refine SOp.congr (ex e undef) (fun v h' hh=>?_) H;rw [wy,if_neg hwy] at hh;rw [<- pc];exact hh
 ·rw [if_neg hwx] at H;by_cases hwy:Region.wanted y (AI6 ops e)=true
  ·rw [if_pos hwy];rw [wy,if_pos hwy] at H;refine SOp.congr (ey e undef).symm (fun v h' hh=>?_) H;rw [wx,if_neg hwx,<- pc];exact hh
  ·rw [if_neg hwy];dsimp only;rw [wy,if_neg hwy] at H;rw [wx,if_neg hwx,<- pc];exact H
theorem LI.mono {B:Zs->Prop} {st:Bool} {l:List Nat} {e:Env} {h:Zs} {K K':Env->Zs->Prop} (hK:∀ e h,K e h->K' e h) (H:LI P B st ops l e h K):LI P B st ops l e h K':=by
 induction l generalizing e h with
 | nil=>exact hK _ _ H
 | cons i l ih=>
   simp only [LI] at H ⊢
   split
   · rename_i hn;simp only [hn] at H;exact ih H
   · rename_i o ho;simp only [ho] at H;exact H.mono fun v h' hh=>ih hh
theorem LI.bubble {B:Zs->Prop} {st:Bool} {i:Nat} {oi:Oper} (hi:ops[i]? =some oi) (hsi:AHf oi=true) (R1:List Nat):∀ {R2:List Nat} {e:Env} {h:Zs} {K:Env->Zs->Prop},
    (∀ k∈R1,∃ ok,ops[k]? =some ok/\AHf ok=true/\indep st ops ok oi=true)->LI P B st ops (R1 ++ i :: R2) e h K->LI P B st ops (i :: (R1 ++ R2)) e h K:=by
  induction R1 with
  | nil=>intro R2 e h K _ H;exact H
  | cons k R1 ih=>
    intro R2 e h K hind H;obtain ⟨ok,hok,hsk,hik⟩:=hind k (List.mem_cons_self ..);simp only [List.cons_append,LI,hok] at H;have H2:GOp P B st ops ok e h fun e' h'=>LI P B st ops (i :: (R1 ++ R2)) e' h' K:=H.mono fun v h' hh=>ih (fun k' hk'=>hind k' (List.mem_cons_of_mem _ hk')) hh;simp only [LI,hi] at H2;have H3:=GOp.swap hsk hsi hik H2;simp only [LI,hi,List.cons_append,hok];exact H3
theorem ARv {n:Nat} {draw:Bool} (H:AZ1 n ops draw=true) {j:Nat} {oj:Oper} (hj:ops[j]? =some oj):
    (∀ d,oj.dst=some d->d < n)/\AHf oj=true/\(draw=true->(∀ ed∈oj.after,Region.binds .any ed=true->ed.on < j)/\
      ∀ i oi,i < j->ops[i]? =some oi->(∃ n,reach ops n i j=true)∨indep (AOc ops true) ops oi oj=true):=by
 have hlt:j < ops.size:=(Array.getElem?_eq_some_iff.1 hj).1;unfold AZ1 at H;have H:=List.all_eq_true.1 H j (List.mem_range.2 hlt);simp only [hj,Bool.and_eq_true] at H;obtain ⟨⟨h1,h2⟩,h3⟩:=H;refine ⟨fun d hd=>by simpa [hd] using h1,h2,fun hdr=>?_⟩;subst hdr;simp only [Bool.not_true,Bool.false_or,Bool.and_eq_true] at h3;obtain ⟨h4,h5⟩:=h3;refine ⟨fun ed hed hbd=>?_,fun i oi hij hoi=>?_⟩
 ·have:=Array.all_eq_true_iff_forall_mem.1 h4 ed hed;simpa [hbd] using this
 ·have:=List.all_eq_true.1 h5 i (List.mem_range.2 hij);simp only [hoi,Bool.or_eq_true,Bool.and_eq_true] at this;rcases this with h | h | ⟨h,hst⟩
  ·exact .inl (ANy h)
  ·exact .inr (Aew h)
  ·rw [hst];exact .inr h
theorem AMk {L:Nat->Prop} (hL:∀ j oj,L j->ops[j]? =some oj-> ∀ ed∈oj.after,Region.binds .any ed=true->L ed.on):∀ (n i j:Nat) (oj:Oper),ops[j]? =some oj->
    (∀ ed∈oj.after,Region.binds .any ed=true->L ed.on)->reach ops n i j=true->L i:=by
  intro n;induction n with
  | zero=>intro i j oj _ _ h;cases h
  | succ n ih=>
    intro i j oj hoj hall h;simp only [reach,hoj] at h;obtain ⟨ed,hed,hb⟩:=Array.any_eq_true'.1 h;simp only [Bool.and_eq_true,Bool.or_eq_true] at hb;have hl:=hall ed hed hb.1
    rcases hb.2 with he | hr
    · rw [<- Nat.eq_of_beq_eq_true he];exact hl
    · cases n with
      | zero=>cases hr
      | succ n=>
        cases ho:ops[ed.on]? with
        | none=>simp [reach,ho] at hr
        | some o2=>exact ih i ed.on o2 ho (fun ed2 h2 hb2=>hL _ _ hl ho ed2 h2 hb2) hr
theorem Aco {B:Zs->Prop} {n:Nat} {Q:Exit->Act->World->Prop} (hok:AZ1 n ops true=true):∀ (fuel:Nat) (R:List Nat) (listed:Array Bool) (e:Env) (a:Act) (w:World) (K:Env->Zs->Prop),
    R.length=fuel->List.Pairwise (· < ·) R->listed.size=ops.size->(∀ j,j∈R↔(j < ops.size/\listed.getD j true=false))->
    (∀ j oj,listed.getD j false=true->ops[j]? =some oj-> ∀ ed∈oj.after,Region.binds .any ed=true->listed.getD ed.on false=true)->
    Rep n e a->LI P B (AOc ops true) ops R e w.heap K->(∀ e' a' w',Rep n e' a'->Same w w'->K e' w'.heap->Q .normal a' w')->
    wpAny P .any ops Q fuel listed a w:=by
 intro fuel
 induction fuel with
 | zero=>
   intro R listed e a w K hlen _ _ hmem _ r H hK
   obtain rfl:R=[]:=List.length_eq_zero_iff.1 hlen
   refine ⟨?_,hK _ _ _ r (.refl w) H⟩
   refine List.eq_nil_iff_forall_not_mem.2 fun j hj=>?_
   obtain ⟨hjl,oj,hoj,_⟩:=mem_ready.1 hj
   have:=(hmem j).2 ⟨(Array.getElem?_eq_some_iff.1 hoj).1,hjl⟩
   cases this
 | succ fuel ih=>
   intro R listed e a w K hlen hpw hsz hmem hcl r H hK
   constructor
   · intro hr
     exfalso
     cases R with
     | nil=>simp at hlen
     | cons j R=>
       obtain ⟨hjs,hjl⟩:=(hmem j).1 (List.mem_cons_self ..)
       obtain ⟨oj,hoj⟩:∃ oj,ops[j]? =some oj:=⟨ops[j],Array.getElem?_eq_getElem hjs⟩
       have:j∈Region.ready .any ops listed:=mem_ready.2 ⟨hjl,oj,hoj,fun ed hed hbd=>by
         obtain ⟨_,_,hd⟩:=ARv hok hoj
         have hlt:=(hd rfl).1 ed hed hbd
         cases hl:listed.getD ed.on false with
         | true=>rfl
         | false=>
           exfalso
           have hs:ed.on < ops.size:=Nat.lt_trans hlt hjs
           have hm:ed.on∈j :: R:=(hmem ed.on).2 ⟨hs,by
             have h':ed.on < listed.size:=by omega
             simp [h'] at hl ⊢;exact hl⟩
           rcases List.mem_cons.1 hm with he | he
           · omega
           · have:=(List.pairwise_cons.1 hpw).1 _ he
             omega⟩
       rw [hr] at this
       cases this
   · intro i hi
     obtain ⟨hil,oi,hoi,hall⟩:=mem_ready.1 hi
     have his:i < ops.size:=(Array.getElem?_eq_some_iff.1 hoi).1
     have hiR:i∈R:=(hmem i).2 ⟨his,hil⟩
     obtain ⟨R1,R2,rfl⟩:=List.append_of_mem hiR
     obtain ⟨hdi,hsi,hdri⟩:=ARv hok hoi
     have hpw':=List.pairwise_append.1 hpw
     have hb:LI P B (AOc ops true) ops (i :: (R1 ++ R2)) e w.heap K:=by
       refine LI.bubble hoi hsi R1 (fun k hk=>?_) H
       have hki:k < i:=hpw'.2.2 k hk i (List.mem_cons_self ..)
       have hks:k < ops.size:=Nat.lt_trans hki his
       obtain ⟨ok,hok'⟩:∃ ok,ops[k]? =some ok:=⟨ops[k],Array.getElem?_eq_getElem hks⟩
       refine ⟨ok,hok',(ARv hok hok').2.1,?_⟩
       rcases (hdri rfl).2 k ok hki hok' with ⟨nre,hre⟩ | h
       · exfalso
         have h1:listed.getD k false=true:=AMk (L:=fun j=>listed.getD j false=true) hcl nre k i oi hoi hall hre
         have h2:=((hmem k).1 (List.mem_append_left _ hk)).2
         have hks':k < listed.size:=by omega
         simp [hks'] at h1 h2
         rw [h1] at h2;cases h2
       · exact h
     simp only [LI,hoi] at hb
     refine AJu hoi hdi r hb fun e' a' w' r' hs hk=>?_
     have his':i < listed.size:=by omega
     refine ih (R1 ++ R2) _ e' a' w' K ?_ ?_ ?_ ?_ ?_ r' hk (fun e2 a2 w2 r2 s2 k2=>hK _ _ _ r2 (hs.trans s2) k2)
     · simp at hlen ⊢;omega
     · refine List.pairwise_append.2 ⟨hpw'.1,(List.pairwise_cons.1 hpw'.2.1).2,fun x hx y hy=>hpw'.2.2 x hx y (List.mem_cons_of_mem _ hy)⟩
     · simp [hsz]
     · intro j
       have hm:=hmem j
       constructor
       · intro hj
         have hj':j∈R1 ++ i :: R2:=by
           rcases List.mem_append.1 hj with h | h
           · exact List.mem_append_left _ h
           · exact List.mem_append_right _ (List.mem_cons_of_mem _ h)
         obtain ⟨h1,h2⟩:=hm.1 hj'
         have hne:i≠j:=by
           intro he
           subst he
           rcases List.mem_append.1 hj with h | h
           · have:=hpw'.2.2 i h i (List.mem_cons_self ..);omega
           · have:=(List.pairwise_cons.1 hpw'.2.1).1 i h;omega
         exact ⟨h1,by rw [getD_set_ne true hne];exact h2⟩
       · rintro ⟨h1,h2⟩
         have hne:i≠j:=by
           intro he
           subst he
           simp [his'] at h2
         rw [getD_set_ne true hne] at h2
         have:=hm.2 ⟨h1,h2⟩
         rcases List.mem_append.1 this with h | h
         · exact List.mem_append_left _ h
         · rcases List.mem_cons.1 h with h | h
           · exact absurd h.symm hne
           · exact List.mem_append_right _ h
     · intro j oj hj hoj ed hed hbd
       by_cases hij:i=j
       · subst hij
         rw [hoi] at hoj
         injection hoj with hoj
         subst hoj
         exact getD_set_true (hall ed hed hbd)
       · rw [getD_set_ne false hij] at hj
         exact getD_set_true (hcl j oj hj hoj ed hed hbd)
theorem AXf {B:Zs->Prop} {n:Nat} (hmx:P.follows .mixedOrders=true) {id:Nat} {draw:Bool} {Q:Exit->Act->World->Prop} {e:Env} {a:Act} {w:World} {K:Env->Zs->Prop} (hok:AZ1 n ops draw=true) (r:Rep n e a)
    (H:RL P B (AOc ops draw) ops ops.toList e w.heap K) (hK:∀ e' a' w',Rep n e' a'->Same w w'->K e' w'.heap->Q .normal a' w'):(Code.region id ops draw).wp P Q a w:=by
 have HL:LI P B (AOc ops draw) ops (List.range ops.size) e w.heap K:=by
   rw [List.range_eq_range',<- Array.length_toList]
   exact As8 ops.toList 0 AAx e _ H
 cases draw with
 | true=>
   refine wp_region_draw fun t=>?_
   simp only [Region.schedule,hmx,Bool.true_or,if_true]
   exact wpAny_sound ops.size t _ a _ (Aco hok ops.size (List.range ops.size) (Array.replicate ops.size false) e a { w with drawn:=w.drawn + 1 } K AAx
       List.pairwise_lt_range AAx (fun j=>by
         simp only [List.mem_range]
         constructor
         · intro h;exact ⟨h,by simp [h]⟩
         · exact fun h=>h.1)
       (fun j oj hj _=>by
         exfalso
         rcases Nat.lt_or_ge j ops.size with h' | h'
         · simp [h'] at hj
         · simp [h'] at hj) r HL
       (fun e' a' w' r' hs hk=>hK e' a' w' r' ⟨hs.os,hs.tape,hs.output⟩ hk))
 | false=>
   refine wp_region ?_
   have:∀ (l:List Nat) (e:Env) (a:Act) (w:World) (K:Env->Zs->Prop),Rep n e a->LI P B (AOc ops false) ops l e w.heap K->(∀ e' a' w',Rep n e' a'->Same w w'->K e' w'.heap->Q .normal a' w')->wpOps P ops Q l a w:=by
     intro l
     induction l with
     | nil=>intro e a w K r H hK;exact hK _ _ _ r (.refl w) H
     | cons i l ih=>
       intro e a w K r H hK
       rw [wpOps_cons]
       simp only [LI] at H
       cases hoi:ops[i]? with
       | none=>
         simp only [hoi] at H
         unfold wpOp
         simp only [hoi]
         exact ih e a w K r H hK
       | some oi=>
         simp only [hoi] at H
         refine AJu hoi (ARv hok hoi).1 r H fun e' a' w' r' hs hk=>?_
         exact ih e' a' w' K r' hk fun e2 a2 w2 r2 s2 k2=>hK _ _ _ r2 (hs.trans s2) k2
   exact this _ e a w K r HL hK
def AWb (n:Nat) (ops:Array Oper):Bool:=
  (List.range ops.size).all fun j=>match ops[j]? with
    | none=>false
    | some oj=>(match oj.dst with | some d=>decide (d < n) | none=>true) && AHf oj
def AZ2 (ops:Array Oper) (draw:Bool):Bool:=
  !draw || (List.range ops.size).all fun j=>match ops[j]? with
    | none=>false
    | some oj=>(oj.after.all (fun ed=> !Region.binds .any ed || decide (ed.on < j)) &&
        (List.range j).all fun i=>match ops[i]? with
          | none=>false
          | some oi=>ahead ops i j || (indep false ops oi oj || (indep true ops oi oj && AOc ops true)))
theorem Ajs {n:Nat} {draw:Bool} (hb:AWb n ops=true) (ho:AZ2 ops draw=true):AZ1 n ops draw=true:=by
 unfold AZ1;refine List.all_eq_true.2 fun j hj=>?_;have h1:=List.all_eq_true.1 hb j hj
 cases hoj:ops[j]? with
 | none=>simp only [hoj] at h1;cases h1
 | some oj=>
   simp only [hoj] at h1 ⊢
   rw [h1,Bool.true_and]
   cases draw with
   | false=>rfl
   | true=>
     unfold AZ2 at ho
     rw [Bool.not_true,Bool.false_or] at ho ⊢
     have h2:=List.all_eq_true.1 ho j hj
     simp only [hoj] at h2
     exact h2
theorem ANz {n:Nat} (H:AWb n ops=true) {j:Nat} {oj:Oper} (hj:ops[j]? =some oj):(∀ d,oj.dst=some d->d < n)/\AHf oj=true:=by
 have hlt:j < ops.size:=(Array.getElem?_eq_some_iff.1 hj).1;have h1:=List.all_eq_true.1 H j (List.mem_range.2 hlt);simp only [hj,Bool.and_eq_true] at h1;exact ⟨fun d hd=>by simpa [hd] using h1.1,h1.2⟩
theorem RL.frame0 {B:Zs->Prop} {st:Bool} {l:List Oper} {e:Env} {h:Zs} {K:Env->Zs->Prop} (H:RL P B st ops l e h K):RL P B st ops l e h fun e' h'=>K e' h'/\ ∀ t,(∀ o∈l,o.dst≠some t)->e' t=e t:=by
 induction l generalizing e h with
 | nil=>exact ⟨H,fun _ _=>rfl⟩
 | cons o l ih=>
   refine GOp.mono (fun v h' hh=>?_) H
   have mono:∀ {l:List Oper} {e:Env} {h:Zs} {K K':Env->Zs->Prop},(∀ e h,K e h->K' e h)->RL P B st ops l e h K->RL P B st ops l e h K':=by
     intro l
     induction l with
     | nil=>intro e h K K' hK H;exact hK _ _ H
     | cons o l ih=>intro e h K K' hK H;exact GOp.mono (fun v h' hh=>ih hK hh) H
   refine mono (fun e2 h2 hk=>⟨hk.1,fun t ht=>?_⟩) (ih hh)
   rw [hk.2 t fun o' ho'=>ht o' (List.mem_cons_of_mem _ ho')]
   cases hd:o.dst with
   | none=>rfl
   | some d=>exact Env.set_other _ _ (fun he=>ht o (List.mem_cons_self ..) (by rw [hd,he]))
def RW (P:Program) (ops:Array Oper) (draw:Bool) (K:Env->Zs->Prop) (e:Env) (h:Zs):Prop:=
  P.follows .mixedOrders=true-> ∀ (n id:Nat) (a:Act) (w:World) (Q':Exit->Act->World->Prop),AWb n ops=true->Rep n e a->w.heap=h->
    (∀ e' a' w',Rep n e' a'->Same w w'->K e' w'.heap->(∀ t,(∀ o∈ops.toList,o.dst≠some t)->e' t=e t)->Q' .normal a' w')->(Code.region id ops draw).wp P Q' a w
theorem RW.of_RL {B:Zs->Prop} {draw:Bool} {K:Env->Zs->Prop} {e:Env} {h:Zs} (ho:AZ2 ops draw=true) (H:RL P B (AOc ops draw) ops ops.toList e h K):RW P ops draw K e h:=by
 intro hmx n id a w Q' hb r hw hQ;subst hw;exact AXf hmx (Ajs hb ho) r H.frame0 fun e' a' w' r' s k=>hQ e' a' w' r' s k.1 k.2
theorem RW.mono {draw:Bool} {K K':Env->Zs->Prop} {e:Env} {h:Zs} (hK:∀ e h,K e h->K' e h) (H:RW P ops draw K e h):RW P ops draw K' e h:=
  fun hmx n id a w Q' hb r hw hQ=>H hmx n id a w Q' hb r hw fun e' a' w' r' s k hf=>hQ e' a' w' r' s (hK _ _ k) hf
end
def AMl (K:Env->Zs->Prop) (Q:Exit->Env->Zs->Prop):Exit->Env->Zs->Prop
  | .normal=>K
  | x=>Q x
def AMm (id:Nat) (Q:Exit->Env->Zs->Prop):Exit->Env->Zs->Prop
  | .exit id'=>if id'=id then Q .normal else Q (.exit id')
  | x=>Q x
def Aex (Q:Exit->Env->Zs->Prop):Exit->Env->Zs->Prop
  | .goto _=>fun _ _=>False
  | x=>Q x
def W (P:Program):Code->(Exit->Env->Zs->Prop)->Env->Zs->Prop
  | .skip,Q,e,h=>Q .normal e h
  | .region _ ops draw,Q,e,h=>RW P ops draw (Q .normal) e h
  | .seq a b,Q,e,h=>W P a (AMl (fun e h=>W P b Q e h) Q) e h
  | .cond c x y,Q,e,h=> ∃ b,e.ev c= .bool b/\(b=true->W P x Q e h)/\(b=false->W P y Q e h)
  | .block id c,Q,e,h=>W P c (AMm id Q) e h
  | .loop c,Q,e,h=> ∃ (I:Nat->Env->Zs->Prop) (n:Nat),I n e h/\ ∀ n e h,I n e h->W P c (AMl (fun e' h'=> ∃ n',n' < n/\I n' e' h') Q) e h
  | .exit id,Q,e,h=>Q (.exit id) e h
  | .ret,Q,e,h=>Q .ret e h
  | .scope c,Q,e,h=>W P c (Aex Q) e h
  | .label _,Q,e,h=>Q .normal e h
  | _,_,_,_=>False
def okC (n:Nat):Code->Bool
  | .region _ ops _=>AWb n ops
  | .seq a b=>okC n a && okC n b
  | .cond _ a b=>okC n a && okC n b
  | .block _ c=>okC n c
  | .loop c=>okC n c
  | .scope c=>okC n c
  | .skip | .exit _ | .ret | .label _=>true
  | _=>false
theorem RL.mono {P:Program} {B:Zs->Prop} {st:Bool} {ops:Array Oper} {l:List Oper} {e:Env} {h:Zs} {K K':Env->Zs->Prop} (hK:∀ e h,K e h->K' e h) (H:RL P B st ops l e h K):RL P B st ops l e h K':=by
 induction l generalizing e h with
 | nil=>exact hK _ _ H
 | cons o l ih=>exact GOp.mono (fun v h' hh=>ih hh) H
theorem W.mono {P:Program} {c:Code}:∀ {Q Q':Exit->Env->Zs->Prop} {e:Env} {h:Zs},(∀ x e h,Q x e h->Q' x e h)->W P c Q e h->W P c Q' e h:=by
 induction c with
 | skip=>intro Q Q' e h hQ H;exact hQ _ _ _ H
 | region id ops draw=>intro Q Q' e h hQ H;exact RW.mono (fun e h hk=>hQ _ _ _ hk) H
 | seq a b iha ihb=>
   intro Q Q' e h hQ H
   refine iha (fun x e h hx=>?_) H
   cases x <;> first | exact hQ _ _ _ hx | exact ihb hQ hx
 | cond c x y ihx ihy=>
   intro Q Q' e h hQ H
   obtain ⟨b,hb,h1,h2⟩:=H
   exact ⟨b,hb,fun hh=>ihx hQ (h1 hh),fun hh=>ihy hQ (h2 hh)⟩
 | block id c ih=>
   intro Q Q' e h hQ H
   refine ih (fun x e h hx=>?_) H
   cases x <;> first | exact hQ _ _ _ hx | skip
   rename_i id'
   by_cases hid:id'=id
   · simp only [AMm,hid,if_true] at hx ⊢;exact hQ _ _ _ hx
   · simp only [AMm,hid,if_false] at hx ⊢;exact hQ _ _ _ hx
 | loop c ih=>
   intro Q Q' e h hQ H
   obtain ⟨I,n,h0,hI⟩:=H
   refine ⟨I,n,h0,fun n e h hi=>ih (fun x e h hx=>?_) (hI n e h hi)⟩
   cases x <;> first | exact hQ _ _ _ hx | exact hx
 | exit id=>intro Q Q' e h hQ H;exact hQ _ _ _ H
 | ret=>intro Q Q' e h hQ H;exact hQ _ _ _ H
 | rangeFunc=>intro Q Q' e h _ H;exact H.elim
 | scope c ih=>
   intro Q Q' e h hQ H
   refine ih (fun x e h hx=>?_) H
   cases x <;> first | exact hQ _ _ _ hx | exact hx
 | label=>intro Q Q' e h hQ H;exact hQ _ _ _ H
 | goto=>intro Q Q' e h _ H;exact H.elim
 | refuse=>intro Q Q' e h _ H;exact H.elim
theorem W.sound {P:Program} (hmx:P.follows .mixedOrders=true) {n:Nat} {c:Code}:∀ {Q:Exit->Env->Zs->Prop} {Q':Exit->Act->World->Prop} {e:Env} {a:Act} {w:World},okC n c=true->Rep n e a->W P c Q e w.heap->
    (∀ x e' a' w',Rep n e' a'->Same w w'->Q x e' w'.heap->Q' x a' w')->c.wp P Q' a w:=by
 induction c with
 | skip=>intro Q Q' e a w _ r H hQ;exact wp_skip (hQ _ _ _ _ r (.refl w) H)
 | region id ops draw=>intro Q Q' e a w hok r H hQ;exact H hmx n id a w Q' hok r rfl (fun e' a' w' r' s k _=>hQ _ _ _ _ r' s k)
 | seq x y ihx ihy=>
   intro Q Q' e a w hok r H hQ
   simp only [okC,Bool.and_eq_true] at hok
   refine wp_seq (ihx hok.1 r H fun ex e' a' w' r' s k=>?_)
   cases ex <;> first | exact hQ _ _ _ _ r' s k | exact ihy hok.2 r' k fun Ak e2 a2 w2 r2 s2 k2=>hQ _ _ _ _ r2 (s.trans s2) k2
 | cond c x y ihx ihy=>
   intro Q Q' e a w hok r H hQ
   simp only [okC,Bool.and_eq_true] at hok
   obtain ⟨b,hb,h1,h2⟩:=H
   refine wp_cond_split (t:=b) (by rw [r.eval];exact hb) (fun hh=>ihx hok.1 r (h1 hh) hQ) (fun hh=>ihy hok.2 r (h2 hh) hQ)
 | block id c ih=>
   intro Q Q' e a w hok r H hQ
   refine wp_block (ih hok r H fun ex e' a' w' r' s k=>?_)
   cases ex <;> first | exact hQ _ _ _ _ r' s k | skip
   rename_i id'
   by_cases hid:id'=id
   · simp only [AMm,Exit.inBlock,hid,if_true] at k ⊢;exact hQ _ _ _ _ r' s k
   · simp only [AMm,Exit.inBlock,hid,if_false] at k ⊢;exact hQ _ _ _ _ r' s k
 | loop c ih=>
   intro Q Q' e a w hok r H hQ
   obtain ⟨I,k,h0,hI⟩:=H
   refine wp_loop_ghost (fun k a' w'=> ∃ e',Rep n e' a'/\Same w w'/\I k e' w'.heap) k ⟨e,r,.refl w,h0⟩ fun k1 a1 w1 ⟨e1,r1,s1,i1⟩=>?_
   refine ih hok r1 (hI k1 e1 w1.heap i1) fun ex e' a' w' r' s k=>?_
   cases ex <;> first | exact hQ _ _ _ _ r' (s1.trans s) k | skip
   obtain ⟨k2,hlt,hk⟩:=k
   exact ⟨k2,hlt,e',r',s1.trans s,hk⟩
 | exit id=>intro Q Q' e a w _ r H hQ;exact wp_exit (hQ _ _ _ _ r (.refl w) H)
 | ret=>intro Q Q' e a w _ r H hQ;exact wp_ret (hQ _ _ _ _ r (.refl w) H)
 | rangeFunc=>intro Q Q' e a w _ _ H;exact H.elim
 | scope c ih=>
   intro Q Q' e a w hok r H hQ
   refine wp_scope_straight (ih hok r H fun ex e' a' w' r' s k=>?_)
   cases ex <;> first | exact hQ _ _ _ _ r' s k | exact k.elim
 | label=>intro Q Q' e a w _ r H hQ;exact wp_label (hQ _ _ _ _ r (.refl w) H)
 | goto=>intro Q Q' e a w _ _ H;exact H.elim
 | refuse=>intro Q Q' e a w _ _ H;exact H.elim
def inM (m t:Nat):Bool:=Nat.beq (Nat.land (Nat.shiftRight m t) 1) 1
def mix (m:Nat) (s e:Env):Env:=fun t=>bif inM m t then s t else e t
def AUo (m:Nat):Code->Bool
  | .region _ ops _=>ops.toList.all fun o=>match o.dst with | some d=>inM m d | none=>true
  | .seq a b=>AUo m a && AUo m b
  | .cond _ a b=>AUo m a && AUo m b
  | .block _ c=>AUo m c
  | .loop c=>AUo m c
  | .scope c=>AUo m c
  | _=>true
def setL:List (Nat × Value)->Env->Env
  | [],e=>e
  | (t,v) :: l,e=>(setL l e).set t v
def ASn:List (Nat × Value)->Env->Prop
  | [],_=>True
  | (t,v) :: l,e=>e t=v/\ASn l e
theorem ASn.setL {l:List (Nat × Value)} {e:Env} (h:ASn l e):setL l e=e:=by
 induction l with
 | nil=>rfl
 | cons x l ih=>
   obtain ⟨t,v⟩:=x
   obtain ⟨h1,h2⟩:=h
   show (QF.setL l e).set t v=e
   rw [ih h2]
   funext u
   by_cases hu:u=t
   · subst hu;rw [Env.set_same,h1]
   · rw [Env.set_other _ _ hu]
theorem AX6 {m:Nat} {s e:Env} (h:∀ t,inM m t=false->s t=e t):mix m s e=s:=by
 funext t;unfold mix;cases hm:inM m t
 ·exact (h t hm).symm
 ·rfl
theorem W.frame {P:Program} {m:Nat} {c:Code}:∀ {Q:Exit->Env->Zs->Prop} {e:Env} {h:Zs},AUo m c=true->W P c Q e h->W P c (fun x e' h'=>Q x e' h'/\ ∀ t,inM m t=false->e' t=e t) e h:=by
 induction c with
 | skip=>intro Q e h _ H;exact ⟨H,fun _ _=>rfl⟩
 | region id ops draw=>
   intro Q e h hm H hmx n id a w Q' hb r hw hQ
   refine H hmx n id a w Q' hb r hw fun e' a' w' r' s k hf=>hQ e' a' w' r' s ⟨k,fun t ht=>hf t fun o ho hd=>?_⟩ hf
   have h1:=List.all_eq_true.1 hm o ho
   simp only [hd] at h1
   rw [h1] at ht
   cases ht
 | seq a b iha ihb=>
   intro Q e h hm H
   simp only [AUo,Bool.and_eq_true] at hm
   refine W.mono (c:=a) (fun x e1 h1 hx=>?_) (iha hm.1 H)
   obtain ⟨hx,hf⟩:=hx
   cases x <;> first | exact ⟨hx,hf⟩ | exact W.mono (c:=b) (fun x e2 h2 hy=>⟨hy.1,fun t ht=>(hy.2 t ht).trans (hf t ht)⟩) (ihb hm.2 hx)
 | cond c x y ihx ihy=>
   intro Q e h hm H
   simp only [AUo,Bool.and_eq_true] at hm
   obtain ⟨b,hb,h1,h2⟩:=H
   exact ⟨b,hb,fun hh=>ihx hm.1 (h1 hh),fun hh=>ihy hm.2 (h2 hh)⟩
 | block id c ih=>
   intro Q e h hm H
   refine W.mono (c:=c) (fun x e1 h1 hx=>?_) (ih hm H)
   obtain ⟨hx,hf⟩:=hx
   cases x <;> first | exact ⟨hx,hf⟩ | skip
   rename_i id'
   by_cases hid:id'=id
   · simp only [AMm,hid,if_true] at hx ⊢;exact ⟨hx,hf⟩
   · simp only [AMm,hid,if_false] at hx ⊢;exact ⟨hx,hf⟩
 | loop c ih=>
   intro Q e h hm H
   obtain ⟨I,k,h0,hI⟩:=H
   refine ⟨fun k e1 h1=>I k e1 h1/\ ∀ t,inM m t=false->e1 t=e t,k,⟨h0,fun _ _=>rfl⟩,fun k1 e1 h1 hi=>?_⟩
   refine W.mono (fun x e2 h2 hx=>?_) (ih hm (hI k1 e1 h1 hi.1))
   obtain ⟨hx,hf⟩:=hx
   cases x <;> first | exact ⟨hx,fun t ht=>(hf t ht).trans (hi.2 t ht)⟩ | (obtain ⟨k2,hlt,hk⟩:=hx;exact ⟨k2,hlt,hk,fun t ht=>(hf t ht).trans (hi.2 t ht)⟩)
 | exit id=>intro Q e h _ H;exact ⟨H,fun _ _=>rfl⟩
 | ret=>intro Q e h _ H;exact ⟨H,fun _ _=>rfl⟩
 | rangeFunc=>intro Q e h _ H;exact H.elim
 | scope c ih=>
   intro Q e h hm H
   refine W.mono (c:=c) (fun x e1 h1 hx=>?_) (ih hm H)
   obtain ⟨hx,hf⟩:=hx
   cases x <;> first | exact ⟨hx,hf⟩ | exact hx
 | label=>intro Q e h _ H;exact ⟨H,fun _ _=>rfl⟩
 | goto=>intro Q e h _ H;exact H.elim
 | refuse=>intro Q e h _ H;exact H.elim
section
variable {P:Program} {Q:Exit->Env->Zs->Prop} {e:Env} {h:Zs}
theorem Zx (H:Q .normal e h):W P .skip Q e h:=H
theorem Zy (H:Q .ret e h):W P .ret Q e h:=H
theorem AAe {id:Nat} (H:Q (.exit id) e h):W P (.exit id) Q e h:=H
theorem Zo {a b:Code} (H:W P a (AMl (fun e h=>W P b Q e h) Q) e h):W P (.seq a b) Q e h:=H
theorem Zt {id:Nat} {c:Code} (H:W P c (AMm id Q) e h):W P (.block id c) Q e h:=H
theorem Agc {c:Code} (H:W P c (Aex Q) e h):W P (.scope c) Q e h:=H
theorem Agd {l:Nat} (H:Q .normal e h):W P (.label l) Q e h:=H
theorem Z1 {id:Nat} {l:List Oper} (H:RL P (fun _=>True) false l.toArray l e h (Q .normal)):W P (.region id l.toArray false) Q e h:=RW.of_RL (B:=fun _=>True) rfl H
theorem APa {id:Nat} {l:List Oper} (hst:(AOc l.toArray true,AZ2 l.toArray true)=(false,true)) (H:RL P (fun _=>True) false l.toArray l e h (Q .normal)):W P (.region id l.toArray true) Q e h:=
  RW.of_RL (B:=fun _=>True) (Prod.mk.inj hst).2 (by rw [(Prod.mk.inj hst).1];exact H)
theorem ACb {id:Nat} {l:List Oper} (B:Zs->Prop) (hst:(AOc l.toArray true,AZ2 l.toArray true)=(true,true)) (H:RL P B true l.toArray l e h (Q .normal)):W P (.region id l.toArray true) Q e h:=
  RW.of_RL (B:=B) (Prod.mk.inj hst).2 (by rw [(Prod.mk.inj hst).1];exact H)
theorem AAl {c:Operand} {x y:Code} (hc:e.ev c= .bool true) (H:W P x Q e h):W P (.cond c x y) Q e h:=⟨true,hc,fun _=>H,fun hh=>by cases hh⟩
theorem AAq {c:Operand} {x y:Code} (hc:e.ev c= .bool false) (H:W P y Q e h):W P (.cond c x y) Q e h:=⟨false,hc,(fun hh=>by cases hh),fun _=>H⟩
theorem AEh {c:Code} {X:Type} (m:Nat) (live:X->List (Nat × Value)) (J:Nat->X->Zs->Prop) (hm:AUo m c=true) (k0:Nat) (x0:X) (h0:J k0 x0 h) (hl:ASn (live x0) e)
    (H:∀ k x s h',J k x h'->W P c (AMl (fun e' h''=> ∃ k' x',k' < k/\J k' x' h''/\ASn (live x') e') Q) (setL (live x) (mix m s e)) h'):W P (.loop c) Q e h:=by
  refine ⟨fun k e1 h1=>(∃ x,J k x h1/\ASn (live x) e1)/\ ∀ t,inM m t=false->e1 t=e t,k0,⟨⟨x0,h0,hl⟩,fun _ _=>rfl⟩,fun k e1 h1 hi=>?_⟩;obtain ⟨⟨x,hJ,hA⟩,hf1⟩:=hi;have he:setL (live x) (mix m e1 e)=e1:=by rw [AX6 hf1];exact hA.setL
  have H1:=H k x e1 h1 hJ;rw [he] at H1;refine W.mono (fun y e2 h2 hx=>?_) (W.frame hm H1);obtain ⟨hx,hf⟩:=hx;cases y <;> first | exact hx | skip
  obtain ⟨k',x',hlt,hJ',hA'⟩:=hx;exact ⟨k',hlt,⟨x',hJ',hA'⟩,fun t ht=>(hf t ht).trans (hf1 t ht)⟩
theorem AS3 {a b:Code} {X:Type} (m:Nat) (live:X->List (Nat × Value)) (J:X->Zs->Prop) (hm:AUo m a=true) (H:W P a (AMl (fun e' h'=> ∃ x,J x h'/\ASn (live x) e') Q) e h)
    (H2:∀ x s h',J x h'->W P b Q (setL (live x) (mix m s e)) h'):W P (.seq a b) Q e h:=by
  refine Zo (W.mono (fun x e1 h1 hx=>?_) (W.frame hm H));obtain ⟨hx,hf⟩:=hx;cases x <;> first | exact hx | skip
  obtain ⟨x,hJ,hA⟩:=hx;have he:setL (live x) (mix m e1 e)=e1:=by rw [AX6 hf];exact hA.setL
  have:=H2 x e1 h1 hJ;rw [he] at this;exact this
end
section
variable {P:Program} {Q:Exit->Env->Zs->Prop} {K:Env->Zs->Prop} {e:Env} {h:Zs}
theorem q_t (H:K e h):AMl K Q .normal e h:=H
theorem q_b {id:Nat} (H:Q .normal e h):AMm id Q .normal e h:=H
theorem AAf {id:Nat} (H:Q (.exit id) e h):AMl K Q (.exit id) e h:=H
theorem ABk {id:Nat} (H:Q .normal e h):AMm id Q (.exit id) e h:=by simp only [AMm,if_true];exact H
theorem AXg {id id':Nat} (hne:id'≠id) (H:Q (.exit id') e h):AMm id Q (.exit id') e h:=by simp only [AMm,if_neg hne];exact H
theorem AAc (H:Q .ret e h):AMl K Q .ret e h:=H
theorem ABp {id:Nat} (H:Q .ret e h):AMm id Q .ret e h:=H
theorem Ajt (H:Q .ret e h):Aex Q .ret e h:=H
end
def Acq (P:Program) (f:FuncId):Prop:= ∃ fn,P.funcs[f]? =some fn/\(fn.name == "runtime.NumGoroutine")=false/\fn.body.isNone=false
def AAs (P:Program) (f:FuncId) (args:Array Value) (h:Zs) (K:Value->Zs->Prop):Prop:=
  Acq P f/\ ∀ w:World,w.heap=h->Calls P f args w fun en w'=> ∃ v,en= .returned v/\Same w w'/\K v w'.heap
theorem AAs.mono {P:Program} {f:FuncId} {args:Array Value} {h:Zs} {K K':Value->Zs->Prop} (H:AAs P f args h K) (hK:∀ v h',K v h'->K' v h'):AAs P f args h K':=
  ⟨H.1,fun w hw=>Calls.mono (H.2 w hw) fun en w' ⟨v,he,hs,hk⟩=>⟨v,he,hs,hK _ _ hk⟩⟩
def Acr:List Value->Env
  | [],_=>undef
  | v :: _,0=>v
  | _ :: l,t + 1=>Acr l t
theorem Acs (l:List Value) (t:Nat):Acr l t=(l[t]?).getD undef:=by
 induction l generalizing t with
 | nil=>simp [Acr]
 | cons v l ih=>
   cases t with
   | zero=>simp [Acr]
   | succ t=>simp [Acr,ih]
def Aa3 (P:Program) (rs:List ResultVar) (e:Env) (h:Zs) (v:Value):Prop:=
  ∀ (fn:Func) (tmps:Array Value) (w:World),fn.results=rs.toArray->(∀ t,tmps.getD t undef=e t)->w.heap=h->(results fn tmps).run P w= .ok v w
theorem AQ3 {P:Program} {e:Env} {h:Zs}:Aa3 P [] e h (.tuple #[]):=fun fn tmps w hr _ _=>by simp [results,hr]
theorem Zz {P:Program} {e:Env} {h:Zs} {t:Tmp}:Aa3 P [.tmp t] e h (e t):=fun fn tmps w hr hg _=>by rw [<- hg t];simp [results,hr]
theorem ABg {P:Program} {e:Env} {h:Zs} {t u:Tmp}:Aa3 P [.tmp t,.tmp u] e h (.tuple #[e t,e u]):=fun fn tmps w hr hg _=>by rw [<- hg t,<- hg u];simp [results,hr]
theorem AIt {P:Program} {e:Env} {h:Zs} {t u v:Tmp}:Aa3 P [.tmp t,.tmp u,.tmp v] e h (.tuple #[e t,e u,e v]):=fun fn tmps w hr hg _=>by rw [<- hg t,<- hg u,<- hg v];simp [results,hr]
def Aqs (P:Program) (rs:List ResultVar) (K:Value->Zs->Prop):Exit->Env->Zs->Prop
  | .normal,e,h | .ret,e,h=> ∃ v,Aa3 P rs e h v/\K v h
  | _,_,_=>False
theorem AA5 {P:Program} (hmx:P.follows .mixedOrders=true) {f:FuncId} {fn:Func} {c:Code} {rs:List ResultVar} {n:Nat} {l:List Value} {h:Zs} {K:Value->Zs->Prop}
    (hf:P.funcs[f]? =some fn) (hn:(fn.name == "runtime.NumGoroutine")=false) (hb:fn.body=some c) (hr:fn.results=rs.toArray) (hnt:fn.ntmps=n) (hl:Nat.ble l.length n=true) (hok:okC n c=true)
    (H:W P c (Aqs P rs K) (Acr l) h):AAs P f l.toArray h K:=by
 refine ⟨⟨fn,hf,hn,by simp [hb]⟩,fun w hw=>?_⟩;subst hw;have hl:=Nat.le_of_ble_eq_true hl;refine calls_of_wp hf hb (W.sound hmx (n:=n) hok ⟨?_,rfl,fun t=>?_⟩ H fun x e' a' w' r s k=>?_)
 ·simp [hnt];omega
 ·rw [Acs];simp only [Array.getD_eq_getD_getElem?];rw [Array.getElem?_append];split
  ·simp
  ·rename_i hge;simp at hge;simp only [List.size_toArray];rw [List.getElem?_eq_none hge];rw [Array.getElem?_replicate];split <;> rfl
 ·cases x with
  | normal=>obtain ⟨v,hv,hk⟩:=k;exact ⟨r.defers,v,hv fn _ w' hr r.get rfl,v,rfl,s,hk⟩
  | ret=>obtain ⟨v,hv,hk⟩:=k;exact ⟨r.defers,v,hv fn _ w' hr r.get rfl,v,rfl,s,hk⟩
  | exit id=>exact k.elim
  | goto l=>exact k.elim
  | panic ch=>exact k.elim
  | outgrown=>exact k.elim
end Go.QF
namespace Go.QF
open Go
def ADv (h:Zs) (a:Addr):Option Value:=
  match h[a.block]? with
  | some (.cells c _ _)=>if a.spot.isSome then none else c[a.off]?
  | _=>none
def ARw (h:Zs) (a:Addr):Bool:=
  match h[a.block]? with
  | some (.cells _ _ (lo,hi))=>lo<=a.off && a.off < hi
  | _=>false
def AUe (h:Zs) (a:Addr) (v:Value):Zs:=
  h.modify a.block fun
    | .cells c elem frozen=> .cells (if a.spot.isSome then c else c.setIfInBounds a.off v) elem frozen
    | o=>o
theorem AU8 (w:World) (a:Addr):w.cell? a=ADv w.heap a:=rfl
def SlT (P:Program) (t el s:Nat):Prop:=P.underlying t=some (.slice el)/\ ∃ i,P.info? el=some i/\i.size=s
def AWc:TypeDesc->Bool
  | .struct _ | .array _ _=>true
  | _=>false
def NaT (P:Program) (t:Nat):Prop:=(∃ d,P.underlying t=some d/\AWc d=false)/\ ∃ i,P.info? t=some i/\i.size=1
def AgT (P:Program) (t s:Nat):Prop:=(∃ d,P.underlying t=some d/\AWc d=true)/\ ∃ i,P.info? t=some i/\i.size=s
def ZeT (P:Program) (t:Nat) (zero:Value) (bytes:Nat):Prop:= ∃ i,P.info? t=some i/\i.zero=some zero/\i.size=zero.cells.size/\i.bytes=bytes
def ARx (P:Program) (t:Nat) (k:IntKind):Prop:=P.underlying t=some (.int k)
def FdT (P:Program) (t f off ft:Nat):Prop:= ∃ fs fd,P.underlying t=some (.struct fs)/\fs[f]? =some fd/\fd.offset=off/\fd.type=ft
section
variable {P:Program} {t:TypeId}
theorem AI7 {d:TypeDesc} (h:P.underlying t=some d) (w:World):(underlying t).run P w= .ok d w:=by simp [underlying,h]
theorem Ap2 {i:TypeInfo} (h:P.info? t=some i) (w:World):(typeInfo t).run P w= .ok i w:=by simp [typeInfo,h]
theorem ANg {i:TypeInfo} (h:P.info? t=some i) (w:World):(sizeOf t).run P w= .ok i.size w:=by simp [sizeOf,Ap2 h]
theorem Acu {i:TypeInfo} {v:Value} (h:P.info? t=some i) (hz:i.zero=some v) (w:World):(zeroValue t).run P w= .ok v w:=by simp [zeroValue,Ap2 h,hz]
theorem Age {d:TypeDesc} (h:P.underlying t=some d) (w:World):(isAgg t).run P w= .ok (AWc d) w:=by
 cases d <;> simp [isAgg,AI7 h,AWc]
end
section
variable {P:Program} {B:Zs->Prop} {st:Bool} {ops:Array Oper} {rest:List Oper} {e:Env} {h:Zs} {K:Env->Zs->Prop}
variable {d:Nat} {ty:TypeId} {pos:String} {af:Array Edge}
theorem AAh (H:K e h):RL P B st ops [] e h K:=H
theorem AEi {o:Oper} {v:Value} (hg:o.guard=none) (hk:kindOf o.op= .pure) (hv:AU7 P e.ev o v) (H:RL P B st ops rest (e.put o.dst v) h K):RL P B st ops (o :: rest) e h K:=by
 show GOp P B st ops o e h _;unfold GOp;rw [if_pos (by simp [Region.wanted,hg])];unfold SOp;rw [hk];exact ⟨v,hv,H⟩
theorem AMn {o:Oper} (hg:o.guard=none) (hk:kindOf o.op= .eff) (hb:B h) (hv:AO9 P e.ev o h fun v h'=>B h'/\RL P B st ops rest (e.put o.dst v) h' K):RL P B st ops (o :: rest) e h K:=by
 show GOp P B st ops o e h _;unfold GOp;rw [if_pos (by simp [Region.wanted,hg])];unfold SOp;rw [hk];exact ⟨hb,hv⟩
theorem Aqt {o:Oper} (hg:o.guard=none) (hk:kindOf o.op= .wr) (hv:AO9 P e.ev o h fun v h'=>RL P B st ops rest (e.put o.dst v) h' K):RL P B st ops (o :: rest) e h K:=by
 show GOp P B st ops o e h _;unfold GOp;rw [if_pos (by simp [Region.wanted,hg])];unfold SOp;rw [hk];exact hv
theorem ABb {dst:Option Nat} {op:Op} {j:Nat} {want:Bool} (t:Nat) (b:Bool) (ht:(ops[j]?).bind (·.dst)=some t) (hv:e t= .bool b) (hb:(b == want)=false)
    (H:RL P B st ops rest (e.put dst undef) h K):RL P B st ops (⟨dst,op,ty,pos,af,some (j,want)⟩ :: rest) e h K:=by
  show GOp P B st ops _ e h _;unfold GOp
  rw [if_neg]
  · exact H
  · simp only [Region.wanted,AI6,ht,hv];cases b <;> cases want <;> simp_all
theorem ABn {dst:Option Nat} {op:Op} {j:Nat} {want:Bool} (t:Nat) (b:Bool) (ht:(ops[j]?).bind (·.dst)=some t) (hv:e t= .bool b) (hb:(b == want)=true)
    (H:RL P B st ops (⟨dst,op,ty,pos,af,none⟩ :: rest) e h K):RL P B st ops (⟨dst,op,ty,pos,af,some (j,want)⟩ :: rest) e h K:=by
  have H:GOp P B st ops ⟨dst,op,ty,pos,af,none⟩ e h _:=H;show GOp P B st ops _ e h _;unfold GOp at H ⊢;rw [if_pos (by simp [Region.wanted])] at H
  rw [if_pos]
  · exact H
  · simp only [Region.wanted,AI6,ht,hv];cases b <;> cases want <;> simp_all
theorem Zk {x:Operand} (H:RL P B st ops rest (e.mv d x) h K):RL P B st ops (⟨some d,.move x,ty,pos,af,none⟩ :: rest) e h K:=
  AEi (v:=e.ev x) rfl rfl (fun w=>rfl) H
theorem AAi {x:Operand} (H:RL P B st ops rest (e.mv d x) h K):RL P B st ops (⟨some d,.assign x,ty,pos,af,none⟩ :: rest) e h K:=
  AEi (v:=e.ev x) rfl rfl (fun w=>rfl) H
theorem AAd {c x y:Operand} (hc:e.ev c= .bool true) (H:RL P B st ops rest (e.mv d x) h K):RL P B st ops (⟨some d,.pick c x y,ty,pos,af,none⟩ :: rest) e h K:=
  AEi (v:=e.ev x) rfl rfl (fun w=>by simp only [execOp,hc];rfl) H
theorem AAo {c x y:Operand} (hc:e.ev c= .bool false) (H:RL P B st ops rest (e.mv d y) h K):RL P B st ops (⟨some d,.pick c x y,ty,pos,af,none⟩ :: rest) e h K:=
  AEi (v:=e.ev y) rfl rfl (fun w=>by simp only [execOp,hc];rfl) H
theorem AW5 {x:Operand} {t el s n c:Nat} {a:Option Addr} (hT:SlT P t el s) (hx:e.ev x= .slice a n c) (H:RL P B st ops rest (e.set d (.int .i64 n)) h K):
    RL P B st ops (⟨some d,.call ⟨.builtin .len,#[x],#[t]⟩,ty,pos,af,none⟩ :: rest) e h K:=
  AEi (v:= .int .i64 n) rfl rfl (fun w=>by
    obtain ⟨hu,_⟩:=hT
    simp [execOp,resolve,invoke,builtin,Builtin.len_,AI7 hu,hx,goInt]) H
theorem AAz {x y:Operand} {t t2:TypeId} {k:IntKind} {a b:Int} (hx:e.ev x= .int k a) (hy:e.ev y= .int k b) (H:RL P B st ops rest (e.set d (.int k (k.wrap (a + b)))) h K):
    RL P B st ops (⟨some d,.binOp .add t x y t2,ty,pos,af,none⟩ :: rest) e h K:=
  AEi (v:= .int k (k.wrap (a + b))) rfl rfl (fun w=>by simp [execOp,hx,hy,eqGuard,binOp,Op.intArith]) H
theorem AE4 {x y:Operand} {t t2:TypeId} {k:IntKind} {a b:Int} (hx:e.ev x= .int k a) (hy:e.ev y= .int k b) (H:RL P B st ops rest (e.set d (.int k (k.wrap (a - b)))) h K):
    RL P B st ops (⟨some d,.binOp .sub t x y t2,ty,pos,af,none⟩ :: rest) e h K:=
  AEi (v:= .int k (k.wrap (a - b))) rfl rfl (fun w=>by simp [execOp,hx,hy,eqGuard,binOp,Op.intArith]) H
theorem AK2 {x y:Operand} {t t2:TypeId} {k:IntKind} {a b:Int} (hx:e.ev x= .int k a) (hy:e.ev y= .int k b) (H:RL P B st ops rest (e.set d (.int k (k.wrap (a * b)))) h K):
    RL P B st ops (⟨some d,.binOp .mul t x y t2,ty,pos,af,none⟩ :: rest) e h K:=
  AEi (v:= .int k (k.wrap (a * b))) rfl rfl (fun w=>by simp [execOp,hx,hy,eqGuard,binOp,Op.intArith]) H
theorem AP9 {x y:Operand} {t t2:TypeId} {k:IntKind} {a b:Int} (hx:e.ev x= .int k a) (hy:e.ev y= .int k b) (hb:b≠0) (H:RL P B st ops rest (e.set d (.int k (k.wrap (a.tdiv b)))) h K):
    RL P B st ops (⟨some d,.binOp .quo t x y t2,ty,pos,af,none⟩ :: rest) e h K:=
  AEi (v:= .int k (k.wrap (a.tdiv b))) rfl rfl (fun w=>by simp [execOp,hx,hy,eqGuard,binOp,Op.intDiv,hb]) H
theorem ADo {x y:Operand} {t t2:TypeId} {k:IntKind} {a b:Int} (hx:e.ev x= .int k a) (hy:e.ev y= .int k b) (hb:b≠0) (H:RL P B st ops rest (e.set d (.int k (a.tmod b))) h K):
    RL P B st ops (⟨some d,.binOp .rem t x y t2,ty,pos,af,none⟩ :: rest) e h K:=
  AEi (v:= .int k (a.tmod b)) rfl rfl (fun w=>by simp [execOp,hx,hy,eqGuard,binOp,Op.intDiv,hb]) H
def Aa4 (op:BinOp) (a b:Int):Option Bool:=
  match op with
  | .eql=>some (a == b) | .neq=>some (a != b) | .lss=>some (decide (a < b)) | .leq=>some (decide (a<=b)) | .gtr=>some (decide (a > b)) | .geq=>some (decide (a >= b))
  | _=>none
theorem AX7 {op:BinOp} {x y:Operand} {t t2:TypeId} {k:IntKind} {a b:Int} {r:Bool} (hx:e.ev x= .int k a) (hy:e.ev y= .int k b) (hr:Aa4 op a b=some r) (H:RL P B st ops rest (e.set d (.bool r)) h K):
    RL P B st ops (⟨some d,.binOp op t x y t2,ty,pos,af,none⟩ :: rest) e h K:=
  AEi (v:= .bool r) rfl rfl (fun w=>by
    cases op <;> simp only [Aa4] at hr <;> first | (injection hr with hr;subst hr;simp [execOp,hx,hy,eqGuard,binOp,Op.intCmp];done) | cases hr) H
theorem Ah4 {op:BinOp} {x y:Operand} {t t2:TypeId} {k:IntKind} {a b:Int} {r:Bool} (hx:e.ev x= .int k a) (hy:e.ev y= .int k b) (hr:Aa4 op a b=some r)
    (HT:r=true->RL P B st ops rest (e.set d (.bool true)) h K) (HF:r=false->RL P B st ops rest (e.set d (.bool false)) h K):
    RL P B st ops (⟨some d,.binOp op t x y t2,ty,pos,af,none⟩ :: rest) e h K:=by
  refine AX7 hx hy hr ?_
  cases r
  · exact HF rfl
  · exact HT rfl
theorem AUi {x:Operand} {t:TypeId} {k:IntKind} {a:Int} (hx:e.ev x= .int k a) (H:RL P B st ops rest (e.set d (.int k (k.wrap (0 - a)))) h K):
    RL P B st ops (⟨some d,.unOp .neg t x,ty,pos,af,none⟩ :: rest) e h K:=
  AEi (v:= .int k (k.wrap (0 - a))) rfl rfl (fun w=>by simp [execOp,hx,Op.unary,Op.intArith]) H
theorem ADp {x:Operand} {t:TypeId} {b:Bool} (hx:e.ev x= .bool b) (H:RL P B st ops rest (e.set d (.bool !b)) h K):
    RL P B st ops (⟨some d,.unOp .not t x,ty,pos,af,none⟩ :: rest) e h K:=
  AEi (v:= .bool !b) rfl rfl (fun w=>by simp [execOp,hx,Op.unary]) H
theorem AK3 {x:Operand} {src dst:TypeId} {k k':IntKind} {a:Int} (hs:ARx P src k') (hd:ARx P dst k) (hx:e.ev x= .int k' a) (H:RL P B st ops rest (e.set d (.int k (k.wrap a))) h K):
    RL P B st ops (⟨some d,.convert src dst x,ty,pos,af,none⟩ :: rest) e h K:=
  AEi (v:= .int k (k.wrap a)) rfl rfl (fun w=>by
    unfold ARx at hs hd
    simp [execOp,hx,convert,AI7 hs,AI7 hd,Conv.intToInt]) H
theorem ABj {x:Operand} {vs:Array Value} {i:Nat} {v:Value} (hx:e.ev x= .tuple vs) (hv:vs[i]? =some v) (H:RL P B st ops rest (e.set d v) h K):
    RL P B st ops (⟨some d,.extract x i,ty,pos,af,none⟩ :: rest) e h K:=
  AEi (v:=v) rfl rfl (fun w=>by simp [execOp,hx,Instr.extract,hv]) H
theorem Aey {x i:Operand} {t el s:Nat} {a:Addr} {len cap:Nat} {k:IntKind} {n:Int} (hT:SlT P t el s) (hx:e.ev x= .slice (some a) len cap) (hi:e.ev i= .int k n) (h0:0<=n) (h1:n < len)
    (H:RL P B st ops rest (e.set d (.pointer (some (a.add (n.toNat * s))))) h K):RL P B st ops (⟨some d,.indexAddr t x i,ty,pos,af,none⟩ :: rest) e h K:=
  AEi (v:= .pointer (some (a.add (n.toNat * s)))) rfl rfl (fun w=>by
    obtain ⟨hu,i,hi',hs⟩:=hT
    simp [execOp,hx,hi,Instr.indexAt,asIntOf,AI7 hu,ANg hi',hs,h0,h1]) H
theorem AZ3 {t:TypeId} (ht:NaT P t) {a:Addr} {v:Value} (w:World) (hc:ADv w.heap a=some v) (ρ:Operand->Value) (x:Operand) (hx:ρ x= .pointer (some a)) (o:Oper) (ho:o.op= .load t x):
    (execOp ρ o).run P w= .ok (.value v) w:=by
 obtain ⟨⟨d,hd,hna⟩,_⟩:=ht;have hc':w.cell? a=some v:=hc;have h2:=Age (P:=P) hd w;rw [hna] at h2;simp [execOp,ho,Instr.loadAt,hx,Instr.sureAddr,loadVar,h2,hc']
theorem AA6 {x:Operand} {t:TypeId} {a:Addr} {v:Value} (ht:NaT P t) (hx:e.ev x= .pointer (some a)) (hc:ADv h a=some v) (H:RL P B false ops rest (e.set d v) h K):
    RL P B false ops (⟨some d,.load t x,ty,pos,af,none⟩ :: rest) e h K:=by
 show GOp P B false ops _ e h _;unfold GOp;rw [if_pos (by simp [Region.wanted])];exact ⟨v,fun w hw=>AZ3 ht w (by rw [hw];exact hc) _ x hx _ rfl,H⟩
theorem AB8 {x:Operand} {t:TypeId} {a:Addr} {v:Value} (ht:NaT P t) (hx:e.ev x= .pointer (some a)) (hb:B h) (hc:∀ h',B h'->ADv h' a=some v) (H:RL P B true ops rest (e.set d v) h K):
    RL P B true ops (⟨some d,.load t x,ty,pos,af,none⟩ :: rest) e h K:=by
 show GOp P B true ops _ e h _;unfold GOp;rw [if_pos (by simp [Region.wanted])];exact ⟨v,hb,fun w hw=>AZ3 ht w (hc _ hw) _ x hx _ rfl,H⟩
def isOne:Value->Bool
  | .agg _=>false
  | .tuple _=>false
  | _=>true
theorem Aez {a:Addr} {v v0:Value} {w:World} (h1:isOne v=true) (hc:w.cell? a=some v0) (hf:w.frozen? a=false):(store a v).run P w= .ok () (w.setCell a v):=by
 unfold store;cases v <;> first | (simp only [Sem.run,hc,hf];rfl) | (simp [isOne] at h1)
theorem Ano {x y:Operand} {t:TypeId} {a:Addr} {v v0:Value} (ht:NaT P t) (hx:e.ev x= .pointer (some a)) (hy:e.ev y=v) (h1:isOne v=true) (hc:ADv h a=some v0) (hf:ARw h a=false)
    (H:RL P B st ops rest e (AUe h a v) K):RL P B st ops (⟨none,.store t x y,ty,pos,af,none⟩ :: rest) e h K:=by
 refine Aqt rfl rfl fun w hw=>?_;subst hw;obtain ⟨_,i,hi,hsz⟩:=ht;have hc':w.cell? a=some v0:=hc;have hf':w.frozen? a=false:=hf;have hcl:v.cells= #[v]:=by cases v <;> first | rfl | cases h1
 have hrun:(execOp e.ev ⟨none,.store t x y,ty,pos,af,none⟩).run P w= .ok .skip (w.setCell a v):=by
   simp only [execOp,Instr.storeAt,hx,Instr.sureAddr,hy]
   have h2:=Aez (P:=P) h1 hc' hf'
   simp [storeVar,ANg hi,hcl,hsz,storeCells,Addr.add,h2]
 rw [hrun];exact ⟨⟨rfl,rfl,rfl⟩,H⟩
theorem AU9 {f:FuncId} (hc:Acq P f) (args:Array Value) (w:World):(callFunc f args).run P w= .ok (.enter f args) w:=by
 obtain ⟨fn,hf,hn,hb⟩:=hc;show (Sem.bind program _).run P w=_;show Sem.run P (match P.funcs[f]? with | none=>_ | some fn=>_) w=_;rw [hf];show Sem.run P (if (fn.name == "runtime.NumGoroutine")=true then _ else _) w=_;rw [if_neg (by simp [hn]),if_neg (by simp [hb])];rfl
theorem Acv {f:FuncId} {args:Array Value} {ρ:Operand->Value} {o:Oper} {K':Value->Zs->Prop} (hrun:∀ w,(execOp ρ o).run P w= .ok (.enter f args) w) (HC:AAs P f args h K'):AO9 P ρ o h K':=by
 intro w hw;rw [hrun w];exact ⟨.refl w,HC.2 w hw⟩
theorem AAr {f:FuncId} {xs:List Operand} {ts:Array TypeId} {l:List Value} {K':Value->Zs->Prop} (hb:B h) (hxs:xs.map e.ev=l) (HC:AAs P f l.toArray h K')
    (H:∀ v h',K' v h'->B h'/\RL P B st ops rest (e.set d v) h' K):RL P B st ops (⟨some d,.call ⟨.value (.func f),xs.toArray,ts⟩,ty,pos,af,none⟩ :: rest) e h K:=by
 refine AMn rfl rfl hb (Acv (f:=f) (args:=l.toArray) (fun w=>?_) (HC.mono H));have:=AU9 HC.1 l.toArray w;simp only [execOp,resolve,List.map_toArray,hxs,Env.ev,Deferred.ofValue,pure,bind,Sem.bind,invoke,Array.append_empty,Array.empty_append];exact this
theorem AXn {f:FuncId} {c:Operand} {xs:List Operand} {ts:Array TypeId} {l cl:List Value} {K':Value->Zs->Prop} (hb:B h) (hc:e.ev c= .func (.func f) #[] cl.toArray) (hxs:xs.map e.ev=l) (HC:AAs P f (l ++ cl).toArray h K')
    (H:∀ v h',K' v h'->B h'/\RL P B st ops rest (e.set d v) h' K):RL P B st ops (⟨some d,.call ⟨.value c,xs.toArray,ts⟩,ty,pos,af,none⟩ :: rest) e h K:=by
  refine AMn rfl rfl hb (Acv (f:=f) (args:=(l ++ cl).toArray) (fun w=>?_) (HC.mono H));have:=AU9 HC.1 (l ++ cl).toArray w;simp only [execOp,resolve,List.map_toArray,hxs,hc,Deferred.ofValue,pure,bind,Sem.bind,invoke,Array.empty_append,List.append_toArray];exact this
end
end Go.QF
namespace Go.QF
open Go
def Upd (S:Nat->Prop) (h h':Zs):Prop:=h.size<=h'.size/\ ∀ k,k < h.size->¬ S k->h'[k]? =h[k]?
def Ext (h h':Zs):Prop:=h.size<=h'.size/\ ∀ k,k < h.size->h'[k]? =h[k]?
theorem Ext.refl (h:Zs):Ext h h:=⟨Nat.le_refl _,fun _ _=>rfl⟩
theorem Ext.trans {a b c:Zs} (h:Ext a b) (k:Ext b c):Ext a c:=⟨Nat.le_trans h.1 k.1,fun i hi=>(k.2 i (Nat.lt_of_lt_of_le hi h.1)).trans (h.2 i hi)⟩
theorem Ext.upd {S:Nat->Prop} {a b:Zs} (h:Ext a b):Upd S a b:=⟨h.1,fun k hk _=>h.2 k hk⟩
theorem Upd.refl (S:Nat->Prop) (h:Zs):Upd S h h:=⟨Nat.le_refl _,fun _ _ _=>rfl⟩
theorem Upd.trans {S:Nat->Prop} {a b c:Zs} (h:Upd S a b) (k:Upd S b c):Upd S a c:=⟨Nat.le_trans h.1 k.1,fun i hi hs=>(k.2 i (Nat.lt_of_lt_of_le hi h.1) hs).trans (h.2 i hi hs)⟩
theorem Upd.mono {S T:Nat->Prop} {a b:Zs} (h:Upd S a b) (hST:∀ k,k < a.size->S k->T k):Upd T a b:=⟨h.1,fun k hk ht=>h.2 k hk fun hs=>ht (hST k hk hs)⟩
theorem Ext.thenUpd {S:Nat->Prop} {a b c:Zs} (h:Ext a b) (k:Upd S b c) (hS:∀ i,S i->a.size<=i):Ext a c:=
  ⟨Nat.le_trans h.1 k.1,fun i hi=>(k.2 i (Nat.lt_of_lt_of_le hi h.1) fun hs=>by have:=hS i hs;omega).trans (h.2 i hi)⟩
theorem ACy (h:Zs) (o:Obj):Ext h (h.push o):=⟨AAx,fun k hk=>by rw [Array.getElem?_push,if_neg Zj]⟩
theorem ANw (h:Zs) (a:Addr) (v:Value):Upd (· =a.block) h (AUe h a v):=by
 refine ⟨by simp [AUe],fun k hk hs=>?_⟩;simp only [AUe,Array.getElem?_modify];rw [if_neg (fun he=>hs he.symm)]
theorem Acw {h:Zs} {a:Addr} {v:Value} (hc:ADv h a=some v):a.block < h.size:=by
 unfold ADv at hc;rcases Nat.lt_or_ge a.block h.size with hl | hl
 ·exact hl
 ·rw [Array.getElem?_eq_none hl] at hc;simp at hc
theorem AW6 {h h':Zs} {a:Addr} (he:h'[a.block]? =h[a.block]?):ADv h' a=ADv h a:=by unfold ADv;rw [he]
theorem AAu {h h':Zs} {a:Addr} {v:Value} (hc:ADv h a=some v) (he:Ext h h'):ADv h' a=some v:=by
 rw [AW6 (he.2 _ (Acw hc))];exact hc
theorem AZ4 {S:Nat->Prop} {h h':Zs} {a:Addr} {v:Value} (hc:ADv h a=some v) (he:Upd S h h') (hS: ¬ S a.block):ADv h' a=some v:=by
 rw [AW6 (he.2 _ (Acw hc) hS)];exact hc
def Sl (h:Zs) (v:Value) (l:List Value):Prop:= ∃ a cap,v= .slice a l.length cap/\ ∀ i x,l[i]? =some x-> ∃ b o,a=some ⟨b,o,none⟩/\ADv h ⟨b,o + i,none⟩=some x
theorem Sl.ext {h h':Zs} {v:Value} {l:List Value} (H:Sl h v l) (he:Ext h h'):Sl h' v l:=by
 obtain ⟨a,cap,hv,hc⟩:=H;exact ⟨a,cap,hv,fun i x hx=>let ⟨b,o,ha,hx⟩:=hc i x hx;⟨b,o,ha,AAu hx he⟩⟩
theorem Sl.upd {S:Nat->Prop} {h h':Zs} {v:Value} {l:List Value} (H:Sl h v l) (he:Upd S h h') (hS:∀ b,v.ownBlock=some b->¬ S b):Sl h' v l:=by
 obtain ⟨a,cap,hv,hc⟩:=H;refine ⟨a,cap,hv,fun i x hx=>?_⟩;obtain ⟨b,o,ha,hx⟩:=hc i x hx;exact ⟨b,o,ha,AZ4 hx he (hS b (by subst hv;subst ha;rfl))⟩
theorem Aju (h:Zs):Sl h (.slice none 0 0) []:=⟨none,0,rfl,fun i x hx=>by simp at hx⟩
theorem Sl.pre {h:Zs} {a:Option Addr} {n cap:Nat} {l:List Value} (H:Sl h (.slice a n cap) l) (k:Nat) (hk:k<=l.length) (cap':Nat):Sl h (.slice a k cap') (l.take k):=by
  obtain ⟨a',c',hv,hc⟩:=H;injection hv with ha hl hcap;subst ha;refine ⟨a,cap',by simp [Nat.min_eq_left hk],fun i x hx=>hc i x ?_⟩;rw [List.getElem?_take] at hx
  split at hx
  · exact hx
  · cases hx
def Ae0 (h:Zs) (v:Value) (zs:List Int):Prop:=Sl h v (zs.map (.int .i64))
def Mat (h:Zs) (v:Value) (M:List (List Int)):Prop:= ∃ rs:List Value,Sl h v rs/\rs.length=M.length/\ ∀ (i:Nat) (r:Value) (z:List Int),rs[i]? =some r->M[i]? =some z->Sl h r (z.map (.int .i64))
theorem Mat.ext {h h':Zs} {v:Value} {M:List (List Int)} (H:Mat h v M) (he:Ext h h'):Mat h' v M:=by
 obtain ⟨rs,h1,h2,h3⟩:=H;exact ⟨rs,h1.ext he,h2,fun i r z hr hz=>(h3 i r z hr hz).ext he⟩
theorem Mat.row {h:Zs} {v:Value} {M:List (List Int)} (H:Mat h v M) {i:Nat} {z:List Int} (hz:M[i]? =some z):∃ r,(∃ rs,Sl h v rs/\rs[i]? =some r)/\Sl h r (z.map (.int .i64)):=by
 obtain ⟨rs,h1,h2,h3⟩:=H;have hi:i < rs.length:=by have:=(List.getElem?_eq_some_iff.1 hz).1;omega
 exact ⟨rs[i],⟨rs,h1,List.getElem?_eq_getElem hi⟩,h3 i _ z (List.getElem?_eq_getElem hi) hz⟩
theorem Mat.len {h:Zs} {v:Value} {M:List (List Int)} (H:Mat h v M):∃ a cap,v= .slice a M.length cap:=by
 obtain ⟨rs,⟨a,cap,hv,_⟩,h2,_⟩:=H;exact ⟨a,cap,by rw [hv,h2]⟩
def AC4 (h:Zs) (el g:Nat) (v:Value) (l:List Value):Prop:=
  ∃ cap cur,v= .slice (some ⟨g,0,none⟩) l.length cap/\h[g]? =some (.cells cur el (0,0))/\l.length<=cap/\cap<=maxLen/\cur.size=cap/\cur.toList.take l.length=l
theorem AC4.lt {h:Zs} {el g:Nat} {v:Value} {l:List Value} (H:AC4 h el g v l):g < h.size:=by
 obtain ⟨cap,cur,_,hg,_⟩:=H;exact (Array.getElem?_eq_some_iff.1 hg).1
theorem AC4.blk {h:Zs} {el g:Nat} {v:Value} {l:List Value} (H:AC4 h el g v l):v.ownBlock=some g:=by
 obtain ⟨cap,cur,rfl,_⟩:=H;rfl
theorem AC4.one {h:Zs} {el g:Nat} {v:Value} {l:List Value} (H:AC4 h el g v l):isOne v=true:=by
 obtain ⟨cap,cur,rfl,_⟩:=H;rfl
theorem AC4.cell {h:Zs} {el g:Nat} {v:Value} {l:List Value} (H:AC4 h el g v l) {i:Nat} {x:Value} (hx:l[i]? =some x):ADv h ⟨g,i,none⟩=some x:=by
 obtain ⟨cap,cur,_,hg,_,_,_,ht⟩:=H;have hi:=(List.getElem?_eq_some_iff.1 hx).1;simp only [ADv,hg];rw [<- ht,List.getElem?_take,if_pos hi] at hx;simpa using hx
theorem AC4.free {h:Zs} {el g:Nat} {v:Value} {l:List Value} (H:AC4 h el g v l) (i:Nat):ARw h ⟨g,i,none⟩=false:=by
 obtain ⟨cap,cur,_,hg,_⟩:=H;simp [ARw,hg]
theorem AC4.sl {h:Zs} {el g:Nat} {v:Value} {l:List Value} (H:AC4 h el g v l):Sl h v l:=by
 have H':=H;obtain ⟨cap,cur,hv,_⟩:=H;exact ⟨_,cap,hv,fun i x hx=>⟨g,0,rfl,by rw [Nat.zero_add];exact H'.cell hx⟩⟩
theorem AC4.congr {h h':Zs} {el g:Nat} {v:Value} {l:List Value} (H:AC4 h el g v l) (he:h'[g]? =h[g]?):AC4 h' el g v l:=by
 obtain ⟨cap,cur,hv,hg,r⟩:=H;exact ⟨cap,cur,hv,he.trans hg,r⟩
theorem AC4.ext {h h':Zs} {el g:Nat} {v:Value} {l:List Value} (H:AC4 h el g v l) (he:Ext h h'):AC4 h' el g v l:=H.congr (he.2 g H.lt)
theorem AC4.upd {S:Nat->Prop} {h h':Zs} {el g:Nat} {v:Value} {l:List Value} (H:AC4 h el g v l) (he:Upd S h h') (hS: ¬ S g):AC4 h' el g v l:=H.congr (he.2 g H.lt hS)
theorem AC4.set {h:Zs} {el g:Nat} {v:Value} {l:List Value} (H:AC4 h el g v l) (i:Nat) (y:Value) (hi:i < l.length):AC4 (AUe h ⟨g,i,none⟩ y) el g v (l.set i y):=by
 obtain ⟨cap,cur,hv,hg,hl,hm,hs,ht⟩:=H;refine ⟨cap,cur.setIfInBounds i y,by rw [List.length_set];exact hv,?_,by rw [List.length_set];exact hl,hm,by simp [hs],?_⟩
 ·simp only [AUe,Array.getElem?_modify,if_true,hg,Option.map_some];rfl
 ·rw [List.length_set,Array.toList_setIfInBounds,List.take_set,ht]
theorem AS4 (h:Zs) (el n:Nat) (z:Value) (hm:n<=maxLen):AC4 (h.push (.cells (List.replicate n z).toArray el (0,0))) el h.size (.slice (some ⟨h.size,0,none⟩) n n) (List.replicate n z):=
  ⟨n,(List.replicate n z).toArray,AAx,AAx,AAx,hm,AAx,AAx⟩
theorem AX8 (h:Zs) (el:Nat) (l:List Value) (hm:l.length<=maxLen):AC4 (h.push (.cells l.toArray el (0,0))) el h.size (.slice (some ⟨h.size,0,none⟩) l.length l.length) l:=
  ⟨l.length,l.toArray,rfl,AAx,Nat.le_refl _,hm,AAx,AAx⟩
theorem AUp {l:List Nat} (hn:l.Nodup) {i j g:Nat} (hi:l[i]? =some g) (hj:l[j]? =some g):i=j:=by
 obtain ⟨Aa,Ab⟩:=List.getElem?_eq_some_iff.1 hi;obtain ⟨Ac,Ad⟩:=List.getElem?_eq_some_iff.1 hj;have hp:=List.pairwise_iff_getElem.1 hn;rcases Nat.lt_trichotomy i j with h | h | h
 ·exact absurd (Ab.trans Ad.symm) (hp i j Aa Ac h)
 ·exact h
 ·exact absurd (Ad.trans Ab.symm) (hp j i Ac Aa h)
section
variable {P:Program} {B:Zs->Prop} {st:Bool} {ops:Array Oper} {rest:List Oper} {e:Env} {h:Zs} {K:Env->Zs->Prop}
variable {d:Nat} {ty:TypeId} {pos:String} {af:Array Edge}
theorem AEj (b o i:Nat):(⟨b,o,none⟩:Addr).add i=⟨b,o + i,none⟩:=by
 unfold Addr.add;split
 ·rename_i hi;subst hi;rfl
 ·rfl
theorem AX9 {x i:Operand} {t el:Nat} {v u:Value} {l:List Value} {k:IntKind} {n:Nat} (hT:SlT P t el 1) (hx:e.ev x=v) (HS:Sl h v l) (hi:e.ev i= .int k (n:Int)) (hu:l[n]? =some u)
    (H:∀ a,ADv h a=some u->RL P B st ops rest (e.set d (.pointer (some a))) h K):RL P B st ops (⟨some d,.indexAddr t x i,ty,pos,af,none⟩ :: rest) e h K:=by
  obtain ⟨a,cap,rfl,hc⟩:=HS;obtain ⟨b,o,rfl,hcu⟩:=hc n u hu;have hn:=(List.getElem?_eq_some_iff.1 hu).1;refine Aey hT hx hi Zj Zj ?_;have he:(⟨b,o,none⟩:Addr).add ((n:Int).toNat * 1)=⟨b,o + n,none⟩:=by rw [AEj];simp
  rw [he];exact H _ hcu
theorem AQ4 {x i:Operand} {t el g er:Nat} {v:Value} {l:List Value} {k:IntKind} {n:Nat} (hT:SlT P t el 1) (hx:e.ev x=v) (HO:AC4 h er g v l) (hi:e.ev i= .int k (n:Int)) (hn:n < l.length)
    (H:RL P B st ops rest (e.set d (.pointer (some ⟨g,n,none⟩))) h K):RL P B st ops (⟨some d,.indexAddr t x i,ty,pos,af,none⟩ :: rest) e h K:=by
  obtain ⟨cap,cur,rfl,_⟩:=HO;refine Aey hT hx hi Zj Zj ?_;have he:(⟨g,0,none⟩:Addr).add ((n:Int).toNat * 1)=⟨g,n,none⟩:=by rw [AEj];simp
  rw [he];exact H
theorem Ajv {x y:Operand} {t g er n:Nat} {v u:Value} {l:List Value} (ht:NaT P t) (hx:e.ev x= .pointer (some ⟨g,n,none⟩)) (hy:e.ev y=u) (h1:isOne u=true) (HO:AC4 h er g v l) (hn:n < l.length)
    (H:RL P B st ops rest e (AUe h ⟨g,n,none⟩ u) K):RL P B st ops (⟨none,.store t x y,ty,pos,af,none⟩ :: rest) e h K:=
  Ano ht hx hy h1 (HO.cell (List.getElem?_eq_getElem hn)) (HO.free n) H
theorem AIk {x:Operand} {t t2:TypeId} {i:Nat} (hx:e.ev x= .int .i64 (i:Int)) (hi:i < 4611686018427387904) (H:RL P B st ops rest (e.set d (.int .i64 ((i + 1:Nat):Int))) h K):
    RL P B st ops (⟨some d,.binOp .add t x (.const (.int .i64 1)) t2,ty,pos,af,none⟩ :: rest) e h K:=by
  refine AAz hx rfl ?_;have:IntKind.i64.wrap ((i:Int) + 1)=((i + 1:Nat):Int):=by rw [IntKind.wrap_i64];omega
  rw [this];exact H
theorem AYa {x y:Operand} {t t2:TypeId} {a b:Int} (hx:e.ev x= .int .i64 a) (hy:e.ev y= .int .i64 b) (h0: -9223372036854775808<=a + b) (h1:a + b<=9223372036854775807) (H:RL P B st ops rest (e.set d (.int .i64 (a + b))) h K):
    RL P B st ops (⟨some d,.binOp .add t x y t2,ty,pos,af,none⟩ :: rest) e h K:=by
 refine AAz hx hy ?_;have:IntKind.i64.wrap (a + b)=a + b:=by rw [IntKind.wrap_i64];omega
 rw [this];exact H
theorem AK4 {x y:Operand} {t t2:TypeId} {a b:Int} (hx:e.ev x= .int .i64 a) (hy:e.ev y= .int .i64 b) (h0: -9223372036854775808<=a - b) (h1:a - b<=9223372036854775807) (H:RL P B st ops rest (e.set d (.int .i64 (a - b))) h K):
    RL P B st ops (⟨some d,.binOp .sub t x y t2,ty,pos,af,none⟩ :: rest) e h K:=by
 refine AE4 hx hy ?_;have:IntKind.i64.wrap (a - b)=a - b:=by rw [IntKind.wrap_i64];omega
 rw [this];exact H
theorem AL5 {x y:Operand} {t t2:TypeId} {a b:Int} (hx:e.ev x= .int .i64 a) (hy:e.ev y= .int .i64 b) (h0: -9223372036854775808<=a * b) (h1:a * b<=9223372036854775807) (H:RL P B st ops rest (e.set d (.int .i64 (a * b))) h K):
    RL P B st ops (⟨some d,.binOp .mul t x y t2,ty,pos,af,none⟩ :: rest) e h K:=by
 refine AK2 hx hy ?_;have:IntKind.i64.wrap (a * b)=a * b:=by rw [IntKind.wrap_i64];omega
 rw [this];exact H
theorem AS5 {x y:Operand} {t t2:TypeId} {k:IntKind} {a b:Int} (hx:e.ev x= .int k a) (hy:e.ev y= .int k b) (ha:0<=a) (hb:0 < b) (H:RL P B st ops rest (e.set d (.int k (a % b))) h K):
    RL P B st ops (⟨some d,.binOp .rem t x y t2,ty,pos,af,none⟩ :: rest) e h K:=by
 refine ADo hx hy Zj ?_;rw [Int.tmod_eq_emod_of_nonneg ha];exact H
theorem Aa5 {x y:Operand} {t t2:TypeId} {a b:Int} (hx:e.ev x= .int .i64 a) (hy:e.ev y= .int .i64 b) (ha:0<=a) (Ac:a<=9223372036854775807) (hb:0 < b) (H:RL P B st ops rest (e.set d (.int .i64 (a / b))) h K):
    RL P B st ops (⟨some d,.binOp .quo t x y t2,ty,pos,af,none⟩ :: rest) e h K:=by
 refine AP9 hx hy Zj ?_;have h1:a.tdiv b=a / b:=Int.tdiv_eq_ediv_of_nonneg ha;have h2:a / b<=a:=Int.ediv_le_self _ ha;have h3:0<=a / b:=Int.ediv_nonneg ha Zj;have:IntKind.i64.wrap (a.tdiv b)=a / b:=by rw [h1,IntKind.wrap_i64];omega
 rw [this];exact H
theorem AD0 {x y:Operand} {t t2:TypeId} {k:IntKind} {a b:Int} (hx:e.ev x= .int k a) (hy:e.ev y= .int k b)
    (HT:a < b->RL P B st ops rest (e.set d (.bool true)) h K) (HF:b<=a->RL P B st ops rest (e.set d (.bool false)) h K):RL P B st ops (⟨some d,.binOp .lss t x y t2,ty,pos,af,none⟩ :: rest) e h K:=
  Ah4 hx hy rfl (fun hc=>HT (by simpa using hc)) (fun hc=>HF (by simpa using hc))
theorem AQ5 {x y:Operand} {t t2:TypeId} {k:IntKind} {a b:Int} (hx:e.ev x= .int k a) (hy:e.ev y= .int k b)
    (HT:a<=b->RL P B st ops rest (e.set d (.bool true)) h K) (HF:b < a->RL P B st ops rest (e.set d (.bool false)) h K):RL P B st ops (⟨some d,.binOp .leq t x y t2,ty,pos,af,none⟩ :: rest) e h K:=
  Ah4 hx hy rfl (fun hc=>HT (by simpa using hc)) (fun hc=>HF (by simpa using hc))
theorem APb {x y:Operand} {t t2:TypeId} {k:IntKind} {a b:Int} (hx:e.ev x= .int k a) (hy:e.ev y= .int k b)
    (HT:b < a->RL P B st ops rest (e.set d (.bool true)) h K) (HF:a<=b->RL P B st ops rest (e.set d (.bool false)) h K):RL P B st ops (⟨some d,.binOp .gtr t x y t2,ty,pos,af,none⟩ :: rest) e h K:=
  Ah4 hx hy rfl (fun hc=>HT (by simpa using hc)) (fun hc=>HF (by simpa using hc))
theorem AS6 {x y:Operand} {t t2:TypeId} {k:IntKind} {a b:Int} (hx:e.ev x= .int k a) (hy:e.ev y= .int k b)
    (HT:b<=a->RL P B st ops rest (e.set d (.bool true)) h K) (HF:a < b->RL P B st ops rest (e.set d (.bool false)) h K):RL P B st ops (⟨some d,.binOp .geq t x y t2,ty,pos,af,none⟩ :: rest) e h K:=
  Ah4 hx hy rfl (fun hc=>HT (by simpa using hc)) (fun hc=>HF (by simpa using hc))
theorem AQ6 {x y:Operand} {t t2:TypeId} {k:IntKind} {a b:Int} (hx:e.ev x= .int k a) (hy:e.ev y= .int k b)
    (HT:a=b->RL P B st ops rest (e.set d (.bool true)) h K) (HF:a≠b->RL P B st ops rest (e.set d (.bool false)) h K):RL P B st ops (⟨some d,.binOp .eql t x y t2,ty,pos,af,none⟩ :: rest) e h K:=
  Ah4 hx hy rfl (fun hc=>HT (by simpa using hc)) (fun hc=>HF (by simpa using hc))
theorem Acx {x y:Operand} {t t2:TypeId} {k:IntKind} {a b:Int} (hx:e.ev x= .int k a) (hy:e.ev y= .int k b)
    (HT:a≠b->RL P B st ops rest (e.set d (.bool true)) h K) (HF:a=b->RL P B st ops rest (e.set d (.bool false)) h K):RL P B st ops (⟨some d,.binOp .neq t x y t2,ty,pos,af,none⟩ :: rest) e h K:=
  Ah4 hx hy rfl (fun hc=>HT (by simpa using hc)) (fun hc=>HF (by simpa using hc))
theorem AUj (z:Value) (h1:isOne z=true) (n:Nat):madeCells z.cells n=(List.replicate n z).toArray:=by
 have:z.cells= #[z]:=by cases z <;> first | rfl | cases h1
 rw [this];apply Array.ext
 ·simp [madeCells]
 ·intro i h1 h2;simp [madeCells,Nat.mod_one]
theorem Ajw {x y:Operand} {t el n bytes:Nat} {z:Value} (hT:SlT P t el 1) (hz:ZeT P el z bytes) (h1:isOne z=true) (hb:B h) (hx:e.ev x= .int .i64 (n:Int)) (hy:e.ev y= .int .i64 (n:Int)) (hn:bytes * n<=281474976710656) (Ad:n<=281474976710656)
    (H:B (h.push (.cells (List.replicate n z).toArray el (0,0)))/\RL P B st ops rest (e.set d (.slice (some ⟨h.size,0,none⟩) n n)) (h.push (.cells (List.replicate n z).toArray el (0,0))) K):
    RL P B st ops (⟨some d,.makeSlice t x y,ty,pos,af,none⟩ :: rest) e h K:=by
 refine AMn rfl rfl hb fun w hw=>?_;subst hw;obtain ⟨hu,i0,Aa,Ac⟩:=hT;obtain ⟨i,hi,hzz,hsz,hby⟩:=hz;rw [hi] at Aa;injection Aa with Aa;subst Aa;have hr:=run_make (P:=P) w t el i z hu hi hzz .i64 .i64 (n:Int) (n:Int) Zj Zj (by rw [hby];omega) Zj
 have:(execOp e.ev ⟨some d,.makeSlice t x y,ty,pos,af,none⟩).run P w= .ok (.value (.slice (some ⟨w.heap.size,0,none⟩) n n)) (w.alloc (.cells (List.replicate n z).toArray el)):=by
   simp only [execOp,hx,hy]
   simp only [Int.toNat_natCast,Ac,Nat.mul_one,AUj z h1] at hr
   simp [hr]
 rw [this];exact ⟨⟨rfl,rfl,rfl⟩,H⟩
theorem Ap3 {s x:Operand} {t el g bytes:Nat} {z v xv:Value} {l news:List Value} (hT:SlT P t el 1) (hz:ZeT P el z bytes) (h1:isOne z=true) (hb:B h) (hs:e.ev s=v) (HO:AC4 h el g v l) (hx:e.ev x=xv) (HX:Sl h xv news) (hone:∀ u∈news,isOne u=true)
    (hn0:news≠[]) (hlen:(l.length + news.length) * bytes<=140737488355328) (hlen2:l.length + news.length<=140737488355328)
    (H:∀ v' g' h',AC4 h' el g' v' (l ++ news)->(g'=g∨g'=h.size)->Upd (· =g) h h'->B h'/\RL P B st ops rest (e.set d v') h' K):
    RL P B st ops (⟨some d,.call ⟨.builtin .append,#[s,x],#[t,t]⟩,ty,pos,af,none⟩ :: rest) e h K:=by
  refine AMn rfl rfl hb fun w hw=>?_;subst hw;obtain ⟨hu,i0,hi0,hs0⟩:=hT;obtain ⟨i,hi,hzz,hsz,hby⟩:=hz;rw [hi] at hi0;injection hi0 with hi0;subst hi0;have HO':=HO;obtain ⟨cap,cur,rfl,hg,hlc,hcm,hcs,ht⟩:=HO;obtain ⟨xa,xc,rfl,hxc⟩:=HX;obtain ⟨u0,hu0⟩:∃ u,news[0]? =some u:=by cases news with | nil=>exact absurd rfl hn0 | cons a l=>exact ⟨a,rfl⟩
  obtain ⟨xb,xo,rfl,_⟩:=hxc 0 u0 hu0
  have hnews:∀ j u,news[j]? =some u->w.cell? ((⟨xb,xo,none⟩:Addr).add j)=some u:=fun j u hu'=>by
    obtain ⟨b,o,ha,hc⟩:=hxc j u hu';injection ha with ha;injection ha with h1 h2;subst h1;subst h2;rw [AEj];exact hc
  have hone':∀ u∈news,u.oneCell'=true:=fun u hu'=>by have:=hone u hu';cases u <;> first | rfl | cases this
  have hown:w.ownsRow 0 el 1 (.slice (some ⟨g,0,none⟩) l.length cap) l.length l:=
    ⟨AAx,.inr ⟨g,cap,cur,rfl,Nat.zero_le _,hg,hlc,hcm,by simp [hcs],by simpa using ht⟩⟩
  have hzs:z.cells.size=1:=by cases z <;> first | rfl | cases h1
  by_cases hroom:l.length + news.length<=cap
  · have hr:=run_append_room (P:=P) w t ty el i hu hi g l.length cap cur hg ⟨xb,xo,none⟩ news.length xc news (by simp [hs0]) hnews hone' hroom (by simp [hs0,hcs];omega)
    have hrun:(execOp e.ev ⟨some d,.call ⟨.builtin .append,#[s,x],#[t,t]⟩,ty,pos,af,none⟩).run P w= .ok (.value (.slice (some ⟨g,0,none⟩) (l.length + news.length) cap)) (w.setRow g (cur.toList.take (l.length * i.size) ++ news ++ cur.toList.drop (l.length * i.size + news.length)).toArray):=by
      simp [execOp,resolve,invoke,builtin,hs,hx,hr]
    rw [hrun]
    refine ⟨⟨rfl,rfl,rfl⟩,H _ g _ ?_ (.inl rfl) ?_⟩
    · refine ⟨cap,_,AAx,setRow_heap w g cur _ el (0,0) hg,by simpa using hroom,hcm,?_,?_⟩
      · simp only [hs0,Nat.mul_one,List.size_toArray,List.length_append,List.length_take,List.length_drop,Array.length_toList,hcs];omega
      · simp only [hs0,Nat.mul_one,ht];exact List.take_left
    · exact ⟨by simp [World.setRow],fun k hk hne=>setRow_other w g k _ (fun he=>hne he)⟩
  · have hr:=run_append_grow (P:=P) w t ty el i z hu hi hzz ⟨g,0,none⟩ l.length cap l (by simp [hs0]) (fun j u hu'=>by rw [AEj,Nat.zero_add];exact HO'.cell hu') ⟨xb,xo,none⟩ news.length xc news (by simp [hs0]) hnews Zj
      Zj (by rw [hby];exact growslice_fits Zj hlen)
    have hrun:(execOp e.ev ⟨some d,.call ⟨.builtin .append,#[s,x],#[t,t]⟩,ty,pos,af,none⟩).run P w= .ok (.value (.slice (some ⟨w.heap.size,0,none⟩) (l.length + news.length) (grownCap w (l.length + news.length) cap el)))
        (w.drew.alloc (.cells (l.toArray ++ news.toArray ++ Builtin.zeroCells z.cells (grownCap w (l.length + news.length) cap el - (l.length + news.length))) el)):=by
      simp [execOp,resolve,invoke,builtin,hs,hx,hr]
    rw [hrun];have hge:=grownCap_ge w (l.length + news.length) cap el;have hcm':grownCap w (l.length + news.length) cap el<=maxLen:=grownCap_le_maxLen w _ _ el (by unfold maxLen;omega)
    refine ⟨⟨rfl,rfl,rfl⟩,H _ w.heap.size _ ?_ (.inr rfl) ?_⟩
    · refine ⟨_,_,AAx,heap_alloc_new w.drew _,by simpa using hge,hcm',?_,?_⟩
      · simp [size_zeroCells,hzs];omega
      · simp only [Array.toList_append,List.append_assoc];rw [<- List.append_assoc];exact List.take_left
    · exact (Ext.upd ⟨AAx,fun k hk=>heap_alloc_old w.drew _ k hk⟩)
theorem Ajx {s x:Operand} {t el bytes:Nat} {z xv:Value} {news:List Value} (hT:SlT P t el 1) (hz:ZeT P el z bytes) (h1:isOne z=true) (hb:B h) (hs:e.ev s= .slice none 0 0) (hx:e.ev x=xv) (HX:Sl h xv news) (hone:∀ u∈news,isOne u=true)
    (hn0:news≠[]) (hlen:news.length * bytes<=140737488355328) (hlen2:news.length<=140737488355328)
    (H:∀ v' h',AC4 h' el h.size v' news->Ext h h'->B h'/\RL P B st ops rest (e.set d v') h' K):
    RL P B st ops (⟨some d,.call ⟨.builtin .append,#[s,x],#[t,t]⟩,ty,pos,af,none⟩ :: rest) e h K:=by
  refine AMn rfl rfl hb fun w hw=>?_;subst hw;obtain ⟨hu,i0,hi0,hs0⟩:=hT;obtain ⟨i,hi,hzz,hsz,hby⟩:=hz;rw [hi] at hi0;injection hi0 with hi0;subst hi0;obtain ⟨xa,xc,rfl,hxc⟩:=HX;obtain ⟨u0,hu0⟩:∃ u,news[0]? =some u:=by cases news with | nil=>exact absurd rfl hn0 | cons a l=>exact ⟨a,rfl⟩
  obtain ⟨xb,xo,rfl,_⟩:=hxc 0 u0 hu0
  have hnews:∀ j u,news[j]? =some u->w.cell? ((⟨xb,xo,none⟩:Addr).add j)=some u:=fun j u hu'=>by
    obtain ⟨b,o,ha,hc⟩:=hxc j u hu';injection ha with ha;injection ha with h1 h2;subst h1;subst h2;rw [AEj];exact hc
  have hpos:0 < news.length:=(List.getElem?_eq_some_iff.1 hu0).1;have hzs:z.cells.size=1:=by cases z <;> first | rfl | cases h1
  have hr:=run_append_nil (P:=P) w t ty el i z hu hi hzz ⟨xb,xo,none⟩ news.length xc news (by simp [hs0]) hnews hpos Zj (by rw [hby];omega)
  have hrun:(execOp e.ev ⟨some d,.call ⟨.builtin .append,#[s,x],#[t,t]⟩,ty,pos,af,none⟩).run P w= .ok (.value (.slice (some ⟨w.heap.size,0,none⟩) news.length (grownCap w news.length 0 el)))
      (w.drew.alloc (.cells (news.toArray ++ Builtin.zeroCells z.cells (grownCap w news.length 0 el - news.length)) el)):=by
    simp [execOp,resolve,invoke,builtin,hs,hx,hr]
  rw [hrun];have hge:=grownCap_ge w news.length 0 el;have hcm':grownCap w news.length 0 el<=maxLen:=grownCap_le_maxLen w _ _ el (by unfold maxLen;omega);refine ⟨⟨rfl,rfl,rfl⟩,H _ _ ?_ ⟨AAx,fun k hk=>heap_alloc_old w.drew _ k hk⟩⟩
  refine ⟨_,_,rfl,heap_alloc_new w.drew _,hge,hcm',?_,?_⟩
  · simp [size_zeroCells,hzs];omega
  · simp only [Array.toList_append];exact List.take_left
theorem AS7 {x i:Operand} {t el:Nat} {v:Value} {M:List (List Int)} {z:List Int} {k:IntKind} {n:Nat} (hT:SlT P t el 1) (hx:e.ev x=v) (HM:Mat h v M) (hi:e.ev i= .int k (n:Int)) (hz:M[n]? =some z)
    (H:∀ a r,ADv h a=some r->Ae0 h r z->RL P B st ops rest (e.set d (.pointer (some a))) h K):RL P B st ops (⟨some d,.indexAddr t x i,ty,pos,af,none⟩ :: rest) e h K:=by
 obtain ⟨r,⟨rs,h1,h2⟩,h3⟩:=HM.row hz;exact AX9 hT hx h1 hi h2 fun a ha=>H a r ha h3
theorem AQ7 {x i:Operand} {t el:Nat} {v:Value} {zs:List Int} {z:Int} {k:IntKind} {n:Nat} (hT:SlT P t el 1) (hx:e.ev x=v) (HI:Ae0 h v zs) (hi:e.ev i= .int k (n:Int)) (hz:zs[n]? =some z)
    (H:∀ a,ADv h a=some (.int .i64 z)->RL P B st ops rest (e.set d (.pointer (some a))) h K):RL P B st ops (⟨some d,.indexAddr t x i,ty,pos,af,none⟩ :: rest) e h K:=
  AX9 hT hx HI hi (by rw [List.getElem?_map,hz];rfl) H
theorem AWd {x:Operand} {t el s:Nat} {v:Value} {M:List (List Int)} (hT:SlT P t el s) (hx:e.ev x=v) (HM:Mat h v M) (H:RL P B st ops rest (e.set d (.int .i64 (M.length:Int))) h K):
    RL P B st ops (⟨some d,.call ⟨.builtin .len,#[x],#[t]⟩,ty,pos,af,none⟩ :: rest) e h K:=by
 obtain ⟨a,cap,rfl⟩:=HM.len;exact AW5 hT hx H
theorem Ajy {x:Operand} {t el s:Nat} {v:Value} {zs:List Int} (hT:SlT P t el s) (hx:e.ev x=v) (HI:Ae0 h v zs) (H:RL P B st ops rest (e.set d (.int .i64 (zs.length:Int))) h K):
    RL P B st ops (⟨some d,.call ⟨.builtin .len,#[x],#[t]⟩,ty,pos,af,none⟩ :: rest) e h K:=by
 obtain ⟨a,cap,rfl,_⟩:=HI;rw [List.length_map] at hx;exact AW5 hT hx H
theorem AUq {x:Operand} {t el s:Nat} {v:Value} {l:List Value} (hT:SlT P t el s) (hx:e.ev x=v) (HI:Sl h v l) (H:RL P B st ops rest (e.set d (.int .i64 (l.length:Int))) h K):
    RL P B st ops (⟨some d,.call ⟨.builtin .len,#[x],#[t]⟩,ty,pos,af,none⟩ :: rest) e h K:=by
 obtain ⟨a,cap,rfl,_⟩:=HI;exact AW5 hT hx H
end
theorem Ae0.ext {h h':Zs} {v:Value} {zs:List Int} (H:Ae0 h v zs) (he:Ext h h'):Ae0 h' v zs:=Sl.ext H he
end Go.QF
namespace Go.QF
open Go
theorem AQn {P:Program} {t el s:Nat} (hu:P.underlying t=some (.slice el)) (hi:(P.info? el).map (·.size)=some s):SlT P t el s:=by
 refine ⟨hu,?_⟩
 cases h:P.info? el with
 | none=>rw [h] at hi;cases hi
 | some i=>rw [h] at hi;exact ⟨i,rfl,by simpa using hi⟩
theorem AOd {P:Program} {t:Nat} {d:TypeDesc} (hu:P.underlying t=some d) (hd:AWc d=false) (hi:(P.info? t).map (·.size)=some 1):NaT P t:=by
 refine ⟨⟨d,hu,hd⟩,?_⟩
 cases h:P.info? t with
 | none=>rw [h] at hi;cases hi
 | some i=>rw [h] at hi;exact ⟨i,rfl,by simpa using hi⟩
theorem AUr {P:Program} {t s:Nat} {d:TypeDesc} (hu:P.underlying t=some d) (hd:AWc d=true) (hi:(P.info? t).map (·.size)=some s):AgT P t s:=by
 refine ⟨⟨d,hu,hd⟩,?_⟩
 cases h:P.info? t with
 | none=>rw [h] at hi;cases hi
 | some i=>rw [h] at hi;exact ⟨i,rfl,by simpa using hi⟩
theorem APc {P:Program} {t bytes:Nat} {z:Value} (hi:(P.info? t).map (fun i=>(i.zero,i.size,i.bytes))=some (some z,z.cells.size,bytes)):ZeT P t z bytes:=by
 cases h:P.info? t with
 | none=>rw [h] at hi;cases hi
 | some i=>
   rw [h] at hi
   simp only [Option.map_some,Option.some.injEq,Prod.mk.injEq] at hi
   exact ⟨i,h,hi.1,hi.2.1,hi.2.2⟩
def partsOf:Nat->List Value->List (Nat × Value)
  | _,[]=>[]
  | k,v :: l=>(k,v) :: partsOf (k + 1) l
theorem AZ5 {v:Value} (h1:isOne v=true):v.cells= #[v]:=by cases v <;> first | rfl | cases h1
theorem Ae1 (l:List Value):∀ (pre old:List Value),(∀ u∈l,isOne u=true)->old.length=l.length->
    Instr.fill (fun i=>some (i * 1,1)) (pre ++ old).toArray (partsOf pre.length l)=some (pre ++ l).toArray:=by
 induction l with
 | nil=>
   intro pre old _ ho
   obtain rfl:old=[]:=List.eq_nil_of_length_eq_zero ho
   simp [partsOf,Instr.fill]
 | cons v l ih=>
   intro pre old h1 ho
   cases old with
   | nil=>simp at ho
   | cons o old=>
     have hc:=AZ5 (h1 v (List.mem_cons_self ..))
     simp only [partsOf,Instr.fill,hc]
     have hs: ¬ ((#[v].size≠1 || decide (pre.length * 1 + #[v].size > (pre ++ o :: old).toArray.size))=true):=by simp
     rw [if_neg hs]
     have hset:(#[v].zipIdx.foldl (fun cs (x:Value × Nat)=>cs.setIfInBounds (pre.length * 1 + x.2) x.1) (pre ++ o :: old).toArray)=((pre ++ [v]) ++ old).toArray:=by
       simp
     have:=ih (pre ++ [v]) old (fun u hu=>h1 u (List.mem_cons_of_mem _ hu)) (by simpa using ho)
     simp only [List.length_append,List.length_cons,List.length_nil,Nat.zero_add] at this
     rw [show pre ++ v :: l=pre ++ [v] ++ l by simp]
     rw [<- this]
     congr 1
section
variable {P:Program} {B:Zs->Prop} {st:Bool} {ops:Array Oper} {rest:List Oper} {e:Env} {h:Zs} {K:Env->Zs->Prop}
variable {d:Nat} {ty:TypeId} {pos:String} {af:Array Edge}
theorem Ajz {t el bytes n:Nat} {z:Value} {parts:List (Nat × Operand)} (l:List Value) (hT:SlT P t el 1) (hz:ZeT P el z bytes) (h1:isOne z=true) (hb:B h) (hn:l.length=n) (hn2:n<=16777216) (hpos:0 < n) (hp:(parts.map fun (i,x)=>(i,e.ev x))=partsOf 0 l)
    (hone:∀ u∈l,isOne u=true) (H:B (h.push (.cells l.toArray el (0,0)))/\RL P B st ops rest (e.set d (.slice (some ⟨h.size,0,none⟩) n n)) (h.push (.cells l.toArray el (0,0))) K):
    RL P B st ops (⟨some d,.buildSlice t n parts.toArray,ty,pos,af,none⟩ :: rest) e h K:=by
  refine AMn rfl rfl hb fun w hw=>?_;subst hw;obtain ⟨hu,i0,hi0,hs0⟩:=hT;obtain ⟨i,hi,hzz,hsz,hby⟩:=hz;rw [hi] at hi0;injection hi0 with hi0;subst hi0;have hf:=Ae1 l [] (List.replicate n z) hone (by simp [hn]);simp only [List.nil_append,List.length_nil,Nat.mul_one] at hf;have hmade:(Array.range n).map (fun x=>z.cells[x % z.cells.size]!)=(List.replicate n z).toArray:=AUj z h1 n;have hne: ¬ n=0:=by omega
  have:(execOp e.ev ⟨some d,.buildSlice t n parts.toArray,ty,pos,af,none⟩).run P w= .ok (.value (.slice (some ⟨w.heap.size,0,none⟩) n n)) (w.alloc (.cells l.toArray el)):=by
    simp only [execOp,List.map_toArray];rw [hp];have h3: ¬ (n * i.size > 2 ^ 24):=by rw [hs0];omega
    have h4: ¬ (n * i.size=0):=by rw [hs0];omega
    simp only [Instr.buildSlice,Sem.run_bind,AI7 hu,Result.andThen,ANg hi,if_neg h3,if_neg h4,Acu hi hzz];have hp1:Sem.run P (pure z.cells:Sem (Array Value)) w= .ok z.cells w:=rfl;simp only [hp1,hs0,Nat.mul_one];rw [hmade,hf];simp [newRow]
  rw [this];exact ⟨⟨rfl,rfl,rfl⟩,H⟩
theorem Ap4 {x:Operand} {t:Nat} {v:Value} (hb:B h) (hx:e.ev x=v) (H:B (h.push (.cells v.cells t (0,0)))/\RL P B st ops rest (e.set d (.pointer (some ⟨h.size,0,none⟩))) (h.push (.cells v.cells t (0,0))) K):
    RL P B st ops (⟨some d,.box t x,ty,pos,af,none⟩ :: rest) e h K:=by
 refine AMn rfl rfl hb fun w hw=>?_;subst hw
 have:(execOp e.ev ⟨some d,.box t x,ty,pos,af,none⟩).run P w= .ok (.value (.pointer (some ⟨w.heap.size,0,none⟩))) (w.alloc (.cells v.cells t)):=by
   simp [execOp,hx,Instr.box,newVar,newRow]
 rw [this];exact ⟨⟨rfl,rfl,rfl⟩,H⟩
theorem Agf {t bytes:Nat} {z:Value} (hz:ZeT P t z bytes) (hb:B h) (H:B (h.push (.cells z.cells t (0,0)))/\RL P B st ops rest (e.set d (.pointer (some ⟨h.size,0,none⟩))) (h.push (.cells z.cells t (0,0))) K):
    RL P B st ops (⟨some d,.alloc t,ty,pos,af,none⟩ :: rest) e h K:=by
 refine AMn rfl rfl hb fun w hw=>?_;subst hw;obtain ⟨i,hi,hzz,hsz,hby⟩:=hz
 have:(execOp e.ev ⟨some d,.alloc t,ty,pos,af,none⟩).run P w= .ok (.value (.pointer (some ⟨w.heap.size,0,none⟩))) (w.alloc (.cells z.cells t)):=by
   simp [execOp,Instr.alloc,Acu hi hzz,newVar,newRow]
 rw [this];exact ⟨⟨rfl,rfl,rfl⟩,H⟩
theorem AC5 {t:Nat} {parts:List (Nat × Operand)} {v:Value} (hv:∀ w,(Instr.build t (parts.map fun (i,x)=>(i,e.ev x)).toArray).run P w= .ok v w) (H:RL P B st ops rest (e.set d v) h K):
    RL P B st ops (⟨some d,.build t parts.toArray,ty,pos,af,none⟩ :: rest) e h K:=
  AEi (v:=v) rfl rfl (fun w=>by simp only [execOp,List.map_toArray,Sem.run_bind,hv w];rfl) H
theorem ACm {x:Operand} {a:Addr} (hx:e.ev x= .pointer (some a)) (H:RL P B st ops rest (e.set d (.pointer (some a))) h K):
    RL P B st ops (⟨some d,.nilCheck x,ty,pos,af,none⟩ :: rest) e h K:=
  AEi (v:= .pointer (some a)) rfl rfl (fun w=>by simp [execOp,hx]) H
theorem Auc {x:Operand} {t f off ft fs:Nat} {a:Addr} (hf:FdT P t f off ft) (hs:(P.info? ft).map (·.size)=some fs) (hfs:fs≠0) (hx:e.ev x= .pointer (some a)) (H:RL P B st ops rest (e.set d (.pointer (some (a.add off)))) h K):
    RL P B st ops (⟨some d,.fieldAddr t x f,ty,pos,af,none⟩ :: rest) e h K:=
  AEi (v:= .pointer (some (a.add off))) rfl rfl (fun w=>by
    obtain ⟨fds,fd,hu,hfd,ho,hft⟩:=hf
    subst hft
    cases hi:P.info? fd.type with
    | none=>rw [hi] at hs;cases hs
    | some i=>
      rw [hi] at hs
      have hs':i.size=fs:=by simpa using hs
      simp [execOp,hx,Instr.fieldAt,AI7 hu,hfd,Instr.sureAddr,fieldPlace,ANg hi,hs',hfs,ho]) H
theorem Ap5 {x i:Operand} {t:Nat} {cs:Array Value} {v u:Value} (hv:∀ w,(Instr.index t (e.ev x) (e.ev i)).run P w= .ok u w) (H:RL P B st ops rest (e.set d u) h K):
    RL P B st ops (⟨some d,.index t x i,ty,pos,af,none⟩ :: rest) e h K:=
  AEi (v:=u) rfl rfl (fun w=>by simp only [execOp,Sem.run_bind,hv w];rfl) H
theorem Aqu {x:Operand} {t f:Nat} {u:Value} (hv:∀ w,(Instr.field t (e.ev x) f).run P w= .ok u w) (H:RL P B st ops rest (e.set d u) h K):
    RL P B st ops (⟨some d,.field t x f,ty,pos,af,none⟩ :: rest) e h K:=
  AEi (v:=u) rfl rfl (fun w=>by simp only [execOp,Sem.run_bind,hv w];rfl) H
theorem Aj0 {f:Fn} {cs:List Operand} {l:List Value} (hcs:cs.map e.ev=l) (H:RL P B st ops rest (e.set d (.func f #[] l.toArray)) h K):
    RL P B st ops (⟨some d,.makeFunc f #[] cs.toArray,ty,pos,af,none⟩ :: rest) e h K:=
  AEi (v:= .func f #[] l.toArray) rfl rfl (fun w=>by simp [execOp,Instr.makeFunc,hcs]) H
theorem run_loadCells {a:Addr} {w:World} (l:List Value):∀ (k:Nat) (acc:Array Value),(∀ i u,l[i]? =some u->w.cell? (a.add (k + i))=some u)->(loadCellsFrom a k l.length acc).run P w= .ok (acc ++ l.toArray) w:=by
 induction l with
 | nil=>intro k acc _;simp [loadCellsFrom]
 | cons v l ih=>
   intro k acc hc
   have h0:=hc 0 v rfl
   have ih':=ih (k + 1) (acc.push v) (fun i u hu=>by have:=hc (i + 1) u (by simpa using hu);rw [show k + 1 + i=k + (i + 1) by omega];exact this)
   simp only [Nat.add_zero] at h0
   simp [loadCellsFrom,h0,ih']
theorem AZ6 {t s:Nat} (ht:AgT P t s) {a:Addr} {l:List Value} (hl:l.length=s) (w:World) (hc:∀ i u,l[i]? =some u->ADv w.heap (a.add i)=some u) (ρ:Operand->Value) (x:Operand) (hx:ρ x= .pointer (some a)) (o:Oper) (ho:o.op= .load t x):
    (execOp ρ o).run P w= .ok (.value (.agg l.toArray)) w:=by
 obtain ⟨⟨dd,hd,hag⟩,i,hi,hsz⟩:=ht;have h1:=run_loadCells (P:=P) (a:=a) (w:=w) l 0 #[] (fun i u hu=>by rw [Nat.zero_add];exact hc i u hu);rw [hl,<- hsz] at h1;have h2:=Age (P:=P) hd w;rw [hag] at h2;simp only [execOp,ho,Instr.loadAt,hx,Instr.sureAddr,loadVar];simp [h2,ANg hi,loadCells,h1]
theorem AMo {x:Operand} {t s:Nat} {a:Addr} (l:List Value) (ht:AgT P t s) (hl:l.length=s) (hx:e.ev x= .pointer (some a)) (hc:∀ i u,l[i]? =some u->ADv h (a.add i)=some u) (H:RL P B false ops rest (e.set d (.agg l.toArray)) h K):
    RL P B false ops (⟨some d,.load t x,ty,pos,af,none⟩ :: rest) e h K:=by
 show GOp P B false ops _ e h _;unfold GOp;rw [if_pos (by simp [Region.wanted])];exact ⟨_,fun w hw=>AZ6 ht hl w (by rw [hw];exact hc) _ x hx _ rfl,H⟩
theorem AGx {x:Operand} {t s:Nat} {a:Addr} (l:List Value) (ht:AgT P t s) (hl:l.length=s) (hx:e.ev x= .pointer (some a)) (hb:B h) (hc:∀ h',B h'-> ∀ i u,l[i]? =some u->ADv h' (a.add i)=some u) (H:RL P B true ops rest (e.set d (.agg l.toArray)) h K):
    RL P B true ops (⟨some d,.load t x,ty,pos,af,none⟩ :: rest) e h K:=by
 show GOp P B true ops _ e h _;unfold GOp;rw [if_pos (by simp [Region.wanted])];exact ⟨_,hb,fun w hw=>AZ6 ht hl w (hc _ hw) _ x hx _ rfl,H⟩
theorem Aqv {x y:Operand} {t el s:Nat} {a:Option Addr} {n cap k:Nat} {kk:IntKind} (hT:SlT P t el s) (hx:e.ev x= .slice a n cap) (hy:e.ev y= .int kk (k:Int)) (hk:k<=cap) (H:RL P B st ops rest (e.set d (.slice a k cap)) h K):
    RL P B st ops (⟨some d,.slice t x none (some y) none,ty,pos,af,none⟩ :: rest) e h K:=
  AEi (v:= .slice a k cap) rfl rfl (fun w=>by
    obtain ⟨hu,i,hi,hs⟩:=hT;have h1:(k:Int)<=(cap:Int):=by omega
    have ha:(if cap=0 then a else Option.map (fun x=>x.add (0 * i.size)) a)=a:=by
      split
      · rfl
      · cases a <;> simp [Addr.add]
    simp [execOp,hx,hy,Instr.sliceAt,Instr.slice,AI7 hu,Instr.sliceBounds,Instr.sliceBound,asIntOf,h1,ANg hi,Addr.add];intro hlt;omega) H
theorem Acy {x y:Operand} {t el s:Nat} {a:Option Addr} {n cap k:Nat} {kk:IntKind} (hT:SlT P t el s) (hx:e.ev x= .slice a n cap) (hy:e.ev y= .int kk (k:Int)) (hk:k<=n) (hn:n<=cap)
    (H:RL P B st ops rest (e.set d (.slice (if cap=k then a else a.map (·.add (k * s))) (n - k) (cap - k))) h K):
    RL P B st ops (⟨some d,.slice t x (some y) none none,ty,pos,af,none⟩ :: rest) e h K:=
  AEi (v:= .slice (if cap=k then a else a.map (·.add (k * s))) (n - k) (cap - k)) rfl rfl (fun w=>by
    obtain ⟨hu,i,hi,hs⟩:=hT
    have h1:(k:Int)<=(n:Int):=by omega
    simp [execOp,hx,hy,Instr.sliceAt,Instr.slice,AI7 hu,Instr.sliceBounds,Instr.sliceBound,asIntOf,h1,ANg hi,hs]
    intro hlt;omega) H
end
end Go.QF
namespace Go.QF
open Go
section
variable {P:Program} {B:Zs->Prop} {st:Bool} {ops:Array Oper} {rest:List Oper} {e:Env} {h:Zs} {K:Env->Zs->Prop} {ty:TypeId} {pos:String} {af:Array Edge}
theorem AAk {dst:Option Nat} {op:Op} {j:Nat} {want:Bool} (t:Nat) (b:Bool) (H:RL P B st ops (⟨dst,op,ty,pos,af,none⟩ :: rest) e h K) (ht:(ops[j]?).bind (·.dst)=some t:=by kernel_rfl) (hv:e t= .bool b:=by rfl) (hb:(b == want)=true:=by rfl):RL P B st ops (⟨dst,op,ty,pos,af,some (j,want)⟩ :: rest) e h K:=ABn t b ht hv hb H
theorem AW7 {dst:Option Nat} {op:Op} {j:Nat} {want:Bool} (t:Nat) (b:Bool) (H:RL P B st ops rest (e.put dst undef) h K) (ht:(ops[j]?).bind (·.dst)=some t:=by kernel_rfl) (hv:e t= .bool b:=by rfl) (hb:(b == want)=false:=by rfl):RL P B st ops (⟨dst,op,ty,pos,af,some (j,want)⟩ :: rest) e h K:=ABb t b ht hv hb H
end
section
variable {P:Program} {B:Zs->Prop} {st:Bool} {ops:Array Oper} {rest:List Oper} {e:Env} {h:Zs} {K:Env->Zs->Prop} {y1 y2 y3 y4 y5 y6:TypeId} {z1 z2 z3 z4 z5 z6:String} {a1 a2 a3 a4 a5 a6:Array Edge} {d1 d2 d3 d4 d5 d6:Option Nat} {o1 o2 o3 o4 o5 o6:Op} {j:Nat} {want:Bool}
theorem AHi (t:Nat) (b:Bool) (H:RL P B st ops rest ((e.put d1 undef).put d2 undef) h K) (ht:(ops[j]?).bind (·.dst)=some t:=by kernel_rfl) (hb:(b == want)=false:=by rfl) (v1:e t= .bool b:=by rfl) (v2:(e.put d1 undef) t= .bool b:=by rfl):RL P B st ops (⟨d1,o1,y1,z1,a1,some (j,want)⟩ :: ⟨d2,o2,y2,z2,a2,some (j,want)⟩ :: rest) e h K:=ABb t b ht v1 hb (ABb t b ht v2 hb H)
theorem AH3 (t:Nat) (b:Bool) (H:RL P B st ops rest (((e.put d1 undef).put d2 undef).put d3 undef) h K) (ht:(ops[j]?).bind (·.dst)=some t:=by kernel_rfl) (hb:(b == want)=false:=by rfl) (v1:e t= .bool b:=by rfl) (v2:(e.put d1 undef) t= .bool b:=by rfl) (v3:((e.put d1 undef).put d2 undef) t= .bool b:=by rfl):RL P B st ops (⟨d1,o1,y1,z1,a1,some (j,want)⟩ :: ⟨d2,o2,y2,z2,a2,some (j,want)⟩ :: ⟨d3,o3,y3,z3,a3,some (j,want)⟩ :: rest) e h K:=AHi t b (ABb t b ht v3 hb H) ht hb v1 v2
theorem APd (t:Nat) (b:Bool) (H:RL P B st ops rest ((((e.put d1 undef).put d2 undef).put d3 undef).put d4 undef) h K) (ht:(ops[j]?).bind (·.dst)=some t:=by kernel_rfl) (hb:(b == want)=false:=by rfl) (v1:e t= .bool b:=by rfl) (v2:(e.put d1 undef) t= .bool b:=by rfl) (v3:((e.put d1 undef).put d2 undef) t= .bool b:=by rfl) (v4:(((e.put d1 undef).put d2 undef).put d3 undef) t= .bool b:=by rfl):RL P B st ops (⟨d1,o1,y1,z1,a1,some (j,want)⟩ :: ⟨d2,o2,y2,z2,a2,some (j,want)⟩ :: ⟨d3,o3,y3,z3,a3,some (j,want)⟩ :: ⟨d4,o4,y4,z4,a4,some (j,want)⟩ :: rest) e h K:=AH3 t b (ABb t b ht v4 hb H) ht hb v1 v2 v3
theorem AE5 (t:Nat) (b:Bool) (H:RL P B st ops rest (((((e.put d1 undef).put d2 undef).put d3 undef).put d4 undef).put d5 undef) h K) (ht:(ops[j]?).bind (·.dst)=some t:=by kernel_rfl) (hb:(b == want)=false:=by rfl) (v1:e t= .bool b:=by rfl) (v2:(e.put d1 undef) t= .bool b:=by rfl) (v3:((e.put d1 undef).put d2 undef) t= .bool b:=by rfl) (v4:(((e.put d1 undef).put d2 undef).put d3 undef) t= .bool b:=by rfl) (v5:((((e.put d1 undef).put d2 undef).put d3 undef).put d4 undef) t= .bool b:=by rfl):RL P B st ops (⟨d1,o1,y1,z1,a1,some (j,want)⟩ :: ⟨d2,o2,y2,z2,a2,some (j,want)⟩ :: ⟨d3,o3,y3,z3,a3,some (j,want)⟩ :: ⟨d4,o4,y4,z4,a4,some (j,want)⟩ :: ⟨d5,o5,y5,z5,a5,some (j,want)⟩ :: rest) e h K:=APd t b (ABb t b ht v5 hb H) ht hb v1 v2 v3 v4
end
section
variable {P:Program} {Q:Exit->Env->Zs->Prop} {K:Env->Zs->Prop} {e:Env} {h:Zs} {B:Zs->Prop} {st:Bool} {ops:Array Oper} {d:Nat} {ty:TypeId} {pos:String} {af:Array Edge}
theorem Zr (H:K e h):RL P B st ops [] e h (AMl K Q .normal):=AAh (q_t H)
theorem Zn {id:Nat} {l:List Oper} {b:Code} (H:RL P (fun _=>True) false l.toArray l e h (AMl (fun e h=>W P b Q e h) Q .normal)):W P (.seq (.region id l.toArray false) b) Q e h:=Zo (Z1 H)
theorem Zv {x:Operand} (H:K (e.mv d x) h):RL P B st ops [⟨some d,.assign x,ty,pos,af,none⟩] e h (AMl K Q .normal):=AAi (AAh (q_t H))
theorem AA3 {Q':Exit->Env->Zs->Prop} {x:Operand} {id:Nat} {l:List Oper} {b:Code} (H:RL P (fun _=>True) false l.toArray l (e.mv d x) h (AMl (fun e h=>W P b Q e h) Q .normal)):RL P B st ops [⟨some d,.assign x,ty,pos,af,none⟩] e h (AMl (fun e h=>W P (.seq (.region id l.toArray false) b) Q e h) Q' .normal):=AAi (AAh (q_t (Zo (Z1 H))))
theorem AHj {Q':Exit->Env->Zs->Prop} {id:Nat} {l:List Oper} {b:Code} (H:RL P (fun _=>True) false l.toArray l e h (AMl (fun e h=>W P b Q e h) Q .normal)):RL P B st ops [] e h (AMl (fun e h=>W P (.seq (.region id l.toArray false) b) Q e h) Q' .normal):=AAh (q_t (Zo (Z1 H)))
theorem AI8 {a b:Code} {X:Type} (m:Nat) (live:X->List (Nat × Value)) (J:X->Zs->Prop) (H:W P a (AMl (fun e' h'=> ∃ x,J x h'/\ASn (live x) e') Q) e h)
    (H2:∀ x s h',J x h'->W P b Q (setL (live x) (mix m s e)) h') (hm:AUo m a=true:=by kernel_rfl):W P (.seq a b) Q e h:=AS3 m live J hm H H2
theorem AGh {id:Nat} {l:List Oper} (H:RL P (fun _=>True) false l.toArray l e h (Q .normal)) (hst:(AOc l.toArray true,AZ2 l.toArray true)=(false,true):=by kernel_rfl):W P (.region id l.toArray true) Q e h:=APa hst H
end
end Go.QF
namespace Go.QF
theorem AQ8 (a b:Int):a < b∨b<=a:=by omega
theorem AUs {a b A B:Int} (ha:0<=a) (hA:a<=A) (hb:0<=b) (hB:b<=B):0<=a * b/\a * b<=A * B:=
  ⟨Int.mul_nonneg ha hb,Int.mul_le_mul hA hB hb (Int.le_trans ha hA)⟩
theorem Ap6 {x:Int} (hx:0<=x) (h:x * x<=2147483647):x<=46340:=by
 rcases AQ8 46340 x with hc | hc
 ·have:=(AUs (a:=46341) (b:=46341) (A:=x) (B:=x) Zj Zj Zj Zj).2;omega
 ·exact hc
def Pr (n:Int):Prop:=2<=n/\ ∀ d,2<=d->d < n->n % d≠0
theorem ARy {n d:Int} (h:n % d=0):d ∣ n:=Int.dvd_of_emod_eq_zero h
theorem AUt {n d:Int} (h:d ∣ n):n % d=0:=Int.emod_eq_zero_of_dvd h
theorem AYb {n d:Int} (hn:2<=n) (hd:2<=d) (hsq:n < d * d) (h:∀ c,2<=c->c < d->n % c≠0):Pr n:=by
  refine ⟨hn,fun c hc hcn hm=>?_⟩
  rcases AQ8 c d with hlt | hge
  · exact h c hc hlt hm
  · obtain ⟨q,hq⟩:=ARy hm
    have hq0:0 < q:=by
      rcases AQ8 0 q with h | h
      · exact h
      · have:c * q<=0:=Int.mul_nonpos_of_nonneg_of_nonpos Zj h;omega
    have hqd:q < d:=by
      rcases AQ8 q d with h | h
      · exact h
      · have:=(AUs (a:=d) (b:=d) (A:=c) (B:=q) Zj hge Zj h).2;omega
    have hq2:2<=q:=by
      rcases AQ8 q 2 with h | h
      · have:q=1:=by omega
        subst this;omega
      · exact h
    exact h q hq2 hqd (AUt ⟨c,by rw [hq,Int.mul_comm]⟩)
theorem Ah5 {n d:Int} (hd:2<=d) (hlt:d < n) (hm:n % d=0): ¬ Pr n:=fun h=>h.2 d hd hlt hm
theorem Acz {n d:Int} (hd:2<=d) (h:d * d<=n):d < n:=by
 have:d * 2<=d * d:=Int.mul_le_mul_of_nonneg_left hd Zj;omega
open Classical in
noncomputable def AI9 (n:Int):Bool:=decide (n<=2147483647/\Pr n)
theorem AVa {n:Int} (h1:n<=2147483647) (h2:Pr n):true=AI9 n:=by simp [AI9,h1,h2]
theorem AQ9 {n:Int} (h: ¬ (n<=2147483647/\Pr n)):false=AI9 n:=by simp [AI9,h]
theorem Ah6 {n:Int} (h:AI9 n=true):n<=2147483647/\Pr n:=by simpa [AI9] using h
theorem AKh {n c d:Int} (hc:n % c≠0) (hcd:d % c=0):n % d≠0:=by
 intro h;have h1:=ARy h;have h2:=ARy hcd;exact hc (AUt (Int.dvd_trans h2 h1))
theorem Ata {n lo hi:Int} (h2:n % 2≠0) (h3:n % 3≠0) (h5:n % 5≠0) (h:∀ d,2<=d->d < lo->n % d≠0) (hlo:n % lo≠0) (hb:∀ d,lo < d->d < hi->d % 2=0∨d % 3=0∨d % 5=0):
    ∀ d,2<=d->d < hi->n % d≠0:=by
  intro d hd hdh
  rcases AQ8 d lo with h1 | h1
  · exact h d hd h1
  · rcases Int.lt_or_eq_of_le h1 with h1 | h1
    · rcases hb d h1 hdh with e | e | e
      · exact AKh h2 e
      · exact AKh h3 e
      · exact AKh h5 e
    · rw [<- h1];exact hlo
theorem Aqw {n:Int} (h2:n % 2≠0) (h3:n % 3≠0) (h5:n % 5≠0):∀ d,2<=d->d < 7->n % d≠0:=by
 intro d hd hdh;have Ad:d=2∨d=3∨d=4∨d=5∨d=6:=by omega
 have:d % 2=0∨d % 3=0∨d % 5=0:=by rcases Ad with rfl | rfl | rfl | rfl | rfl <;> omega
 rcases this with e | e | e
 ·exact AKh h2 e
 ·exact AKh h3 e
 ·exact AKh h5 e
def Ah7:List Int:=[7,11,13,17,19,23,29,31]
def AQo (j:Nat):Int:=(Ah7 ++ [37])[j]?.getD 0
theorem Ah8 {base:Int} (hb:base % 30=0) {j:Nat} (hj:j < 8):∀ d,base + AQo j < d->d < base + AQo (j + 1)->d % 2=0∨d % 3=0∨d % 5=0:=by
 intro d h1 h2;have:j=0∨j=1∨j=2∨j=3∨j=4∨j=5∨j=6∨j=7:=by omega
 obtain ⟨q,rfl⟩:∃ q,base=30 * q:=⟨base / 30,Zj⟩;obtain ⟨r,rfl⟩:∃ r,d=30 * q + r:=⟨d - 30 * q,Zj⟩;rcases this with rfl | rfl | rfl | rfl | rfl | rfl | rfl | rfl <;> simp [AQo,Ah7] at h1 h2
 ·have:r=8∨r=9∨r=10:=by omega
  rcases this with rfl | rfl | rfl <;> omega
 ·omega
 ·have:r=14∨r=15∨r=16:=by omega
  rcases this with rfl | rfl | rfl <;> omega
 ·omega
 ·have:r=20∨r=21∨r=22:=by omega
  rcases this with rfl | rfl | rfl <;> omega
 ·have:r=24∨r=25∨r=26∨r=27∨r=28:=by omega
  rcases this with rfl | rfl | rfl | rfl | rfl <;> omega
 ·omega
 ·have:r=32∨r=33∨r=34∨r=35∨r=36:=by omega
  rcases this with rfl | rfl | rfl | rfl | rfl <;> omega
theorem AQa {j:Nat} (hj:j < 8):7<=AQo j/\AQo j<=31:=by
 have:j=0∨j=1∨j=2∨j=3∨j=4∨j=5∨j=6∨j=7:=by omega
 rcases this with rfl | rfl | rfl | rfl | rfl | rfl | rfl | rfl <;> simp [AQo,Ah7]
theorem Agg {x m:Int} (hm:0 < m): -m < x.tmod m/\x.tmod m < m:=by
 have h1:=Int.lt_tmod_of_pos x hm;have h2:=Int.tmod_lt_of_pos x hm;exact ⟨h1,h2⟩
def AYc (m x r:Int):Prop:=0<=r/\r < m/\r * x % m=1 % m
end Go.QF
namespace Go.Proofs.YtdkldlbgcfpglaaGreatDoor
open Go Go.QF
theorem mx:Tryz.prog.follows .mixedOrders=true:=by kernel_rfl
theorem AAn:SlT Tryz.prog 25 60 1:=AQn Tryz.underlying25 Zw
theorem AAj:SlT Tryz.prog 60 2 1:=AQn Tryz.underlying60 Zw
theorem AUk:SlT Tryz.prog 170 3 1:=AQn Tryz.underlying170 Zw
theorem AQb:SlT Tryz.prog 22 179 1:=AQn Tryz.underlying22 Zw
theorem AA1:NaT Tryz.prog 60:=AOd Tryz.underlying60 rfl Zw
theorem APe:NaT Tryz.prog 22:=AOd Tryz.underlying22 rfl Zw
theorem AAt:NaT Tryz.prog 2:=AOd Tryz.underlying2 rfl Zw
theorem AYd:NaT Tryz.prog 179:=AOd Tryz.underlying179 rfl Zw
theorem ABt:NaT Tryz.prog 3:=AOd Tryz.underlying3 rfl Zw
theorem Ap7:NaT Tryz.prog 5:=AOd Tryz.underlying5 rfl Zw
theorem AD1:NaT Tryz.prog 4:=AOd Tryz.underlying4 rfl Zw
theorem AJa:ARx Tryz.prog 2 .i64:=Tryz.underlying2
theorem AQp:ARx Tryz.prog 3 .i64:=Tryz.underlying3
theorem AYe:ARx Tryz.prog 179 .i8:=Tryz.underlying179
theorem ARa:ARx Tryz.prog 5 .u8:=Tryz.underlying5
theorem AMp:ZeT Tryz.prog 60 (.slice none 0 0) 24:=APc Zw
theorem AJx:ZeT Tryz.prog 2 (.int .i64 0) 8:=APc Zw
theorem AUu:ZeT Tryz.prog 3 (.int .i64 0) 8:=APc Zw
theorem Anp:AgT Tryz.prog 181 8:=AUr Tryz.underlying181 rfl Zw
def AS8 (h:Zs):Prop:= ∀ i u,(Ah7.map (Value.int .i64))[i]? =some u->ADv h ⟨0,i,none⟩=some u
theorem AS8.ext {h h':Zs} (H:AS8 h) (he:Ext h h'):AS8 h':=fun i u hu=>AAu (H i u hu) he
open Go.ChangeShapes Go.WideShapes Go.ChangeAt Go.RowKit
theorem own:ownKnob Tryz.prog.godebug=none:=by kernel_rfl
theorem laidOut:laidOutB Tryz.prog=true:=by kernel_rfl
theorem Atb:Tryz.prog.globalNamed "quadform/prime.offsets"=some 0:=by kernel_rfl
theorem Aj1:(Tryz.prog.globals[0]?).map (·.type)=some 181:=by kernel_rfl
theorem Aj2:Tryz.prog.cellsOf 181=8:=by kernel_rfl
theorem Ah9:Tryz.prog.cellsOf 2=1:=by kernel_rfl
theorem Ac0 {W:World} (h:laidMetH Tryz.prog [("quadform/prime.offsets",Rows.laid_quadform_prime_offsets)] W):AS8 W.heap:=by
 have T:Lib.TabIs Tryz.prog W "quadform/prime.offsets" .i64 [7,11,13,17,19,23,29,31]:=
   Lib.tabIs_of_head (rest:=[]) Atb Aj1 Tryz.underlying181 Tryz.underlying2 Ah9 Aj2 h
 intro i u hu;have Aa:(([7,11,13,17,19,23,29,31]:List Int).map (Value.int .i64))[i]? =some u:=hu;have hi:i < ([7,11,13,17,19,23,29,31]:List Int).length:=by have:=(List.getElem?_eq_some_iff.1 Aa).1;simpa using this
 have hc:=T.cell Atb i hi;rw [List.getElem?_map,List.getElem?_eq_getElem hi] at Aa;simp only [Option.map_some,Option.some.injEq] at Aa;rw [<- Aa];rw [List.getD_eq_getElem?_getD,List.getElem?_eq_getElem hi] at hc;exact hc
theorem Aia {W:World} {a:Addr} {v:Value} (h:W.cell? a=some v):a=⟨a.block,a.off,none⟩:=by
 obtain ⟨b,o,s⟩:=a
 cases s with
 | none=>rfl
 | some s=>
   unfold World.cell? at h
   split at h
   · simp at h
   · cases h
theorem Ac1 {W:World} {a:Option Addr} {len cap:Nat} {l:List Value} (hl:l.length=len) (hn:a=none->len=0) (hc:∀ a',a=some a'-> ∀ i x,l[i]? =some x->W.cell? (a'.add i)=some x):Sl W.heap (.slice a len cap) l:=by
 refine ⟨a,cap,by rw [hl],fun i x hx=>?_⟩
 cases a with
 | none=>have:=hn rfl;have:=(List.getElem?_eq_some_iff.1 hx).1;omega
 | some a'=>
   have h0:0 < l.length:=by have:=(List.getElem?_eq_some_iff.1 hx).1;omega
   have hs:=Aia (hc a' rfl 0 _ (List.getElem?_eq_getElem h0))
   have Ab:a'.add 0=a':=by simp [Addr.add]
   rw [Ab] at hs
   refine ⟨a'.block,a'.off,by rw [<- hs],?_⟩
   have:=hc a' rfl i x hx
   rw [hs] at this
   rw [show (⟨a'.block,a'.off + i,none⟩:Addr)=(⟨a'.block,a'.off,none⟩:Addr).add i by rw [AEj]]
   exact this
theorem Ae2 {f:FuncId} {args:Array Value} {W:World} (H:AAs Tryz.prog f args W.heap fun x h'=>Ext W.heap h'/\x= .bool true):Calls Tryz.prog f args W fun e W'=>e= .returned (.bool true)/\Below W.heap.size W W':=by
 refine Calls.mono (H.2 W rfl) fun e W' hk=>?_;obtain ⟨v,rfl,hs,hE,rfl⟩:=hk;exact ⟨rfl,⟨hs.os,hs.tape,hs.output,hE.1,hE.2⟩⟩
noncomputable def AWe (os:Os):World:=
  { World.holding Tryz.prog os ⟨#[],#[],[]⟩ with heap:=(World.holding Tryz.prog os ⟨#[],#[],[]⟩).heap.modify 0 fun
      | .cells _ t frozen=> .cells #[.int .i64 7,.int .i64 11,.int .i64 13,.int .i64 17,.int .i64 19,.int .i64 23,.int .i64 29,.int .i64 31] t frozen
      | o=>o }
end Go.Proofs.YtdkldlbgcfpglaaGreatDoor
namespace Go.QF
def APf (M:List (List Int)):Nat:=(M[0]?.getD []).length
def Valid (M:List (List Int)):Prop:=1<=M.length/\M.length<=16/\1<=APf M/\APf M<=16/\ ∀ z∈M,z.length=APf M
instance (M:List (List Int)):Decidable (Valid M):=by unfold Valid;infer_instance
def Aj3 (M:List (List Int)):Prop:=Valid M/\M.length=APf M/\M.length<=8
instance (M:List (List Int)):Decidable (Aj3 M):=by unfold Aj3;infer_instance
def ent (A:List (List Int)) (i j:Nat):Int:=(A[i]?.getD [])[j]?.getD 0
theorem Aqx {A:List (List Int)} {i j:Nat} (hi:i < A.length) (hj:j < A[i].length):ent A i j=A[i][j]:=by
 simp [ent,hi,hj]
def psum (f:Nat->Int):Nat->Int
  | 0=>0
  | n + 1=>psum f n + f n
theorem AA2 {f g:Nat->Int} {n:Nat} (h:∀ k,k < n->f k=g k):psum f n=psum g n:=by
 induction n with
 | zero=>rfl
 | succ n ih=>simp only [psum];rw [ih (fun k hk=>h k Zj),h n Zj]
def tab (r c:Nat) (f:Z4):List (List Int):=(List.range r).map fun i=>(List.range c).map fun j=>f i j
theorem AA9 (r c:Nat) (f:Z4):(tab r c f).length=r:=by simp [tab]
theorem AHu {r c:Nat} {f:Z4} {i:Nat} (hi:i < r):(tab r c f)[i]? =some ((List.range c).map fun j=>f i j):=by simp [tab,hi]
theorem Anq {r c:Nat} {f:Z4} {i j:Nat} (hi:i < r) (hj:j < c):ent (tab r c f) i j=f i j:=by simp [ent,tab,hi,hj]
theorem Aj4 {r c:Nat} {f:Z4} (hr:0 < r):APf (tab r c f)=c:=by simp [APf,tab,hr]
theorem AL8 {r c:Nat} {f g:Z4} (h:∀ i j,i < r->j < c->f i j=g i j):tab r c f=tab r c g:=by
 unfold tab;refine List.map_congr_left fun i hi=>List.map_congr_left fun j hj=>h i j (by simpa using hi) (by simpa using hj)
theorem Ae3 {A:List (List Int)} {c:Nat} (h:∀ z∈A,z.length=c):A=tab A.length c (ent A):=by
 refine List.ext_getElem (by simp [tab]) fun i h1 h2=>?_;simp only [tab,List.getElem_map,List.getElem_range];have hl:=h A[i] (List.getElem_mem _);refine List.ext_getElem (by simp [hl]) fun j h3 h4=>?_;simp only [List.getElem_map,List.getElem_range];rw [Aqx h1 h3]
theorem AVb {r c:Nat} {f:Z4}:∀ z∈tab r c f,z.length=c:=by
 intro z hz;simp only [tab,List.mem_map] at hz;obtain ⟨i,_,rfl⟩:=hz;simp
def AXi (C:Nat) (f g:Nat->Int) (j:Nat):List Int:=(List.range C).map fun c=>if c < j then f c else g c
theorem Aib (C:Nat) (f g:Nat->Int):AXi C f g 0=(List.range C).map g:=by simp [AXi]
theorem Aj5 {C:Nat} (f g:Nat->Int) {j:Nat} (h:C<=j):AXi C f g j=(List.range C).map f:=by
 unfold AXi;refine List.map_congr_left fun c hc=>if_pos (by have:=List.mem_range.1 hc;omega)
theorem AS9 (C:Nat) (f g:Nat->Int) (j:Nat):(AXi C f g j).length=C:=by simp [AXi]
theorem AYf {C:Nat} {f g:Nat->Int} {j c:Nat} (hc:c < C):(AXi C f g j)[c]? =some (if c < j then f c else g c):=by simp [AXi,hc]
theorem Aj6 {C:Nat} {f g:Nat->Int} {j:Nat} {y:Int} (hc:j < C) (hy:y=f j):(AXi C f g j).set j y=AXi C f g (j + 1):=by
 subst hy;refine List.ext_getElem? fun c=>?_;rw [List.getElem?_set];by_cases hjc:j=c
 ·subst hjc;rw [if_pos rfl,if_pos (by rw [AS9];exact hc),AYf hc,if_pos Zj]
 ·rw [if_neg hjc];rcases Nat.lt_or_ge c C with h | h
  ·rw [AYf h,AYf h];by_cases hlt:c < j
   ·rw [if_pos hlt,if_pos Zj]
   ·rw [if_neg hlt,if_neg Zj]
  ·rw [List.getElem?_eq_none (by rw [AS9];exact h),List.getElem?_eq_none (by rw [AS9];exact h)]
theorem Ae4 {α:Type} (f:Nat->α) (i:Nat):(List.range i).map f ++ [f i]=(List.range (i + 1)).map f:=by
 rw [List.range_succ,List.map_append];rfl
theorem Aic (C:Nat):(List.range C).map (fun _=>(0:Int))=List.replicate C 0:=by
 refine List.ext_getElem AAx fun i h1 h2=>by simp
end Go.QF
namespace Go.Proofs.YtdkldlbgcfpglaaGreatDoor
open Go Go.QF
set_option maxRecDepth 100000
theorem Aj7 (n:Int) (h:Zs):AAs Tryz.prog 101 #[.int .i64 n] h fun v h'=>h'=h/\v= .bool (AI9 n):=by
 refine AA5 (l:=[_]) mx Tryz.func101 rfl rfl rfl rfl rfl Zw (Zn (Zv (Zo (Zn (Zk (AD0 rfl rfl (fun Ac=>?_) (fun Ac=>?_)))))))
 ·refine Zk (ABb 6 true Zw rfl rfl (ABb 6 true Zw rfl rfl (AAd rfl (Zr (AAl rfl (Zn (Zv (Zy (AAc (⟨_,Zz,?_⟩))))))))));exact ⟨rfl,show Value.bool false=_ from congrArg _ (AQ9 (fun hp=>by have:=hp.2.1;omega))⟩
 ·refine Zk (ABn 6 false Zw rfl rfl (Zk (ABn 6 false Zw rfl rfl (APb rfl rfl (fun Ad=>?_) (fun Ad=>?_)))))
  ·refine AAo rfl (Zr (AAl rfl (Zn (Zv (Zy (AAc (⟨_,Zz,?_⟩)))))));exact ⟨rfl,show Value.bool false=_ from congrArg _ (AQ9 (fun hp=>by omega))⟩
  ·refine AAo rfl (Zr (AAq rfl (Zx (q_t (Zo (Zn (Zv (Zt (AEh 2096140 (fun d:Int=>[(3,.int .i64 d)]) (fun k d h'=>h'=h/\k=(50000 - d).toNat/\2<=d/\(d - 1) * (d - 1)<=n/\ ∀ c,2<=c->c < d->n % c≠0) Zw 49998 2 ?_ ⟨rfl,trivial⟩ ?_)))))))))
   ·exact ⟨rfl,rfl,Zj,Zj,fun c h1 h2=>by omega⟩
   rintro k d s h1 ⟨rfl,rfl,hd,hsq,hJ⟩;have Ah:=Ap6 (x:=d - 1) Zj Zj;have hdd:=AUs (a:=d) (b:=d) (A:=46341) (B:=46341) Zj Zj Zj Zj;refine Zo (Zn (Zk (Zk (AL5 rfl rfl Zj Zj (Zk (AQ5 rfl rfl (fun Af=>?_) (fun Af=>?_)))))))
   ·refine Zr (AAl rfl (Zx (q_t (Zo (Zt (Zn (Zk (Zk (AS5 rfl rfl Zj Zj (AQ6 rfl rfl (fun Ag=>?_) (fun Ag=>?_)))))))))))
    ·refine Zr (AAl rfl (Zn (Zv (Zy (ABp (AAc (AAc (ABp (AAc (⟨_,Zz,?_⟩))))))))));exact ⟨rfl,show Value.bool false=_ from congrArg _ (AQ9 (fun hp=>Ah5 hd (Acz hd Zj) (by assumption) hp.2))⟩
    ·refine Zr (AAq rfl (Zx (q_b (q_t (Z1 (Zk (AYa rfl rfl Zj Zj (Zv (⟨(50000 - (d + 1)).toNat,d + 1,Zj,⟨rfl,rfl,Zj,by rw [show d + 1 - 1=d by omega];omega,fun c h1 h2=>?_⟩,rfl,trivial⟩)))))))));rcases AQ8 c d with h3 | h3
     ·exact hJ c h1 h3
     ·obtain rfl:c=d:=by omega
      assumption
   ·refine Zr (AAq rfl (AAe (AAf (AAf (ABk (q_t (Zn (Zv (Zy (⟨_,Zz,?_⟩))))))))));exact ⟨rfl,show Value.bool true=_ from congrArg _ (AVa Zj (AYb Zj hd Zj hJ))⟩
theorem Aid {n p:Int} (hn:2<=n) (hp:p=2∨p=3∨p=5) (hm:n % p=0):p=n↔Pr n:=by
 constructor
 ·rintro rfl;refine ⟨hn,fun d h1 h2 h3=>?_⟩;have:d=2∨d=3∨d=4:=by omega
  rcases hp with rfl | rfl | rfl <;> rcases this with rfl | rfl | rfl <;> omega
 ·intro h;rcases AQ8 p n with h1 | h1
  ·exact absurd hm (h.2 p Zj h1)
  ·rcases hp with rfl | rfl | rfl <;> omega
def pv (i:Nat):Int:=[2,3,5][i]?.getD 0
theorem Aj8 {i:Nat} (hi:i < 3):pv i=2/\i=0∨pv i=3/\i=1∨pv i=5/\i=2:=by
 have:i=0∨i=1∨i=2:=by omega
 rcases this with rfl | rfl | rfl <;> simp [pv]
theorem Aud {i:Nat} (hi:i < 3) (w:World):(Instr.index 180 (.agg #[.int .i64 2,.int .i64 3,.int .i64 5]) (.int .i64 (i:Int))).run Tryz.prog w= .ok (.int .i64 (pv i)) w:=by
 have:i=0∨i=1∨i=2:=by omega
 rcases this with rfl | rfl | rfl <;> (show _=_;kernel_rfl)
theorem Aue {i:Nat} (hi:i < 8) (w:World):(Instr.index 181 (.agg (Ah7.map (Value.int .i64)).toArray) (.int .i64 (i:Int))).run Tryz.prog w= .ok (.int .i64 (AQo i)) w:=by
 have:i=0∨i=1∨i=2∨i=3∨i=4∨i=5∨i=6∨i=7:=by omega
 rcases this with rfl | rfl | rfl | rfl | rfl | rfl | rfl | rfl <;> (show _=_;kernel_rfl)
theorem Aj9 {n:Int} (hn:2<=n) (Am:n<=2147483647) {h:Zs} (HO:AS8 h):AAs Tryz.prog 121 #[.int .i64 n] h fun v h'=>h'=h/\ ∃ f,v= .int .i64 f/\(f=n↔Pr n):=by
 refine AA5 (l:=[_]) mx Tryz.func121 rfl rfl rfl rfl rfl Zw (Zn (Zv (Agc (Zo (Zn (AC5 (v:= .agg #[.int .i64 2,.int .i64 3,.int .i64 5]) (fun _=>by kernel_rfl) (Zk (Zr (Zt (AEh 1046548 (fun i:Nat=>[(11,.int .i64 (i:Int))]) (fun k i h'=>h'=h/\k=3 - i/\i<=3/\(1<=i->n % 2≠0)/\(2<=i->n % 3≠0)/\(3<=i->n % 5≠0)) Zw 3 0 ?_ ⟨rfl,trivial⟩ ?_))))))))))
 ·exact ⟨rfl,rfl,Zj,fun h=>by omega,fun h=>by omega,fun h=>by omega⟩
 rintro k i s h1 ⟨rfl,rfl,hi,h2,h3,h5⟩;refine Zn (AD0 rfl rfl (fun Af=>?_) (fun Af=>?_))
 ·refine Zr (Zo (AAl rfl (Zx (q_t (Zo (Zt (Zn (Ap5 (cs:= #[]) (v:=undef) (Aud Zj) (AA3 (Zk (Zk (AS5 rfl rfl Zj (by have:=Aj8 (i:=i) Zj;omega) (AQ6 rfl rfl (fun Aa=>?_) (fun Aa=>?_))))))))))))))
  ·refine Zr (AAl rfl (Zn (Zk (Zv (Zy (ABp (AAc (AAc (ABp (AAc (Ajt (⟨_,Zz,?_⟩))))))))))));exact ⟨rfl,pv i,rfl,Aid Zj (by have:=Aj8 (i:=i) Zj;omega) (by assumption)⟩
  ·refine Zr (AAq rfl (Zx (q_b (q_t (Z1 (AIk rfl Zj (Zk (Zr ?_))))))));have hp:=Aj8 (i:=i) Zj;exact ⟨3 - (i + 1),i + 1,Zj,⟨rfl,rfl,Zj,fun h=>by rcases hp with ⟨e,_⟩ | ⟨e,_⟩ | ⟨e,_⟩ <;> first | (rw [e] at Aa;exact Aa) | exact h2 Zj,fun h=>by rcases hp with ⟨e,_⟩ | ⟨e,_⟩ | ⟨e,_⟩ <;> first | omega | (rw [e] at Aa;exact Aa) | exact h3 Zj,fun h=>by rcases hp with ⟨e,_⟩ | ⟨e,_⟩ | ⟨e,_⟩ <;> first | omega | (rw [e] at Aa;exact Aa)⟩,rfl,trivial⟩
 ·refine Zr (Zo (AAq rfl (AAe (AAf (AAf (ABk (q_t (Zn (Zk (Zv (Zo (Agd (q_t (Zo (Zn (Zv ?_))))))))))))))));refine Zt ?_;have h2:=h2 Zj;have h3:=h3 Zj;have h5:=h5 Zj;refine AEh 2199021159264 (fun b:Int=>[(5,.int .i64 n),(6,.int .i64 b)]) (fun k b h'=>h'=h1/\k=(50000 - b).toNat/\0<=b/\b<=46400/\b % 30=0/\ ∀ d,2<=d->d < b + 7->n % d≠0) Zw 50000 0 ?_ ⟨rfl,rfl,trivial⟩ ?_
  ·exact ⟨rfl,rfl,Zj,Zj,Zj,fun d a b=>Aqw h2 h3 h5 d a Zj⟩
  rintro k b s h1 ⟨rfl,rfl,Ao,Ap,Ag,hJ⟩;refine Zo (Zt (Zn (AMo (Ah7.map (Value.int .i64)) Anp rfl rfl (fun i u hu=>by rw [AEj,Nat.zero_add];exact HO i u hu) ?_)));refine Zk (Zr (Zt (AEh 2199006479136 (fun j:Nat=>[(24,.int .i64 (j:Int)),(5,.int .i64 n)]) (fun k j h'=>h'=h1/\k=8 - j/\j<=8/\(1<=j->(b + AQo (j - 1)) * (b + AQo (j - 1))<=n)/\ ∀ d,2<=d->d < b + AQo j->n % d≠0) Zw 8 0 ?_ ⟨rfl,rfl,trivial⟩ ?_)))
  ·exact ⟨rfl,rfl,Zj,fun h=>by omega,hJ⟩
  rintro k j s h1 ⟨rfl,rfl,hj,Ah,hjJ⟩;refine Zn (AD0 rfl rfl (fun Ai=>?_) (fun Ai=>?_))
  ·refine Zr (Zo (AAl rfl (Zx (q_t (Zo (Zt (Zn (Ap5 (cs:= #[]) (v:=undef) (Aue Zj) (AA3 (Zk (Zk (AYa rfl rfl (by have:=AQa (j:=j) Zj;omega) (by have:=AQa (j:=j) Zj;omega) (Zv ?_)))))))))))));refine Zo (Zn (Zk (Zk (AL5 rfl rfl (by have:=AQa (j:=j) Zj;have:=AUs (a:=b + AQo j) (b:=b + AQo j) (A:=47000) (B:=47000) Zj Zj Zj Zj;omega) (by have:=AQa (j:=j) Zj;have:=AUs (a:=b + AQo j) (b:=b + AQo j) (A:=47000) (B:=47000) Zj Zj Zj Zj;omega) (Zk (APb rfl rfl (fun Aj=>?_) (fun Aj=>?_)))))))
   ·refine Zr (AAl rfl (AAe (AAf (AXg Zl (AAf (AAf (AXg Zl (AXg Zl (AAf (AAf (ABk (q_t (Zn (Zk (Zv (Zy (Ajt (⟨_,Zz,?_⟩))))))))))))))))));have hob:=AQa (j:=j) Zj;exact ⟨rfl,n,rfl,⟨fun _=>AYb Zj (d:=b + AQo j) Zj Zj hjJ,fun _=>rfl⟩⟩
   ·refine Zr (AAq rfl (Zx (q_t (Zn (Zk (Zk (AS5 rfl rfl Zj (by have:=AQa (j:=j) Zj;omega) (AQ6 rfl rfl (fun Ak=>?_) (fun Ak=>?_)))))))))
    ·refine Zr (AAl rfl (Zn (Zk (Zv (AAe (AXg Zl (AAf (AAf (AXg Zl (AXg Zl (AAf (AAf (ABk (q_t (Zn (Zk (Zv (Zy (Ajt (⟨_,Zz,?_⟩))))))))))))))))))));have hob:=AQa (j:=j) Zj;have hlt:=Acz (n:=n) (d:=b + AQo j) Zj Zj;exact ⟨rfl,b + AQo j,rfl,⟨fun he=>by omega,fun hp=>absurd (by assumption) (hp.2 (b + AQo j) Zj hlt)⟩⟩
    ·refine Zr (AAq rfl (Zx (q_b (q_t (Z1 (AIk rfl Zj (Zk (Zr ?_))))))));exact ⟨8 - (j + 1),j + 1,Zj,⟨rfl,rfl,Zj,fun h=>by rw [show j + 1 - 1=j by omega];omega,Ata h2 h3 h5 hjJ (by assumption) (Ah8 Ag Zj)⟩,rfl,rfl,trivial⟩
  ·refine Zr (Zo (AAq rfl (AAe (AAf (AAf (ABk (q_b (q_t (Z1 (Zk (AYa rfl rfl Zj Zj (Zv ?_))))))))))));have hsq:=Ah Zj;have Aq:=Ap6 (x:=b + AQo (j - 1)) (by have:=AQa (j:=j - 1) Zj;omega) Zj;obtain rfl:j=8:=by omega
   have e7:AQo (8 - 1)=31:=rfl;exact ⟨(50000 - (b + 30)).toNat,b + 30,Zj,⟨rfl,rfl,Zj,Zj,Zj,fun d a c=>hjJ d a (by have:AQo 8=37:=rfl;omega)⟩,rfl,rfl,trivial⟩
theorem Ap8 (n:Int) {h:Zs} (HO:AS8 h):AAs Tryz.prog 73 #[.int .i64 n] h fun v h'=>h'=h/\v= .bool (AI9 n):=by
 refine AA5 (l:=[_]) mx Tryz.func73 rfl rfl rfl rfl rfl Zw (Zn (AA3 (Zk (AS6 rfl rfl (fun Aa=>?_) (fun Aa=>?_)))))
 ·refine Zk (ABn 5 true Zw rfl rfl (Zk (ABn 5 true Zw rfl rfl (AQ5 rfl rfl (fun Ab=>?_) (fun Ab=>?_)))))
  ·refine AAd rfl (Zk (ABn 9 true Zw rfl rfl (Zk (ABn 9 true Zw rfl rfl (AAr trivial rfl (Aj9 Zj Zj HO) fun v' h' hk=>?_)))));obtain ⟨rfl,f,rfl,hf⟩:=hk;refine ⟨trivial,?_⟩;refine ABn 9 true Zw rfl rfl (Zk (ABn 9 true Zw rfl rfl (AQ6 rfl rfl (fun Ac=>?_) (fun Ac=>?_))))
   ·refine AAd rfl (Zv (Zy (⟨_,Zz,?_⟩)));exact ⟨rfl,show Value.bool true=_ from congrArg _ (AVa Zj (hf.1 (by assumption)))⟩
   ·refine AAd rfl (Zv (Zy (⟨_,Zz,?_⟩)));exact ⟨rfl,show Value.bool false=_ from congrArg _ (AQ9 fun hp=>absurd (hf.2 hp.2) (by assumption))⟩
  ·refine AAd rfl (Zk (ABb 9 false Zw rfl rfl (ABb 9 false Zw rfl rfl (ABb 9 false Zw rfl rfl (ABb 9 false Zw rfl rfl (AAo rfl (Zv (Zy (⟨_,Zz,?_⟩)))))))));exact ⟨rfl,show Value.bool false=_ from congrArg _ (AQ9 fun hp=>by omega)⟩
 ·refine Zk (ABb 5 false Zw rfl rfl (ABb 5 false Zw rfl rfl (AAo rfl (Zk (ABb 9 false Zw rfl rfl (ABb 9 false Zw rfl rfl (ABb 9 false Zw rfl rfl (ABb 9 false Zw rfl rfl (AAo rfl (Zv (Zy (⟨_,Zz,?_⟩))))))))))));exact ⟨rfl,show Value.bool false=_ from congrArg _ (AQ9 fun hp=>by have:=hp.2.1;omega)⟩
def EI (m x a b u v:Int):Prop:=
  0<=b/\0<=a/\a<=m/\b<=m/\(∃ s U V:Int,(s=1∨s= -1)/\u=s * U/\v= -s * V/\0<=U/\0<=V/\a * V + b * U=m)/\m ∣ u * x - a/\m ∣ v * x - b/\ ∀ g:Int,g ∣ a->g ∣ b->g ∣ m/\g ∣ x
theorem EI.start {m x:Int} (hx:0<=x) (hxm:x < m):EI m x m x 0 1:=
  ⟨hx,Zj,Zj,Zj,⟨-1,0,1,.inr rfl,Zj,Zj,Zj,Zj,Zj⟩,⟨-1,Zj⟩,⟨0,Zj⟩,fun g h1 h2=>⟨h1,h2⟩⟩
theorem EI.bounds {m x a b u v:Int} (H:EI m x a b u v) (hb:0 < b):0<=a / b/\a / b<=m/\0<=a / b * b/\a / b * b<=a/\ -m<=a / b * v/\a / b * v<=m/\ -m<=u - a / b * v/\u - a / b * v<=m:=by
 obtain ⟨h0,ha,ham,hbm,⟨s,U,V,hs,rfl,rfl,hU,hV,hm⟩,_⟩:=H;have hq:0<=a / b:=Int.ediv_nonneg ha h0;have hqa:a / b * b<=a:=Int.ediv_mul_le _ Zj;have Ac:a / b<=a:=Int.ediv_le_self _ ha;have hqb:0<=a / b * b:=Int.mul_nonneg hq h0;have hqV:0<=a / b * V:=Int.mul_nonneg hq hV
 have hV':b * (U + a / b * V)<=m:=by
   have e:b * (U + a / b * V)=b * U + (a / b * b) * V:=by rw [Int.mul_add,<- Int.mul_assoc,Int.mul_comm b (a / b)]
   have:(a / b * b) * V<=a * V:=Int.mul_le_mul_of_nonneg_right hqa hV
   omega
 have hW:U + a / b * V<=b * (U + a / b * V):=by
   have:1 * (U + a / b * V)<=b * (U + a / b * V):=Int.mul_le_mul_of_nonneg_right Zj Zj
   omega
 rcases hs with rfl | rfl
 ·have e1:a / b * (-1 * V)= -(a / b * V):=by rw [Int.neg_mul,Int.one_mul,Int.mul_neg]
  rw [e1];omega
 ·have e1:a / b * (- -1 * V)=a / b * V:=by rw [Int.neg_neg,Int.one_mul]
  rw [e1];omega
theorem EI.step {m x a b u v:Int} (H:EI m x a b u v) (hb:0 < b):EI m x b (a - a / b * b) v (u - a / b * v):=by
 have hbd:=H.bounds hb;obtain ⟨h0,ha,ham,hbm,⟨s,U,V,hs,rfl,rfl,hU,hV,hm⟩,hu,hv,hg⟩:=H;have hmod:a - a / b * b=a % b:=by rw [Int.emod_def,Int.mul_comm]
 have h1:=Int.emod_nonneg a (b:=b) Zj;have h2:=Int.emod_lt_of_pos a hb;have hqV:0<=a / b * V:=Int.mul_nonneg hbd.1 hV;refine ⟨Zj,h0,hbm,Zj,⟨-s,V,U + a / b * V,Zj,rfl,?_,hV,Zj,?_⟩,hv,?_,fun g g1 g2=>?_⟩
 ·rw [Int.neg_neg,Int.mul_add,Int.neg_mul,Int.mul_neg,Int.sub_neg,Int.mul_left_comm]
 ·rw [Int.mul_add,Int.sub_mul,<- Int.mul_assoc,Int.mul_comm b (a / b)];omega
 ·have e:(s * U - a / b * (-s * V)) * x - (a - a / b * b)=(s * U * x - a) - a / b * (-s * V * x - b):=by
    rw [Int.sub_mul,Int.mul_sub,Int.mul_assoc (a / b)];omega
  rw [e];exact Int.dvd_sub hu (Int.dvd_mul_of_dvd_right hv)
 ·have:g ∣ a:=by
    have:=Int.dvd_add g2 (Int.dvd_trans g1 (Int.dvd_mul_left (a / b) b))
    rwa [Int.sub_add_cancel] at this
  exact hg g this g1
theorem EI.done {m x a u v:Int} (hm:2<=m) (H:EI m x a 0 u v):1<=a/\(a=1->AYc m x (u % m))/\(a≠1->¬ ∃ y,AYc m x y):=by
 obtain ⟨h0,ha,ham,hbm,⟨s,U,V,hs,_,_,hU,hV,hmm⟩,hu,hv,hg⟩:=H
 have Aa:1<=a:=by
   rcases AQ8 0 a with h | h
   · omega
   · obtain rfl:a=0:=by omega
     omega
 refine ⟨Aa,fun he=>?_,fun hne=>?_⟩
 ·subst he;refine ⟨Int.emod_nonneg _ Zj,Int.emod_lt_of_pos _ Zj,?_⟩;rw [Int.mul_emod,Int.emod_emod,<- Int.mul_emod];exact Int.emod_eq_emod_iff_emod_sub_eq_zero.2 (AUt hu)
 ·rintro ⟨y,_,_,hy⟩;obtain ⟨g1,g2⟩:=hg a (Int.dvd_refl _) ⟨0,Zj⟩;have e1:a ∣ y * x - 1:=Int.dvd_trans g1 (ARy (Int.emod_eq_emod_iff_emod_sub_eq_zero.1 hy));have e2:a ∣ y * x:=Int.dvd_mul_of_dvd_right g2;have e3:a ∣ 1:=by have:=Int.dvd_sub e2 e1;rwa [Int.sub_sub_self] at this
  have:=Int.le_of_dvd Zj e3;omega
end Go.Proofs.YtdkldlbgcfpglaaGreatDoor
namespace Go.QF
open Go
def AI1 (h:Zs) (er ei b:Nat) (gs:List Nat) (v:Value) (n:Nat) (Z:List (List Int)):Prop:=
  ∃ rs:List Value,AC4 h er b v rs/\rs.length=n/\Z.length<=n/\gs.length=Z.length/\
    (∀ (i g:Nat) (r:Value) (z:List Int),gs[i]? =some g->rs[i]? =some r->Z[i]? =some z->AC4 h ei g r (z.map (.int .i64)))/\(b :: gs).Nodup
def Aqy (h:Zs) (er ei b:Nat) (gs:List Nat) (v:Value) (M:List (List Int)):Prop:=AI1 h er ei b gs v M.length M
theorem Aqy.mat {h:Zs} {er ei b:Nat} {gs:List Nat} {v:Value} {M:List (List Int)} (H:Aqy h er ei b gs v M):Mat h v M:=by
 obtain ⟨rs,h1,h2,_,h3,h4,_⟩:=H;refine ⟨rs,h1.sl,h2,fun i r z hr hz=>?_⟩;have hi:i < gs.length:=by have:=(List.getElem?_eq_some_iff.1 hz).1;omega
 exact (h4 i gs[i] r z (List.getElem?_eq_getElem hi) hr hz).sl
theorem AI1.upd {S:Nat->Prop} {h h':Zs} {er ei b n:Nat} {gs:List Nat} {v:Value} {M:List (List Int)} (H:AI1 h er ei b gs v n M) (he:Upd S h h') (hS:∀ g∈b :: gs,¬ S g):AI1 h' er ei b gs v n M:=by
 obtain ⟨rs,h1,h2,h2',h3,h4,h5⟩:=H;exact ⟨rs,h1.upd he (hS b (List.mem_cons_self ..)),h2,h2',h3,fun i g r z hg hr hz=>(h4 i g r z hg hr hz).upd he (hS g (List.mem_cons_of_mem _ (List.mem_of_getElem? hg))),h5⟩
theorem AI1.ext {h h':Zs} {er ei b n:Nat} {gs:List Nat} {v:Value} {M:List (List Int)} (H:AI1 h er ei b gs v n M) (he:Ext h h'):AI1 h' er ei b gs v n M:=H.upd (S:=fun _=>False) he.upd (fun _ _ h=>h)
theorem AI1.lt {h:Zs} {er ei b n:Nat} {gs:List Nat} {v:Value} {M:List (List Int)} (H:AI1 h er ei b gs v n M):∀ g∈b :: gs,g < h.size:=by
 obtain ⟨rs,h1,h2,h2',h3,h4,h5⟩:=H;intro g hg;rcases List.mem_cons.1 hg with rfl | hg
 ·exact h1.lt
 ·obtain ⟨i,hi⟩:=List.getElem?_of_mem hg;have hi':i < M.length:=by have:=(List.getElem?_eq_some_iff.1 hi).1;omega
  exact (h4 i g (rs[i]'Zj) M[i] hi (List.getElem?_eq_getElem _) (List.getElem?_eq_getElem _)).lt
theorem AI1.ne {h:Zs} {er ei b n:Nat} {gs:List Nat} {v:Value} {M:List (List Int)} (H:AI1 h er ei b gs v n M) {i g:Nat} (hg:gs[i]? =some g):g≠b:=by
 obtain ⟨rs,h1,h2,h2',h3,h4,h5⟩:=H;intro he;exact (List.nodup_cons.1 h5).1 (he ▸ List.mem_of_getElem? hg)
theorem AI1.row {h:Zs} {er ei b n:Nat} {gs:List Nat} {v:Value} {M:List (List Int)} (H:AI1 h er ei b gs v n M) {i:Nat} {z:List Int} (hz:M[i]? =some z):
    ∃ g r rs,gs[i]? =some g/\AC4 h er b v rs/\rs[i]? =some r/\rs.length=n/\AC4 h ei g r (z.map (.int .i64))/\g≠b:=by
  have H':=H;obtain ⟨rs,h1,h2,h2',h3,h4,h5⟩:=H;have hi:=(List.getElem?_eq_some_iff.1 hz).1;exact ⟨gs[i]'Zj,rs[i]'Zj,rs,List.getElem?_eq_getElem _,h1,List.getElem?_eq_getElem _,h2,h4 i _ _ z (List.getElem?_eq_getElem _) (List.getElem?_eq_getElem _) hz,H'.ne (List.getElem?_eq_getElem _)⟩
theorem AI1.setRow {h h':Zs} {er ei b n:Nat} {gs:List Nat} {v:Value} {M:List (List Int)} (H:AI1 h er ei b gs v n M) {i g:Nat} (hg:gs[i]? =some g) (hu:Upd (· =g) h h') {z':List Int}
    (hr:∀ r z,M[i]? =some z->AC4 h ei g r (z.map (.int .i64))->AC4 h' ei g r (z'.map (.int .i64))):AI1 h' er ei b gs v n (M.set i z'):=by
  obtain ⟨rs,h1,h2,h2',h3,h4,h5⟩:=H;have hi:i < gs.length:=(List.getElem?_eq_some_iff.1 hg).1;have hgm:=List.mem_of_getElem? hg;refine ⟨rs,h1.upd hu (fun he=>(List.nodup_cons.1 h5).1 (he ▸ hgm)),h2,by simpa using h2',by simp [h3],fun j g' r z hg' hr' hz=>?_,h5⟩
  by_cases hij:i=j
  · subst hij;rw [hg] at hg';injection hg' with hg';subst hg';rw [List.getElem?_set_self Zj] at hz;injection hz with hz;subst hz;have hz2:M[i]? =some (M[i]'Zj):=List.getElem?_eq_getElem _;exact hr r _ hz2 (h4 i g r _ hg hr' hz2)
  · rw [List.getElem?_set_ne hij] at hz;exact (h4 j g' r z hg' hr' hz).upd hu (fun he=>hij (AUp (List.nodup_cons.1 h5).2 hg (he ▸ hg')))
theorem AI1.setElem {h:Zs} {er ei b n:Nat} {gs:List Nat} {v:Value} {M:List (List Int)} (H:AI1 h er ei b gs v n M) {i g j:Nat} {z:List Int} (hg:gs[i]? =some g) (hz:M[i]? =some z) (hj:j < z.length) (y:Int):
    AI1 (AUe h ⟨g,j,none⟩ (.int .i64 y)) er ei b gs v n (M.set i (z.set j y)):=by
 refine H.setRow hg (ANw _ _ _) fun r z2 Aa ho=>?_;rw [hz] at Aa;injection Aa with Aa;subst Aa;rw [List.map_set];exact ho.set j _ (by simpa using hj)
theorem Aie (h:Zs) (er ei n:Nat) (hm:n<=maxLen):AI1 (h.push (.cells (List.replicate n (.slice none 0 0)).toArray er (0,0))) er ei h.size [] (.slice (some ⟨h.size,0,none⟩) n n) n []:=
  ⟨_,AS4 h er n _ hm,AAx,AAx,rfl,fun i g r z hg=>by simp at hg,AAx⟩
theorem AI1.push {h:Zs} {er ei b n i:Nat} {gs:List Nat} {v r:Value} {M:List (List Int)} (H:AI1 h er ei b gs v n M) (hi:M.length=i) (hn:i < n) {g:Nat} {z:List Int} (hr:AC4 h ei g r (z.map (.int .i64))) (hg:g ∉ b :: gs):
    AI1 (AUe h ⟨b,i,none⟩ r) er ei b (gs ++ [g]) v n (M ++ [z]):=by
  subst hi;obtain ⟨rs,h1,h2,h2',h3,h4,h5⟩:=H;have hb:=(List.nodup_cons.1 h5).1;have hgb:g≠b:=fun he=>hg (he ▸ List.mem_cons_self ..)
  refine ⟨rs.set M.length r,h1.set _ _ Zj,by simp [h2],by simp;omega,by simp [h3],fun i g' r' z' hg' hr' hz'=>?_,?_⟩
  · rcases Nat.lt_trichotomy i M.length with hi | hi | hi
    · rw [List.getElem?_append_left Zj] at hg' hz';rw [List.getElem?_set_ne Zj] at hr';exact (h4 i g' r' z' hg' hr' hz').upd (ANw _ _ _) (fun he=>hb (by have he':g'=b:=he;exact he' ▸ List.mem_of_getElem? hg'))
    · subst hi;rw [List.getElem?_append_right Zj,h3] at hg';rw [List.getElem?_append_right Zj] at hz';rw [List.getElem?_set_self Zj] at hr';simp at hg' hz' hr';subst hg';subst hz';subst hr';exact hr.upd (ANw _ _ _) hgb
    · rw [List.getElem?_append_right Zj] at hz';rw [List.getElem?_eq_none (by simp;omega)] at hz';cases hz'
  · rw [<- List.cons_append];exact List.nodup_append.2 ⟨h5,AAx,fun a ha c hc=>by simp at hc;subst hc;exact fun he=>hg (he ▸ ha)⟩
section
variable {P:Program} {B:Zs->Prop} {st:Bool} {ops:Array Oper} {rest:List Oper} {e:Env} {h:Zs} {K:Env->Zs->Prop}
variable {d:Nat} {ty:TypeId} {pos:String} {af:Array Edge}
theorem Atc {x i:Operand} {t el er ei b n:Nat} {gs:List Nat} {v:Value} {M:List (List Int)} {z:List Int} {k:IntKind} {j:Nat} (hT:SlT P t el 1) (hx:e.ev x=v) (HP:AI1 h er ei b gs v n M) (hi:e.ev i= .int k (j:Int)) (hz:M[j]? =some z)
    (H:∀ a r g,ADv h a=some r->gs[j]? =some g->AC4 h ei g r (z.map (.int .i64))->RL P B st ops rest (e.set d (.pointer (some a))) h K):RL P B st ops (⟨some d,.indexAddr t x i,ty,pos,af,none⟩ :: rest) e h K:=by
  obtain ⟨g,r,rs,hg,h1,h2,_,h3,_⟩:=HP.row hz;exact AX9 hT hx h1.sl hi h2 fun a ha=>H a r g ha hg h3
theorem Aqz {x i:Operand} {t el:Nat} {h0:Zs} {v:Value} {M:List (List Int)} {z:List Int} {k:IntKind} {n:Nat} (hT:SlT P t el 1) (hx:e.ev x=v) (HM:Mat h0 v M) (hE:Ext h0 h) (hi:e.ev i= .int k (n:Int)) (hz:M[n]? =some z)
    (H:∀ a r,ADv h a=some r->Ae0 h0 r z->RL P B st ops rest (e.set d (.pointer (some a))) h K):RL P B st ops (⟨some d,.indexAddr t x i,ty,pos,af,none⟩ :: rest) e h K:=by
  obtain ⟨r,⟨rs,h1,h2⟩,h3⟩:=HM.row hz;exact AX9 hT hx (h1.ext hE) hi h2 fun a ha=>H a r ha h3
theorem AI1.top {h:Zs} {er ei b n:Nat} {gs:List Nat} {v:Value} {M:List (List Int)} (H:AI1 h er ei b gs v n M):∃ rs,AC4 h er b v rs/\rs.length=n:=let ⟨rs,h1,h2,_⟩:=H;⟨rs,h1,h2⟩
theorem Ae5 {x:Operand} {t el s er ei b n:Nat} {gs:List Nat} {v:Value} {M:List (List Int)} (hT:SlT P t el s) (hx:e.ev x=v) (HP:AI1 h er ei b gs v n M) (H:RL P B st ops rest (e.set d (.int .i64 (n:Int))) h K):
    RL P B st ops (⟨some d,.call ⟨.builtin .len,#[x],#[t]⟩,ty,pos,af,none⟩ :: rest) e h K:=by
 obtain ⟨rs,h1,h2,_⟩:=HP;have:=AUq (ops:=ops) (rest:=rest) (K:=K) (B:=B) (st:=st) (d:=d) (ty:=ty) (pos:=pos) (af:=af) hT hx h1.sl;rw [h2] at this;exact this H
end
theorem Aka (h:Zs) (el n:Nat) (x:Int) (hm:n<=maxLen):AC4 (h.push (.cells (List.replicate n (.int .i64 x)).toArray el (0,0))) el h.size (.slice (some ⟨h.size,0,none⟩) n n) ((List.replicate n x).map (.int .i64)):=by
 rw [List.map_replicate];exact AS4 h el n (.int .i64 x) hm
theorem Ac2 {α:Type} {l:List α} {x:α} {i:Nat} (h:l.length=i):(l ++ [x])[i]? =some x:=by
 subst h;simp
theorem Akb {α:Type} {l:List α} {x y:α} {i:Nat} (h:l.length=i):(l ++ [x]).set i y=l ++ [y]:=by
 subst h;simp
theorem AZ7 {α:Type} {l:List α} {i:Nat} {x:α} (h:l[i]? =some x):l.take i ++ [x]=l.take (i + 1):=by
 obtain ⟨hi,rfl⟩:=List.getElem?_eq_some_iff.1 h;rw [List.take_succ_eq_append_getElem hi]
end Go.QF
namespace Go.QF
open Go
def Gro (h:Zs) (el lo:Nat) (v:Value) (l:List Value):Prop:=(l=[]/\v= .slice none 0 0)∨ ∃ g,lo<=g/\AC4 h el g v l
theorem Aa6 (h:Zs) (el lo:Nat):Gro h el lo (.slice none 0 0) []:= .inl ⟨rfl,rfl⟩
theorem Gro.blk {h:Zs} {el lo:Nat} {v:Value} {l:List Value} (H:Gro h el lo v l):∀ g,v.ownBlock=some g->lo<=g/\g < h.size:=by
 intro g hg;rcases H with ⟨rfl,rfl⟩ | ⟨g',hg',H⟩
 ·cases hg
 ·have:=H.blk;rw [hg] at this;injection this with this;subst this;exact ⟨hg',H.lt⟩
section
variable {P:Program} {B:Zs->Prop} {st:Bool} {ops:Array Oper} {rest:List Oper} {e:Env} {h:Zs} {K:Env->Zs->Prop}
variable {d d':Nat} {ty ty':TypeId} {pos pos':String} {af af':Array Edge}
theorem Aq0 {s y:Operand} {t el bytes lo:Nat} {z v u:Value} {l:List Value} (hT:SlT P t el 1) (hz:ZeT P el z bytes) (h1:isOne z=true) (hbB:∀ h',B h') (hs:∀ p,(e.set d p).ev s=v) (hy:e.ev y=u) (hu:isOne u=true) (HG:Gro h el lo v l) (hlo:lo<=h.size) (hby:bytes<=1000)
    (hl:l.length<=100000000)
    (H:∀ p v' h',Gro h' el lo v' (l ++ [u])->Upd (fun k=>v.ownBlock=some k) h h'->(v'.ownBlock=v.ownBlock∨ ∃ g,v'.ownBlock=some g/\h.size<=g)->RL P B st ops rest ((e.set d p).set d' v') h' K):
    RL P B st ops (⟨some d,.buildSlice t 1 #[(0,y)],ty,pos,af,none⟩ :: ⟨some d',.call ⟨.builtin .append,#[s,.tmp d],#[t,t]⟩,ty',pos',af',none⟩ :: rest) e h K:=by
  have hsz:l.length * bytes<=100000000 * 1000:=Nat.mul_le_mul hl hby;have hb2:(l.length + 1) * bytes<=140737488355328:=by rw [Nat.add_mul];omega
  refine Ajz [u] hT hz h1 (hbB h) rfl Zj Zj (by simp [partsOf,hy]) (by simpa using hu) ⟨hbB _,?_⟩;have hnew:=(AX8 h el [u] (by simp [maxLen])).sl;have hE:=ACy h (.cells #[u] el (0,0));have hsz2:(h.push (.cells #[u] el (0,0))).size=h.size + 1:=by simp
  rcases HG with ⟨rfl,rfl⟩ | ⟨g,hg,HO⟩
  · refine Ajx hT hz h1 (hbB _) (hs _) (Env.set_same _ _ _) hnew (by simpa using hu) AAx (by simp;omega) AAx fun v' h' HO' he=>⟨hbB _,?_⟩;exact H _ v' h' (.inr ⟨_,Zj,HO'⟩) (hE.trans he).upd (.inr ⟨_,HO'.blk,Zj⟩)
  · refine Ap3 hT hz h1 (hbB _) (hs _) (HO.ext hE) (Env.set_same _ _ _) hnew (by simpa using hu) AAx (by simpa using hb2) (by simp;omega) fun v' g' h' HO' hgg hup=>⟨hbB _,?_⟩
    refine H _ v' h' (.inr ⟨g',?_,HO'⟩) ?_ ?_
    · rcases hgg with rfl | rfl
      · exact hg
      · omega
    · refine (hE.upd.trans hup).mono fun k _ hk=>?_;have hk2:k=g:=hk;rw [hk2];exact HO.blk
    · rcases hgg with rfl | rfl
      · exact .inl (HO'.blk.trans HO.blk.symm)
      · exact .inr ⟨_,HO'.blk,Zj⟩
end
end Go.QF
namespace Go.Proofs.YtdkldlbgcfpglaaGreatDoor
open Go Go.QF
set_option maxRecDepth 100000
abbrev tR:Nat:=60
abbrev tI:Nat:=2
end Go.Proofs.YtdkldlbgcfpglaaGreatDoor
namespace Go.QF
open Go
def ABz (F:Z4) (i:Nat) (g:Nat->Int):Z4:=fun k=>if k=i then g else F k
theorem AB0 (F:Z4) (i:Nat) (g:Nat->Int):ABz F i g i=g:=if_pos rfl
theorem AE9 (F:Z4) {i k:Nat} (g:Nat->Int) (h:k≠i):ABz F i g k=F k:=if_neg h
theorem AK5 {r c i:Nat} {F:Z4} {g:Nat->Int}:(tab r c F).set i ((List.range c).map g)=tab r c (ABz F i g):=by
 refine List.ext_getElem (by simp [tab]) fun k h1 h2=>?_;rw [List.getElem_set];simp only [tab,List.getElem_map,List.getElem_range];by_cases hik:i=k
 ·subst hik;rw [if_pos rfl,AB0]
 ·rw [if_neg hik,AE9 _ _ (fun he=>hik he.symm)]
def AEx (F:Z4) (a b:Nat):Z4:=ABz (ABz F a (F b)) b (F a)
end Go.QF
namespace Go.QF
theorem AYg {p:Int} (hp:Pr p):∀ (n:Nat) (x:Int),x.toNat<=n->0 < x->x < p-> ∃ y,y * x % p=1:=by
 intro n
 induction n with
 | zero=>intro x h1 h2;omega
 | succ n ih=>
   intro x hn hx hxp
   have h2:=hp.1
   rcases AQ8 1 x with h1 | h1
   · have hr:p % x≠0:=hp.2 x Zj hxp
     have Ac:=Int.emod_nonneg p (b:=x) Zj
     have Ad:=Int.emod_lt_of_pos p (b:=x) hx
     obtain ⟨s,hs⟩:=ih (p % x) Zj Zj Zj
     refine ⟨-(s * (p / x)),?_⟩
     have hd:=Int.mul_ediv_add_emod p x
     have he: -(s * (p / x)) * x=s * (p % x) + p * (-s):=by
       have:s * (x * (p / x) + p % x)=s * p:=by rw [hd]
       rw [Int.mul_add] at this
       rw [Int.neg_mul,Int.mul_assoc,Int.mul_comm (p / x) x,Int.mul_neg,Int.mul_comm p s]
       omega
     rw [he,Int.add_mul_emod_self_left,hs]
   · obtain rfl:x=1:=by omega
     exact ⟨1,Int.emod_eq_of_lt Zj Zj⟩
theorem Ac3 {α:Type} [DecidableEq α]:∀ (l t:List α),l.Nodup->(∀ x∈l,x∈t)->t.length<=l.length->l.Perm t:=by
 intro l
 induction l with
 | nil=>
   intro t _ _ h
   obtain rfl:t=[]:=List.eq_nil_of_length_eq_zero (by simpa using h)
   exact .nil
 | cons x l ih=>
   intro t hn hs hl
   have hx:=hs x (List.mem_cons_self ..)
   have hp:=List.perm_cons_erase hx
   refine .trans (.cons x (ih (t.erase x) (List.nodup_cons.1 hn).2 (fun y hy=>?_) ?_)) hp.symm
   · refine (List.mem_erase_of_ne (fun he:y=x=>(List.nodup_cons.1 hn).1 (he ▸ hy))).2 (hs y (List.mem_cons_of_mem _ hy))
   · have:=hp.length_eq
     simp at this hl
     omega
def ABc:List Int->Int
  | []=>1
  | x :: l=>x * ABc l
theorem AYh {l t:List Int} (h:l.Perm t):ABc l=ABc t:=by
 induction h with
 | nil=>rfl
 | cons x _ ih=>simp only [ABc];rw [ih]
 | swap x y l=>simp only [ABc];rw [<- Int.mul_assoc,<- Int.mul_assoc,Int.mul_comm x y]
 | trans _ _ Aa Ab=>exact Aa.trans Ab
def upN (n:Nat):List Int:=(List.range n).map fun i:Nat=>((i:Int) + 1)
theorem AKr {n:Nat} {x:Int}:x∈upN n↔1<=x/\x<=n:=by
 simp only [upN,List.mem_map,List.mem_range];constructor
 ·rintro ⟨i,hi,rfl⟩;omega
 ·rintro ⟨h1,h2⟩;exact ⟨(x - 1).toNat,Zj,Zj⟩
theorem Aif (n:Nat):(upN n).Nodup:=by
 unfold upN;rw [List.nodup_iff_pairwise_ne,List.pairwise_map];refine List.Pairwise.imp ?_ List.nodup_range;intro a b h he;omega
theorem cancel {p x a b:Int} (hp:Pr p) (hx:0 < x) (hxp:x < p) (h:a * x % p=b * x % p):a % p=b % p:=by
 obtain ⟨y,hy⟩:=AYg hp x.toNat x (Nat.le_refl _) hx hxp;have h2:=hp.1
 have key:∀ c:Int,c % p=c * x * y % p:=fun c=>by
   rw [Int.mul_assoc,Int.mul_emod,Int.mul_comm x y,hy,Int.mul_one,Int.emod_emod]
 rw [key a,key b,Int.mul_emod,h,<- Int.mul_emod]
theorem Akc {p a x:Int} (hp:Pr p) (ha:0 < a) (hap:a < p) (hx:0 < x) (hxp:x < p):a * x % p≠0:=by
 intro h;have:=cancel (a:=a) (b:=0) hp hx hxp (by rw [h];simp);rw [Int.emod_eq_of_lt Zj hap] at this;simp at this;omega
theorem Anr {p a b:Int} (hp:Pr p):∀ l:List Int,(∀ x∈l,0 < x/\x < p)->a * ABc l % p=b * ABc l % p->a % p=b % p:=by
 intro l
 induction l generalizing a b with
 | nil=>intro _ h;simpa [ABc] using h
 | cons x l ih=>
   intro hl h
   have hx:=hl x (List.mem_cons_self ..)
   simp only [ABc,<- Int.mul_assoc] at h
   exact cancel hp hx.1 hx.2 (ih (fun y hy=>hl y (List.mem_cons_of_mem _ hy)) h)
end Go.QF
namespace Go.QF
theorem Ac4 (F:Z4) (a b:Nat):AEx F a b b=F a:=AB0 _ _ _
theorem AWf (F:Z4) {a b:Nat}:AEx F a b a=F b:=by
 unfold AEx;by_cases h:a=b
 ·subst h;rw [AB0]
 ·rw [AE9 _ _ h,AB0]
theorem AYi (F:Z4) {a b k:Nat} (ha:k≠a) (hb:k≠b):AEx F a b k=F k:=by
 unfold AEx;rw [AE9 _ _ hb,AE9 _ _ ha]
def Zc (n:Nat) (F:Z4) (c:Nat):Prop:= ∀ c' i,c' < c->c' < i->i < n->F i c'=0
def Zi (F:Z4) (c i:Nat):Prop:= ∀ k,c < k->k < i->F k c=0
theorem Ans {F:Z4} {c i:Nat} (H:Zi F c i) (h:F i c=0):Zi F c (i + 1):=by
 intro k h1 h2;rcases Nat.lt_or_ge k i with h3 | h3
 ·exact H k h1 h3
 ·obtain rfl:k=i:=by omega
  exact h
theorem Ant {n:Nat} {F:Z4} {c:Nat} (H:Zc n F c) (h:Zi F c n):Zc n F (c + 1):=by
 intro c' k h1 h2 h3;rcases Nat.lt_or_ge c' c with h4 | h4
 ·exact H c' k h4 h2 h3
 ·obtain rfl:c'=c:=by omega
  exact h k h2 h3
end Go.QF
namespace Go.QF
open Go
theorem AZt {z:Value} (h1:isOne z=true) (n:Nat):Builtin.zeroCells z.cells n=(List.replicate n z).toArray:=by
 have hc:=AZ5 h1;have hsz:=size_zeroCells z.cells n;refine Array.ext (by rw [hsz,hc];simp) fun i h2 h3=>?_;have hm:i % 1=0:=Nat.mod_one i;simp [Builtin.zeroCells,hc,hm]
section
variable {P:Program} {B:Zs->Prop} {st:Bool} {ops:Array Oper} {rest:List Oper} {e:Env} {h:Zs} {K:Env->Zs->Prop}
variable {d:Nat} {ty:TypeId} {pos:String} {af:Array Edge}
theorem Aq1 {s x:Operand} {t tn el g bytes n:Nat} {z v:Value} {l:List Value} {k kn:IntKind} (hT:SlT P t el 1) (hN:ARx P tn kn) (hz:ZeT P el z bytes) (h1:isOne z=true) (hb:B h) (hs:e.ev s=v) (HO:AC4 h el g v l) (hx:e.ev x= .int k (n:Int)) (Ad:0 < n) (hlen:(l.length + n) * bytes<=140737488355328) (Ae:l.length + n<=140737488355328) (H:∀ v' g' h',AC4 h' el g' v' (l ++ List.replicate n z)->(g'=g∨g'=h.size)->Upd (· =g) h h'->(∃ cur,h'[g]? =some (.cells cur el (0,0)))->B h'/\RL P B st ops rest (e.set d v') h' K):
    RL P B st ops (⟨some d,.call ⟨.builtin .append,#[s,x],#[t,tn]⟩,ty,pos,af,none⟩ :: rest) e h K:=by
 refine AMn rfl rfl hb fun w hw=>?_;subst hw;obtain ⟨hu,i0,Ab,Aa⟩:=hT;obtain ⟨i,hi,hzz,hsz,hby⟩:=hz;rw [hi] at Ab;injection Ab with Ab;subst Ab;have HO':=HO;obtain ⟨cap,cur,rfl,hg,hlc,hcm,hcs,ht⟩:=HO;have hnn:n≠0:=by omega
 have hw:IntKind.i64.wrap (n:Int)=n:=by rw [IntKind.wrap_i64];omega
 have hneg: ¬ ((n:Int) < 0):=by omega
 have hnb:n * i.bytes<=140737488355328:=by rw [hby];rw [Nat.add_mul] at hlen;omega
 have h48i: ¬ (281474976710656 < (n:Int) * (i.bytes:Int)):=by
   rw [<- Int.natCast_mul]
   omega
 have hzc:=AZt h1 n
 have hone':∀ u∈List.replicate n z,u.oneCell'=true:=fun u hu'=>by
   have:=(List.mem_replicate.1 hu').2
   subst this
   cases u <;> first | rfl | cases h1
 by_cases hroom:l.length + n<=cap
 ·have hst:=run_storeCells_at P g (l.length * i.size) el (List.replicate n z) 0 cur w hg (by simp [Aa,hcs];omega) hone';simp only [Nat.add_zero] at hst
  have hr:(Builtin.append_ #[t,tn] ty #[.slice (some ⟨g,0,none⟩) l.length cap,.int k (n:Int)]).run P w= .ok (.slice (some ⟨g,0,none⟩) (l.length + n) cap) (w.setRow g (cur.toList.take (l.length * i.size) ++ List.replicate n z ++ cur.toList.drop (l.length * i.size + (List.replicate n z).length)).toArray):=by
    simp [Builtin.append_,AI7 hu,AI7 hN,run_underlying hu,run_underlying hN,sizeOf,typeInfo,hi,asInt,asIntOf,hw,hneg,h48i,hroom,Aa,hnn,zeroValue,hzz,hzc,Addr.add_lit]
    have hst':=hst
    simp [Aa] at hst'
    simp [Addr.add,hst']
  have hrun:(execOp e.ev ⟨some d,.call ⟨.builtin .append,#[s,x],#[t,tn]⟩,ty,pos,af,none⟩).run P w= .ok (.value (.slice (some ⟨g,0,none⟩) (l.length + n) cap)) (w.setRow g (cur.toList.take (l.length * i.size) ++ List.replicate n z ++ cur.toList.drop (l.length * i.size + (List.replicate n z).length)).toArray):=by
    simp only [execOp,resolve,invoke,builtin]
    simp [hs,hx,hr]
  rw [hrun];refine ⟨⟨rfl,rfl,rfl⟩,H _ g _ ?_ (.inl rfl) ?_ ?_⟩
  ·refine ⟨cap,_,AAx,setRow_heap w g cur _ el (0,0) hg,by simpa using hroom,hcm,?_,?_⟩
   ·simp only [Aa,Nat.mul_one,List.size_toArray,List.length_append,List.length_take,List.length_drop,Array.length_toList,hcs,List.length_replicate];omega
   ·simp only [Aa,Nat.mul_one,ht];exact List.take_left
  ·exact ⟨by simp [World.setRow],fun k hk hne=>setRow_other w g k _ (fun he=>hne he)⟩
  ·exact ⟨_,setRow_heap w g cur _ el (0,0) hg⟩
 ·have hfit:Builtin.nextslicecap (l.length + n) cap * i.bytes<=281474976710656:=by rw [hby];exact growslice_fits Zj hlen
  have hn: ¬ (l.length + n<=cap):=hroom;have h63': ¬ (9223372036854775807 < ((l.length:Int) + (n:Int))):=by omega
  have h48': ¬ (281474976710656 < Builtin.nextslicecap (l.length + n) cap * i.bytes):=by omega
  have hfo:=run_firstCells_some (P:=P) w.drew i.size l.length ⟨g,0,none⟩ l.length cap l (by simp [Aa]) (fun j u hu'=>by
    rw [AEj,Nat.zero_add];exact HO'.cell hu')
  rw [Aa] at hfo
  have hr:(Builtin.append_ #[t,tn] ty #[.slice (some ⟨g,0,none⟩) l.length cap,.int k (n:Int)]).run P w= .ok (.slice (some ⟨w.heap.size,0,none⟩) (l.length + n) (grownCap w (l.length + n) cap el))
      (w.drew.alloc (.cells (l.toArray ++ (List.replicate n z).toArray ++ Builtin.zeroCells z.cells (grownCap w (l.length + n) cap el - (l.length + n))) el)):=by
    simp [Builtin.append_,AI7 hu,AI7 hN,run_underlying hu,run_underlying hN,sizeOf,typeInfo,zeroValue,hi,hzz,asInt,asIntOf,hw,hneg,h48i,hn,h63',h48',Question.forced,hfo,newRow,grownCap,Aa,hnn,hzc]
  have hrun:(execOp e.ev ⟨some d,.call ⟨.builtin .append,#[s,x],#[t,tn]⟩,ty,pos,af,none⟩).run P w= .ok (.value (.slice (some ⟨w.heap.size,0,none⟩) (l.length + n) (grownCap w (l.length + n) cap el)))
      (w.drew.alloc (.cells (l.toArray ++ (List.replicate n z).toArray ++ Builtin.zeroCells z.cells (grownCap w (l.length + n) cap el - (l.length + n))) el)):=by
    simp only [execOp,resolve,invoke,builtin]
    simp [hs,hx,hr]
  rw [hrun];have hzs:z.cells.size=1:=by cases z <;> first | rfl | cases h1
  have hge:=grownCap_ge w (l.length + n) cap el;have hcm':grownCap w (l.length + n) cap el<=maxLen:=grownCap_le_maxLen w _ _ el (by unfold maxLen;omega);refine ⟨⟨rfl,rfl,rfl⟩,H _ w.heap.size _ ?_ (.inr rfl) ?_ ?_⟩
  ·refine ⟨_,_,AAx,heap_alloc_new w.drew _,by simpa using hge,hcm',?_,?_⟩
   ·simp [size_zeroCells,hzs];omega
   ·simp only [Array.toList_append,List.append_assoc];rw [<- List.append_assoc];exact List.take_left
  ·exact (Ext.upd ⟨AAx,fun k hk=>heap_alloc_old w.drew _ k hk⟩)
  ·exact ⟨cur,(heap_alloc_old w.drew _ g (Array.getElem?_eq_some_iff.1 hg).1).trans hg⟩
end
end Go.QF
namespace Go.QF
open Go
section
variable {P:Program} {B:Zs->Prop} {st:Bool} {ops:Array Oper} {rest:List Oper} {e:Env} {h:Zs} {K:Env->Zs->Prop}
variable {d:Nat} {ty:TypeId} {pos:String} {af:Array Edge}
theorem ANj {x y:Operand} {t t2:TypeId} {a b:Nat} (hx:e.ev x= .int .i64 (a:Int)) (hy:e.ev y= .int .i64 (b:Int)) (h1:a + b<=9223372036854775807) (H:RL P B st ops rest (e.set d (.int .i64 ((a + b:Nat):Int))) h K):
    RL P B st ops (⟨some d,.binOp .add t x y t2,ty,pos,af,none⟩ :: rest) e h K:=by
 refine AYa hx hy Zj Zj ?_;rw [<- Int.natCast_add];exact H
end
end Go.QF
namespace Go.QF
open Go
section
variable {P:Program} {B:Zs->Prop} {st:Bool} {ops:Array Oper} {rest:List Oper} {e:Env} {h:Zs} {K:Env->Zs->Prop}
variable {d:Nat} {ty:TypeId} {pos:String} {af:Array Edge}
theorem Akd {x y:Operand} {t t2:TypeId} {a b:Nat} {k:IntKind} (hx:e.ev x= .int k (a:Int)) (hy:e.ev y= .int k (b:Int)) (hb:0 < b) (H:RL P B st ops rest (e.set d (.int k ((a % b:Nat):Int))) h K):
    RL P B st ops (⟨some d,.binOp .rem t x y t2,ty,pos,af,none⟩ :: rest) e h K:=by
 refine AS5 hx hy Zj Zj ?_;rw [<- Int.natCast_emod];exact H
theorem Ap9 {x:Operand} {t t2:TypeId} {k k2:IntKind} {a:Int} (h1:ARx P t k) (h2:ARx P t2 k2) (hx:e.ev x= .int k a) (hw:k2.wrap a=a) (H:RL P B st ops rest (e.set d (.int k2 a)) h K):
    RL P B st ops (⟨some d,.convert t t2 x,ty,pos,af,none⟩ :: rest) e h K:=by
  refine AK3 h1 h2 hx ?_;rw [hw];exact H
end
section
variable {P:Program} {B:Zs->Prop} {st:Bool} {ops:Array Oper} {rest:List Oper} {e:Env} {h:Zs} {K:Env->Zs->Prop}
variable {d:Nat} {ty:TypeId} {pos:String} {af:Array Edge}
end
theorem wrap_small {a:Int} (h0: -9223372036854775808<=a) (h1:a<=9223372036854775807):IntKind.i64.wrap a=a:=by rw [IntKind.wrap_i64];omega
end Go.QF
namespace Go.Proofs.YtdkldlbgcfpglaaGreatDoor
open Go Go.QF
set_option maxRecDepth 100000
def i8V (z:Int):Value:= .int .i8 z
end Go.Proofs.YtdkldlbgcfpglaaGreatDoor
namespace Go.Proofs.YtdkldlbgcfpglaaGreatDoor
open Go Go.QF
open Go.ChangeShapes Go.WideShapes Go.ChangeAt Go.RowKit
set_option maxRecDepth 100000
theorem Ake:Tryz.prog.cellsOf 179=1:=by kernel_rfl
theorem Akf:Tryz.prog.cellsOf 5=1:=by kernel_rfl
theorem Akg:Tryz.prog.cellsOf 22=1:=by kernel_rfl
theorem wf_i8 {z:Int} (h:(Lit.int .i8 z).wf=true): -128<=z/\z<=127:=by
 simp [Lit.wf,IntKind.min,IntKind.max,IntKind.bits,IntKind.signed] at h;omega
theorem wf_u8 {z:Int} (h:(Lit.int .u8 z).wf=true):0<=z/\z<=255:=by
 simp [Lit.wf,IntKind.min,IntKind.max,IntKind.bits,IntKind.signed] at h;omega
theorem Akh {H:Type} {enc:TypeId × Value->H} {W:World} {fuel:Nat} {v:Value} {x:DataW H × List MemPlace} (hf:DataW.trod enc Tryz.prog W 0 (fun _=>true) true fuel 22 [v]=some x):∃ Z:List Int,Sl W.heap v (Z.map i8V)/\ ∀ z∈Z,-128<=z/\z<=127:=by
 rcases open_ints Tryz.underlying22 Tryz.underlying179 Ake hf with ⟨hcs,_⟩ | ⟨a,len,cap,zs,hcs,_,hl,_,hz,_,hcell,hwz⟩
 ·simp at hcs;subst hcs;exact ⟨[],Aju _,fun z hz=>by cases hz⟩
 ·simp at hcs;subst hcs;simp only [if_true] at hz;refine ⟨zs.take len,Ac1 (by simp;omega) (fun h=>by cases h) fun a' ha i x hx=>?_,fun z hz'=>wf_i8 (hwz z (List.mem_of_mem_take hz'))⟩;injection ha with ha;subst ha;have hi:i < len:=by have:=(List.getElem?_eq_some_iff.1 hx).1;simp at this;omega
  rw [hcell i Zj];rw [List.getElem?_map,List.getElem?_take,if_pos hi,List.getElem?_eq_getElem Zj] at hx;simp only [Option.map_some,Option.some.injEq] at hx;rw [<- hx,List.getD_eq_getElem?_getD,List.getElem?_eq_getElem Zj];rfl
end Go.Proofs.YtdkldlbgcfpglaaGreatDoor
namespace Go.QF
open Go
def ACr (t:Nat) (h:Zs) (b:Nat) (l:List Value):Prop:=h[b]? =some (.cells l.toArray t (0,0))
theorem ACr.lt {t:Nat} {h:Zs} {b:Nat} {l:List Value} (H:ACr t h b l):b < h.size:=(Array.getElem?_eq_some_iff.1 H).1
theorem ACr.cell {t:Nat} {h:Zs} {b:Nat} {l:List Value} (H:ACr t h b l) {i:Nat} {u:Value} (hu:l[i]? =some u):ADv h ⟨b,i,none⟩=some u:=by
 unfold ACr at H;simp [ADv,H,hu]
theorem ACr.free {t:Nat} {h:Zs} {b:Nat} {l:List Value} (H:ACr t h b l) (i:Nat):ARw h ⟨b,i,none⟩=false:=by
 unfold ACr at H;simp [ARw,H]
theorem ACr.agg {t:Nat} {h:Zs} {b:Nat} {l:List Value} (H:ACr t h b l):∀ i u,l[i]? =some u->ADv h ((⟨b,0,none⟩:Addr).add i)=some u:=by
 intro i u hu;rw [AEj,Nat.zero_add];exact H.cell hu
theorem ACr.upd {S:Nat->Prop} {t:Nat} {h h':Zs} {b:Nat} {l:List Value} (H:ACr t h b l) (hU:Upd S h h') (hS: ¬ S b):ACr t h' b l:=(hU.2 b H.lt hS).trans H
theorem ACr.ext {t:Nat} {h h':Zs} {b:Nat} {l:List Value} (H:ACr t h b l) (hE:Ext h h'):ACr t h' b l:=(hE.2 b H.lt).trans H
theorem ACr.set {t:Nat} {h:Zs} {b:Nat} {l:List Value} (H:ACr t h b l) (i:Nat) (y:Value):ACr t (AUe h ⟨b,i,none⟩ y) b (l.set i y):=by
 unfold ACr at H ⊢;simp only [AUe,Array.getElem?_modify,if_true,H,Option.map_some];simp
def SlK (h:Zs) (k:Nat) (v:Value) (L:List (List Value)):Prop:= ∃ a cap,v= .slice a L.length cap/\ ∀ i row,L[i]? =some row-> ∃ b o,a=some ⟨b,o,none⟩/\ ∀ j x,row[j]? =some x->ADv h ⟨b,o + i * k + j,none⟩=some x
theorem SlK.ext {h h':Zs} {k:Nat} {v:Value} {L:List (List Value)} (H:SlK h k v L) (he:Ext h h'):SlK h' k v L:=by
 obtain ⟨a,cap,hv,hc⟩:=H;exact ⟨a,cap,hv,fun i r hr=>let ⟨b,o,ha,hx⟩:=hc i r hr;⟨b,o,ha,fun j x hj=>AAu (hx j x hj) he⟩⟩
theorem Agh (h:Zs) (k:Nat):SlK h k (.slice none 0 0) []:=⟨none,0,rfl,fun i x hx=>by simp at hx⟩
def AH6 (h:Zs) (el k g:Nat) (v:Value) (L:List (List Value)):Prop:=
  ∃ cap cur,v= .slice (some ⟨g,0,none⟩) L.length cap/\h[g]? =some (.cells cur el (0,0))/\L.length<=cap/\cap<=maxLen/\cur.size=cap * k/\(∀ r∈L,r.length=k)/\cur.toList.take (L.length * k)=L.flatten
theorem AGo {k:Nat}:∀ {L:List (List Value)},(∀ r∈L,r.length=k)->L.flatten.length=L.length * k:=by
 intro L
 induction L with
 | nil=>intro _;simp
 | cons r L ih=>intro h;simp [h r (List.mem_cons_self ..),ih fun r hr=>h r (List.mem_cons_of_mem _ hr),Nat.add_mul,Nat.add_comm]
theorem ATa {k:Nat}:∀ {L:List (List Value)} {i j:Nat} {r:List Value} {x:Value},(∀ r∈L,r.length=k)->L[i]? =some r->r[j]? =some x->L.flatten[i * k + j]? =some x:=by
 intro L
 induction L with
 | nil=>intro i j r x _ h;simp at h
 | cons s L ih=>
   intro i j r x h hi hj
   have hs:=h s (List.mem_cons_self ..)
   cases i with
   | zero=>
     simp at hi;subst hi
     have hjl:=(List.getElem?_eq_some_iff.1 hj).1
     rw [List.flatten_cons,Nat.zero_mul,Nat.zero_add,List.getElem?_append_left hjl];exact hj
   | succ i=>
     simp only [List.getElem?_cons_succ] at hi
     have:=ih (fun r hr=>h r (List.mem_cons_of_mem _ hr)) hi hj
     rw [List.flatten_cons,List.getElem?_append_right (by rw [hs,Nat.add_mul];omega),hs,show (i + 1) * k + j - k=i * k + j by rw [Nat.add_mul];omega]
     exact this
theorem AH6.lt {h:Zs} {el k g:Nat} {v:Value} {L:List (List Value)} (H:AH6 h el k g v L):g < h.size:=by
 obtain ⟨cap,cur,_,hg,_⟩:=H;exact (Array.getElem?_eq_some_iff.1 hg).1
theorem AH6.blk {h:Zs} {el k g:Nat} {v:Value} {L:List (List Value)} (H:AH6 h el k g v L):v.ownBlock=some g:=by
 obtain ⟨cap,cur,rfl,_⟩:=H;rfl
theorem AH6.cell {h:Zs} {el k g:Nat} {v:Value} {L:List (List Value)} (H:AH6 h el k g v L) {i j:Nat} {r:List Value} {x:Value} (hr:L[i]? =some r) (hx:r[j]? =some x):ADv h ⟨g,i * k + j,none⟩=some x:=by
 obtain ⟨cap,cur,_,hg,_,_,_,hk,ht⟩:=H;have h1:=ATa hk hr hx;have hi:=(List.getElem?_eq_some_iff.1 h1).1;rw [AGo hk] at hi;rw [<- ht,List.getElem?_take,if_pos hi] at h1;simp only [ADv,hg];simpa using h1
theorem AH6.free {h:Zs} {el k g:Nat} {v:Value} {L:List (List Value)} (H:AH6 h el k g v L) (i:Nat):ARw h ⟨g,i,none⟩=false:=by
 obtain ⟨cap,cur,_,hg,_⟩:=H;simp [ARw,hg]
theorem AH6.sl {h:Zs} {el k g:Nat} {v:Value} {L:List (List Value)} (H:AH6 h el k g v L):SlK h k v L:=by
 have H':=H;obtain ⟨cap,cur,hv,_⟩:=H;exact ⟨_,cap,hv,fun i r hr=>⟨g,0,rfl,fun j x hx=>by rw [Nat.zero_add];exact H'.cell hr hx⟩⟩
theorem AH6.congr {h h':Zs} {el k g:Nat} {v:Value} {L:List (List Value)} (H:AH6 h el k g v L) (he:h'[g]? =h[g]?):AH6 h' el k g v L:=by
 obtain ⟨cap,cur,hv,hg,r⟩:=H;exact ⟨cap,cur,hv,he.trans hg,r⟩
theorem AH6.ext {h h':Zs} {el k g:Nat} {v:Value} {L:List (List Value)} (H:AH6 h el k g v L) (he:Ext h h'):AH6 h' el k g v L:=H.congr (he.2 g H.lt)
theorem AH6.upd {S:Nat->Prop} {h h':Zs} {el k g:Nat} {v:Value} {L:List (List Value)} (H:AH6 h el k g v L) (he:Upd S h h') (hS: ¬ S g):AH6 h' el k g v L:=H.congr (he.2 g H.lt hS)
theorem Aki {k:Nat}:∀ {L:List (List Value)} {i j:Nat} {r:List Value} (y:Value),(∀ r∈L,r.length=k)->L[i]? =some r->j < k->(L.set i (r.set j y)).flatten=L.flatten.set (i * k + j) y:=by
 intro L
 induction L with
 | nil=>intro i j r y _ h;simp at h
 | cons s L ih=>
   intro i j r y h hi hj
   have hs:=h s (List.mem_cons_self ..)
   cases i with
   | zero=>
     simp at hi;subst hi
     simp only [List.set_cons_zero,List.flatten_cons,Nat.zero_mul,Nat.zero_add]
     rw [List.set_append_left _ _ Zj]
   | succ i=>
     simp only [List.getElem?_cons_succ] at hi
     have:=ih y (fun r hr=>h r (List.mem_cons_of_mem _ hr)) hi hj
     simp only [List.set_cons_succ,List.flatten_cons]
     rw [this,List.set_append_right _ _ (by rw [hs,Nat.add_mul];omega),hs,show (i + 1) * k + j - k=i * k + j by rw [Nat.add_mul];omega]
theorem AH6.set {h:Zs} {el k g:Nat} {v:Value} {L:List (List Value)} (H:AH6 h el k g v L) {i j:Nat} {r:List Value} (y:Value) (hr:L[i]? =some r) (hj:j < k):AH6 (AUe h ⟨g,i * k + j,none⟩ y) el k g v (L.set i (r.set j y)):=by
 obtain ⟨cap,cur,hv,hg,hl,hm,hs,hk,ht⟩:=H;have hrk:=hk r (List.mem_of_getElem? hr);refine ⟨cap,cur.setIfInBounds (i * k + j) y,by rw [List.length_set];exact hv,?_,by rw [List.length_set];exact hl,hm,by simp [hs],?_,?_⟩
 ·simp only [AUe,Array.getElem?_modify,if_true,hg,Option.map_some];rfl
 ·intro q hq;rcases List.mem_or_eq_of_mem_set hq with hq | rfl
  ·exact hk q hq
  ·rw [List.length_set];exact hrk
 ·rw [List.length_set,Array.toList_setIfInBounds,List.take_set,ht,Aki y hk hr hj]
def Akj (h:Zs) (el k lo:Nat) (v:Value) (L:List (List Value)):Prop:=(L=[]/\v= .slice none 0 0)∨ ∃ g,lo<=g/\AH6 h el k g v L
theorem AZ8:∀ (l pre old:List Value),old.length=l.length->((l.zipIdx pre.length).foldl (fun (cs:Array Value) (x:Value × Nat)=>cs.setIfInBounds (0 + x.2) x.1) (pre ++ old).toArray)=(pre ++ l).toArray:=by
 intro l
 induction l with
 | nil=>intro pre old h;obtain rfl:old=[]:=List.eq_nil_of_length_eq_zero h;simp
 | cons v l ih=>
   intro pre old h
   cases old with
   | nil=>simp at h
   | cons o old=>
     have:=ih (pre ++ [v]) old (by simpa using h)
     simp only [List.zipIdx_cons,List.foldl_cons]
     rw [show (pre ++ o :: old).toArray.setIfInBounds (0 + pre.length) v=(pre ++ [v] ++ old).toArray by simp]
     rw [List.length_append,List.length_cons,List.length_nil,Nat.zero_add] at this
     rw [this]
     simp
section
variable {P:Program} {B:Zs->Prop} {st:Bool} {ops:Array Oper} {rest:List Oper} {e:Env} {h:Zs} {K:Env->Zs->Prop}
variable {d d':Nat} {ty ty':TypeId} {pos pos':String} {af af':Array Edge}
theorem AH7 {x:Operand} {t:Nat} {v:Value} (l:List Value) (hbB:∀ h',B h') (hx:e.ev x=v) (hl:v.cells=l.toArray) (H:∀ b h',ACr t h' b l->Ext h h'->h.size<=b->b < h'.size->RL P B st ops rest (e.set d (.pointer (some ⟨b,0,none⟩))) h' K):
    RL P B st ops (⟨some d,.box t x,ty,pos,af,none⟩ :: rest) e h K:=by
  refine Ap4 (hbB _) hx ⟨hbB _,?_⟩;exact H h.size _ (by unfold ACr;rw [hl];simp) (ACy _ _) (Nat.le_refl _) AAx
theorem AFq {t bytes:Nat} {z:Value} (l:List Value) (hz:ZeT P t z bytes) (hl:z.cells=l.toArray) (hbB:∀ h',B h') (H:∀ b h',ACr t h' b l->Ext h h'->h.size<=b->b < h'.size->RL P B st ops rest (e.set d (.pointer (some ⟨b,0,none⟩))) h' K):
    RL P B st ops (⟨some d,.alloc t,ty,pos,af,none⟩ :: rest) e h K:=by
  refine Agf hz (hbB _) ⟨hbB _,?_⟩;exact H h.size _ (by unfold ACr;rw [hl];simp) (ACy _ _) (Nat.le_refl _) AAx
theorem AOo {x y:Operand} {t tb b i:Nat} {u:Value} {l:List Value} (l':List Value) (ht:NaT P t) (hx:e.ev x= .pointer (some ⟨b,i,none⟩)) (hy:e.ev y=u) (h1:isOne u=true) (HB:ACr tb h b l) (hi:i < l.length) (hl:l.set i u=l')
    (H:∀ h',ACr tb h' b l'->Upd (· =b) h h'->RL P B st ops rest e h' K):RL P B st ops (⟨none,.store t x y,ty,pos,af,none⟩ :: rest) e h K:=
  Ano ht hx hy h1 (HB.cell (List.getElem?_eq_getElem hi)) (HB.free i) (H _ (hl ▸ HB.set i u) (ANw _ _ _))
theorem Ae6 {b t:Nat} {w:World} {l l':List Value} (HB:ACr t w.heap b l) (hl:l'.length=l.length) (h1:∀ u∈l',isOne u=true):∃ w',(storeCells ⟨b,0,none⟩ l').run P w= .ok () w'/\w'.tape=w.tape/\w'.os=w.os/\w'.output=w.output/\ACr t w'.heap b l'/\Upd (· =b) w.heap w'.heap:=by
 have hone':∀ u∈l',u.oneCell'=true:=fun u hu'=>by have:=h1 u hu';cases u <;> first | rfl | cases this
 have:=run_storeCells_at P b 0 t l' 0 l.toArray w HB (by simp [hl]) hone';refine ⟨_,this,rfl,rfl,rfl,?_,?_⟩
 ·unfold ACr;rw [setRow_heap w b l.toArray _ t (0,0) HB];simp [hl]
 ·exact ⟨by simp [World.setRow],fun k hk hne=>setRow_other w b k _ (fun he=>hne he)⟩
theorem AB3 {x y:Operand} {t tb b s:Nat} {l:List Value} (l':List Value) (ht:AgT P t s) (hl':l'.length=s) (hl:l.length=s) (hx:e.ev x= .pointer (some ⟨b,0,none⟩)) (hy:e.ev y= .agg l'.toArray) (h1:∀ u∈l',isOne u=true) (HB:ACr tb h b l)
    (H:∀ h',ACr tb h' b l'->Upd (· =b) h h'->RL P B st ops rest e h' K):RL P B st ops (⟨none,.store t x y,ty,pos,af,none⟩ :: rest) e h K:=by
  refine Aqt rfl rfl fun w hw=>?_;subst hw;obtain ⟨_,i,hi,hsz⟩:=ht;obtain ⟨w',hr,ht',ho',hu',HB',hU⟩:=Ae6 (P:=P) HB (hl'.trans hl.symm) h1
  have hrun:(execOp e.ev ⟨none,.store t x y,ty,pos,af,none⟩).run P w= .ok .skip w':=by
    simp only [execOp,Instr.storeAt,hx,Instr.sureAddr,hy];simp [storeVar,ANg hi,Value.cells,hsz,hl',hr]
  rw [hrun];exact ⟨⟨ho',ht',hu'⟩,H _ HB' hU⟩
theorem AEu {x:Operand} {t f off ft fs b o:Nat} (hf:FdT P t f off ft) (hs:(P.info? ft).map (·.size)=some fs) (hfs:fs≠0) (hx:e.ev x= .pointer (some ⟨b,o,none⟩)) (H:RL P B st ops rest (e.set d (.pointer (some ⟨b,o + off,none⟩))) h K):
    RL P B st ops (⟨some d,.fieldAddr t x f,ty,pos,af,none⟩ :: rest) e h K:=by
  refine Auc hf hs hfs hx ?_;rw [AEj];exact H
theorem Atd {t el bytes s:Nat} {z:Value} {y:Operand} (l:List Value) (hT:SlT P t el s) (hz:ZeT P el z bytes) (hb:B h) (hy:e.ev y= .agg l.toArray) (hl:l.length=s) (hs1:0 < s) (hs2:s<=1000)
    (H:B (h.push (.cells l.toArray el (0,0)))/\RL P B st ops rest (e.set d (.slice (some ⟨h.size,0,none⟩) 1 1)) (h.push (.cells l.toArray el (0,0))) K):
    RL P B st ops (⟨some d,.buildSlice t 1 #[(0,y)],ty,pos,af,none⟩ :: rest) e h K:=by
  refine AMn rfl rfl hb fun w hw=>?_;subst hw;obtain ⟨hu,i0,hi0,hs0⟩:=hT;obtain ⟨i,hi,hzz,hsz,hby⟩:=hz;rw [hi] at hi0;injection hi0 with hi0;subst hi0;have h3: ¬ (1 * i.size > 2 ^ 24):=by rw [hs0];omega
  have h4: ¬ (1 * i.size=0):=by rw [hs0];omega
  have hfill:Instr.fill (fun j=>some (j * i.size,i.size)) ((Array.range (1 * i.size)).map (z.cells[· % z.cells.size]!)) [(0,.agg l.toArray)]=some l.toArray:=by
    have hvc:(Value.agg l.toArray).cells=l.toArray:=rfl;generalize z.cells=zc;simp only [Instr.fill,hvc,List.size_toArray,hl,hs0];rw [if_neg AAx];congr 1;obtain ⟨old,ho⟩:∃ old:List Value,((Array.range (1 * s)).map (zc[· % zc.size]!))=old.toArray:=⟨_,(Array.toArray_toList).symm⟩;have hol:old.length=l.length:=by have:=congrArg Array.size ho;simp at this;omega
    rw [ho];have:=AZ8 l [] old hol;simp only [List.nil_append,List.length_nil] at this;simp only [Nat.zero_mul];rw [<- Array.foldl_toList];simp only [Array.toList_zipIdx];exact this
  have:(execOp e.ev ⟨some d,.buildSlice t 1 #[(0,y)],ty,pos,af,none⟩).run P w= .ok (.value (.slice (some ⟨w.heap.size,0,none⟩) 1 1)) (w.alloc (.cells l.toArray el)):=by
    simp only [execOp,List.map_toArray,List.map,hy];simp only [Instr.buildSlice,Sem.run_bind,AI7 hu,Result.andThen,ANg hi,if_neg h3,if_neg h4,Acu hi hzz];have hp1:Sem.run P (pure z.cells:Sem (Array Value)) w= .ok z.cells w:=rfl;simp only [hp1];rw [hfill];simp [newRow]
  rw [this];exact ⟨⟨rfl,rfl,rfl⟩,H⟩
theorem Akk (h:Zs) (el k:Nat) (l:List Value) (hl:l.length=k):AH6 (h.push (.cells l.toArray el (0,0))) el k h.size (.slice (some ⟨h.size,0,none⟩) 1 1) [l]:=
  ⟨1,l.toArray,rfl,AAx,AAx,by simp [maxLen],by simp [hl],by simpa using hl,by simp [<- hl]⟩
theorem AUv {op:BinOp} {x y:Operand} {t t2:TypeId} {k:IntKind} {a b c:Int} (hx:e.ev x= .int k a) (hy:e.ev y= .int k b) (hop:op= .and∨op= .or∨op= .xor∨op= .andNot) (hv:∀ w,(Op.intBits op k a b).run P w= .ok (.int k c) w) (H:RL P B st ops rest (e.set d (.int k c)) h K):
    RL P B st ops (⟨some d,.binOp op t x y t2,ty,pos,af,none⟩ :: rest) e h K:=
  AEi (v:= .int k c) rfl rfl (fun w=>by
    rcases hop with rfl | rfl | rfl | rfl <;> simp [execOp,hx,hy,eqGuard,binOp,hv]) H
theorem AZ9 {x y:Operand} {t t2:TypeId} {k k':IntKind} {a:Int} {n:Nat} (hx:e.ev x= .int k a) (hy:e.ev y= .int k' (n:Int)) (hn:n<=k.bits) (H:RL P B st ops rest (e.set d (.int k (k.wrap (a * 2 ^ n)))) h K):
    RL P B st ops (⟨some d,.binOp .shl t x y t2,ty,pos,af,none⟩ :: rest) e h K:=
  AEi (v:= .int k (k.wrap (a * 2 ^ n))) rfl rfl (fun w=>by
    have h1: ¬ ((n:Int) < 0):=by omega
    have h2:min n k.bits=n:=by omega
    simp [execOp,hx,hy,eqGuard,binOp,Op.shift,h1,h2]) H
theorem AYj {x y:Operand} {t t2:TypeId} {k k':IntKind} {a:Int} {n:Nat} (hx:e.ev x= .int k a) (hy:e.ev y= .int k' (n:Int)) (hn:n<=k.bits) (H:RL P B st ops rest (e.set d (.int k (a / 2 ^ n))) h K):
    RL P B st ops (⟨some d,.binOp .shr t x y t2,ty,pos,af,none⟩ :: rest) e h K:=
  AEi (v:= .int k (a / 2 ^ n)) rfl rfl (fun w=>by
    have h1: ¬ ((n:Int) < 0):=by omega
    have h2:min n k.bits=n:=by omega
    have h3:a.fdiv (2 ^ n)=a / 2 ^ n:=Int.fdiv_eq_ediv_of_nonneg _ (Int.le_of_lt (Int.pow_pos Zj))
    simp [execOp,hx,hy,eqGuard,binOp,Op.shift,h1,h2,h3]) H
theorem AYk {t:TypeId} {a b:Bool} (ht:P.underlying t=some .bool) (w:World):(Op.equal t (.bool a) (.bool b)).run P w= .ok (a == b) w:=by
 show (Op.equalIn (9999 + 1) t _ _).run P w=_;rw [Op.equalIn];simp [AI7 ht]
theorem Ac5 {x y:Operand} {t t2:TypeId} {a b:Bool} (ht:P.underlying t=some .bool) (hx:e.ev x= .bool a) (hy:e.ev y= .bool b) (H:RL P B st ops rest (e.set d (.bool (a == b))) h K):
    RL P B st ops (⟨some d,.binOp .eql t x y t2,ty,pos,af,none⟩ :: rest) e h K:=
  AEi (v:= .bool (a == b)) rfl rfl (fun w=>by
    simp [execOp,hx,hy,eqGuard,binOp,AYk ht]) H
theorem AYl {x y:Operand} {t t2:TypeId} {a b:Bool} (ht:P.underlying t=some .bool) (hx:e.ev x= .bool a) (hy:e.ev y= .bool b) (H:RL P B st ops rest (e.set d (.bool (!(a == b)))) h K):
    RL P B st ops (⟨some d,.binOp .neq t x y t2,ty,pos,af,none⟩ :: rest) e h K:=
  AEi (v:= .bool (!(a == b))) rfl rfl (fun w=>by
    simp [execOp,hx,hy,eqGuard,binOp,AYk ht]) H
theorem Aqa {x y:Operand} {t t2:TypeId} {a b:Array Value} {r:Bool} (hg:P.eqGuardType P.depth t=false) (hx:e.ev x= .agg a) (hy:e.ev y= .agg b) (hv:∀ w,(Op.equal t (.agg a) (.agg b)).run P w= .ok r w) (H:RL P B st ops rest (e.set d (.bool !r)) h K):
    RL P B st ops (⟨some d,.binOp .neq t x y t2,ty,pos,af,none⟩ :: rest) e h K:=
  AEi (v:= .bool !r) rfl rfl (fun w=>by
    simp [execOp,hx,hy,eqGuard,binOp,hv,hg]) H
end
theorem AVc {P:Program} {t:TypeId} {cs:Array Value} {off:Nat} {v:Value} (ht:NaT P t) (hv:cs[off]? =some v) (w:World):(part t cs off).run P w= .ok v w:=by
 obtain ⟨⟨d,hd,hna⟩,_⟩:=ht;have h2:=Age (P:=P) hd w;rw [hna] at h2;simp [part,h2,hv]
theorem AWg {P:Program} {t:TypeId} {k:IntKind} {a b:Int} (ht:ARx P t k) (w:World):(Op.equalIn 9999 t (.int k a) (.int k b)).run P w= .ok (a == b) w:=by
 show (Op.equalIn (9998 + 1) t _ _).run P w=_;unfold ARx at ht;rw [Op.equalIn];simp [AI7 ht]
theorem Ae7 {P:Program} {t:TypeId} {a b:Bool} (ht:P.underlying t=some .bool) (w:World):(Op.equalIn 9999 t (.bool a) (.bool b)).run P w= .ok (a == b) w:=by
 show (Op.equalIn (9998 + 1) t _ _).run P w=_;rw [Op.equalIn];simp [AI7 ht]
theorem AMq {P:Program} {t s:Nat} (ht:AgT P t s) {a:Addr} {l:List Value} (hl:l.length=s) (w:World) (hc:∀ i u,l[i]? =some u->ADv w.heap (a.add i)=some u):(loadVar t a).run P w= .ok (.agg l.toArray) w:=by
 obtain ⟨⟨dd,hd,hag⟩,i,hi,hsz⟩:=ht;have h1:=run_loadCells (P:=P) (a:=a) (w:=w) l 0 #[] (fun i u hu=>by rw [Nat.zero_add];exact hc i u hu);rw [hl,<- hsz] at h1;have h2:=Age (P:=P) hd w;rw [hag] at h2;simp [loadVar,h2,ANg hi,loadCells,h1]
theorem AB9 {P:Program} {e:Env} {h:Zs} {t:Tmp} {ty s tb b:Nat} {l:List Value} (ht:AgT P ty s) (hl:l.length=s) (he:e t= .pointer (some ⟨b,0,none⟩)) (HB:ACr tb h b l):Aa3 P [.cell t ty] e h (.agg l.toArray):=
  fun fn tmps w hr hg hw=>by
    have h1:tmps[t]?.getD undef= .pointer (some ⟨b,0,none⟩):=by rw [<- Array.getD_eq_getD_getElem?,hg];exact he
    have h2:=AMq ht hl w (a:=⟨b,0,none⟩) (by rw [hw];exact HB.agg)
    simp only [results,hr]
    simp [h1,asAddr,h2]
theorem AQc {P:Program} {e:Env} {h:Zs} {t u:Tmp} {ty s tb b:Nat} {l:List Value} (ht:AgT P ty s) (hl:l.length=s) (he:e t= .pointer (some ⟨b,0,none⟩)) (HB:ACr tb h b l):Aa3 P [.cell t ty,.tmp u] e h (.tuple #[.agg l.toArray,e u]):=
  fun fn tmps w hr hg hw=>by
    have h1:tmps[t]?.getD undef= .pointer (some ⟨b,0,none⟩):=by rw [<- Array.getD_eq_getD_getElem?,hg];exact he
    have h2:=AMq ht hl w (a:=⟨b,0,none⟩) (by rw [hw];exact HB.agg)
    rw [<- hg u]
    simp only [results,hr]
    simp [h1,asAddr,h2]
theorem AMr {P:Program} {e:Env} {h:Zs} {t t2 u:Tmp} {ty Ad s s2 tb Ae b b2:Nat} {l l2:List Value} (ht:AgT P ty s) (hl:l.length=s) (he:e t= .pointer (some ⟨b,0,none⟩)) (HB:ACr tb h b l) (Af:AgT P Ad s2) (Ag:l2.length=s2) (Ah:e t2= .pointer (some ⟨b2,0,none⟩)) (Ai:ACr Ae h b2 l2):Aa3 P [.cell t ty,.cell t2 Ad,.tmp u] e h (.tuple #[.agg l.toArray,.agg l2.toArray,e u]):=
  fun fn tmps w hr hg hw=>by
    have h1:tmps[t]?.getD undef= .pointer (some ⟨b,0,none⟩):=by rw [<- Array.getD_eq_getD_getElem?,hg];exact he
    have h3:tmps[t2]?.getD undef= .pointer (some ⟨b2,0,none⟩):=by rw [<- Array.getD_eq_getD_getElem?,hg];exact Ah
    have h2:=AMq ht hl w (a:=⟨b,0,none⟩) (by rw [hw];exact HB.agg)
    have h4:=AMq Af Ag w (a:=⟨b2,0,none⟩) (by rw [hw];exact Ai.agg)
    rw [<- hg u]
    simp only [results,hr]
    simp [h1,h3,asAddr,h2,h4]
end Go.QF
namespace Go.QF
open Go
def AL9 (v:Value):Prop:= ∃ a n c,v= .slice a n c/\n<=c
theorem AWh:AL9 (.slice none 0 0):=⟨_,_,_,rfl,Nat.le_refl _⟩
theorem AC4.cap {h:Zs} {el g:Nat} {v:Value} {l:List Value} (H:AC4 h el g v l):AL9 v:=by
 obtain ⟨cap,cur,rfl,_,hl,_⟩:=H;exact ⟨_,_,_,rfl,hl⟩
theorem Sl.drop {h:Zs} {a:Option Addr} {n cap k:Nat} {l:List Value} (H:Sl h (.slice a n cap) l) (hk:k<=n) (hc:n<=cap):
    Sl h (.slice (if cap=k then a else a.map (·.add (k * 1))) (n - k) (cap - k)) (l.drop k):=by
 obtain ⟨a',c',hv,hx⟩:=H;injection hv with ha hl hcap;subst ha;refine ⟨_,_,by rw [List.length_drop,hl],fun i x hi=>?_⟩;rw [List.getElem?_drop] at hi;have hil:=(List.getElem?_eq_some_iff.1 hi).1;obtain ⟨b,o,ha,hcell⟩:=hx _ _ hi;refine ⟨b,o + k,?_,by rw [Nat.add_assoc];exact hcell⟩;rw [if_neg Zj,ha];simp [Addr.add]
theorem Mat.drop {h:Zs} {a:Option Addr} {n cap k:Nat} {M:List (List Int)} (H:Mat h (.slice a n cap) M) (hk:k<=n) (hc:n<=cap):
    Mat h (.slice (if cap=k then a else a.map (·.add (k * 1))) (n - k) (cap - k)) (M.drop k):=by
 obtain ⟨rs,h1,h2,h3⟩:=H;refine ⟨rs.drop k,h1.drop hk hc,by simp [h2],fun i r z hr hz=>?_⟩;rw [List.getElem?_drop] at hr hz;exact h3 _ r z hr hz
section
variable {P:Program} {B:Zs->Prop} {st:Bool} {ops:Array Oper} {rest:List Oper} {e:Env} {h:Zs} {K:Env->Zs->Prop}
variable {d:Nat} {ty:TypeId} {pos:String} {af:Array Edge}
theorem Aig {x y:Operand} {t el k:Nat} {v:Value} {M:List (List Int)} {kk:IntKind} (hT:SlT P t el 1) (hx:e.ev x=v) (HM:Mat h v M) (hc:AL9 v) (hy:e.ev y= .int kk (k:Int)) (hk:k<=M.length) (H:∀ v',Mat h v' (M.drop k)->AL9 v'->RL P B st ops rest (e.set d v') h K):
    RL P B st ops (⟨some d,.slice t x (some y) none none,ty,pos,af,none⟩ :: rest) e h K:=by
 obtain ⟨a,n,c,rfl,hnc⟩:=hc;obtain ⟨a',c',hv⟩:=HM.len;injection hv with _ hn _;exact Acy hT hx hy Zj hnc (H _ (HM.drop Zj hnc) ⟨_,_,_,rfl,Zj⟩)
end
end Go.QF
namespace Go.QF
open Go
def AN0 (h:Zs) (er ei lo b:Nat) (gs:List Nat) (v:Value) (n:Nat) (Z:List (List Int)):Prop:=AI1 h er ei b gs v n Z/\ ∀ g∈b :: gs,lo<=g
theorem AN0.ext {h h':Zs} {er ei lo b n:Nat} {gs:List Nat} {v:Value} {M:List (List Int)} (H:AN0 h er ei lo b gs v n M) (he:Ext h h'):AN0 h' er ei lo b gs v n M:=⟨H.1.ext he,H.2⟩
theorem AN0.cap {h:Zs} {er ei lo b n:Nat} {gs:List Nat} {v:Value} {M:List (List Int)} (H:AN0 h er ei lo b gs v n M):AL9 v:=let ⟨_,h1,_⟩:=H.1.top;h1.cap
theorem AN0.mat {h:Zs} {er ei lo b:Nat} {gs:List Nat} {v:Value} {M:List (List Int)} (H:AN0 h er ei lo b gs v M.length M):Mat h v M:=Aqy.mat H.1
section
variable {P:Program} {B:Zs->Prop} {st:Bool} {ops:Array Oper} {rest:List Oper} {e:Env} {h:Zs} {K:Env->Zs->Prop}
variable {d:Nat} {ty:TypeId} {pos:String} {af:Array Edge}
theorem Ate {x y:Operand} {t er ei n bytes:Nat} (hT:SlT P t er 1) (hz:ZeT P er (.slice none 0 0) bytes) (hbB:∀ h',B h') (hx:e.ev x= .int .i64 (n:Int)) (hy:e.ev y= .int .i64 (n:Int)) (hby:bytes<=1000) (hn:n<=100000000)
    (H:∀ b v h',AN0 h' er ei h.size b [] v n []->Ext h h'->h.size<=b->b < h'.size->RL P B st ops rest (e.set d v) h' K):
    RL P B st ops (⟨some d,.makeSlice t x y,ty,pos,af,none⟩ :: rest) e h K:=by
  have h1:bytes * n<=1000 * 100000000:=Nat.mul_le_mul hby hn;refine Ajw hT hz rfl (hbB _) hx hy Zj Zj ⟨hbB _,?_⟩;exact H h.size _ _ ⟨Aie h er ei n (by unfold maxLen;omega),AAx⟩ (ACy _ _) (Nat.le_refl _) AAx
theorem Atf {x y:Operand} {t ei n bytes:Nat} (hT:SlT P t ei 1) (hz:ZeT P ei (.int .i64 0) bytes) (hbB:∀ h',B h') (hx:e.ev x= .int .i64 (n:Int)) (hy:e.ev y= .int .i64 (n:Int)) (hby:bytes<=1000) (hn:n<=100000000)
    (H:∀ g v h',AC4 h' ei g v ((List.replicate n (0:Int)).map (.int .i64))->Ext h h'->h.size<=g->g < h'.size->RL P B st ops rest (e.set d v) h' K):
    RL P B st ops (⟨some d,.makeSlice t x y,ty,pos,af,none⟩ :: rest) e h K:=by
  have h1:bytes * n<=1000 * 100000000:=Nat.mul_le_mul hby hn;refine Ajw hT hz rfl (hbB _) hx hy Zj Zj ⟨hbB _,?_⟩;exact H h.size _ _ (Aka h ei n 0 (by unfold maxLen;omega)) (ACy _ _) (Nat.le_refl _) AAx
theorem Anv {x i:Operand} {t el er ei lo b n:Nat} {gs:List Nat} {v:Value} {Z:List (List Int)} {k:IntKind} {j:Nat} (hT:SlT P t el 1) (hx:e.ev x=v) (HP:AN0 h er ei lo b gs v n Z) (hi:e.ev i= .int k (j:Int)) (hj:j < n)
    (H:RL P B st ops rest (e.set d (.pointer (some ⟨b,j,none⟩))) h K):RL P B st ops (⟨some d,.indexAddr t x i,ty,pos,af,none⟩ :: rest) e h K:=by
  obtain ⟨rs,h1,h2⟩:=HP.1.top;exact AQ4 hT hx h1 hi Zj H
theorem Anw {x y:Operand} {t er ei lo b g n j:Nat} {gs:List Nat} {v r:Value} {Z:List (List Int)} {z:List Int} (ht:NaT P t) (hx:e.ev x= .pointer (some ⟨b,j,none⟩)) (hy:e.ev y=r) (HP:AN0 h er ei lo b gs v n Z) (hj:Z.length=j) (hjn:j < n) (hr:AC4 h ei g r (z.map (.int .i64))) (hg:g ∉ b :: gs) (hlo:lo<=g)
    (H:∀ h',AN0 h' er ei lo b (gs ++ [g]) v n (Z ++ [z])->Upd (· =b) h h'->RL P B st ops rest e h' K):RL P B st ops (⟨none,.store t x y,ty,pos,af,none⟩ :: rest) e h K:=by
  obtain ⟨rs,h1,h2⟩:=HP.1.top;refine Ajv ht hx hy hr.one h1 Zj (H _ ⟨HP.1.push hj hjn hr hg,fun q hq=>?_⟩ (ANw _ _ _));rw [<- List.cons_append] at hq
  rcases List.mem_append.1 hq with hq | hq
  · exact HP.2 q hq
  · rw [List.mem_singleton.1 hq];exact hlo
theorem Atg {x i:Operand} {t el er ei lo b n:Nat} {gs:List Nat} {v:Value} {M:List (List Int)} {z:List Int} {k:IntKind} {j:Nat} (hT:SlT P t el 1) (hx:e.ev x=v) (HP:AN0 h er ei lo b gs v n M) (hi:e.ev i= .int k (j:Int)) (hz:M[j]? =some z)
    (H:∀ a r g,ADv h a=some r->gs[j]? =some g->AC4 h ei g r (z.map (.int .i64))->RL P B st ops rest (e.set d (.pointer (some a))) h K):RL P B st ops (⟨some d,.indexAddr t x i,ty,pos,af,none⟩ :: rest) e h K:=
  Atc hT hx HP.1 hi hz H
theorem Anx {x y:Operand} {t er ei lo b g n i j:Nat} {gs:List Nat} {v r:Value} {M:List (List Int)} {z:List Int} {u:Int} (z':List Int) (ht:NaT P t) (hx:e.ev x= .pointer (some ⟨g,j,none⟩)) (hy:e.ev y= .int .i64 u) (HP:AN0 h er ei lo b gs v n M) (hg:gs[i]? =some g) (hz:M[i]? =some z) (hr:AC4 h ei g r (z.map (.int .i64))) (hj:j < z.length) (hz':z.set j u=z')
    (H:∀ h',AN0 h' er ei lo b gs v n (M.set i z')->Upd (· =g) h h'->lo<=g->RL P B st ops rest e h' K):RL P B st ops (⟨none,.store t x y,ty,pos,af,none⟩ :: rest) e h K:=
  Ajv ht hx hy rfl hr (by simpa using hj) (H _ ⟨hz' ▸ HP.1.setElem hg hz hj u,HP.2⟩ (ANw _ _ _) (HP.2 g (List.mem_cons_of_mem _ (List.mem_of_getElem? hg))))
end
end Go.QF
namespace Go.QF
open Go
def nv:List Nat->Nat
  | []=>0
  | x :: l=>x + 4294967296 * nv l
def Dig (L:List Nat):Prop:= ∀ x∈L,x < 4294967296
def TL (L:List Nat):Prop:= ∀ x,L.getLast?=some x->x≠0
theorem ATv (l m:List Nat):nv (l ++ m)=nv l + 4294967296 ^ l.length * nv m:=by
 induction l with
 | nil=>simp [nv]
 | cons x l ih=>simp only [List.cons_append,nv,ih,List.length_cons,Nat.pow_succ];grind
theorem AJy (l:List Nat) (x:Nat):nv (l ++ [x])=nv l + 4294967296 ^ l.length * x:=by rw [ATv];simp [nv]
theorem ALo {L:List Nat} (h:Dig L):nv L < 4294967296 ^ L.length:=by
 induction L with
 | nil=>simp [nv]
 | cons x l ih=>
   have h1:=h x (List.mem_cons_self ..)
   have h2:=ih fun y hy=>h y (List.mem_cons_of_mem _ hy)
   simp only [nv,List.length_cons,Nat.pow_succ]
   have h3:4294967296 * (nv l + 1)<=4294967296 * 4294967296 ^ l.length:=Nat.mul_le_mul_left _ h2
   rw [Nat.mul_comm (4294967296 ^ l.length)]
   rw [Nat.mul_add,Nat.mul_one] at h3
   omega
theorem AVd {L:List Nat} (h:Dig L) (k:Nat):Dig (L.take k):=fun x hx=>h x (List.mem_of_mem_take hx)
theorem AFx {L:List Nat} (h:TL L) (h0:nv L=0):L=[]:=by
 rcases List.eq_nil_or_concat L with rfl | ⟨l,x,rfl⟩
 ·rfl
 ·rw [List.concat_eq_append,AJy] at h0;have hx:=h x AAx;have:0 < 4294967296 ^ l.length:=Nat.pow_pos Zl;have:=Nat.mul_le_mul_left (4294967296 ^ l.length) (Nat.one_le_iff_ne_zero.2 hx);omega
theorem Akl {L:List Nat} (h:TL L) (hL:L≠[]):4294967296 ^ (L.length - 1)<=nv L:=by
 rcases List.eq_nil_or_concat L with rfl | ⟨l,x,rfl⟩
 ·exact absurd rfl hL
 ·have hx:=h x AAx;rw [List.concat_eq_append,AJy];have h2:=Nat.mul_le_mul_left (4294967296 ^ l.length) (Nat.one_le_iff_ne_zero.2 hx);have h3:(l ++ [x]).length - 1=l.length:=by simp
  rw [h3];omega
def ALx (n:Nat):Value:= .int .u32 (n:Int)
structure DS (h:Zs) (lo:Nat) (v:Value) (L:List Nat):Prop where
  sl:Sl h v (L.map ALx)
  cap:AL9 v
  dig:Dig L
  lo:∀ g,v.ownBlock=some g->lo<=g
  tg:∀ g,v.ownBlock=some g-> ∃ cur off,h[g]? =some (.cells cur 172 off)
theorem DS.ext {h h':Zs} {lo:Nat} {v:Value} {L:List Nat} (H:DS h lo v L) (he:Ext h h'):DS h' lo v L:=⟨H.sl.ext he,H.cap,H.dig,H.lo,fun g hg=>let ⟨cur,off,hx⟩:=H.tg g hg;⟨cur,off,(he.2 g (Array.getElem?_eq_some_iff.1 hx).1).trans hx⟩⟩
theorem DS.updLo {b:Nat} {h h':Zs} {lo:Nat} {v:Value} {L:List Nat} (H:DS h lo v L) (he:Upd (· =b) h h') (hb:b < lo):DS h' lo v L:=
  ⟨H.sl.upd he (fun g hg hs=>by have:=H.lo g hg;have hs':g=b:=hs;omega),H.cap,H.dig,H.lo,fun g hg=>let ⟨cur,off,hx⟩:=H.tg g hg;⟨cur,off,(he.2 g (Array.getElem?_eq_some_iff.1 hx).1 (fun hs=>by have:=H.lo g hg;have hs':g=b:=hs;omega)).trans hx⟩⟩
theorem DS.mono {h:Zs} {lo lo':Nat} {v:Value} {L:List Nat} (H:DS h lo v L) (hl:lo'<=lo):DS h lo' v L:=⟨H.sl,H.cap,H.dig,fun g hg=>Nat.le_trans hl (H.lo g hg),H.tg⟩
theorem AL9.one {v:Value} (H:AL9 v):isOne v=true:=by
 obtain ⟨a,n,c,rfl,_⟩:=H;rfl
theorem AH4 {ng:Bool} {s:Value} (H:AL9 s):∀ u∈[Value.bool ng,s],isOne u=true:=by
 intro u hu;simp only [List.mem_cons,List.not_mem_nil,or_false] at hu;rcases hu with rfl | rfl
 ·rfl
 ·exact H.one
theorem APh (h:Zs) (lo:Nat):DS h lo (.slice none 0 0) []:=⟨by simpa using Aju h,AWh,fun x hx=>by simp at hx,fun g hg=>(by cases hg),fun g hg=>(by cases hg)⟩
theorem AQd {L:List Nat} {i x:Nat} (h:L[i]? =some x):(L.map ALx)[i]? =some (ALx x):=by simp [h]
def sgn (neg:Bool) (n:Nat):Int:=if neg then -(n:Int) else n
theorem AQq:TL []:=fun x hx=>by cases hx
theorem AKk {L:List Nat} (h:TL L) {k:Nat} (hk:nv L < 4294967296 ^ k):L.length<=k:=by
 by_cases hL:L=[]
 ·subst hL;simp
 ·have h1:=Akl h hL;have h2:4294967296 ^ (L.length - 1) < 4294967296 ^ k:=Nat.lt_of_le_of_lt h1 hk;have:=(Nat.pow_lt_pow_iff_right (by decide:1 < 4294967296)).1 h2;omega
structure ZV (h:Zs) (lo:Nat) (v:Value) (z:Int):Prop where
  out:∃ neg s L,v= .agg #[.bool neg,s]/\DS h lo s L/\TL L/\L.length<=100/\z=sgn neg (nv L)
theorem ZV.ext {h h':Zs} {lo:Nat} {v:Value} {z:Int} (H:ZV h lo v z) (he:Ext h h'):ZV h' lo v z:=by
 obtain ⟨n,s,L,h1,h2,h3⟩:=H.out;exact ⟨n,s,L,h1,h2.ext he,h3⟩
theorem ZV.updLo {b:Nat} {h h':Zs} {lo:Nat} {v:Value} {z:Int} (H:ZV h lo v z) (he:Upd (· =b) h h') (hb:b < lo):ZV h' lo v z:=by
 obtain ⟨n,s,L,h1,h2,h3⟩:=H.out;exact ⟨n,s,L,h1,h2.updLo he hb,h3⟩
section
variable {P:Program} {B:Zs->Prop} {st:Bool} {ops:Array Oper} {rest:List Oper} {e:Env} {h:Zs} {K:Env->Zs->Prop}
variable {d:Nat} {ty:TypeId} {pos:String} {af:Array Edge}
theorem Aa7 {x y:Operand} {t el k:Nat} {v:Value} {l:List Value} {kk:IntKind} (hT:SlT P t el 1) (hx:e.ev x=v) (HS:Sl h v l) (hc:AL9 v) (hy:e.ev y= .int kk (k:Int)) (hk:k<=l.length)
    (H:∀ v',Sl h v' (l.take k)->AL9 v'->v'.ownBlock=v.ownBlock->RL P B st ops rest (e.set d v') h K):
    RL P B st ops (⟨some d,.slice t x none (some y) none,ty,pos,af,none⟩ :: rest) e h K:=by
  obtain ⟨a,n,c,rfl,hnc⟩:=hc
  have hn:n=l.length:=by
    obtain ⟨a',c',hv,_⟩:=HS;injection hv with _ h2 _
  refine Aqv hT hx hy Zj (H _ (HS.pre k hk c) ⟨_,_,_,rfl,Zj⟩ ?_);cases a <;> rfl
theorem ABq {x:Operand} {t el s lo:Nat} {v:Value} {L:List Nat} (hT:SlT P t el s) (hx:e.ev x=v) (HI:DS h lo v L) (H:RL P B st ops rest (e.set d (.int .i64 (L.length:Int))) h K):
    RL P B st ops (⟨some d,.call ⟨.builtin .len,#[x],#[t]⟩,ty,pos,af,none⟩ :: rest) e h K:=by
 refine AUq hT hx HI.sl ?_;rw [List.length_map];exact H
theorem AHk {x i:Operand} {t el lo:Nat} {v:Value} {L:List Nat} {u:Nat} {k:IntKind} {n:Nat} (hT:SlT P t el 1) (hx:e.ev x=v) (HS:DS h lo v L) (hi:e.ev i= .int k (n:Int)) (hu:L[n]? =some u) (H:∀ a,ADv h a=some (.int .u32 (u:Int))->RL P B st ops rest (e.set d (.pointer (some a))) h K):RL P B st ops (⟨some d,.indexAddr t x i,ty,pos,af,none⟩ :: rest) e h K:=
  AX9 hT hx HS.sl hi (AQd hu) H
theorem AYm {x y:Operand} {t el n bytes:Nat} (hT:SlT P t el 1) (hz:ZeT P el (.int .u32 0) bytes) (hbB:∀ h',B h') (hx:e.ev x= .int .i64 (n:Int)) (hy:e.ev y= .int .i64 (n:Int)) (hby:bytes<=1000) (hn:n<=100000000)
    (H:∀ g v h',AC4 h' el g v ((List.replicate n 0).map ALx)->Ext h h'->h.size<=g->g < h'.size->RL P B st ops rest (e.set d v) h' K):
    RL P B st ops (⟨some d,.makeSlice t x y,ty,pos,af,none⟩ :: rest) e h K:=by
  have h1:bytes * n<=1000 * 100000000:=Nat.mul_le_mul hby hn;refine Ajw hT hz rfl (hbB _) hx hy Zj Zj ⟨hbB _,?_⟩;refine H h.size _ _ ?_ (ACy _ _) (Nat.le_refl _) AAx;rw [List.map_replicate];exact AS4 h el n (.int .u32 0) (by unfold maxLen;omega)
theorem ASo {x y:Operand} {t er g n u:Nat} {v:Value} {D:List Nat} (D':List Nat) (ht:NaT P t) (hx:e.ev x= .pointer (some ⟨g,n,none⟩)) (hy:e.ev y= .int .u32 (u:Int)) (HO:AC4 h er g v (D.map ALx)) (hn:n < D.length) (hD:D.set n u=D')
    (H:∀ h',AC4 h' er g v (D'.map ALx)->Upd (· =g) h h'->RL P B st ops rest e h' K):RL P B st ops (⟨none,.store t x y,ty,pos,af,none⟩ :: rest) e h K:=by
  have h2:=HO.set n (ALx u) (by simpa using hn);rw [<- List.map_set,hD] at h2;exact Ajv ht hx hy rfl HO (by simpa using hn) (H _ h2 (ANw _ _ _))
theorem AMs {x y:Operand} {t t2:TypeId} {a b:Nat} (hx:e.ev x= .int .u64 (a:Int)) (hy:e.ev y= .int .u64 (b:Int)) (h1:a + b < 18446744073709551616) (H:RL P B st ops rest (e.set d (.int .u64 ((a + b:Nat):Int))) h K):
    RL P B st ops (⟨some d,.binOp .add t x y t2,ty,pos,af,none⟩ :: rest) e h K:=by
 refine AAz hx hy ?_;rw [show IntKind.u64.wrap ((a:Int) + (b:Int))=((a + b:Nat):Int) by simp only [IntKind.wrap,IntKind.bits,IntKind.signed];simp;omega];exact H
theorem Aa8 {x y:Operand} {t t2:TypeId} {a b:Nat} (hx:e.ev x= .int .u64 (a:Int)) (hy:e.ev y= .int .u64 (b:Int)) (h1:a * b < 18446744073709551616) (H:RL P B st ops rest (e.set d (.int .u64 ((a * b:Nat):Int))) h K):
    RL P B st ops (⟨some d,.binOp .mul t x y t2,ty,pos,af,none⟩ :: rest) e h K:=by
 refine AK2 hx hy ?_;rw [show IntKind.u64.wrap ((a:Int) * (b:Int))=((a * b:Nat):Int) by rw [<- Int.natCast_mul];simp only [IntKind.wrap,IntKind.bits,IntKind.signed];simp;rw [<- Int.natCast_mul];omega];exact H
theorem ARz {x y:Operand} {t t2:TypeId} {k:IntKind} {a:Nat} (hx:e.ev x= .int .u64 (a:Int)) (hy:e.ev y= .int k 32) (H:RL P B st ops rest (e.set d (.int .u64 ((a / 4294967296:Nat):Int))) h K):
    RL P B st ops (⟨some d,.binOp .shr t x y t2,ty,pos,af,none⟩ :: rest) e h K:=by
 refine AYj (n:=32) hx hy Zl ?_;rw [show (a:Int) / 2 ^ 32=((a / 4294967296:Nat):Int) by omega];exact H
theorem AQr {x:Operand} {src dst:TypeId} {a:Nat} (hs:ARx P src .u32) (hd:ARx P dst .u64) (hx:e.ev x= .int .u32 (a:Int)) (ha:a < 4294967296) (H:RL P B st ops rest (e.set d (.int .u64 (a:Int))) h K):
    RL P B st ops (⟨some d,.convert src dst x,ty,pos,af,none⟩ :: rest) e h K:=by
 refine AK3 hs hd hx ?_;rw [show IntKind.u64.wrap (a:Int)=(a:Int) by simp only [IntKind.wrap,IntKind.bits,IntKind.signed];simp;omega];exact H
theorem ASp {x:Operand} {src dst:TypeId} {a:Nat} (hs:ARx P src .u64) (hd:ARx P dst .u32) (hx:e.ev x= .int .u64 (a:Int)) (H:RL P B st ops rest (e.set d (.int .u32 ((a % 4294967296:Nat):Int))) h K):
    RL P B st ops (⟨some d,.convert src dst x,ty,pos,af,none⟩ :: rest) e h K:=by
 refine AK3 hs hd hx ?_;rw [show IntKind.u32.wrap (a:Int)=((a % 4294967296:Nat):Int) by simp only [IntKind.wrap,IntKind.bits,IntKind.signed];simp];exact H
theorem Anz {x:Operand} {t t2 el:TypeId} {a:Option Addr} {n c:Nat} (ht:P.underlying t=some (.slice el)) (hx:e.ev x= .slice a n c) (H:RL P B st ops rest (e.set d (.bool a.isNone)) h K):
    RL P B st ops (⟨some d,.binOp .eql t x (.const (.slice none 0 0)) t2,ty,pos,af,none⟩ :: rest) e h K:=
  AEi (v:= .bool a.isNone) rfl rfl (fun w=>by
    have hr:(Op.equal t (.slice a n c) (.slice none 0 0)).run P w= .ok a.isNone w:=by
      show (Op.equalIn (9999 + 1) t _ _).run P w=_;rw [Op.equalIn];cases a <;> simp [AI7 ht]
    have hy:e.ev (.const (.slice none 0 0))= .slice none 0 0:=rfl;simp [execOp,hx,hy,eqGuard,binOp,hr]) H
theorem Ath {t el s:Nat} (hT:SlT P t el s) (hbB:∀ h',B h') (H:∀ g v h',AC4 h' el g v []->Ext h h'->h.size<=g->g < h'.size->RL P B st ops rest (e.set d v) h' K):
    RL P B st ops (⟨some d,.buildSlice t 0 #[],ty,pos,af,none⟩ :: rest) e h K:=by
  refine AMn rfl rfl (hbB _) fun w hw=>?_;subst hw;obtain ⟨hu,i,hi,hs⟩:=hT
  have:(execOp e.ev ⟨some d,.buildSlice t 0 #[],ty,pos,af,none⟩).run P w= .ok (.value (.slice (some ⟨w.heap.size,0,none⟩) 0 0)) (w.alloc (.cells #[] el)):=by
    simp [execOp,Instr.buildSlice,AI7 hu,ANg hi,Instr.fill,newRow];congr 2;apply Array.ext <;> simp
  rw [this];exact ⟨⟨rfl,rfl,rfl⟩,hbB _,H w.heap.size _ _ (AX8 w.heap el [] (by simp [maxLen])) (ACy _ _) (Nat.le_refl _) AAx⟩
theorem Aq2 {s x:Operand} {t el g xc:Nat} {xa:Addr} {v:Value} {l:List Value} (hT:SlT P t el 1) (hbB:∀ h',B h') (hs:e.ev s=v) (HO:AC4 h el g v l) (hx:e.ev x= .slice (some xa) 0 xc)
    (H:∀ v' h',AC4 h' el g v' l->Upd (· =g) h h'->RL P B st ops rest (e.set d v') h' K):
    RL P B st ops (⟨some d,.call ⟨.builtin .append,#[s,x],#[t,t]⟩,ty,pos,af,none⟩ :: rest) e h K:=by
  refine AMn rfl rfl (hbB _) fun w hw=>?_;subst hw;obtain ⟨hu,i,hi,hs0⟩:=hT;obtain ⟨cap,cur,rfl,hg,hlc,hcm,hcs,ht⟩:=HO;have hr:=run_append_room (P:=P) w t ty el i hu hi g l.length cap cur hg xa 0 xc [] AAx (fun j u hu'=>by simp at hu') (fun u hu'=>by simp at hu') Zj (by simp [hs0,hcs];omega)
  have hrun:(execOp e.ev ⟨some d,.call ⟨.builtin .append,#[s,x],#[t,t]⟩,ty,pos,af,none⟩).run P w= .ok (.value (.slice (some ⟨g,0,none⟩) (l.length + 0) cap)) (w.setRow g (cur.toList.take (l.length * i.size) ++ [] ++ cur.toList.drop (l.length * i.size + 0)).toArray):=by
    simp [execOp,resolve,invoke,builtin,hs,hx,hr]
  rw [hrun];refine ⟨⟨rfl,rfl,rfl⟩,hbB _,H _ _ ?_ ⟨by simp [World.setRow],fun k hk hne=>setRow_other w g k _ (fun he=>hne he)⟩⟩
  refine ⟨cap,_,rfl,setRow_heap w g cur _ el (0,0) hg,hlc,hcm,?_,?_⟩
  · simp only [hs0,Nat.mul_one,List.size_toArray,List.length_append,List.length_take,List.length_drop,Array.length_toList,hcs,List.length_nil];omega
  · simp only [hs0,Nat.mul_one,ht,List.append_nil];exact List.take_left
theorem Akm {t el bytes n:Nat} {z:Value} {parts:List (Nat × Operand)} (l:List Value) (hT:SlT P t el 1) (hz:ZeT P el z bytes) (h1:isOne z=true) (hbB:∀ h',B h') (hn:l.length=n) (hn2:n<=1000000) (hpos:0 < n) (hp:(parts.map fun (i,x)=>(i,e.ev x))=partsOf 0 l)
    (hone:∀ u∈l,isOne u=true) (H:∀ g v h',AC4 h' el g v l->Ext h h'->h.size<=g->g < h'.size->RL P B st ops rest (e.set d v) h' K):
    RL P B st ops (⟨some d,.buildSlice t n parts.toArray,ty,pos,af,none⟩ :: rest) e h K:=by
  subst hn;refine Ajz l hT hz h1 (hbB _) rfl Zj hpos hp hone ⟨hbB _,?_⟩;exact H h.size _ _ (AX8 h el l (by unfold maxLen;omega)) (ACy _ _) (Nat.le_refl _) AAx
end
theorem An0 {h:Zs} {lo n c:Nat} {a:Option Addr} {L:List Nat} (ha:a=none) (H:DS h lo (.slice a n c) L):L=[]:=by
 subst ha
 cases L with
 | nil=>rfl
 | cons x l=>
   obtain ⟨a',c',hv,hc⟩:=H.sl
   obtain ⟨b,o,ha,_⟩:=hc 0 _ rfl
   injection hv with h1
   rw [<- h1] at ha;cases ha
theorem Akn {h:Zs} {lo n c:Nat} {a:Option Addr} (H:DS h lo (.slice a n c) []):n=0:=by
 obtain ⟨a',c',hv,hc⟩:=H.sl;injection hv with _ h2 _
theorem AXo {D:List Nat} {u n i:Nat} (hi:D.length=i) (hn:i < n):(D ++ List.replicate (n - i) 0).set i u=D ++ [u] ++ List.replicate (n - (i + 1)) 0:=by
 rw [show n - i=(n - (i + 1)) + 1 by omega,List.replicate_succ,List.set_append_right _ _ Zj,hi,Nat.sub_self];simp
theorem AK6 {D:List Nat} {u:Nat} (h:Dig D) (hu:u < 4294967296):Dig (D ++ [u]):=by
 intro x hx;rcases List.mem_append.1 hx with h1 | h1
 ·exact h x h1
 ·rw [List.mem_singleton.1 h1];exact hu
theorem AR0 {i D c s S:Nat} (hD:D + 4294967296 ^ i * c=S):D + 4294967296 ^ i * ((c + s) % 4294967296) + 4294967296 ^ (i + 1) * ((c + s) / 4294967296)=S + 4294967296 ^ i * s:=by
 have h1:=Nat.mod_add_div (c + s) 4294967296
 have h2:4294967296 ^ i * (c + s)=4294967296 ^ i * ((c + s) % 4294967296) + 4294967296 ^ (i + 1) * ((c + s) / 4294967296):=by
   conv=>lhs;rw [<- h1]
   rw [Nat.mul_add,Nat.pow_succ,Nat.mul_assoc]
 rw [Nat.mul_add] at h2;omega
theorem AC4.ds {h:Zs} {g lo:Nat} {v:Value} {L:List Nat} (H:AC4 h 172 g v (L.map ALx)) (hd:Dig L) (hl:lo<=g):DS h lo v L:=
  ⟨H.sl,H.cap,hd,fun q hq=>by rw [H.blk] at hq;injection hq with hq;omega,fun q hq=>by
    rw [H.blk] at hq
    injection hq with hq
    subst hq
    obtain ⟨cap,cur,_,hg,_⟩:=H
    exact ⟨cur,(0,0),hg⟩⟩
theorem Ako {P:Program} {a b:Nat} (ha:a < 18446744073709551616) (hb:b < 18446744073709551616) (w:World):(Op.intBits .or .u64 (a:Int) (b:Int)).run P w= .ok (.int .u64 ((a ||| b:Nat):Int)) w:=by
 have h1:(BitVec.ofInt 64 (a:Int)).toNat=a:=by rw [BitVec.toNat_ofInt];omega
 have h2:(BitVec.ofInt 64 (b:Int)).toNat=b:=by rw [BitVec.toNat_ofInt];omega
 have h3:a ||| b < 2 ^ 64:=Nat.or_lt_two_pow Zj Zj;simp only [Op.intBits];show Result.ok (Value.int .u64 (IntKind.u64.wrap ((BitVec.ofInt 64 (a:Int) ||| BitVec.ofInt 64 (b:Int)).toNat:Int))) w=_;rw [BitVec.toNat_or,h1,h2]
 have:IntKind.u64.wrap ((a ||| b:Nat):Int)=((a ||| b:Nat):Int):=by
   simp only [IntKind.wrap,IntKind.bits,IntKind.signed]
   simp
   omega
 rw [this]
theorem Akp {a b i:Nat} (h:a < 2 ^ i):a ||| 2 ^ i * b=a + 2 ^ i * b:=by
 rw [Nat.or_comm,<- Nat.two_pow_add_eq_or_of_lt h,Nat.add_comm]
theorem ABw {L:List Nat} {i x:Nat} (h:L[i]? =some x):nv (L.take (i + 1))=nv (L.take i) + 4294967296 ^ i * x:=by
 rw [<- AZ7 h,AJy,List.length_take,Nat.min_eq_left (by have:=(List.getElem?_eq_some_iff.1 h).1;omega)]
theorem APi {L:List Nat} (h:Dig L) {i:Nat} (hi:i<=L.length):nv (L.take i) < 4294967296 ^ i:=by
 have:=ALo (AVd h i);rwa [List.length_take,Nat.min_eq_left hi] at this
theorem AJz (L:List Nat) (i:Nat):nv (L.take (i + 1))=nv (L.take i) + 4294967296 ^ i * (L[i]?.getD 0):=by
 cases h:L[i]? with
 | some x=>rw [ABw h];rfl
 | none=>
   have:=List.getElem?_eq_none_iff.1 h
   rw [List.take_of_length_le Zj,List.take_of_length_le Zj];simp
theorem ATb {i D c SA SB x y d c':Nat} (hD:D + SB=SA + 4294967296 ^ i * c) (hd:d + y + c=x + 4294967296 * c'):D + 4294967296 ^ i * d + (SB + 4294967296 ^ i * y)=SA + 4294967296 ^ i * x + 4294967296 ^ (i + 1) * c':=by
 have h1:4294967296 ^ i * (d + y + c)=4294967296 ^ i * (x + 4294967296 * c'):=by rw [hd]
 rw [Nat.mul_add,Nat.mul_add,Nat.mul_add,<- Nat.mul_assoc,<- Nat.pow_succ] at h1;have e:i.succ=i + 1:=rfl;rw [e] at h1;omega
theorem AUw (i:Nat):4294967296 ^ i=2 ^ (32 * i):=by rw [Nat.pow_mul]
theorem wrap_u32 (a:Int):IntKind.u32.wrap a=a % 4294967296:=by
 simp [IntKind.wrap,IntKind.bits,IntKind.signed]
theorem wrap_u64 (a:Int):IntKind.u64.wrap a=a % 18446744073709551616:=by
 simp [IntKind.wrap,IntKind.bits,IntKind.signed]
end Go.QF
namespace Go.QF
open Go
section
variable {P:Program} {B:Zs->Prop} {st:Bool} {ops:Array Oper} {rest:List Oper} {e:Env} {h:Zs} {K:Env->Zs->Prop}
variable {d d':Nat} {ty ty':TypeId} {pos pos':String} {af af':Array Edge}
theorem Aqb {s x:Operand} {t bytes lo:Nat} {xv:Value} {L:List Nat} (hT:SlT P t 172 1) (hz:ZeT P 172 (.int .u32 0) bytes) (hbB:∀ h',B h') (hs:e.ev s= .slice none 0 0) (hx:e.ev x=xv) (HX:DS h lo xv L) (hby:bytes<=1000) (hn:L.length<=100000000)
    (H:∀ v' h',DS h' h.size v' L->Ext h h'->RL P B st ops rest (e.set d v') h' K):
    RL P B st ops (⟨some d,.call ⟨.builtin .append,#[s,x],#[t,t]⟩,ty,pos,af,none⟩ :: rest) e h K:=by
  by_cases hL:L=[]
  · subst hL;refine AMn rfl rfl (hbB _) fun w hw=>?_;subst hw;obtain ⟨hu,i,hi,hs0⟩:=hT;obtain ⟨xa,xc,hxe,_⟩:=HX.sl
    have hrun:(execOp e.ev ⟨some d,.call ⟨.builtin .append,#[s,x],#[t,t]⟩,ty,pos,af,none⟩).run P w= .ok (.value (.slice none 0 0)) w:=by
      subst hxe
      have hc:(Builtin.firstCells i.size 0 (.slice xa 0 xc)).run P w= .ok #[] w:=by
        cases xa with
        | none=>exact run_firstCells_none (P:=P) w _ 0 0 xc
        | some a=>exact run_firstCells_some (P:=P) w i.size 0 a 0 xc [] AAx (fun j v hj=>by simp at hj)
      simp only [List.map_nil,List.length_nil] at hx;simp [execOp,resolve,invoke,builtin,hs,hx,Builtin.append_,AI7 hu,ANg hi,Builtin.lenOf,hc]
    rw [hrun];exact ⟨⟨rfl,rfl,rfl⟩,hbB _,H _ _ (APh _ _) (Ext.refl _)⟩
  · have h1:L.length * bytes<=100000000 * 1000:=Nat.mul_le_mul hn hby;refine Ajx hT hz rfl (hbB _) hs hx HX.sl (fun u hu=>by obtain ⟨y,_,rfl⟩:=List.mem_map.1 hu;rfl) (by simpa using hL) (by rw [List.length_map];omega) (by rw [List.length_map];omega) fun v' h' HO E=>⟨hbB _,H v' h' (HO.ds HX.dig (Nat.le_refl _)) E⟩
theorem ATw {h0:Zs} {s y:Operand} {t el bytes u:Nat} {v:Value} {D:List Nat} (hT:SlT P t el 1) (hz:ZeT P el (.int .u32 0) bytes) (hbB:∀ h',B h') (hs:∀ p,(e.set d p).ev s=v) (hy:e.ev y= .int .u32 (u:Int)) (E0:Ext h0 h) (HG:Gro h el h0.size v (D.map ALx)) (hby:bytes<=1000) (hl:D.length<=100000000)
    (H:∀ p v' h',Gro h' el h0.size v' ((D ++ [u]).map ALx)->Ext h0 h'->RL P B st ops rest ((e.set d p).set d' v') h' K):
    RL P B st ops (⟨some d,.buildSlice t 1 #[(0,y)],ty,pos,af,none⟩ :: ⟨some d',.call ⟨.builtin .append,#[s,.tmp d],#[t,t]⟩,ty',pos',af',none⟩ :: rest) e h K:=by
  refine Aq0 hT hz rfl hbB hs hy rfl HG E0.1 hby (by rw [List.length_map];exact hl) fun p v' h' HG' U _=>?_;refine H p v' h' (by rw [List.map_append];exact HG') (E0.thenUpd U fun k hk=>?_);exact (HG.blk k hk).1
end
theorem Gro.ds {h:Zs} {lo:Nat} {v:Value} {D:List Nat} (H:Gro h 172 lo v (D.map ALx)) (hd:Dig D):DS h lo v D:=by
 rcases H with ⟨h1,rfl⟩ | ⟨g,hg,HO⟩
 ·have:D=[]:=by simpa using h1
  subst this;exact APh _ _
 ·exact HO.ds hd hg
theorem Agi {L:List Nat} {n x:Nat} (hx:L[n - 1]? =some x) (h0:x≠0) (hn:0 < n):TL (L.take n):=by
 intro y hy;have hl:=(List.getElem?_eq_some_iff.1 hx).1;rw [List.getLast?_eq_getElem?,List.length_take,Nat.min_eq_left Zj,List.getElem?_take_of_lt Zj,hx] at hy;injection hy with hy;omega
theorem ATc {L:List Nat}:∀ {q x:Nat} (u:Nat),L[q]? =some x->nv (L.set q u) + 4294967296 ^ q * x=nv L + 4294967296 ^ q * u:=by
 induction L with
 | nil=>intro q x u h;simp at h
 | cons y L ih=>
   intro q x u h
   cases q with
   | zero=>simp at h;subst h;simp [nv];omega
   | succ q=>
     have h1:=ih u (q:=q) (x:=x) (by simpa using h)
     simp only [List.set_cons_succ,nv,Nat.pow_succ]
     have e1:4294967296 ^ q * 4294967296 * x=4294967296 * (4294967296 ^ q * x):=by rw [Nat.mul_comm (4294967296 ^ q) 4294967296,Nat.mul_assoc]
     have e2:4294967296 ^ q * 4294967296 * u=4294967296 * (4294967296 ^ q * u):=by rw [Nat.mul_comm (4294967296 ^ q) 4294967296,Nat.mul_assoc]
     rw [e1,e2]
     omega
theorem AQe {L:List Nat} {q u:Nat} (h:Dig L) (hu:u < 4294967296):Dig (L.set q u):=by
 intro x hx;rcases List.mem_or_eq_of_mem_set hx with h1 | h1
 ·exact h x h1
 ·omega
theorem AYn {O O' V0 Pi c x y o i j u c' S:Nat} (hset:O' + 4294967296 ^ (i + j) * o=O + 4294967296 ^ (i + j) * u) (hinv:O + 4294967296 ^ (i + j) * c=V0 + 4294967296 ^ i * (x * S)) (ht:u + 4294967296 * c'=c + (x * y + o)):
    O' + 4294967296 ^ (i + (j + 1)) * c'=V0 + 4294967296 ^ i * (x * (S + 4294967296 ^ j * y)):=by
  have e1:4294967296 ^ (i + (j + 1)) * c'=4294967296 ^ (i + j) * (4294967296 * c'):=by rw [<- Nat.add_assoc,Nat.pow_succ,Nat.mul_assoc]
  have e2:4294967296 ^ (i + j) * (u + 4294967296 * c')=4294967296 ^ (i + j) * (c + (x * y + o)):=by rw [ht]
  have e3:4294967296 ^ i * (x * (S + 4294967296 ^ j * y))=4294967296 ^ i * (x * S) + 4294967296 ^ (i + j) * (x * y):=by
    rw [Nat.mul_add,Nat.mul_add,Nat.pow_add];congr 1;rw [Nat.mul_assoc (4294967296 ^ i)];congr 1;rw [<- Nat.mul_assoc,<- Nat.mul_assoc,Nat.mul_comm x]
  rw [e1,e3];rw [Nat.mul_add,Nat.mul_add,Nat.mul_add] at e2;omega
theorem Aa9 {c x y o:Nat} (hc:c < 4294967296) (hx:x < 4294967296) (hy:y < 4294967296) (ho:o < 4294967296):c + (x * y + o) < 18446744073709551616:=by
 have:x * y<=4294967295 * 4294967295:=Nat.mul_le_mul Zj Zj;omega
theorem Aba {L:List Nat} (h:Dig L) (i:Nat):L[i]?.getD 0 < 4294967296:=by
 cases hq:L[i]? with
 | none=>simp
 | some q=>exact h q (List.mem_of_getElem? hq)
theorem Akq {i D b S x u b':Nat} (hD:D + 4294967296 ^ i * b=S) (hu:u + 4294967296 * b'=2 * x + b):D + 4294967296 ^ i * u + 4294967296 ^ (i + 1) * b'=S + 4294967296 ^ i * (2 * x):=by
  have e1:4294967296 ^ (i + 1) * b'=4294967296 ^ i * (4294967296 * b'):=by rw [Nat.pow_succ,Nat.mul_assoc]
  have e2:4294967296 ^ i * (u + 4294967296 * b')=4294967296 ^ i * (2 * x + b):=by rw [hu]
  rw [Nat.mul_add,Nat.mul_add] at e2;rw [e1];omega
theorem Akr {L:List Nat} (h:Dig L):∀ {k x:Nat},L[k]? =some x->nv L / 4294967296 ^ k % 4294967296=x:=by
 intro k x hx;have hk:=(List.getElem?_eq_some_iff.1 hx).1
 have e:nv L=nv (L.take k) + 4294967296 ^ k * nv (L.drop k):=by
   have:=ATv (L.take k) (L.drop k)
   rwa [List.take_append_drop,List.length_take,Nat.min_eq_left Zj] at this
 have hlt:=APi h (i:=k) Zj;rw [e,Nat.add_mul_div_left _ _ (Nat.pow_pos Zl),Nat.div_eq_of_lt hlt,Nat.zero_add]
 have hd:L.drop k=x :: L.drop (k + 1):=by
   rw [List.drop_eq_getElem_cons hk]
   congr 1
   exact (List.getElem?_eq_some_iff.1 hx).2
 rw [hd];simp only [nv];have:=h x (List.mem_of_getElem? hx);omega
theorem ATx (i:Nat):(2:Nat) ^ i=4294967296 ^ (i / 32) * 2 ^ (i % 32):=by
 rw [AUw,<- Nat.pow_add];congr 1;omega
theorem Agj {L:List Nat} (h:Dig L) {i x:Nat} (hx:L[i / 32]? =some x):nv L / 2 ^ i % 2=x / 2 ^ (i % 32) % 2:=by
  rw [<- Akr h hx,ATx i,<- Nat.div_div_eq_div_mul];generalize nv L / 4294967296 ^ (i / 32)=y;have hs:i % 32 < 32:=Nat.mod_lt _ Zl;generalize i % 32=s at hs
  have h1:y=y % 4294967296 + 2 ^ s * (2 * 2 ^ (31 - s) * (y / 4294967296)):=by
    have e:2 ^ s * (2 * 2 ^ (31 - s))=(4294967296:Nat):=by
      rw [show (4294967296:Nat)=2 ^ 32 by decide,<- Nat.pow_succ',<- Nat.pow_add];congr 1;omega
    rw [<- Nat.mul_assoc,e];have:=Nat.mod_add_div y 4294967296;omega
  conv=>lhs;rw [h1]
  rw [Nat.add_mul_div_left _ _ (Nat.pow_pos Zl),Nat.mul_assoc,Nat.add_mul_mod_self_left]
theorem Agk {L:List Nat} (h:Dig L) {i x q:Nat} (hx:L[i / 32]? =some x) (hq:nv L=2 ^ (i + 1) * q):∃ t,x=2 ^ (i % 32 + 1) * t:=by
 have h1:=Akr h hx;rw [hq,Nat.pow_succ,ATx i] at h1;rw [Nat.mul_assoc,Nat.mul_assoc,Nat.mul_div_cancel_left _ (Nat.pow_pos Zl)] at h1;have hs:i % 32 < 32:=Nat.mod_lt _ Zl;generalize i % 32=s at hs h1;refine ⟨q % 2 ^ (31 - s),?_⟩;rw [<- h1,<- Nat.mul_assoc,<- Nat.pow_succ,show (4294967296:Nat)=2 ^ (s + 1) * 2 ^ (31 - s) by rw [<- Nat.pow_add,show s + 1 + (31 - s)=32 by omega],Nat.mul_mod_mul_left]
theorem Aks {t s:Nat}:2 ^ (s + 1) * t ||| 2 ^ s=2 ^ (s + 1) * t + 2 ^ s:=by
 rw [<- Nat.two_pow_add_eq_or_of_lt (Nat.pow_lt_pow_right Zl Zj)]
theorem AXp {s t:Nat} (hs:s < 32) (h:2 ^ (s + 1) * t < 4294967296):2 ^ (s + 1) * t + 2 ^ s < 4294967296:=by
 have e:2 ^ (s + 1) * 2 ^ (31 - s)=(4294967296:Nat):=by rw [<- Nat.pow_add,show s + 1 + (31 - s)=32 by omega]
 have h1:t < 2 ^ (31 - s):=by
   rw [<- e] at h
   exact Nat.lt_of_mul_lt_mul_left h
 have h2:2 ^ (s + 1) * (t + 1)<=4294967296:=by rw [<- e];exact Nat.mul_le_mul_left _ h1
 rw [Nat.mul_add,Nat.mul_one] at h2;have h3:(2:Nat) ^ s < 2 ^ (s + 1):=Nat.pow_lt_pow_right Zl Zj;omega
theorem Ac6 {N n i R:Nat} (hn:n≠0) (hR:R=N / 2 ^ (i + 1) % n):2 * R + N / 2 ^ i % 2=(2 * (N / 2 ^ (i + 1) % n) + N / 2 ^ i % 2)/\
    (n<=2 * R + N / 2 ^ i % 2->N / 2 ^ i % n=2 * R + N / 2 ^ i % 2 - n/\N / 2 ^ i / n=2 * (N / 2 ^ (i + 1) / n) + 1)/\(2 * R + N / 2 ^ i % 2 < n->N / 2 ^ i % n=2 * R + N / 2 ^ i % 2/\N / 2 ^ i / n=2 * (N / 2 ^ (i + 1) / n)):=by
  have e:N / 2 ^ (i + 1)=N / 2 ^ i / 2:=by rw [Nat.pow_succ,<- Nat.div_div_eq_div_mul]
  rw [e] at hR ⊢;generalize N / 2 ^ i=y at *
  refine ⟨by rw [hR],fun h=>?_,fun h=>?_⟩
  · have h1:=Nat.div_add_mod (y / 2) n;have h2:=Nat.mod_lt (y / 2) (Nat.pos_of_ne_zero hn);rw [<- hR] at h1 h2;generalize y / 2 / n=q at *
    have h3:y=n * (2 * q + 1) + (2 * R + y % 2 - n):=by
      rw [Nat.mul_add,Nat.mul_one,Nat.mul_left_comm];omega
    have h4:2 * R + y % 2 - n < n:=by omega
    generalize y % 2=b at *
    generalize 2 * R + b - n=r at *
    subst h3;exact ⟨by rw [Nat.mul_add_mod,Nat.mod_eq_of_lt h4],by rw [Nat.mul_add_div (Nat.pos_of_ne_zero hn),Nat.div_eq_of_lt h4,Nat.add_zero]⟩
  · have h1:=Nat.div_add_mod (y / 2) n;rw [<- hR] at h1;generalize y / 2 / n=q at *
    have h3:y=n * (2 * q) + (2 * R + y % 2):=by
      rw [Nat.mul_left_comm];omega
    generalize y % 2=b at *
    generalize 2 * R + b=r at *
    subst h3;exact ⟨by rw [Nat.mul_add_mod,Nat.mod_eq_of_lt h],by rw [Nat.mul_add_div (Nat.pos_of_ne_zero hn),Nat.div_eq_of_lt h,Nat.add_zero]⟩
theorem ZV.mono {h:Zs} {lo lo':Nat} {v:Value} {z:Int} (H:ZV h lo v z) (hl:lo'<=lo):ZV h lo' v z:=by
 obtain ⟨n,s,L,h1,h2,h3⟩:=H.out;exact ⟨n,s,L,h1,h2.mono hl,h3⟩
end Go.QF
namespace Go.QF
open Go
def Auf:Obj->Bool
  | .cells _ el _=>Nat.beq el 172
  | _=>false
def AQs (h:Zs) (b:Nat):Prop:= ∃ o,h[b]? =some o/\Auf o=false
def UpT (F:List Nat) (h h':Zs):Prop:=(h.size<=h'.size/\ ∀ k,k < h.size->k ∉ F->h'[k]? =h[k]?)/\ ∀ b∈F,b < h.size->AQs h b/\AQs h' b
theorem UpT.size {F:List Nat} {h h':Zs} (H:UpT F h h'):h.size<=h'.size:=H.1.1
theorem UpT.ext {h h':Zs} (H:UpT [] h h'):Ext h h':=⟨H.1.1,fun k hk=>H.1.2 k hk AAx⟩
theorem Ext.upT {h h':Zs} (H:Ext h h'):UpT [] h h':=⟨⟨H.1,fun k hk _=>H.2 k hk⟩,fun b hb=>by simp at hb⟩
theorem AQs.of {F:List Nat} {h h':Zs} {b:Nat} (H:AQs h b) (U:UpT F h h'):AQs h' b:=by
 obtain ⟨o,h1,h2⟩:=H;have hb:=(Array.getElem?_eq_some_iff.1 h1).1;by_cases hm:b∈F
 ·exact (U.2 b hm hb).2
 ·exact ⟨o,(U.1.2 b hb hm).trans h1,h2⟩
theorem UpT.refl' {F:List Nat} {h:Zs} (H:∀ b∈F,b < h.size->AQs h b):UpT F h h:=⟨⟨Nat.le_refl _,fun _ _ _=>rfl⟩,fun b hb hl=>⟨H b hb hl,H b hb hl⟩⟩
theorem UpT.then {F G:List Nat} {a b c:Zs} (H:UpT F a b) (K:UpT G b c) (hG:∀ x∈G,x∈F∨a.size<=x):UpT F a c:=by
  refine ⟨⟨Nat.le_trans H.1.1 K.1.1,fun k hk hF=>?_⟩,fun x hx hl=>⟨(H.2 x hx hl).1,(H.2 x hx hl).2.of K⟩⟩;rw [K.1.2 k (Nat.lt_of_lt_of_le hk H.1.1) (fun hg=>by rcases hG k hg with h1 | h1;exact hF h1;omega),H.1.2 k hk hF]
theorem UpT.mono {F G:List Nat} {a b:Zs} (H:UpT F a b) (hFG:∀ x∈F,x∈G) (hG:∀ x∈G,x < a.size->AQs a x):UpT G a b:=
  ⟨⟨H.1.1,fun k hk hF=>H.1.2 k hk fun h=>hF (hFG k h)⟩,fun x hx hl=>⟨hG x hx hl,(hG x hx hl).of H⟩⟩
theorem Ext.thenT {F:List Nat} {a b c:Zs} (H:Ext a b) (K:UpT F b c) (hF:∀ x∈F,a.size<=x):Ext a c:=(H.upT.then K fun x hx=> .inr (hF x hx)).ext
theorem AOe {F:List Nat} {g:Nat} {h h':Zs} (U:Upd (· =g) h h') (hg:g∈F) (hF:∀ b∈F,b < h.size->AQs h b) (hg':AQs h' g):UpT F h h':=by
 refine ⟨⟨U.1,fun k hk hF=>U.2 k hk (fun he=>hF (he ▸ hg))⟩,fun b hb hl=>⟨hF b hb hl,?_⟩⟩;by_cases he:b=g
 ·exact he ▸ hg'
 ·obtain ⟨o,h1,h2⟩:=hF b hb hl;exact ⟨o,(U.2 b hl he).trans h1,h2⟩
theorem DS.upT {F:List Nat} {h h':Zs} {lo:Nat} {v:Value} {L:List Nat} (H:DS h lo v L) (U:UpT F h h'):DS h' lo v L:=by
 have hne:∀ g,v.ownBlock=some g->g ∉ F:=fun g hg hgF=>by
   obtain ⟨cur',off',hx⟩:=H.tg g hg
   obtain ⟨⟨o,hb,hel⟩,_⟩:=U.2 g hgF (Array.getElem?_eq_some_iff.1 hx).1
   rw [hb] at hx
   injection hx with hx
   subst hx
   exact absurd (hel.symm.trans (Nat.beq_eq.mpr rfl)) Bool.false_ne_true
 have he:Upd (· ∈F) h h':=U.1;exact ⟨H.sl.upd he (fun g hg=>hne g hg),H.cap,H.dig,H.lo,fun g hg=>let ⟨cur,off,hx⟩:=H.tg g hg;⟨cur,off,(he.2 g (Array.getElem?_eq_some_iff.1 hx).1 (hne g hg)).trans hx⟩⟩
def ZZ (h:Zs) (v:Value) (z:Int):Prop:=ZV h 0 v z
theorem ZV.zz {h:Zs} {lo:Nat} {v:Value} {z:Int} (H:ZV h lo v z):ZZ h v z:=H.mono (Nat.zero_le _)
theorem ZZ.upT {F:List Nat} {h h':Zs} {v:Value} {z:Int} (H:ZZ h v z) (U:UpT F h h'):ZZ h' v z:=by
 obtain ⟨n,s,L,h1,h2,h3⟩:=H.out;exact ⟨n,s,L,h1,h2.upT U,h3⟩
structure Cod (α:Type) where
  k:Nat
  ag:Bool
  rep:Zs->α->List Value->Prop
  klen:∀ {h a cs},rep h a cs->cs.length=k
  one:∀ {h a cs},rep h a cs-> ∀ u∈cs,isOne u=true
  upT:∀ {F h h' a cs},rep h a cs->UpT F h h'->rep h' a cs
  pos:0 < k
  le:k<=1000
  sc:ag=false->k=1
def Cod.val {α:Type} (c:Cod α) (cs:List Value):Value:=bif c.ag then .agg cs.toArray else cs.headD undef
def Akt {α:Type} (k:Nat) (ag:Bool) (f:α->List Value) (hk:∀ a,(f a).length=k) (h1:∀ a,∀ u∈f a,isOne u=true) (hp:0 < k) (hl:k<=1000) (hs:ag=false->k=1):Cod α where
  k:=k
  ag:=ag
  rep:=fun _ a cs=>cs=f a
  klen:=fun h=>h ▸ hk _
  one:=fun h=>h ▸ h1 _
  upT:=fun h _=>h
  pos:=hp
  le:=hl
  sc:=hs
def cI (κ:IntKind):Cod Int:=Akt 1 false (fun a=>[.int κ a]) (fun _=>rfl) (fun a u hu=>by rw [List.mem_singleton.1 hu];rfl) Zl Zl (fun _=>rfl)
theorem Ati {P:Value->Prop} {a b c d e:Value} (ha:P a) (hb:P b) (hc:P c) (hd:P d) (he:P e):∀ u∈[a,b,c,d,e],P u:=by
 intro u hu;simp only [List.mem_cons,List.not_mem_nil,or_false] at hu;rcases hu with rfl | rfl | rfl | rfl | rfl <;> assumption
abbrev AK7:=Int × Int × Int × Int × Int
abbrev AH8:=Int × Int × Int × Bool × Int
def AR1:Cod AK7:=Akt 5 true (fun a=>[.int .i64 a.1,.int .i64 a.2.1,.int .i64 a.2.2.1,.int .i64 a.2.2.2.1,.int .i64 a.2.2.2.2]) (fun _=>rfl) (fun a=>Ati (P:=fun u=>isOne u=true) rfl rfl rfl rfl rfl) Zl Zl (fun h=>by cases h)
def AN1:Cod AH8:=Akt 5 true (fun a=>[.int .i64 a.1,.int .i64 a.2.1,.int .i64 a.2.2.1,.bool a.2.2.2.1,.int .i64 a.2.2.2.2]) (fun _=>rfl) (fun a=>Ati (P:=fun u=>isOne u=true) rfl rfl rfl rfl rfl) Zl Zl (fun h=>by cases h)
def cZ:Cod Int where
  k:=2
  ag:=true
  rep:=fun h z cs=>cs.length=2/\ZZ h (.agg cs.toArray) z
  klen:=fun h=>h.1
  one:=fun {h a cs} H=>by
    obtain ⟨hl,n,s,L,h1,h2,h3⟩:=H
    have:cs=[.bool n,s]:=by
      injection h1 with h1;have:=congrArg Array.toList h1;simpa using this
    subst this;exact AH4 h2.cap
  upT:=fun H U=>⟨H.1,H.2.upT U⟩
  pos:=by decide
  le:=by decide
  sc:=fun h=>by cases h
theorem ZZ.cs {h:Zs} {v:Value} {z:Int} (H:ZZ h v z):∃ cs,v= .agg cs.toArray/\cZ.rep h z cs:=by
 have H':=H;obtain ⟨n,s,L,rfl,h2,h3⟩:=H'.out;exact ⟨[.bool n,s],rfl,rfl,H⟩
def Al {α:Type} (c:Cod α) (h:Zs) (L:List α) (Ls:List (List Value)):Prop:=Ls.length=L.length/\ ∀ (i:Nat) (cs:List Value) (a:α),Ls[i]? =some cs->L[i]? =some a->c.rep h a cs
theorem Al.upT {α:Type} {c:Cod α} {F:List Nat} {h h':Zs} {L:List α} {Ls:List (List Value)} (H:Al c h L Ls) (U:UpT F h h'):Al c h' L Ls:=⟨H.1,fun i cs a h1 h2=>c.upT (H.2 i cs a h1 h2) U⟩
theorem Ae8 {α:Type} (c:Cod α) (h:Zs):Al c h [] []:=⟨rfl,fun i cs a h1=>by simp at h1⟩
theorem Al.get {α:Type} {c:Cod α} {h:Zs} {L:List α} {Ls:List (List Value)} (H:Al c h L Ls) {i:Nat} {a:α} (ha:L[i]? =some a):∃ cs,Ls[i]? =some cs/\c.rep h a cs:=by
 have hi:=(List.getElem?_eq_some_iff.1 ha).1;exact ⟨Ls[i]'(by rw [H.1];exact hi),List.getElem?_eq_getElem _,H.2 i _ a (List.getElem?_eq_getElem _) ha⟩
theorem Al.push {α:Type} {c:Cod α} {h:Zs} {L:List α} {Ls:List (List Value)} (H:Al c h L Ls) {a:α} {cs:List Value} (hr:c.rep h a cs):Al c h (L ++ [a]) (Ls ++ [cs]):=by
 refine ⟨by simp [H.1],fun i cs' a' h1 h2=>?_⟩;rcases Nat.lt_or_ge i L.length with hi | hi
 ·rw [List.getElem?_append_left (by rw [H.1];exact hi)] at h1;rw [List.getElem?_append_left hi] at h2;exact H.2 i cs' a' h1 h2
 ·rw [List.getElem?_append_right (by rw [H.1];exact hi),H.1] at h1;rw [List.getElem?_append_right hi] at h2;have:i - L.length=0:=by have:=(List.getElem?_eq_some_iff.1 h2).1;simp at this;omega
  rw [this] at h1 h2;injection h1 with h1;injection h2 with h2;subst h1;subst h2;exact hr
theorem Al.set {α:Type} {c:Cod α} {h:Zs} {L:List α} {Ls:List (List Value)} (H:Al c h L Ls) (n:Nat) {a:α} {cs:List Value} (hr:c.rep h a cs):Al c h (L.set n a) (Ls.set n cs):=by
 refine ⟨by simp [H.1],fun i cs' a' h1 h2=>?_⟩;by_cases hi:n=i
 ·subst hi;have hn:n < L.length:=by have:=(List.getElem?_eq_some_iff.1 h2).1;simpa using this
  rw [List.getElem?_set_self (by rw [H.1];exact hn)] at h1;rw [List.getElem?_set_self hn] at h2;injection h1 with h1;injection h2 with h2;subst h1;subst h2;exact hr
 ·rw [List.getElem?_set_ne hi] at h1 h2;exact H.2 i cs' a' h1 h2
theorem Aku {α:Type} {c:Cod α} {h:Zs} {a:α} {cs:List Value} (hr:c.rep h a cs) (n:Nat):Al c h (List.replicate n a) (List.replicate n cs):=by
 refine ⟨AAx,fun i cs' a' h1 h2=>?_⟩;rw [List.eq_of_mem_replicate (List.mem_of_getElem? h1),List.eq_of_mem_replicate (List.mem_of_getElem? h2)];exact hr
def SlC {α:Type} (c:Cod α) (h:Zs) (v:Value) (L:List α):Prop:= ∃ Ls,SlK h c.k v Ls/\Al c h L Ls
theorem SlC.ext {α:Type} {c:Cod α} {h h':Zs} {v:Value} {L:List α} (H:SlC c h v L) (E:Ext h h'):SlC c h' v L:=by
 obtain ⟨Ls,h1,h2⟩:=H;exact ⟨Ls,h1.ext E,h2.upT E.upT⟩
theorem An1 {α:Type} (c:Cod α) (h:Zs):SlC c h (.slice none 0 0) []:=⟨[],Agh h c.k,Ae8 c h⟩
def AEq {α:Type} (c:Cod α) (h:Zs) (v:Value) (M:List (List α)):Prop:=AL9 v/\ ∃ rs:List Value,SlK h 1 v (rs.map fun r=>[r])/\rs.length=M.length/\ ∀ (i:Nat) (r:Value) (L:List α),rs[i]? =some r->M[i]? =some L->SlC c h r L
theorem AEq.ext {α:Type} {c:Cod α} {h h':Zs} {v:Value} {M:List (List α)} (H:AEq c h v M) (E:Ext h h'):AEq c h' v M:=by
 obtain ⟨h0,rs,h1,h2,h3⟩:=H;exact ⟨h0,rs,h1.ext E,h2,fun i r L hr hL=>(h3 i r L hr hL).ext E⟩
def OwC {α:Type} (c:Cod α) (el:Nat) (h:Zs) (F:List Nat) (v:Value) (L:List α):Prop:=
  (L=[]/\v= .slice none 0 0/\F=[])∨ ∃ g Ls,F=[g]/\AH6 h el c.k g v Ls/\Al c h L Ls/\Nat.beq el 172=false
theorem Agl {α:Type} (c:Cod α) (el:Nat) (h:Zs):OwC c el h [] (.slice none 0 0) []:= .inl ⟨rfl,rfl,rfl⟩
theorem OwC.upT {α:Type} {c:Cod α} {el:Nat} {h h':Zs} {F G:List Nat} {v:Value} {L:List α} (H:OwC c el h F v L) (U:UpT G h h') (hd:∀ b∈F,b ∉ G):OwC c el h' F v L:=by
 rcases H with ⟨h1,h2,h3⟩ | ⟨g,Ls,rfl,h2,h3,h4⟩
 ·exact .inl ⟨h1,h2,h3⟩
 ·exact .inr ⟨g,Ls,rfl,h2.upd (S:=(· ∈G)) U.1 (hd g AAx),h3.upT U,h4⟩
theorem OwC.ext {α:Type} {c:Cod α} {el:Nat} {h h':Zs} {F:List Nat} {v:Value} {L:List α} (H:OwC c el h F v L) (E:Ext h h'):OwC c el h' F v L:=H.upT E.upT fun b _=>by simp
theorem OwC.rd {α:Type} {c:Cod α} {el:Nat} {h:Zs} {F:List Nat} {v:Value} {L:List α} (H:OwC c el h F v L):SlC c h v L:=by
 rcases H with ⟨rfl,rfl,_⟩ | ⟨g,Ls,rfl,h2,h3,_⟩
 ·exact An1 c h
 ·exact ⟨Ls,h2.sl,h3⟩
theorem OwC.lt {α:Type} {c:Cod α} {el:Nat} {h:Zs} {F:List Nat} {v:Value} {L:List α} (H:OwC c el h F v L):∀ b∈F,b < h.size:=by
 rcases H with ⟨rfl,rfl,rfl⟩ | ⟨g,Ls,rfl,h2,h3,_⟩
 ·intro b hb;simp at hb
 ·intro b hb;rw [List.mem_singleton.1 hb];exact h2.lt
theorem AH6.notD {h:Zs} {el k g:Nat} {v:Value} {L:List (List Value)} (H:AH6 h el k g v L) (hel:Nat.beq el 172=false):AQs h g:=by
 obtain ⟨cap,cur,_,hg,_⟩:=H;exact ⟨_,hg,hel⟩
theorem OwC.notD {α:Type} {c:Cod α} {el:Nat} {h:Zs} {F:List Nat} {v:Value} {L:List α} (H:OwC c el h F v L):∀ b∈F,AQs h b:=by
 rcases H with ⟨rfl,rfl,rfl⟩ | ⟨g,Ls,rfl,h2,h3,h4⟩
 ·intro b hb;simp at hb
 ·intro b hb;rw [List.mem_singleton.1 hb];exact h2.notD h4
theorem OwC.nodup {α:Type} {c:Cod α} {el:Nat} {h:Zs} {F:List Nat} {v:Value} {L:List α} (H:OwC c el h F v L):F.Nodup:=by
 rcases H with ⟨rfl,rfl,rfl⟩ | ⟨g,Ls,rfl,_⟩ <;> simp
theorem OwC.isOne {α:Type} {c:Cod α} {el:Nat} {h:Zs} {F:List Nat} {v:Value} {L:List α} (H:OwC c el h F v L):isOne v=true:=by
 rcases H with ⟨rfl,rfl,rfl⟩ | ⟨g,Ls,rfl,⟨cap,cur,rfl,_⟩,_⟩ <;> rfl
def ACp {α:Type} (c:Cod α) (er el:Nat) (h:Zs) (F:List Nat) (Gs:List (List Nat)) (rs:List Value) (v:Value) (M:List (List α)):Prop:=
  (M=[]/\v= .slice none 0 0/\F=[]/\Gs=[]/\rs=[])∨ ∃ b,F=b :: Gs.flatten/\F.Nodup/\AH6 h er 1 b v (rs.map fun r=>[r])/\Nat.beq er 172=false/\rs.length=M.length/\Gs.length=M.length/\
    ∀ (i:Nat) (G:List Nat) (r:Value) (L:List α),Gs[i]? =some G->rs[i]? =some r->M[i]? =some L->OwC c el h G r L
theorem Akv {α:Type} (c:Cod α) (er el:Nat) (h:Zs):ACp c er el h [] [] [] (.slice none 0 0) []:= .inl ⟨rfl,rfl,rfl,rfl,rfl⟩
theorem ADw {Gs:List (List Nat)} {i x:Nat} {G:List Nat} (h:Gs[i]? =some G) (hx:x∈G):x∈Gs.flatten:=List.mem_flatten.2 ⟨G,List.mem_of_getElem? h,hx⟩
theorem ACp.upT {α:Type} {c:Cod α} {er el:Nat} {h h':Zs} {F Q:List Nat} {Gs:List (List Nat)} {rs:List Value} {v:Value} {M:List (List α)} (H:ACp c er el h F Gs rs v M) (U:UpT Q h h') (hd:∀ b∈F,b ∉ Q):ACp c er el h' F Gs rs v M:=by
 rcases H with H | ⟨b,rfl,hn,h2,h3,h4,h5,h6⟩
 ·exact .inl H
 ·exact .inr ⟨b,rfl,hn,h2.upd (S:=(· ∈Q)) U.1 (hd b AAx),h3,h4,h5,fun i G r L hG hr hL=>(h6 i G r L hG hr hL).upT U fun x hx=>hd x (List.mem_cons_of_mem _ (ADw hG hx))⟩
theorem ACp.rd {α:Type} {c:Cod α} {er el:Nat} {h:Zs} {F:List Nat} {Gs:List (List Nat)} {rs:List Value} {v:Value} {M:List (List α)} (H:ACp c er el h F Gs rs v M):AEq c h v M:=by
 rcases H with ⟨rfl,rfl,rfl,rfl,rfl⟩ | ⟨b,rfl,hn,h2,h3,h4,h5,h6⟩
 ·exact ⟨AWh,[],Agh h 1,rfl,fun i r L hr=>by simp at hr⟩
 ·refine ⟨let ⟨_,_,hv,_,hl,_⟩:=h2;⟨_,_,_,hv,hl⟩,rs,h2.sl,h4,fun i r L hr hL=>?_⟩;have hi:=(List.getElem?_eq_some_iff.1 hL).1;exact (h6 i (Gs[i]'Zj) r L (List.getElem?_eq_getElem _) hr hL).rd
theorem ACp.notD {α:Type} {c:Cod α} {er el:Nat} {h:Zs} {F:List Nat} {Gs:List (List Nat)} {rs:List Value} {v:Value} {M:List (List α)} (H:ACp c er el h F Gs rs v M):∀ b∈F,AQs h b:=by
 rcases H with ⟨rfl,rfl,rfl,rfl,rfl⟩ | ⟨b,rfl,hn,h2,h3,h4,h5,h6⟩
 ·intro b hb;simp at hb
 ·intro x hx;rcases List.mem_cons.1 hx with rfl | hx
  ·exact h2.notD h3
  ·obtain ⟨G,hG,hxG⟩:=List.mem_flatten.1 hx;obtain ⟨i,hi⟩:=List.getElem?_of_mem hG;have hil:=(List.getElem?_eq_some_iff.1 hi).1;exact (h6 i G (rs[i]'Zj) (M[i]'Zj) hi (List.getElem?_eq_getElem _) (List.getElem?_eq_getElem _)).notD x hxG
theorem AQs.lt {h:Zs} {b:Nat} (H:AQs h b):b < h.size:=by
 obtain ⟨o,h1,_⟩:=H;exact (Array.getElem?_eq_some_iff.1 h1).1
theorem ACp.lt {α:Type} {c:Cod α} {er el:Nat} {h:Zs} {F:List Nat} {Gs:List (List Nat)} {rs:List Value} {v:Value} {M:List (List α)} (H:ACp c er el h F Gs rs v M):∀ b∈F,b < h.size:=fun b hb=>(H.notD b hb).lt
theorem ACp.nodup {α:Type} {c:Cod α} {er el:Nat} {h:Zs} {F:List Nat} {Gs:List (List Nat)} {rs:List Value} {v:Value} {M:List (List α)} (H:ACp c er el h F Gs rs v M):F.Nodup:=by
 rcases H with ⟨rfl,rfl,rfl,rfl,rfl⟩ | ⟨b,rfl,hn,_⟩
 ·simp
 ·exact hn
theorem ACp.isOne {α:Type} {c:Cod α} {er el:Nat} {h:Zs} {F:List Nat} {Gs:List (List Nat)} {rs:List Value} {v:Value} {M:List (List α)} (H:ACp c er el h F Gs rs v M):isOne v=true:=by
 rcases H with ⟨rfl,rfl,rfl,rfl,rfl⟩ | ⟨b,rfl,hn,⟨cap,cur,rfl,_⟩,_⟩ <;> rfl
theorem ACp.row {α:Type} {c:Cod α} {er el:Nat} {h:Zs} {F:List Nat} {Gs:List (List Nat)} {rs:List Value} {v:Value} {M:List (List α)} (H:ACp c er el h F Gs rs v M) {i:Nat} {r:Value} {L:List α} (hr:rs[i]? =some r) (hL:M[i]? =some L):∃ G,Gs[i]? =some G/\OwC c el h G r L/\ ∀ x∈G,x∈F:=by
  rcases H with ⟨rfl,rfl,rfl,rfl,rfl⟩ | ⟨b,rfl,hn,h2,h3,h4,h5,h6⟩
  · simp at hL
  · have hi:=(List.getElem?_eq_some_iff.1 hL).1;exact ⟨Gs[i]'Zj,List.getElem?_eq_getElem _,h6 i _ r L (List.getElem?_eq_getElem _) hr hL,fun x hx=>List.mem_cons_of_mem _ (ADw (List.getElem?_eq_getElem _) hx)⟩
theorem ACp.rowRd {α:Type} {c:Cod α} {er el:Nat} {h:Zs} {F:List Nat} {Gs:List (List Nat)} {rs:List Value} {v:Value} {M:List (List α)} (H:ACp c er el h F Gs rs v M) {i:Nat} {r:Value} {L:List α} (hr:rs[i]? =some r) (hL:M[i]? =some L):SlC c h r L:=let ⟨_,_,h1,_⟩:=H.row hr hL;h1.rd
theorem Agm {t:Nat} {h:Zs} {b:Nat} {l:List Value} (H:ACr t h b l) (ht:Nat.beq t 172=false):AQs h b:=⟨_,H,ht⟩
theorem ACr.upT {t:Nat} {h h':Zs} {b:Nat} {G:List Nat} {l:List Value} (H:ACr t h b l) (U:UpT G h h') (hd:∀ x∈[b],x ∉ G):ACr t h' b l:=H.upd (S:=(· ∈G)) U.1 (hd b AAx)
def Sp (h:Zs) (lo:Nat) (Fs:List (List Nat)):Prop:=Fs.flatten.Nodup/\ ∀ b∈Fs.flatten,lo<=b/\b < h.size
theorem Aq3 (h:Zs) (lo:Nat):Sp h lo []:=⟨AAx,fun b hb=>by simp at hb⟩
theorem Sp.keep {h h':Zs} {lo:Nat} {Fs:List (List Nat)} (S:Sp h lo Fs) (hs:h.size<=h'.size):Sp h' lo Fs:=⟨S.1,fun b hb=>⟨(S.2 b hb).1,Nat.lt_of_lt_of_le (S.2 b hb).2 hs⟩⟩
theorem Sp.app {h h':Zs} {lo:Nat} {Fs Ks:List (List Nat)} (S:Sp h lo Fs) (S':Sp h' h.size Ks) (hs:h.size<=h'.size) (hl:lo<=h.size):Sp h' lo (Fs ++ Ks):=by
 refine ⟨?_,fun b hb=>?_⟩
 ·rw [List.flatten_append];refine List.nodup_append.2 ⟨S.1,S'.1,fun x hx y hy he=>?_⟩;have h1:=(S.2 x hx).2;have h2:=(S'.2 y hy).1;omega
 ·rw [List.flatten_append] at hb;rcases List.mem_append.1 hb with h1 | h1
  ·exact ⟨(S.2 b h1).1,Nat.lt_of_lt_of_le (S.2 b h1).2 hs⟩
  ·exact ⟨Nat.le_trans hl (S'.2 b h1).1,(S'.2 b h1).2⟩
theorem AEv {h h':Zs} {b:Nat} (h1:h.size<=b) (h2:b < h'.size):Sp h' h.size [[b]]:=⟨AAx,fun x hx=>by simp at hx;omega⟩
theorem Sp.lo {h:Zs} {lo:Nat} {Fs:List (List Nat)} (S:Sp h lo Fs) (i:Nat) {F:List Nat} (hi:Fs[i]? =some F):∀ b∈F,lo<=b/\b < h.size:=fun b hb=>S.2 b (ADw hi hb)
theorem Ac7 {Fs:List (List Nat)}:∀ {i j:Nat} {F G:List Nat},Fs.flatten.Nodup->Fs[i]? =some F->Fs[j]? =some G->i≠j-> ∀ b∈F,b ∉ G:=by
 induction Fs with
 | nil=>intro i j F G _ h;simp at h
 | cons K Fs ih=>
   intro i j F G hn hi hj hij b hb hg
   rw [List.flatten_cons] at hn
   obtain ⟨h1,h2,h3⟩:=List.nodup_append.1 hn
   cases i with
   | zero=>
     cases j with
     | zero=>exact hij rfl
     | succ j=>
       simp at hi hj;subst hi
       exact h3 b hb b (ADw hj hg) rfl
   | succ i=>
     cases j with
     | zero=>
       simp at hi hj;subst hj
       exact h3 b hg b (ADw hi hb) rfl
     | succ j=>exact ih h2 (by simpa using hi) (by simpa using hj) Zj b hb hg
theorem Sp.dj {h:Zs} {lo:Nat} {Fs:List (List Nat)} (S:Sp h lo Fs) (i j:Nat) {F G:List Nat} (hi:Fs[i]? =some F) (hj:Fs[j]? =some G) (hij:i≠j):∀ b∈F,b ∉ G:=Ac7 S.1 hi hj hij
theorem AJ0 {Fs:List (List Nat)}:∀ {i x:Nat} {F:List Nat},x∈(Fs.set i F).flatten->x∈F∨ ∃ j G,j≠i/\Fs[j]? =some G/\x∈G:=by
 induction Fs with
 | nil=>intro i x F h;simp at h
 | cons K Fs ih=>
   intro i x F h
   cases i with
   | zero=>
     rw [List.set_cons_zero,List.flatten_cons] at h
     rcases List.mem_append.1 h with h | h
     · exact .inl h
     · obtain ⟨G,hG,hx⟩:=List.mem_flatten.1 h
       obtain ⟨j,hj⟩:=List.getElem?_of_mem hG
       exact .inr ⟨j + 1,G,Zj,by simpa using hj,hx⟩
   | succ i=>
     rw [List.set_cons_succ,List.flatten_cons] at h
     rcases List.mem_append.1 h with h | h
     · exact .inr ⟨0,K,Zj,rfl,h⟩
     · rcases ih h with h1 | ⟨j,G,h1,h2,h3⟩
       · exact .inl h1
       · exact .inr ⟨j + 1,G,Zj,by simpa using h2,h3⟩
theorem AMt {Fs:List (List Nat)}:∀ {i:Nat} {F:List Nat},Fs.flatten.Nodup->F.Nodup->(∀ x∈F,∀ j G,j≠i->Fs[j]? =some G->x ∉ G)->(Fs.set i F).flatten.Nodup:=by
 induction Fs with
 | nil=>intro i F h1 h2 h3;simp
 | cons K Fs ih=>
   intro i F hn hF hd
   rw [List.flatten_cons] at hn
   obtain ⟨h1,h2,h3⟩:=List.nodup_append.1 hn
   cases i with
   | zero=>
     rw [List.set_cons_zero,List.flatten_cons]
     refine List.nodup_append.2 ⟨hF,h2,fun x hx y hy he=>?_⟩
     obtain ⟨G,hG,hy⟩:=List.mem_flatten.1 hy
     obtain ⟨j,hj⟩:=List.getElem?_of_mem hG
     exact hd x hx (j + 1) G Zj (by simpa using hj) (he ▸ hy)
   | succ i=>
     rw [List.set_cons_succ,List.flatten_cons]
     refine List.nodup_append.2 ⟨h1,ih h2 hF (fun x hx j G hj hG=>hd x hx (j + 1) G Zj (by simpa using hG)),fun x hx y hy he=>?_⟩
     rcases AJ0 hy with h4 | ⟨j,G,hj,hG,hy⟩
     · exact hd y h4 0 K Zj rfl (he ▸ hx)
     · exact h3 x hx y (ADw hG hy) he
theorem Sp.put {h h':Zs} {lo:Nat} {Fs:List (List Nat)} (S:Sp h lo Fs) (i:Nat) {F F':List Nat} (hi:Fs[i]? =some F) (hn:F'.Nodup) (hs:h.size<=h'.size) (hl:lo<=h.size) (hF:∀ x∈F',x < h'.size) (hsub:∀ x∈F',x∈F∨h.size<=x):Sp h' lo (Fs.set i F'):=by
  refine ⟨AMt S.1 hn fun x hx j G hj hG hxG=>?_,fun b hb=>?_⟩
  · rcases hsub x hx with h1 | h1
    · exact S.dj i j hi hG (fun he=>hj he.symm) x h1 hxG
    · have:=(S.lo j hG x hxG).2;omega
  · rcases AJ0 hb with h1 | ⟨j,G,hj,hG,hb⟩
    · refine ⟨?_,hF b h1⟩
      rcases hsub b h1 with h2 | h2
      · exact (S.lo i hi b h2).1
      · omega
    · have:=S.lo j hG b hb;exact ⟨this.1,Zj⟩
theorem Sp.sel {h:Zs} {lo:Nat} {Fs:List (List Nat)} (S:Sp h lo Fs) (is:List Nat) (hn:is.Nodup):Sp h lo (is.map fun i=>(Fs[i]?).getD []):=by
  have key:∀ is:List Nat,is.Nodup->(is.map fun i=>(Fs[i]?).getD []).flatten.Nodup/\ ∀ b∈(is.map fun i=>(Fs[i]?).getD []).flatten,∃ i F,i∈is/\Fs[i]? =some F/\b∈F:=by
    intro is;induction is with
    | nil=>intro _;exact ⟨AAx,fun b hb=>by simp at hb⟩
    | cons i is ih=>
      intro hn;obtain ⟨hni,hn⟩:=List.nodup_cons.1 hn;obtain ⟨h1,h2⟩:=ih hn;cases hi:Fs[i]? with
      | none=>
        simp only [List.map_cons,hi,Option.getD_none,List.flatten_cons,List.nil_append];exact ⟨h1,fun b hb=>let ⟨j,F,hj,hF⟩:=h2 b hb;⟨j,F,List.mem_cons_of_mem _ hj,hF⟩⟩
      | some F=>
        simp only [List.map_cons,hi,Option.getD_some,List.flatten_cons]
        refine ⟨List.nodup_append.2 ⟨?_,h1,fun x hx y hy he=>?_⟩,fun b hb=>?_⟩
        · obtain ⟨s,t,hst⟩:=List.append_of_mem (List.mem_of_getElem? hi);have:=S.1;rw [hst,List.flatten_append,List.flatten_cons] at this;exact (List.nodup_append.1 (List.nodup_append.1 this).2.1).1
        · obtain ⟨j,G,hj,hG,hy⟩:=h2 y hy;exact S.dj i j hi hG (fun h=>hni (h ▸ hj)) x hx (he ▸ hy)
        · rcases List.mem_append.1 hb with hb | hb
          · exact ⟨i,F,List.mem_cons_self ..,hi,hb⟩
          · obtain ⟨j,F,hj,hF⟩:=h2 b hb;exact ⟨j,F,List.mem_cons_of_mem _ hj,hF⟩
  obtain ⟨h1,h2⟩:=key is hn;exact ⟨h1,fun b hb=>let ⟨i,F,_,hF,hbF⟩:=h2 b hb;S.lo i hF b hbF⟩
def iter {S E:Type} (body:S->Option (S ⊕ E)):Nat->S->Option E
  | 0,_=>none
  | n + 1,s=>match body s with
    | none=>none
    | some (.inl s')=>iter body n s'
    | some (.inr e)=>some e
def Atj {S E:Type} (body:S->Option (S ⊕ E)) (n:Nat) (ex:E):S ⊕ E->Prop
  | .inl s'=>iter body n s'=some ex
  | .inr e=>e=ex
theorem Aih {S E:Type} {body:S->Option (S ⊕ E)} {n:Nat} {s:S} {ex:E} (H:iter body n s=some ex):∃ k r,n=k + 1/\body s=some r/\Atj body k ex r:=by
 cases n with
 | zero=>cases H
 | succ k=>
   rw [iter] at H
   cases hb:body s with
   | none=>rw [hb] at H;cases H
   | some r=>
     rw [hb] at H
     refine ⟨k,r,rfl,rfl,?_⟩
     cases r with
     | inl s'=>exact H
     | inr e=>exact Option.some.inj H
theorem Zp {α β:Type} {o:Option α} {f:α->Option β} {r:β} (H:o.bind f=some r):∃ x,o=some x/\f x=some r:=by
 cases o with
 | none=>cases H
 | some x=>exact ⟨x,rfl,H⟩
theorem ifT {c:Prop} [Decidable c] {α:Type} {a b:Option α} {r:α} (H:(if c then a else b)=some r) (hc:c):a=some r:=by rwa [if_pos hc] at H
theorem ifF {c:Prop} [Decidable c] {α:Type} {a b:Option α} {r:α} (H:(if c then a else b)=some r) (hc: ¬ c):b=some r:=by rwa [if_neg hc] at H
theorem AH9 {c:Bool} {α:Type} {a b:Option α} {r:α} (H:(if c=true then a else b)=some r) (hc:c=false):b=some r:=by subst hc;exact H
theorem ifN {c:Prop} [Decidable c] {α:Type} {a:Option α} {r:α} (H:(if c then a else none)=some r):c/\a=some r:=by
 by_cases hc:c
 ·rw [if_pos hc] at H;exact ⟨hc,H⟩
 ·rw [if_neg hc] at H;cases H
theorem AA7 {c:Prop} [Decidable c] {α:Type} {a b:Option α} {r:α} (H:(if c then a else b)=some r) (hc:decide c=true):a=some r:=ifT H (of_decide_eq_true hc)
theorem AA8 {c:Prop} [Decidable c] {α:Type} {a b:Option α} {r:α} (H:(if c then a else b)=some r) (hc:decide c=false):b=some r:=ifF H (of_decide_eq_false hc)
def gI {α:Type} (L:List α) (i:Int):Option α:=if 0<=i then L[i.toNat]? else none
def sI {α:Type} (L:List α) (i:Int) (x:α):List α:=L.set i.toNat x
theorem AGy {α:Type} {L:List α} {i:Int} {a:α} (H:gI L i=some a):∃ n:Nat,i=n/\L[n]? =some a:=by
 unfold gI at H;split at H
 ·exact ⟨i.toNat,Zj,H⟩
 ·cases H
abbrev w64 (x:Int):Int:=IntKind.i64.wrap x
theorem Akw {F A B:List Nat} (h1:∀ b∈F,b ∉ A) (h2:∀ b∈F,b ∉ B):∀ b∈F,b ∉ A ++ B:=fun b hb hm=>by
  rcases List.mem_append.1 hm with h | h
  · exact h1 b hb h
  · exact h2 b hb h
theorem Akx {F:List Nat}:∀ b∈F,b ∉ ([]:List Nat):=fun b _ h=>by simp at h
theorem ACk {P:Nat->Prop} {A B:List Nat} (h1:∀ b∈A,P b) (h2:∀ b∈B,P b):∀ b∈A ++ B,P b:=fun b hb=>by
  rcases List.mem_append.1 hb with h | h
  · exact h1 b h
  · exact h2 b h
theorem all_nil {P:Nat->Prop}:∀ b∈([]:List Nat),P b:=fun b h=>by simp at h
theorem UpT.thenE {F:List Nat} {a b c:Zs} (H:UpT F a b) (E:Ext b c):UpT F a c:=H.then E.upT fun x hx=>by simp at hx
theorem UpT.start {F:List Nat} {h:Zs} (H:∀ b∈F,AQs h b):UpT F h h:=UpT.refl' fun b hb _=>H b hb
theorem AFa {t:Nat} {h:Zs} {b:Nat} {l:List Value} (H:ACr t h b l) (ht:Nat.beq t 172=false):∀ x∈[b],AQs h x:=fun x hx=>by rw [List.mem_singleton.1 hx];exact Agm H ht
theorem Aq4 {F FO:List Nat} {a c:Nat} (h1:∀ x∈F,a<=x) (h3:c<=a):∀ x∈F,x∈FO∨c<=x:=fun x hx=> .inr (by have:=h1 x hx;omega)
theorem ALp {F A B:List Nat} {c:Nat} (h:F=A):∀ x∈F,x∈A ++ B∨c<=x:=fun x hx=> .inl (by subst h;simp [hx])
theorem AKi {F:List Nat} {h h':Zs} {a:Addr} {v:Value} (hc:ADv h a=some v) (U:UpT F h h') (hd:a.block ∉ F):ADv h' a=some v:=AZ4 (S:=(· ∈F)) hc U.1 hd
theorem ACp.rowI {α:Type} {c:Cod α} {er el:Nat} {h:Zs} {F:List Nat} {Gs:List (List Nat)} {rs:List Value} {v:Value} {M:List (List α)} (H:ACp c er el h F Gs rs v M) {i:Int} {r:Value} {L:List α} (hr:rs[i.toNat]? =some r) (hL:gI M i=some L):SlC c h r L:=by
 obtain ⟨n,rfl,hL⟩:=AGy hL;exact H.rowRd hr hL
theorem Sp.loAll {h:Zs} {lo:Nat} {Fs:List (List Nat)} (S:Sp h lo Fs) (i:Nat) {F:List Nat} (hi:Fs[i]? =some F):∀ b∈F,lo<=b:=fun b hb=>(S.lo i hi b hb).1
theorem ACr.stA {tb b:Nat} {h h':Zs} {l':List Value} (H:ACr tb h' b l') (U:Upd (· =b) h h') (hN:∀ x∈[b],AQs h x) (ht:Nat.beq tb 172=false):UpT [b] h h':=AOe U AAx (fun x hx _=>hN x hx) (Agm H ht)
theorem Abb {h:Zs} {el g:Nat} {v:Value} {l:List Value} (H:AC4 h el g v l):AH6 h el 1 g v (l.map fun x=>[x]):=by
 obtain ⟨cap,cur,h1,h2,h3,h4,h5,h6⟩:=H;have hf:∀ l:List Value,(l.map fun x=>[x]).flatten=l:=fun l=>by induction l <;> simp_all
 exact ⟨cap,cur,by rw [List.length_map];exact h1,h2,by rw [List.length_map];exact h3,h4,Zj,fun r hr=>by obtain ⟨x,_,rfl⟩:=List.mem_map.1 hr;rfl,by rw [List.length_map,Nat.mul_one,hf];exact h6⟩
section
variable {P:Program} {B:Zs->Prop} {st:Bool} {ops:Array Oper} {rest:List Oper} {e:Env} {h:Zs} {K:Env->Zs->Prop}
variable {d d':Nat} {ty ty':TypeId} {pos pos':String} {af af':Array Edge}
theorem Atk {t el bytes s:Nat} {z w0:Value} {y:Operand} (l:List Value) (hT:SlT P t el s) (hz:ZeT P el z bytes) (hb:B h) (hy:e.ev y=w0) (Ad:w0.cells=l.toArray) (hl:l.length=s) (Ah:0 < s) (Ai:s<=1000) (H:B (h.push (.cells l.toArray el (0,0)))/\RL P B st ops rest (e.set d (.slice (some ⟨h.size,0,none⟩) 1 1)) (h.push (.cells l.toArray el (0,0))) K):
    RL P B st ops (⟨some d,.buildSlice t 1 #[(0,y)],ty,pos,af,none⟩ :: rest) e h K:=by
 refine AMn rfl rfl hb fun w hw=>?_;subst hw;obtain ⟨hu,i0,Aa,Ac⟩:=hT;obtain ⟨i,hi,hzz,hsz,hby⟩:=hz;rw [hi] at Aa;injection Aa with Aa;subst Aa;have h3: ¬ (1 * i.size > 2 ^ 24):=by rw [Ac];omega
 have h4: ¬ (1 * i.size=0):=by rw [Ac];omega
 have hfill:Instr.fill (fun j=>some (j * i.size,i.size)) ((Array.range (1 * i.size)).map (z.cells[· % z.cells.size]!)) [(0,w0)]=some l.toArray:=by
   generalize z.cells=zc
   simp only [Instr.fill,Ad,List.size_toArray,hl,Ac]
   rw [if_neg AAx]
   congr 1
   obtain ⟨old,ho⟩:∃ old:List Value,((Array.range (1 * s)).map (zc[· % zc.size]!))=old.toArray:=⟨_,(Array.toArray_toList).symm⟩
   have hol:old.length=l.length:=by have:=congrArg Array.size ho;simp at this;omega
   rw [ho]
   have:=AZ8 l [] old hol
   simp only [List.nil_append,List.length_nil] at this
   simp only [Nat.zero_mul]
   rw [<- Array.foldl_toList]
   simp only [Array.toList_zipIdx]
   exact this
 have:(execOp e.ev ⟨some d,.buildSlice t 1 #[(0,y)],ty,pos,af,none⟩).run P w= .ok (.value (.slice (some ⟨w.heap.size,0,none⟩) 1 1)) (w.alloc (.cells l.toArray el)):=by
   simp only [execOp,List.map_toArray,List.map,hy]
   simp only [Instr.buildSlice,Sem.run_bind,AI7 hu,Result.andThen,ANg hi,if_neg h3,if_neg h4,Acu hi hzz]
   have Ag:Sem.run P (pure z.cells:Sem (Array Value)) w= .ok z.cells w:=rfl
   simp only [Ag]
   rw [hfill]
   simp [newRow]
 rw [this];exact ⟨⟨rfl,rfl,rfl⟩,H⟩
def PU (el:Nat) (v:Value) (h h':Zs):Prop:=Upd (fun k=>v.ownBlock=some k) h h'/\ ∀ g,v.ownBlock=some g-> ∃ cur,h'[g]? =some (.cells cur el (0,0))
theorem Aky {h h':Zs} {el k lo:Nat} {v:Value} {L:List (List Value)} (H:Akj h el k lo v L) (E:Ext h h'):PU el v h h':=by
 refine ⟨E.upd,fun g hg=>?_⟩;rcases H with ⟨_,rfl⟩ | ⟨g',_,HO⟩
 ·cases hg
 ·rw [HO.blk] at hg;injection hg with hg;subst hg;obtain ⟨cap,cur,_,hgg,_⟩:=HO.ext E;exact ⟨cur,hgg⟩
theorem Agn {s y:Operand} {t el bytes lo k:Nat} {z v w0:Value} {L:List (List Value)} (u:List Value) (hT:SlT P t el k) (hz:ZeT P el z bytes) (hzk:z.cells.size=k) (Af:B h) (hbB:∀ h',PU el v h h'->B h') (hs:∀ p,(e.set d p).ev s=v) (hy:e.ev y=w0) (Ag:w0.cells=u.toArray) (hu:u.length=k) (hone:∀ x∈u,isOne x=true) (Ah:0 < k) (Ai:k<=1000) (HG:Akj h el k lo v L) (hlo:lo<=h.size) (hby:bytes<=1000) (hl:L.length<=100000000) (H:∀ p v' h',Akj h' el k lo v' (L ++ [u])->PU el v h h'->(v'.ownBlock=v.ownBlock∨ ∃ g,v'.ownBlock=some g/\h.size<=g)->RL P B st ops rest ((e.set d p).set d' v') h' K):
    RL P B st ops (⟨some d,.buildSlice t 1 #[(0,y)],ty,pos,af,none⟩ :: ⟨some d',.call ⟨.builtin .append,#[s,.tmp d],#[t,t]⟩,ty',pos',af',none⟩ :: rest) e h K:=by
 have hsz:L.length * bytes<=100000000 * 1000:=Nat.mul_le_mul hl hby;have Aj:(L.length + 1) * bytes<=140737488355328:=by rw [Nat.add_mul];omega
 refine Atk u hT hz Af hy Ag hu Ah Ai ⟨hbB _ (Aky HG (ACy _ _)),?_⟩;have hnew:=Akk h el k u hu;have hE:=ACy h (.cells u.toArray el (0,0));have Ak:(h.push (.cells u.toArray el (0,0))).size=h.size + 1:=by simp
 have hone':∀ x∈u,x.oneCell'=true:=fun x hx'=>by have:=hone x hx';cases x <;> first | rfl | cases this
 refine AMn rfl rfl (hbB _ (Aky HG (ACy _ _))) fun w hw=>?_;have hws:w.heap.size=h.size + 1:=by rw [hw];exact Ak
 have hEw:Ext h w.heap:=by rw [hw];exact hE
 obtain ⟨hut,i0,Ab,Aa⟩:=hT;obtain ⟨i,hi,hzz,hszz,hbyy⟩:=hz;rw [hi] at Ab;injection Ab with Ab;subst Ab
 have hnews:∀ j x,u[j]? =some x->w.cell? ((⟨h.size,0,none⟩:Addr).add j)=some x:=fun j x hx=>by
   rw [AEj,Nat.zero_add]
   have:=hnew.cell (i:=0) rfl hx
   rw [Nat.zero_mul,Nat.zero_add] at this
   rw [AU8,hw];exact this
 rcases HG with ⟨rfl,rfl⟩ | ⟨g,hg,HO⟩
 ·have hr:=run_append_nil (P:=P) w t ty' el i z hut hi hzz ⟨h.size,0,none⟩ 1 1 u (by rw [hu,Aa];omega) hnews Zj Zj (by rw [hbyy];omega)
  have hrun:(execOp (e.set d (.slice (some ⟨h.size,0,none⟩) 1 1)).ev ⟨some d',.call ⟨.builtin .append,#[s,.tmp d],#[t,t]⟩,ty',pos',af',none⟩).run P w= .ok (.value (.slice (some ⟨w.heap.size,0,none⟩) 1 (grownCap w 1 0 el)))
      (w.drew.alloc (.cells (u.toArray ++ Builtin.zeroCells z.cells (grownCap w 1 0 el - 1)) el)):=by
    have hd:(e.set d (.slice (some ⟨h.size,0,none⟩) 1 1)).ev (.tmp d)= .slice (some ⟨h.size,0,none⟩) 1 1:=Env.set_same _ _ _
    simp [execOp,resolve,invoke,builtin,hs,hd,hr]
  rw [hrun];have hge:=grownCap_ge w 1 0 el;have hcm':grownCap w 1 0 el<=maxLen:=grownCap_le_maxLen w _ _ el (by unfold maxLen;omega);refine ⟨⟨rfl,rfl,rfl⟩,hbB _ ?Am,H _ _ _ (.inr ⟨w.heap.size,Zj,?_⟩) ?Am (.inr ⟨w.heap.size,rfl,Zj⟩)⟩;rotate_left
  ·refine ⟨_,_,rfl,heap_alloc_new w.drew _,hge,hcm',?_,by simpa using hu,?_⟩
   ·rw [Array.size_append,size_zeroCells,hzk,List.size_toArray,hu,Nat.sub_mul];have:1 * k<=grownCap w 1 0 el * k:=Nat.mul_le_mul_right k hge;omega
   ·simp only [Array.toList_append];simp only [List.nil_append,List.length_cons,List.length_nil,Nat.zero_add,Nat.one_mul,List.flatten_cons,List.flatten_nil,List.append_nil];rw [<- hu];exact List.take_left
  ·exact ⟨(hEw.trans ⟨AAx,fun k hk=>heap_alloc_old w.drew _ k hk⟩).upd,fun g hg=>by cases hg⟩
 ·have Ac:=HO.ext hE;rw [<- hw] at Ac
  have hcell:∀ j x,L.flatten[j]? =some x->w.cell? ((⟨g,0,none⟩:Addr).add j)=some x:=fun j x hx=>by
    obtain ⟨cap,cur,_,hgg,_,_,_,hkk,ht⟩:=Ac
    rw [AEj,Nat.zero_add,AU8]
    have hj:=(List.getElem?_eq_some_iff.1 hx).1
    rw [AGo hkk] at hj
    rw [<- ht,List.getElem?_take,if_pos hj] at hx
    simp only [ADv,hgg]
    simpa using hx
  have Ar:=Ac;obtain ⟨cap,cur,rfl,hgg,hlc,hcm,hcs,hkk,ht⟩:=Ac;have hd:(e.set d (.slice (some ⟨h.size,0,none⟩) 1 1)).ev (.tmp d)= .slice (some ⟨h.size,0,none⟩) 1 1:=Env.set_same _ _ _;have hlu:(L ++ [u]).length=L.length + 1:=by simp
  have hkk':∀ r∈L ++ [u],r.length=k:=by
    intro r hr
    rcases List.mem_append.1 hr with h1 | h1
    · exact hkk r h1
    · rw [List.mem_singleton.1 h1];exact hu
  by_cases hroom:L.length + 1<=cap
  ·have hmul:(L.length + 1) * k<=cap * k:=Nat.mul_le_mul_right k hroom;rw [Nat.add_mul,Nat.one_mul] at hmul;have hr:=run_append_room (P:=P) w t ty' el i hut hi g L.length cap cur hgg ⟨h.size,0,none⟩ 1 1 u (by rw [hu,Aa];omega) hnews hone' hroom (by rw [Aa,hu,hcs];exact hmul)
   have hrun:(execOp (e.set d (.slice (some ⟨h.size,0,none⟩) 1 1)).ev ⟨some d',.call ⟨.builtin .append,#[s,.tmp d],#[t,t]⟩,ty',pos',af',none⟩).run P w= .ok (.value (.slice (some ⟨g,0,none⟩) (L.length + 1) cap)) (w.setRow g (cur.toList.take (L.length * i.size) ++ u ++ cur.toList.drop (L.length * i.size + u.length)).toArray):=by
     simp [execOp,resolve,invoke,builtin,hs,hd,hr]
   rw [hrun];refine ⟨⟨rfl,rfl,rfl⟩,hbB _ ?Ao,H _ _ _ (.inr ⟨g,hg,?_⟩) ?Ao (.inl rfl)⟩;rotate_left
   ·refine ⟨cap,_,by rw [hlu],setRow_heap w g cur _ el (0,0) hgg,by rw [hlu];exact hroom,hcm,?_,hkk',?_⟩
    ·simp only [Aa,List.size_toArray,List.length_append,List.length_take,List.length_drop,Array.length_toList,hcs,hu];omega
    ·simp only [Aa,ht,hlu];rw [List.flatten_append,List.flatten_cons,List.flatten_nil,List.append_nil];have:(L.length + 1) * k=(L.flatten ++ u).length:=by rw [List.length_append,AGo hkk,hu,Nat.add_mul,Nat.one_mul]
     rw [this];exact List.take_left
   ·exact ⟨hEw.upd.trans ⟨by simp [World.setRow],fun q hq hne=>setRow_other w g q _ (fun he=>hne (by rw [he];rfl))⟩,fun g' hg'=>by injection hg' with hg';subst hg';exact ⟨_,setRow_heap w g cur _ el (0,0) hgg⟩⟩
  ·have hr:=run_append_grow (P:=P) w t ty' el i z hut hi hzz ⟨g,0,none⟩ L.length cap L.flatten (by rw [AGo hkk,Aa]) hcell ⟨h.size,0,none⟩ 1 1 u (by rw [hu,Aa];omega) hnews Zj
     Zj (by rw [hbyy];exact growslice_fits Zj Aj)
   have hrun:(execOp (e.set d (.slice (some ⟨h.size,0,none⟩) 1 1)).ev ⟨some d',.call ⟨.builtin .append,#[s,.tmp d],#[t,t]⟩,ty',pos',af',none⟩).run P w= .ok (.value (.slice (some ⟨w.heap.size,0,none⟩) (L.length + 1) (grownCap w (L.length + 1) cap el)))
       (w.drew.alloc (.cells (L.flatten.toArray ++ u.toArray ++ Builtin.zeroCells z.cells (grownCap w (L.length + 1) cap el - (L.length + 1))) el)):=by
     simp [execOp,resolve,invoke,builtin,hs,hd,hr]
   rw [hrun];have hge:=grownCap_ge w (L.length + 1) cap el;have hcm':grownCap w (L.length + 1) cap el<=maxLen:=grownCap_le_maxLen w _ _ el (by unfold maxLen;omega);refine ⟨⟨rfl,rfl,rfl⟩,hbB _ ?Ap,H _ _ _ (.inr ⟨w.heap.size,Zj,?_⟩) ?Ap (.inr ⟨w.heap.size,rfl,Zj⟩)⟩;rotate_left
   ·refine ⟨_,_,by rw [hlu],heap_alloc_new w.drew _,by rw [hlu];exact hge,hcm',?_,hkk',?_⟩
    ·have hmm:(L.length + 1) * k<=grownCap w (L.length + 1) cap el * k:=Nat.mul_le_mul_right k hge;rw [Nat.add_mul] at hmm;rw [Array.size_append,Array.size_append,size_zeroCells,hzk,List.size_toArray,List.size_toArray,hu,AGo hkk,Nat.sub_mul,Nat.add_mul];omega
    ·simp only [Array.toList_append,hlu];rw [List.flatten_append,List.flatten_cons,List.flatten_nil,List.append_nil];have:(L.length + 1) * k=(L.flatten ++ u).length:=by rw [List.length_append,AGo hkk,hu,Nat.add_mul,Nat.one_mul]
     rw [this];exact List.take_left
   ·exact ⟨(hEw.trans ⟨AAx,fun k hk=>heap_alloc_old w.drew _ k hk⟩).upd,fun g' hg'=>by injection hg' with hg';subst hg';exact ⟨_,(heap_alloc_old w.drew _ g (Array.getElem?_eq_some_iff.1 hgg).1).trans hgg⟩⟩
theorem Ac8 {k:Nat}:∀ {L:List (List Value)} {i:Nat} {row:List Value},(∀ r∈L,r.length=k)->row.length=k->i < L.length->(L.set i row).flatten=L.flatten.take (i * k) ++ row ++ L.flatten.drop (i * k + k):=by
 intro L
 induction L with
 | nil=>intro i row _ _ h;simp at h
 | cons s L ih=>
   intro i row hk hr hi
   have hs:=hk s (List.mem_cons_self ..)
   cases i with
   | zero=>simp [hs,List.drop_append]
   | succ i=>
     have:=ih (fun r hr=>hk r (List.mem_cons_of_mem _ hr)) hr (by simpa using hi)
     simp only [List.set_cons_succ,List.flatten_cons,this]
     rw [List.take_append,List.drop_append,hs,show (i + 1) * k - k=i * k by rw [Nat.add_mul];omega,show (i + 1) * k + k - k=i * k + k by rw [Nat.add_mul];omega,List.take_of_length_le (l:=s) (by rw [hs,Nat.add_mul];omega),List.drop_of_length_le (l:=s) (by rw [hs,Nat.add_mul];omega)]
     simp
theorem AH6.setAll {el k g n:Nat} {v:Value} {L:List (List Value)} {h h':Zs} {row:List Value} (HO:AH6 h el k g v L) (hn:n < L.length) (hrow:row.length=k) (hcur:∀ cur,h[g]? =some (.cells cur el (0,0))->h'[g]? =some (.cells (cur.toList.take (n * k) ++ row ++ cur.toList.drop (n * k + row.length)).toArray el (0,0))):AH6 h' el k g v (L.set n row):=by
 obtain ⟨cap,cur,hv,hg,hl,hm,hs,hk,ht⟩:=HO;have hle':n * k + k<=L.length * k:=by rw [<- Nat.succ_mul];exact Nat.mul_le_mul_right k hn
 have hle2':L.length * k<=cap * k:=Nat.mul_le_mul_right k hl;have hcl:L.length * k<=cur.toList.length:=by have:cur.toList.length=cur.size:=Array.length_toList;omega
 refine ⟨cap,_,by rw [List.length_set];exact hv,hcur cur hg,by rw [List.length_set];exact hl,hm,?_,?_,?_⟩
 ·simp only [List.size_toArray,List.length_append,List.length_take,List.length_drop,Array.length_toList,hrow];omega
 ·intro q hq;rcases List.mem_or_eq_of_mem_set hq with hq | rfl
  ·exact hk q hq
  ·exact hrow
 ·rw [List.length_set,Ac8 hk hrow hn,<- ht];have e1:((cur.toList.take (n * k) ++ row ++ cur.toList.drop (n * k + row.length)).toArray).toList=cur.toList.take (n * k) ++ row ++ cur.toList.drop (n * k + row.length):=rfl;rw [e1,List.take_append,List.take_append,List.take_take,List.take_take,Nat.min_eq_right Zj,Nat.min_eq_left Zj,List.length_append,List.length_take,Nat.min_eq_left Zj,hrow];rw [List.take_of_length_le (l:=row) (by rw [hrow];omega),List.drop_take]
theorem Aq5 {x y:Operand} {t el g s n:Nat} {v:Value} {L:List (List Value)} (row:List Value) (ht:AgT P t s) (hrow:row.length=s) (hx:e.ev x= .pointer (some ⟨g,n * s,none⟩)) (hy:e.ev y= .agg row.toArray) (h1:∀ u∈row,isOne u=true) (HO:AH6 h el s g v L) (hn:n < L.length) (H:∀ h',(∀ v L,AH6 h el s g v L->n < L.length->AH6 h' el s g v (L.set n row))->Upd (· =g) h h'->RL P B st ops rest e h' K):RL P B st ops (⟨none,.store t x y,ty,pos,af,none⟩ :: rest) e h K:=by
 refine Aqt rfl rfl fun w hw=>?_;subst hw;obtain ⟨_,i,hi,hsz⟩:=ht;obtain ⟨cap,cur,hv,hg,hl,hm,hs,hk,htk⟩:=HO;have hone':∀ u∈row,u.oneCell'=true:=fun u hu'=>by have:=h1 u hu';cases u <;> first | rfl | cases this
 have hle:n * s + s<=L.length * s:=by rw [<- Nat.succ_mul];exact Nat.mul_le_mul_right s hn
 have Ab:L.length * s<=cap * s:=Nat.mul_le_mul_right s hl;have hr:=run_storeCells_at P g (n * s) el row 0 cur w hg (by rw [hrow,hs];omega) hone'
 have hrun:(execOp e.ev ⟨none,.store t x y,ty,pos,af,none⟩).run P w= .ok .skip (w.setRow g (cur.toList.take (n * s + 0) ++ row ++ cur.toList.drop (n * s + 0 + row.length)).toArray):=by
   simp only [execOp,Instr.storeAt,hx,Instr.sureAddr,hy]
   simp only [Nat.add_zero] at hr
   simp [storeVar,ANg hi,Value.cells,hsz,hrow,hr]
 rw [hrun]
 exact ⟨⟨rfl,rfl,rfl⟩,H _ (fun v' L' HO' hn'=>HO'.setAll hn' hrow fun cur' hc'=>by
   rw [hg] at hc'
   injection hc' with hc'
   injection hc' with hc' _ _
   subst hc'
   exact setRow_heap w g cur _ el (0,0) hg) ⟨by simp [World.setRow],fun k hk hne=>setRow_other w g k _ (fun he=>hne he)⟩⟩
theorem AZu (a b:Value) (n:Nat):madeCells #[a,b] (n * 2)=((List.replicate n [a,b]).flatten).toArray:=by
 apply Array.ext
 ·simp [madeCells]
 ·intro i h1 h2;have hi:i < n * 2:=by simpa [madeCells] using h1
  simp only [madeCells,Array.getElem_map,Array.getElem_range];have hk:∀ r∈List.replicate n [a,b],r.length=2:=fun r hr=>by rw [(List.mem_replicate.1 hr).2];rfl
  have h3:(List.replicate n [a,b])[i / 2]? =some [a,b]:=by rw [List.getElem?_replicate,if_pos Zj]
  have hg:((List.replicate n [a,b]).flatten)[i]? =some (#[a,b][i % 2]!):=by
    have hm:i % 2=0∨i % 2=1:=by omega
    rcases hm with hm | hm
    · have:=ATa hk h3 (j:=0) (x:=a) rfl
      rw [show i / 2 * 2 + 0=i by omega] at this
      rw [this,hm];rfl
    · have:=ATa hk h3 (j:=1) (x:=b) rfl
      rw [show i / 2 * 2 + 1=i by omega] at this
      rw [this,hm];rfl
  have hl:i < ((List.replicate n [a,b]).flatten).length:=by rw [AGo hk];simp;omega
  rw [List.getElem?_eq_getElem hl] at hg;injection hg with hg;simpa using hg.symm
theorem Aq6 {x y:Operand} {t el n bytes:Nat} {a b:Value} (hT:SlT P t el 2) (hz:ZeT P el (.agg #[a,b]) bytes) (hb:B h) (hx:e.ev x= .int .i64 (n:Int)) (hy:e.ev y= .int .i64 (n:Int)) (hby:bytes<=1000) (hn:n<=100000000)
    (H:∀ h',AH6 h' el 2 h.size (.slice (some ⟨h.size,0,none⟩) n n) (List.replicate n [a,b])->Ext h h'->h.size < h'.size->B h'->RL P B st ops rest (e.set d (.slice (some ⟨h.size,0,none⟩) n n)) h' K) (hbB:B (h.push (.cells ((List.replicate n [a,b]).flatten).toArray el (0,0)))):
    RL P B st ops (⟨some d,.makeSlice t x y,ty,pos,af,none⟩ :: rest) e h K:=by
  have h1:bytes * n<=1000 * 100000000:=Nat.mul_le_mul hby hn;refine AMn rfl rfl hb fun w hw=>?_;subst hw;obtain ⟨hu,i0,hi0,hs0⟩:=hT;obtain ⟨i,hi,hzz,hsz,hby'⟩:=hz;rw [hi] at hi0;injection hi0 with hi0;subst hi0;have hr:=run_make (P:=P) w t el i (.agg #[a,b]) hu hi hzz .i64 .i64 (n:Int) (n:Int) Zj Zj (by rw [hby'];omega) Zj
  have:(execOp e.ev ⟨some d,.makeSlice t x y,ty,pos,af,none⟩).run P w= .ok (.value (.slice (some ⟨w.heap.size,0,none⟩) n n)) (w.alloc (.cells ((List.replicate n [a,b]).flatten).toArray el)):=by
    simp only [execOp,hx,hy];have hc:(Value.agg #[a,b]).cells= #[a,b]:=rfl;simp only [Int.toNat_natCast,hs0,hc,AZu] at hr;simp [hr]
  rw [this];have hk:∀ r∈List.replicate n [a,b],r.length=2:=fun r hr=>by rw [(List.mem_replicate.1 hr).2];rfl
  refine ⟨⟨rfl,rfl,rfl⟩,hbB,H _ ⟨n,((List.replicate n [a,b]).flatten).toArray,AAx,heap_alloc_new w _,AAx,by unfold maxLen;omega,?_,hk,?_⟩ (ACy _ _) AAx hbB⟩
  · rw [List.size_toArray,AGo hk];simp
  · rw [show ((List.replicate n [a,b]).flatten).toArray.toList=(List.replicate n [a,b]).flatten from rfl];exact List.take_of_length_le (by rw [AGo hk];exact Nat.le_refl _)
theorem AVe {x i:Operand} {t el er s g:Nat} {v:Value} {L:List (List Value)} {k:IntKind} {n:Nat} {h0:Zs} (hT:SlT P t el s) (hx:e.ev x=v) (HO:AH6 h0 er s g v L) (hi:e.ev i= .int k (n:Int)) (hn:n < L.length) (H:RL P B st ops rest (e.set d (.pointer (some ⟨g,n * s,none⟩))) h K):RL P B st ops (⟨some d,.indexAddr t x i,ty,pos,af,none⟩ :: rest) e h K:=by
 obtain ⟨cap,cur,rfl,_⟩:=HO;refine Aey hT hx hi Zj Zj ?_;have he:(⟨g,0,none⟩:Addr).add ((n:Int).toNat * s)=⟨g,n * s,none⟩:=by rw [AEj];simp
 rw [he];exact H
theorem AJb {α:Type} {c:Cod α} {x i:Operand} {t el:Nat} {v:Value} {L:List α} {κ:IntKind} {n:Int} {a:α} {h0:Zs} (hT:SlT P t el c.k) (hx:e.ev x=v) (HS:SlC c h0 v L) (hi:e.ev i= .int κ n) (ha:gI L n=some a) (H:∀ b o cs,c.rep h0 a cs->(∀ j u,cs[j]? =some u->ADv h0 ⟨b,o + j,none⟩=some u)->RL P B st ops rest (e.set d (.pointer (some ⟨b,o,none⟩))) h K):RL P B st ops (⟨some d,.indexAddr t x i,ty,pos,af,none⟩ :: rest) e h K:=by
 obtain ⟨m,rfl,Ab⟩:=AGy ha;clear ha;have ha:=Ab;obtain ⟨Ls,⟨ad,cap,rfl,hc⟩,HA⟩:=HS;obtain ⟨cs,hcs,hrep⟩:=HA.get ha;obtain ⟨b,o,rfl,hcu⟩:=hc m cs hcs;have hn:=(List.getElem?_eq_some_iff.1 hcs).1;refine Aey hT hx hi Zj Zj ?_;have he:(⟨b,o,none⟩:Addr).add ((m:Int).toNat * c.k)=⟨b,o + m * c.k,none⟩:=by rw [AEj];simp
 rw [he];exact H b _ cs hrep hcu
theorem ATd {α:Type} {c:Cod α} {x i:Operand} {t el:Nat} {v:Value} {M:List (List α)} {κ:IntKind} {n:Int} {L:List α} {h0:Zs} (hT:SlT P t el 1) (hx:e.ev x=v) (HS:AEq c h0 v M) (hi:e.ev i= .int κ n) (ha:gI M n=some L) (H:∀ b o r,ADv h0 ⟨b,o,none⟩=some r->SlC c h0 r L->RL P B st ops rest (e.set d (.pointer (some ⟨b,o,none⟩))) h K):RL P B st ops (⟨some d,.indexAddr t x i,ty,pos,af,none⟩ :: rest) e h K:=by
 obtain ⟨m,rfl,Ab⟩:=AGy ha;clear ha;have ha:=Ab;obtain ⟨_,rs,⟨ad,cap,rfl,hc⟩,hl,HA⟩:=HS;have hm:=(List.getElem?_eq_some_iff.1 ha).1;obtain ⟨r,hr⟩:∃ r,rs[m]? =some r:=⟨rs[m]'Zj,List.getElem?_eq_getElem _⟩;obtain ⟨b,o,rfl,hcu⟩:=hc m [r] (by simp [hr]);refine Aey hT hx hi Zj (by simp;omega) ?_;have he:(⟨b,o,none⟩:Addr).add ((m:Int).toNat * 1)=⟨b,o + m * 1,none⟩:=by rw [AEj];simp
 rw [he];exact H b _ r (hcu 0 r rfl) (HA m r L hr ha)
theorem AVf {α:Type} {c:Cod α} {er el:Nat} {h0:Zs} {F:List Nat} {Gs:List (List Nat)} {rs:List Value} {v:Value} {M:List (List α)} {n:Nat} {L:List α} (HO:ACp c er el h0 F Gs rs v M) (ha:M[n]? =some L):∃ b r,F=b :: Gs.flatten/\AH6 h0 er 1 b v (rs.map fun r=>[r])/\rs[n]? =some r/\n < rs.length:=by
 rcases HO with ⟨rfl,_⟩ | ⟨b,hF,hn,h2,h3,h4,h5,h6⟩
 ·simp at ha
 ·have hm:=(List.getElem?_eq_some_iff.1 ha).1;exact ⟨b,rs[n]'Zj,hF,h2,List.getElem?_eq_getElem _,Zj⟩
theorem ACt {α:Type} {c:Cod α} {x i:Operand} {t el0 er el:Nat} {F:List Nat} {Gs:List (List Nat)} {rs:List Value} {v:Value} {M:List (List α)} {κ:IntKind} {n:Int} {L:List α} {h0:Zs} (hT:SlT P t el0 1) (hx:e.ev x=v) (HO:ACp c er el h0 F Gs rs v M) (hi:e.ev i= .int κ n) (ha:gI M n=some L)
    (H:∀ b r,F=b :: Gs.flatten->rs[n.toNat]? =some r->ADv h0 ⟨b,n.toNat,none⟩=some r->RL P B st ops rest (e.set d (.pointer (some ⟨b,n.toNat,none⟩))) h K):RL P B st ops (⟨some d,.indexAddr t x i,ty,pos,af,none⟩ :: rest) e h K:=by
  obtain ⟨m,rfl,hm0⟩:=AGy ha;clear ha;have ha:=hm0;obtain ⟨b,r,hF,h2,hr,hm⟩:=AVf HO ha;have hcell:=h2.cell (i:=m) (j:=0) (r:=[r]) (x:=r) (by simp [hr]) rfl;refine AVe (er:=er) (n:=m) hT hx h2 hi (by simpa using hm) ?_;rw [Nat.mul_one];rw [Nat.mul_one,Nat.add_zero] at hcell;exact H b r hF hr hcell
theorem AW8 {α:Type} {c:Cod α} {x i:Operand} {t el0 el:Nat} {F:List Nat} {v:Value} {L:List α} {κ:IntKind} {n:Int} {a:α} {h0:Zs} (hT:SlT P t el0 c.k) (hx:e.ev x=v) (HO:OwC c el h0 F v L) (hi:e.ev i= .int κ n) (ha:gI L n=some a)
    (H:∀ g,F=[g]->RL P B st ops rest (e.set d (.pointer (some ⟨g,n.toNat * c.k,none⟩))) h K):RL P B st ops (⟨some d,.indexAddr t x i,ty,pos,af,none⟩ :: rest) e h K:=by
  obtain ⟨m,rfl,hm0⟩:=AGy ha;clear ha;have ha:=hm0
  rcases HO with ⟨rfl,_⟩ | ⟨g,Ls,hF,h2,h3,_⟩
  · simp at ha
  · have hm:=(List.getElem?_eq_some_iff.1 ha).1;exact AVe (er:=el) (n:=m) hT hx h2 hi (by rw [h3.1];exact hm) (H g hF)
theorem OwC.cells {α:Type} {c:Cod α} {el g:Nat} {v:Value} {L:List α} {n:Int} {a:α} {h0:Zs} {F:List Nat} (HO:OwC c el h0 F v L) (hF:F=[g]) (ha:gI L n=some a):∃ cs,c.rep h0 a cs/\ ∀ j u,cs[j]? =some u->ADv h0 ⟨g,n.toNat * c.k + j,none⟩=some u:=by
 obtain ⟨m,rfl,Ab⟩:=AGy ha;clear ha;have ha:=Ab;rcases HO with ⟨rfl,_⟩ | ⟨g',Ls,hF',h2,h3,_⟩
 ·simp at ha
 ·rw [hF] at hF';injection hF' with hg;subst hg;obtain ⟨cs,hcs,hrep⟩:=h3.get ha;exact ⟨cs,hrep,fun j u hu=>h2.cell hcs hu⟩
theorem AEa {α:Type} {c:Cod α} {x i:Operand} {t el0 er el:Nat} {F:List Nat} {Gs:List (List Nat)} {rs:List Value} {v r:Value} {M:List (List α)} {κ:IntKind} {m n:Int} {L:List α} {a:α} {h0:Zs} (hT:SlT P t el0 c.k) (hx:e.ev x=r) (HO:ACp c er el h0 F Gs rs v M) (hr:rs[m.toNat]? =some r) (hL:gI M m=some L) (hi:e.ev i= .int κ n) (ha:gI L n=some a)
    (H:∀ g,Gs[m.toNat]? =some [g]->RL P B st ops rest (e.set d (.pointer (some ⟨g,n.toNat * c.k,none⟩))) h K):RL P B st ops (⟨some d,.indexAddr t x i,ty,pos,af,none⟩ :: rest) e h K:=by
  obtain ⟨q,rfl,hm0⟩:=AGy hL;clear hL;have hL:=hm0;obtain ⟨G,hG,HR,_⟩:=HO.row hr hL;exact AW8 hT hx HR hi ha fun g hg=>H g (hg ▸ hG)
theorem ACp.cells {α:Type} {c:Cod α} {er el g:Nat} {F:List Nat} {Gs:List (List Nat)} {rs:List Value} {v:Value} {M:List (List α)} {m n:Int} {L:List α} {a:α} {h0:Zs} (HO:ACp c er el h0 F Gs rs v M) (hG:Gs[m.toNat]? =some [g]) (hL:gI M m=some L) (ha:gI L n=some a):∃ cs,c.rep h0 a cs/\ ∀ j u,cs[j]? =some u->ADv h0 ⟨g,n.toNat * c.k + j,none⟩=some u:=by
 obtain ⟨q,rfl,Ab⟩:=AGy hL;clear hL;have hL:=Ab;obtain ⟨b,r,hF,h2,hr,hm⟩:=AVf HO hL;obtain ⟨G,hG',HR,_⟩:=HO.row hr hL;rw [Int.toNat_natCast,hG'] at hG;injection hG with hG;subst hG;exact HR.cells rfl ha
theorem ANh {α:Type} {c:Cod α} {x:Operand} {t b o:Nat} {a:α} {cs:List Value} (ht:AgT P t c.k) (hx:e.ev x= .pointer (some ⟨b,o,none⟩)) (hrep:c.rep h a cs) (hc:∀ j u,cs[j]? =some u->ADv h ⟨b,o + j,none⟩=some u) (H:RL P B false ops rest (e.set d (.agg cs.toArray)) h K):
    RL P B false ops (⟨some d,.load t x,ty,pos,af,none⟩ :: rest) e h K:=
  AMo cs ht (c.klen hrep) hx (fun i u hu=>by rw [AEj];exact hc i u hu) H
theorem APk {α:Type} {c:Cod α} {x:Operand} {t b o:Nat} {a:α} {cs:List Value} {h0:Zs} (ht:AgT P t c.k) (hx:e.ev x= .pointer (some ⟨b,o,none⟩)) (hrep:c.rep h0 a cs) (hb:B h) (hB:∀ h',B h'-> ∀ j u,cs[j]? =some u->ADv h' ⟨b,o + j,none⟩=some u) (H:RL P B true ops rest (e.set d (.agg cs.toArray)) h K):
    RL P B true ops (⟨some d,.load t x,ty,pos,af,none⟩ :: rest) e h K:=
  AGx cs ht (c.klen hrep) hx hb (fun h' hb i u hu=>by rw [AEj];exact hB h' hb i u hu) H
theorem ABr {α:Type} {c:Cod α} {x:Operand} {t el s:Nat} {v:Value} {L:List α} {h0:Zs} (hT:SlT P t el s) (hx:e.ev x=v) (HI:SlC c h0 v L) (H:RL P B st ops rest (e.set d (.int .i64 (L.length:Int))) h K):
    RL P B st ops (⟨some d,.call ⟨.builtin .len,#[x],#[t]⟩,ty,pos,af,none⟩ :: rest) e h K:=by
 obtain ⟨Ls,⟨a,cap,rfl,_⟩,HA⟩:=HI;rw [HA.1] at hx;exact AW5 hT hx H
theorem ABe {α:Type} {c:Cod α} {x:Operand} {t el s:Nat} {v:Value} {M:List (List α)} {h0:Zs} (hT:SlT P t el s) (hx:e.ev x=v) (HI:AEq c h0 v M) (H:RL P B st ops rest (e.set d (.int .i64 (M.length:Int))) h K):
    RL P B st ops (⟨some d,.call ⟨.builtin .len,#[x],#[t]⟩,ty,pos,af,none⟩ :: rest) e h K:=by
 obtain ⟨_,rs,⟨a,cap,rfl,_⟩,hl,_⟩:=HI;rw [List.length_map,hl] at hx;exact AW5 hT hx H
def Aq7 (P:Program) (B:Zs->Prop) (st:Bool) (ops:Array Oper) (rest:List Oper) (e:Env) (h:Zs) (K:Env->Zs->Prop) (o:Oper) (el k g n:Nat) (row:List Value):Prop:=
  ∀ (v:Value) (L:List (List Value)),AH6 h el k g v L->n < L.length->(∀ h',(∀ v' L',AH6 h el k g v' L'->n < L'.length->AH6 h' el k g v' (L'.set n row))->Upd (· =g) h h'->RL P B st ops rest e h' K)->RL P B st ops (o :: rest) e h K
theorem AQf {x y:Operand} {t el g s n:Nat} {row:List Value} (ht:AgT P t s) (hrow:row.length=s) (hx:e.ev x= .pointer (some ⟨g,n * s,none⟩)) (hy:e.ev y= .agg row.toArray) (h1:∀ u∈row,isOne u=true):Aq7 P B st ops rest e h K ⟨none,.store t x y,ty,pos,af,none⟩ el s g n row:=
  fun v L HO hn H=>Aq5 row ht hrow hx hy h1 HO hn H
theorem AL2 {x y:Operand} {t el g n:Nat} {u:Value} (ht:NaT P t) (hx:e.ev x= .pointer (some ⟨g,n * 1,none⟩)) (hy:e.ev y=u) (h1:isOne u=true):Aq7 P B st ops rest e h K ⟨none,.store t x y,ty,pos,af,none⟩ el 1 g n [u]:=by
 intro v L HO hn H;rw [Nat.mul_one] at hx
 have hl:∀ v' L',AH6 h el 1 g v' L'->n < L'.length-> ∃ x0,L'[n]? =some [x0]:=fun v' L' HO' hn'=>by
   obtain ⟨_,_,_,_,_,_,_,hk,_⟩:=HO'
   have:=hk (L'[n]'hn') (List.getElem_mem _)
   obtain ⟨x0,Ab⟩:=List.length_eq_one_iff.1 this
   exact ⟨x0,by rw [List.getElem?_eq_getElem hn',Ab]⟩
 obtain ⟨x0,Ab⟩:=hl v L HO hn;have hc:=HO.cell Ab (j:=0) (x:=x0) rfl;rw [Nat.mul_one,Nat.add_zero] at hc;refine Ano ht hx hy h1 hc (HO.free _) (H _ (fun v' L' HO' hn'=>?_) (ANw _ _ _));obtain ⟨x1,Ad⟩:=hl v' L' HO' hn';have:=HO'.set (j:=0) u Ad Zl;rw [Nat.mul_one,Nat.add_zero] at this;exact this
theorem ATe {Gs:List (List Nat)} (hn:Gs.flatten.Nodup) {i j g:Nat} {G:List Nat} (hi:Gs[i]? =some [g]) (hj:Gs[j]? =some G) (hg:g∈G):i=j:=by
 by_cases hij:i=j
 ·exact hij
 ·exact absurd hg (Ac7 hn hi hj hij g AAx)
theorem ALu {α:Type} {c:Cod α} {o:Oper} {er el g:Nat} {F:List Nat} {Gs:List (List Nat)} {rs:List Value} {v:Value} {M:List (List α)} {m n:Int} {L:List α} {a a':α} {cs:List Value} (HS:Aq7 P B st ops rest e h K o el c.k g n.toNat cs) (HO:ACp c er el h F Gs rs v M) (hG:Gs[m.toNat]? =some [g]) (hL:gI M m=some L) (ha:gI L n=some a) (hrep:c.rep h a' cs) (H:∀ h',ACp c er el h' F Gs rs v (sI M m (sI L n a'))->UpT F h h'->RL P B st ops rest e h' K):RL P B st ops (o :: rest) e h K:=by
 obtain ⟨i,rfl,Ae⟩:=AGy hL;clear hL;have hL:=Ae;rw [Int.toNat_natCast] at hG;have hnd:=HO.notD;obtain ⟨b,r,hFb,Am,hr,hi⟩:=AVf HO hL;obtain ⟨G,hG',HR,hGF⟩:=HO.row hr hL;rw [hG] at hG';injection hG' with hG';subst hG';obtain ⟨j,rfl,ha'⟩:=AGy ha;rcases HO with ⟨rfl,_⟩ | ⟨b',hF',hn,h2,h3,h4,h5,h6⟩
 ·simp at hL
 rcases HR with ⟨_,_,Aa⟩ | ⟨g',Ls,Aa,Ad,Ab,Ac⟩
 ·cases Aa
 injection Aa with Aa;subst Aa;have hj:=(List.getElem?_eq_some_iff.1 ha').1;rw [Int.toNat_natCast] at HS;refine HS r Ls Ad (by rw [Ab.1];exact hj) fun h' hS hU=>?_;have hk2':=hS r Ls Ad (by rw [Ab.1];exact hj);have U:UpT F h h':=AOe hU (hGF g AAx) (fun b hb _=>hnd b hb) (hk2'.notD Ac)
 have hbg:b'≠g:=fun he=>by
   rw [hF'] at hn
   exact (List.nodup_cons.1 hn).1 (he ▸ ADw hG AAx)
 refine H h' (.inr ⟨b',hF',hn,h2.upd hU hbg,h3,by simp [sI,h4],by simp [sI,h5],fun i' G' r' L' hGi hri hLi=>?_⟩) U;by_cases hii:i'=i
 ·subst hii;rw [hG] at hGi;injection hGi with hGi;subst hGi;rw [hr] at hri;injection hri with hri;subst hri
  have:L'=sI L (j:Int) a':=by
    simp only [sI,Int.toNat_natCast] at hLi ⊢
    rw [List.getElem?_set_self (List.getElem?_eq_some_iff.1 hL).1] at hLi
    exact (Option.some.inj hLi).symm
  subst this;refine .inr ⟨g,_,rfl,hk2',?_,Ac⟩;simp only [sI,Int.toNat_natCast];exact (Ab.set j hrep).upT U
 ·have hLi':M[i']? =some L':=by
    simp only [sI,Int.toNat_natCast] at hLi
    rwa [List.getElem?_set_ne (fun he=>hii he.symm)] at hLi
  have U1:UpT [g] h h':=AOe hU AAx (fun b hb _=>hnd b (hGF b hb)) (hk2'.notD Ac)
  exact (h6 i' G' r' L' hGi hri hLi').upT U1 fun x hx hxg=>by
    rw [List.mem_singleton.1 hxg] at hx
    rw [hF'] at hn
    exact hii (ATe (List.nodup_cons.1 hn).2 hG hGi hx).symm
theorem ARb {α:Type} {c:Cod α} {x y:Operand} {t er el:Nat} {F F':List Nat} {Gs:List (List Nat)} {rs:List Value} {v r':Value} {M:List (List α)} {n:Int} {L L':List α} (ht:NaT P t) (HO:ACp c er el h F Gs rs v M) (hL:gI M n=some L) {b:Nat} (hF:F=b :: Gs.flatten) (hx:e.ev x= .pointer (some ⟨b,n.toNat,none⟩)) (hy:e.ev y=r') (HR:OwC c el h F' r' L') (hd:∀ z∈F',z ∉ F)
    (H:∀ h',ACp c er el h' (b :: (Gs.set n.toNat F').flatten) (Gs.set n.toNat F') (rs.set n.toNat r') v (sI M n L')->UpT F h h'->(∀ z∈b :: (Gs.set n.toNat F').flatten,z∈F ++ F')->RL P B st ops rest e h' K):RL P B st ops (⟨none,.store t x y,ty,pos,af,none⟩ :: rest) e h K:=by
  obtain ⟨i,rfl,hm0⟩:=AGy hL;clear hL;have hL:=hm0;simp only [Int.toNat_natCast,sI] at hx H ⊢;have hnd:=HO.notD;have hlt:=HR.lt;have hi:=(List.getElem?_eq_some_iff.1 hL).1
  rcases HO with ⟨rfl,_⟩ | ⟨b',hF',hn,h2,h3,h4,h5,h6⟩
  · simp at hL
  rw [hF] at hF';injection hF' with hF';subst hF'
  have hsub:∀ z∈b :: (Gs.set i F').flatten,z∈F ++ F':=by
    intro z hz
    rcases List.mem_cons.1 hz with rfl | hz
    · simp [hF]
    · rcases AJ0 hz with h7 | ⟨j,G,_,hG,hz⟩
      · simp [h7]
      · rw [hF];simp only [List.cons_append,List.mem_cons,List.mem_append];exact .inr (.inl (ADw hG hz))
  rw [hF] at hn;have hnf:=List.nodup_cons.1 hn;refine (AL2 (n:=i) (el:=er) (g:=b) ht (by rw [Nat.mul_one];exact hx) hy HR.isOne) v _ h2 (by simpa using (by omega:i < rs.length)) fun h' hS hU=>?_;have h2':=hS v _ h2 (by simpa using (by omega:i < rs.length));have U:UpT F h h':=AOe hU (by simp [hF]) (fun b hb _=>hnd b hb) (h2'.notD h3);have U1:UpT [b] h h':=AOe hU AAx (fun x hx _=>hnd x (by rw [List.mem_singleton.1 hx,hF];simp)) (h2'.notD h3)
  refine H h' (.inr ⟨b,rfl,?_,by rw [List.map_set];exact h2',h3,by simp [h4],by simp [h5],fun i' G' r2 L2 hGi hri hLi=>?_⟩) U hsub
  · refine List.nodup_cons.2 ⟨fun hz=>?_,AMt hnf.2 HR.nodup fun z hz j G _ hG hzG=>?_⟩
    · rcases AJ0 hz with h7 | ⟨j,G,_,hG,hz⟩
      · exact hd b h7 (by rw [hF];simp)
      · exact hnf.1 (ADw hG hz)
    · exact hd z hz (by rw [hF];exact List.mem_cons_of_mem _ (ADw hG hzG))
  · by_cases hii:i'=i
    · subst hii;rw [List.getElem?_set_self Zj] at hGi hri hLi;injection hGi with hGi;injection hri with hri;injection hLi with hLi;subst hGi;subst hri;subst hLi;exact HR.upT U hd
    · rw [List.getElem?_set_ne (fun he=>hii he.symm)] at hGi hri hLi
      exact (h6 i' G' r2 L2 hGi hri hLi).upT U1 fun z hz hzb=>by
        rw [List.mem_singleton.1 hzb] at hz;exact hnf.1 (ADw hGi hz)
theorem AQt {α:Type} {c:Cod α} {x y:Operand} {t el bytes:Nat} {n:Int} {z:Value} {a:α} (hT:SlT P t el 1) (hz:ZeT P el z bytes) (h1:isOne z=true) (hk:c.k=1) (hrep:∀ h,c.rep h a [z]) (hel:Nat.beq el 172=false) (hb:B h) (hBE:∀ h',Ext h h'->B h') (hx:e.ev x= .int .i64 n) (hy:e.ev y= .int .i64 n) (hby:bytes<=1000) (hn:0<=n/\n<=100000000) (H:∀ b v h',OwC c el h' [b] v (List.replicate n.toNat a)->Ext h h'->h.size<=b->b < h'.size->RL P B st ops rest (e.set d v) h' K):
    RL P B st ops (⟨some d,.makeSlice t x y,ty,pos,af,none⟩ :: rest) e h K:=by
 obtain ⟨m,rfl⟩:∃ m:Nat,n=m:=⟨n.toNat,Zj⟩;have h2:bytes * m<=1000 * 100000000:=Nat.mul_le_mul hby Zj;refine Ajw hT hz h1 hb hx hy Zj Zj ⟨hBE _ (ACy _ _),?_⟩;rw [Int.toNat_natCast] at H;refine H h.size _ _ (.inr ⟨h.size,_,rfl,by rw [hk];exact Abb (AS4 h el m z (by unfold maxLen;omega)),?_,hel⟩) (ACy _ _) (Nat.le_refl _) AAx;rw [List.map_replicate];exact Aku (hrep _) m
theorem Ae9 {x y:Operand} {t el bytes:Nat} {n:Int} (hT:SlT P t el 2) (hz:ZeT P el (.agg #[.bool false,.slice none 0 0]) bytes) (hel:Nat.beq el 172=false) (hb:B h) (hBE:∀ h',Ext h h'->B h') (hx:e.ev x= .int .i64 n) (hy:e.ev y= .int .i64 n) (hby:bytes<=1000) (hn:0<=n/\n<=100000000) (H:∀ b v h',OwC cZ el h' [b] v (List.replicate n.toNat 0)->Ext h h'->h.size<=b->b < h'.size->RL P B st ops rest (e.set d v) h' K):
    RL P B st ops (⟨some d,.makeSlice t x y,ty,pos,af,none⟩ :: rest) e h K:=by
 obtain ⟨m,rfl⟩:∃ m:Nat,n=m:=⟨n.toNat,Zj⟩;rw [Int.toNat_natCast] at H;refine Aq6 hT hz hb hx hy hby Zj (fun h' HO E hlt _=>H h.size _ _ (.inr ⟨h.size,_,rfl,HO,Aku (c:=cZ) (show cZ.rep h' 0 _ from ⟨rfl,⟨false,_,[],rfl,APh _ _,AQq,AAx,rfl⟩⟩) m,hel⟩) E (Nat.le_refl _) hlt) (hBE _ (ACy _ _))
theorem ARc {α:Type} (c:Cod α) (el:Nat) {x y:Operand} {t er bytes:Nat} {n:Int} (hT:SlT P t er 1) (hz:ZeT P er (.slice none 0 0) bytes) (her:Nat.beq er 172=false) (hb:B h) (hBE:∀ h',Ext h h'->B h') (hx:e.ev x= .int .i64 n) (hy:e.ev y= .int .i64 n) (hby:bytes<=1000) (hn:0<=n/\n<=100000000) (H:∀ F Gs rs v h',ACp c er el h' F Gs rs v (List.replicate n.toNat [])->Ext h h'->Sp h' h.size [F]->RL P B st ops rest (e.set d v) h' K):
    RL P B st ops (⟨some d,.makeSlice t x y,ty,pos,af,none⟩ :: rest) e h K:=by
 obtain ⟨m,rfl⟩:∃ m:Nat,n=m:=⟨n.toNat,Zj⟩;rw [Int.toNat_natCast] at H;have h2:bytes * m<=1000 * 100000000:=Nat.mul_le_mul hby Zj;refine Ajw hT hz rfl hb hx hy Zj Zj ⟨hBE _ (ACy _ _),?_⟩;have hf:(List.replicate m ([]:List Nat)).flatten=[]:=by induction m <;> simp_all [List.replicate_succ]
 refine H [h.size] (List.replicate m []) (List.replicate m (.slice none 0 0)) _ _ (.inr ⟨h.size,by rw [hf],AAx,Abb (AS4 h er m _ (by unfold maxLen;omega)),her,AAx,AAx,fun i G r L hG hr hL=> .inl ⟨?_,?_,?_⟩⟩) (ACy _ _) (AEv (Nat.le_refl _) AAx)
 ·exact List.eq_of_mem_replicate (List.mem_of_getElem? hL)
 ·exact List.eq_of_mem_replicate (List.mem_of_getElem? hr)
 ·exact List.eq_of_mem_replicate (List.mem_of_getElem? hG)
theorem Aii {α:Type} {c:Cod α} {h:Zs} {a:α} {cs:List Value} (hrep:c.rep h a cs):(c.val cs).cells=cs.toArray:=by
 unfold Cod.val;have h1:=c.one hrep;have h2:=c.klen hrep
 cases hag:c.ag with
 | true=>rfl
 | false=>
   rw [c.sc hag] at h2
   obtain ⟨u,rfl⟩:=List.length_eq_one_iff.1 h2
   have:=h1 u AAx
   simp only [cond_false,List.headD]
   cases u <;> first | rfl | cases this
theorem ALl {α:Type} {c:Cod α} {s y:Operand} {t el bytes:Nat} {z v:Value} {F:List Nat} {L:List α} {a:α} {cs:List Value} (hT:SlT P t el c.k) (hz:ZeT P el z bytes) (hzk:z.cells.size=c.k) (hel:Nat.beq el 172=false) (hb0:B h) (hbB:∀ h',UpT F h h'->B h') (hs:∀ p,(e.set d p).ev s=v) (hy:e.ev y=c.val cs) (hrep:c.rep h a cs) (HO:OwC c el h F v L) (hby:bytes<=1000) (hl:L.length<=100000000)
    (H:∀ p F' v' h',OwC c el h' F' v' (L ++ [a])->UpT F h h'->(∀ x∈F',x∈F∨h.size<=x)->RL P B st ops rest ((e.set d p).set d' v') h' K):
    RL P B st ops (⟨some d,.buildSlice t 1 #[(0,y)],ty,pos,af,none⟩ :: ⟨some d',.call ⟨.builtin .append,#[s,.tmp d],#[t,t]⟩,ty',pos',af',none⟩ :: rest) e h K:=by
  have hG:∃ Ls,Akj h el c.k 0 v Ls/\Al c h L Ls/\(∀ x,v.ownBlock=some x->x∈F)/\(∀ x∈F,v.ownBlock=some x):=by
    rcases HO with ⟨rfl,rfl,rfl⟩ | ⟨g,Ls,rfl,h2,h3,h4⟩
    · exact ⟨[],.inl ⟨rfl,rfl⟩,Ae8 c h,(fun x hx=>by cases hx),(fun x hx=>by simp at hx)⟩
    · exact ⟨Ls,.inr ⟨g,Nat.zero_le _,h2⟩,h3,fun x hx=>by rw [h2.blk] at hx;injection hx with hx;simp [hx],fun x hx=>by rw [List.mem_singleton.1 hx];exact h2.blk⟩
  obtain ⟨Ls,HG,HA,hFb,hbF⟩:=hG;have hnd:=HO.notD
  have key:∀ h',PU el v h h'->UpT F h h':=fun h' U=>⟨⟨U.1.1,fun k hk hkF=>U.1.2 k hk fun hv=>hkF (hFb k hv)⟩,fun x hx hl=>⟨hnd x hx,by
    obtain ⟨cur,hc⟩:=U.2 x (hbF x hx);exact ⟨_,hc,hel⟩⟩⟩
  refine Agn (B:=B) (lo:=0) cs hT hz hzk hb0 (fun h' U=>hbB h' (key h' U)) hs hy (Aii hrep) (c.klen hrep) (c.one hrep) c.pos c.le HG (Nat.zero_le _) hby (by rw [HA.1];exact hl) fun p v' h' HG' U hv'=>?_;have UT:=key h' U
  rcases HG' with ⟨h1,_⟩ | ⟨g',_,HO'⟩
  · simp at h1
  · refine H p [g'] v' h' (.inr ⟨g',_,rfl,HO',(HA.upT UT).push (c.upT hrep UT),hel⟩) UT fun x hx=>?_;rw [List.mem_singleton.1 hx]
    rcases hv' with h1 | ⟨g2,h1,h2⟩
    · exact .inl (hFb _ (h1 ▸ HO'.blk))
    · rw [HO'.blk] at h1;injection h1 with h1;exact .inr Zj
theorem Ago {α:Type} {c:Cod α} {s y:Operand} {t er el bytes:Nat} {z v r:Value} {F F0:List Nat} {Gs:List (List Nat)} {rs:List Value} {M:List (List α)} {L:List α} (hT:SlT P t er 1) (hz:ZeT P er z bytes) (hzk:z.cells.size=1) (her:Nat.beq er 172=false) (hb0:B h) (hbB:∀ h',UpT F h h'->B h') (hs:∀ p,(e.set d p).ev s=v) (hy:e.ev y=r) (HR:OwC c el h F0 r L) (HO:ACp c er el h F Gs rs v M) (hdj:∀ x∈F0,x ∉ F) (hby:bytes<=1000) (hl:M.length<=100000000)
    (H:∀ p F' v' h',ACp c er el h' F' (Gs ++ [F0]) (rs ++ [r]) v' (M ++ [L])->UpT F h h'->(∀ x∈F',x∈F ++ F0∨h.size<=x)->RL P B st ops rest ((e.set d p).set d' v') h' K):
    RL P B st ops (⟨some d,.buildSlice t 1 #[(0,y)],ty,pos,af,none⟩ :: ⟨some d',.call ⟨.builtin .append,#[s,.tmp d],#[t,t]⟩,ty',pos',af',none⟩ :: rest) e h K:=by
  have hnd:=HO.notD;have hnd0:=HR.notD;have hlt0:=HR.lt;have hlt:=HO.lt
  have hG:∃ bs:List Nat,Akj h er 1 0 v (rs.map fun r=>[r])/\F=bs ++ Gs.flatten/\(∀ x,v.ownBlock=some x->bs=[x])/\(∀ x∈bs,v.ownBlock=some x)/\rs.length=M.length/\Gs.length=M.length/\F.Nodup/\ ∀ (i:Nat) (G:List Nat) (r:Value) (L:List α),Gs[i]? =some G->rs[i]? =some r->M[i]? =some L->OwC c el h G r L:=by
    rcases HO with ⟨rfl,rfl,rfl,rfl,rfl⟩ | ⟨b,rfl,hn,h2,h3,h4,h5,h6⟩
    · exact ⟨[],.inl ⟨rfl,rfl⟩,rfl,(fun x hx=>by cases hx),(fun x hx=>by simp at hx),rfl,rfl,AAx,(fun i G r L hG=>by simp at hG)⟩
    · exact ⟨[b],.inr ⟨b,Nat.zero_le _,h2⟩,rfl,fun x hx=>by rw [h2.blk] at hx;injection hx with hx;rw [hx],fun x hx=>by rw [List.mem_singleton.1 hx];exact h2.blk,h4,h5,hn,h6⟩
  obtain ⟨bs,HG,hF,hFb,hbF,h4,h5,hn,h6⟩:=hG
  have key:∀ h',PU er v h h'->UpT bs h h':=fun h' U=>⟨⟨U.1.1,fun k hk hkF=>U.1.2 k hk fun hv=>hkF (by rw [hFb k hv];simp)⟩,fun x hx hl=>⟨hnd x (by rw [hF];simp [hx]),by
    obtain ⟨cur,hc⟩:=U.2 x (hbF x hx);exact ⟨_,hc,her⟩⟩⟩
  have keyF:∀ h',UpT bs h h'->UpT F h h':=fun h' U=>U.mono (fun x hx=>by rw [hF];simp [hx]) fun x hx _=>hnd x hx;have hone:=HR.isOne;have hvc:r.cells=[r].toArray:=by cases r <;> first | rfl | cases hone
  refine Agn (B:=B) (lo:=0) [r] hT hz hzk hb0 (fun h' U=>hbB h' (keyF h' (key h' U))) hs hy hvc rfl (fun x hx=>by rw [List.mem_singleton.1 hx];exact hone) Zl Zl HG (Nat.zero_le _) hby (by rw [List.length_map,h4];exact hl) fun p v' h' HG' U hv'=>?_;have UT:=key h' U
  rcases HG' with ⟨h1,_⟩ | ⟨b',_,HO'⟩
  · simp at h1
  have hsub:b'∈F∨h.size<=b':=by
    rcases hv' with h1 | ⟨g2,h1,h2⟩
    · have:=hFb b' (h1 ▸ HO'.blk);rw [this] at hF;exact .inl (by rw [hF];simp)
    · rw [HO'.blk] at h1;injection h1 with h1;exact .inr Zj
  have hbG:b' ∉ Gs.flatten:=fun hm=>by
    rcases hv' with h1 | ⟨g2,h1,h2⟩
    · have:=hFb b' (h1 ▸ HO'.blk);rw [hF,this] at hn;exact (List.nodup_cons.1 hn).1 hm
    · rw [HO'.blk] at h1;injection h1 with h1;have:=hlt b' (by rw [hF];simp [hm]);omega
  have hbF0:b' ∉ F0:=fun hm=>by
    rcases hsub with h1 | h1
    · exact hdj b' hm h1
    · have:=hlt0 b' hm;omega
  have hnG:Gs.flatten.Nodup:=by rw [hF] at hn;exact (List.nodup_append.1 hn).2.1
  refine H p (b' :: (Gs ++ [F0]).flatten) v' h' (.inr ⟨b',rfl,?_,by rw [List.map_append];exact HO',her,by simp [h4],by simp [h5],fun i G r2 L2 hGi hri hLi=>?_⟩) (keyF h' UT) fun x hx=>?_
  · refine List.nodup_cons.2 ⟨by simp [hbG,hbF0],?_⟩;simp only [List.flatten_append,List.flatten_cons,List.flatten_nil,List.append_nil];exact List.nodup_append.2 ⟨hnG,HR.nodup,fun x hx y hy he=>hdj y hy (by rw [hF];simp [he ▸ hx])⟩
  · rcases Nat.lt_or_ge i M.length with hi | hi
    · rw [List.getElem?_append_left Zj] at hGi hri hLi
      exact (h6 i G r2 L2 hGi hri hLi).upT UT fun x hx hxb=>by
        have hxo:=hbF x hxb;have hb1:=hFb x hxo;rw [hF,hb1] at hn;exact (List.nodup_cons.1 hn).1 (ADw hGi hx)
    · rw [List.getElem?_append_right Zj] at hGi hri hLi;have:i - M.length=0:=by have:=(List.getElem?_eq_some_iff.1 hLi).1;simp at this;omega
      rw [show i - Gs.length=0 by omega] at hGi;rw [show i - rs.length=0 by omega] at hri;rw [this] at hLi;injection hGi with hGi;injection hri with hri;injection hLi with hLi;subst hGi;subst hri;subst hLi;exact HR.upT UT fun x hx hxb=>hdj x hx (by rw [hF];simp [hxb])
  · simp only [List.flatten_append,List.flatten_cons,List.flatten_nil,List.append_nil,List.mem_cons,List.mem_append] at hx
    rcases hx with rfl | hx | hx
    · rcases hsub with h1 | h1
      · exact .inl (by simp [h1])
      · exact .inr h1
    · exact .inl (by rw [hF];simp [hx])
    · exact .inl (by simp [hx])
theorem Akz {x:Operand} {t:Nat} {v:Value} (l:List Value) (hb:B h) (hBE:∀ h',Ext h h'->B h') (hx:e.ev x=v) (hl:v.cells=l.toArray) (H:∀ b h',ACr t h' b l->Ext h h'->Sp h' h.size [[b]]->RL P B st ops rest (e.set d (.pointer (some ⟨b,0,none⟩))) h' K):
    RL P B st ops (⟨some d,.box t x,ty,pos,af,none⟩ :: rest) e h K:=by
 refine Ap4 hb hx ⟨hBE _ (ACy _ _),?_⟩;exact H h.size _ (by unfold ACr;rw [hl];simp) (ACy _ _) (AEv (Nat.le_refl _) AAx)
theorem AYo {t bytes:Nat} {z:Value} (l:List Value) (hz:ZeT P t z bytes) (hl:z.cells=l.toArray) (hb:B h) (hBE:∀ h',Ext h h'->B h') (H:∀ b h',ACr t h' b l->Ext h h'->Sp h' h.size [[b]]->RL P B st ops rest (e.set d (.pointer (some ⟨b,0,none⟩))) h' K):
    RL P B st ops (⟨some d,.alloc t,ty,pos,af,none⟩ :: rest) e h K:=by
 refine Agf hz hb ⟨hBE _ (ACy _ _),?_⟩;exact H h.size _ (by unfold ACr;rw [hl];simp) (ACy _ _) (AEv (Nat.le_refl _) AAx)
theorem AD2 {f:FuncId} {xs:List Operand} {ts:Array TypeId} {l:List Value} {K':Value->Zs->Prop} (hb:B h) (hBE:∀ h',Ext h h'->B h') (hxs:xs.map e.ev=l) (HC:AAs P f l.toArray h fun x h'=>Ext h h'/\K' x h')
    (H:∀ v h',Ext h h'->K' v h'->RL P B st ops rest (e.set d v) h' K):RL P B st ops (⟨some d,.call ⟨.value (.func f),xs.toArray,ts⟩,ty,pos,af,none⟩ :: rest) e h K:=
  AAr hb hxs HC fun v h' hk=>⟨hBE _ hk.1,H v h' hk.1 hk.2⟩
theorem AAa (h:Zs):cZ.rep h 0 [.bool false,.slice none 0 0]:=⟨rfl,⟨false,_,[],rfl,APh _ _,AQq,AAx,rfl⟩⟩
end
end Go.QF
namespace Go.Proofs.YtdkldlbgcfpglaaGreatDoor
open Go Go.QF
theorem ASq:SlT Tryz.prog 27 59 5:=AQn Tryz.underlying27 Zw
theorem ASr:SlT Tryz.prog 44 48 5:=AQn Tryz.underlying44 Zw
theorem AE6:NaT Tryz.prog 25:=AOd Tryz.underlying25 rfl Zw
theorem ATf:NaT Tryz.prog 27:=AOd Tryz.underlying27 rfl Zw
theorem AMu:AgT Tryz.prog 29 3:=AUr Tryz.underlying29 rfl Zw
theorem ANk:AgT Tryz.prog 59 5:=AUr Tryz.underlying59 rfl Zw
theorem Abc:AgT Tryz.prog 48 5:=AUr Tryz.underlying48 rfl Zw
theorem ATy:Tryz.prog.underlying 4=some .bool:=Tryz.underlying4
theorem Abd:ZeT Tryz.prog 29 (.agg #[.int .i64 0,.slice none 0 0,.slice none 0 0]) 56:=APc Zw
theorem ATg:ZeT Tryz.prog 59 (.agg #[.int .i64 0,.int .i64 0,.int .i64 0,.int .i64 0,.int .i64 0]) 40:=APc Zw
theorem Abe:ZeT Tryz.prog 48 (.agg #[.int .i64 0,.int .i64 0,.int .i64 0,.bool false,.int .i64 0]) 40:=APc Zw
theorem AOs:FdT Tryz.prog 29 0 0 2:=⟨_,_,Tryz.underlying29,rfl,rfl,rfl⟩
theorem ATz:FdT Tryz.prog 29 1 1 25:=⟨_,_,Tryz.underlying29,rfl,rfl,rfl⟩
theorem AMv:FdT Tryz.prog 29 2 2 27:=⟨_,_,Tryz.underlying29,rfl,rfl,rfl⟩
theorem AKs:FdT Tryz.prog 59 0 0 3:=⟨_,_,Tryz.underlying59,rfl,rfl,rfl⟩
theorem An2:FdT Tryz.prog 59 1 1 3:=⟨_,_,Tryz.underlying59,rfl,rfl,rfl⟩
theorem AT0:FdT Tryz.prog 59 2 2 2:=⟨_,_,Tryz.underlying59,rfl,rfl,rfl⟩
theorem An3:FdT Tryz.prog 59 3 3 2:=⟨_,_,Tryz.underlying59,rfl,rfl,rfl⟩
theorem An4:FdT Tryz.prog 59 4 4 2:=⟨_,_,Tryz.underlying59,rfl,rfl,rfl⟩
theorem An5:FdT Tryz.prog 48 0 0 3:=⟨_,_,Tryz.underlying48,rfl,rfl,rfl⟩
theorem AXq:FdT Tryz.prog 48 1 1 3:=⟨_,_,Tryz.underlying48,rfl,rfl,rfl⟩
theorem Abf:FdT Tryz.prog 48 2 2 3:=⟨_,_,Tryz.underlying48,rfl,rfl,rfl⟩
theorem AAg:SlT Tryz.prog 92 172 1:=AQn Tryz.underlying92 Zw
theorem AGi:NaT Tryz.prog 92:=AOd Tryz.underlying92 rfl Zw
theorem ACa:NaT Tryz.prog 172:=AOd Tryz.underlying172 rfl Zw
theorem ACu:ARx Tryz.prog 172 .u32:=Tryz.underlying172
theorem AJ1:ZeT Tryz.prog 172 (.int .u32 0) 4:=APc Zw
theorem ACg:ARx Tryz.prog 61 .u64:=Tryz.underlying61
theorem ABa:AgT Tryz.prog 94 2:=AUr Tryz.underlying94 rfl Zw
theorem AEb:ZeT Tryz.prog 94 (.agg #[.bool false,.slice none 0 0]) 32:=APc Zw
theorem AJv:FdT Tryz.prog 94 0 0 4:=⟨_,_,Tryz.underlying94,rfl,rfl,rfl⟩
theorem AKc:FdT Tryz.prog 94 1 1 92:=⟨_,_,Tryz.underlying94,rfl,rfl,rfl⟩
theorem ACn:SlT Tryz.prog 128 94 2:=AQn Tryz.underlying128 Zw
theorem ADi:NaT Tryz.prog 128:=AOd Tryz.underlying128 rfl Zw
theorem ABu:SlT Tryz.prog 52 128 1:=AQn Tryz.underlying52 Zw
end Go.Proofs.YtdkldlbgcfpglaaGreatDoor
