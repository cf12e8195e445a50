/-
  Texts of a proof, joined. Conditions stand in each statement.
-/
import Derived.KernelRfl
import Derived.Calls
import Derived.Orders
import Derived.Tactics
import Derived.OwnWalk
import Derived.Scope
import Derived.Deep.LoopGhost
import Derived.Laws.MakeOwn
import Derived.Test.YtgmdhndbcohgiaaGreatDoorProg
import Derived.Test.YtgmdhndbcohgiaaGreatDoorCards
import Derived.Test.YtgmdhndbcohgiaaGreatDoorTie
import Derived.ProofKit
import Derived.OpenShut
import Derived.ShutString
import Derived.ChangeOld
import Derived.Below
import Derived.Carry
import Derived.Deep.Matrix
import Derived.Deep.DeepHandedRow
import Derived.Lib.LaidTab
import Derived.Deep.Strs
import Derived.ArgAppend
set_option linter.unusedVariables false
set_option linter.unusedSimpArgs false
open Go renaming Value->aa,Program->aj,Operand->ak,TypeId->am,Oper->av,World->aK,IntKind->dp,Exit->dw,Code->d8,BinOp->fv,ResultVar->fS,FuncId->gd
open List renaming getElem?_eq_some_iff->ab,getElem?_eq_getElem->ae,replicate->ah,nodup_cons->ao,mem_cons_of_mem->ap,mem_singleton->ar,mem_cons_self->au,mem_of_getElem?->aw,flatten_cons->ax,range->aA,getD_eq_getElem?_getD->aG,getElem?_of_mem->aI,nodup_append->aL,mem_append->aU,size_toArray->ba,length_cons->bn,getElem?_append_right->bo,getElem?_append_left->bx,getElem?_set_ne->bz,mem_cons->bA,flatten_append->bD,mem_flatten->bE,getElem?_cons_succ->bG,take_of_length_le->bJ,ext_getElem?->bM,map_toArray->bO,all_eq_true->bP,getElem?_set_self->bU,getElem?_eq_none->b8,length_take->b9,cons_append->ca,eq_nil_of_length_eq_zero->cb,length_set->cg,length_map->ci,set_cons_succ->co,eq_of_mem_replicate->ct,flatten_nil->cx,ext_getElem->cy,append_nil->cE,mem_range->cL,map_replicate->cX,length_append->cY,getElem_range->de,getElem?_take->df,getElem?_set->du,take_append->dz,length_drop->dC,getElem_map->dD,map_append->dL,length_nil->dM,mem_map->eA,length_eq_one_iff->eB,eq_nil_or_concat->eJ,concat_eq_append->eK,mem_of_mem_take->eR,replicate_succ->fa,set_cons_zero->fe,pairwise_cons->ff,append_of_mem->fg,getElem?_map->fj,getElem_mem->fp,take_take->fD,take_set->fK,map_set->fN,map->gg
open Int renaming toNat_natCast->ai,mul_assoc->bL,mul_comm->bX,mul_emod->cC,mul_nonneg->cO,emod_eq_emod_iff_emod_sub_eq_zero->cQ,emod_lt_of_pos->di,mul_le_mul_of_nonneg_right->dF,mul_add->dJ,emod_nonneg->dQ,dvd_trans->eh,dvd_mul_of_dvd_right->ej,dvd_of_emod_eq_zero->eC,neg_mul->e5,mul_neg->e6,emod_eq_of_lt->fq,ediv_le_self->fx,ediv_nonneg->fG,le_of_dvd->fO,emod_emod->fP,sub_mul->f8,one_mul->f9,neg_neg->ga,dvd_sub->gb
open Array renaming getElem?_eq_some_iff->an,getD_eq_getD_getElem?->bc,getElem?_modify->bK,toList_setIfInBounds->bN,getElem?_eq_getElem->cq,size_append->cr,range->cJ,length_toList->cP,any_eq_true'->cW,toArray_toList->eN,toList_append->eU,empty_append->fb,ext->fi,size->fY
open Go.Region renaming wanted->aq,binds->bw
open Nat renaming le_refl->ay,beq->aF,mul_le_mul_right->aJ,zero_add->aM,mul_le_mul->aP,mul_one->bh,lt_of_lt_of_le->bt,lt_or_ge->bV,le_trans->bW,zero_le->ce,pow_succ->cm,add_zero->cn,mul_assoc->cu,min_eq_left->cG,add_mul->cM,mul_le_mul_left->cT,pos_of_ne_zero->dh,sub_self->dy,div_eq_of_lt->dE,pow_pos->dH,pow_add->dI,div_add_mod->dP,two_pow_add_eq_or_of_lt->dV,mod_lt->dW,mod_two_eq_zero_or_one->dY,shiftLeft->d9,lor->eD,one_le_iff_ne_zero->eG,one_and_eq_mod_two->eH,div_div_eq_div_mul->eI,eq_of_beq_eq_true->eQ,sub_mul->eY,add_mul_div_left->e9,lt_trichotomy->fo,mod_eq_of_lt->fw,mul_add_mod->fB,mul_add_div->fC,shiftRight->fJ,succ_mul->fT,mul_comm->fU,lt_trans->fV,and_comm->fW,testBit->f6,mod_one->f7
open Go.Builtin renaming zeroCells->aH,append_->bR,nextslicecap->et,firstCells->eM,lenOf->fu
open BitVec renaming ofInt->aV
open Bool renaming and_eq_true->aY,or_eq_true->cF
open Go.IntKind renaming signed->be,wrap_i64->bC,bits->bH,wrap->bS,min->fE,max->fF
open Option renaming map_some->bI,getD_some->dr,getD_none->fc
open Go.Instr renaming sureAddr->bT,fill->bZ,buildSlice->cv,storeAt->dX,index->eE,sliceBounds->fh,sliceBound->fm,sliceAt->fH,loadAt->fL,slice->fQ
open Go.World renaming setRow->cj,holding->fy
open Go.Sem renaming run_bind->ck,run->dR,bind->fI
open Option.some renaming injEq->cK,inj->gf
open Go.Value renaming bool->cR,int->dx,cells->fM,agg->f5
open Go.Addr renaming add->dq
open Go.Op renaming intArith->dN,intBits->dZ,equalIn->d7
set_option maxRecDepth 100000
open Go
variable{ts:Array am}{st draw want:Bool}{f:gd}{a d:Int}{k k' kk κ:dp}{Gs Fs:List (List Nat)}{parts:List (Nat×ak)}{D F G A:List Nat}{xs:List ak}{l rs:List aa}{t i j id el s g er bytes C tb ty el0 er0 tr tl:Nat}{S:Nat->Prop}{x y:ak}{P:aj}{p:Prop}{α:Type}{dst t2 src:am}{v xv r:aa}{w:aK}
namespace Go.QF
theorem Wq(h:p:=by omega):p:=h
theorem Wr(h:p:=by decide):p:=h
theorem Ww(h:p:=by kernel_rfl):p:=h
theorem W4(h:p:=by simp):p:=h
abbrev Wz:=Nat->Nat->Int
abbrev Ws:=Array Obj
abbrev Env:=Nat->aa
def Env.set(e:Env)(d:Nat)(v:aa):Env:=λt=>bif aF t d then v else e t
def Env.put(e:Env):Option Nat->aa->Env|some d,v=>e.set d v|none,_=>e
def Env.ev(e:Env):ak->aa|.tmp t=>e t|.const v=>v|.global g=>.pointer (some ⟨g,0,none⟩)|.func f=>.func (.func f) #[] #[]
def Env.mv(e:Env)(d:Nat)(x:ak):Env:=λt=>bif aF t d then e.ev x else e t
theorem Env.set_same(e:Env)(d:Nat)(v:aa):e.set d v d=v:=by have h:aF d d=true:=Nat.beq_eq.mpr rfl;simp only[Env.set,h,cond_true]
theorem Env.set_other(e:Env){d:Nat}(v:aa)(h:t≠d):e.set d v t=e t:=by
 have h:aF t d=false:=by
  cases hb:aF t d;.rfl
  simp_all
 simp only[Env.set,h,cond_false]
structure Rep(n:Nat)(e:Env)(a:Act):Prop where
 size:a.tmps.size=n
 defers:a.defers=[]get:∀t,a.tmps.getD t undef=e t
theorem Rep.eval{n:Nat}{e:Env}{a:Act}(r:Rep n e a):a.eval=e.ev:=by
 funext x;cases x with
 |tmp t=>exact r.get t|_=>rfl
theorem Rep.put{n:Nat}{e:Env}{a:Act}(r:Rep n e a)(d:Option Nat)(v:aa)(hd:∀x,d=some x->x<n):Rep n (e.put d v) (a.put d v):=by cases d with
 |none=>exact r|some d=>
   have hdn:=hd d rfl;refine⟨by simp[Act.put,r.size],by simp[Act.put,r.defers],λt=>?_⟩;show(a.tmps.setIfInBounds d v).getD t undef=e.set d v t;by_cases h:t=d;.subst h;rw[Env.set_same];simp[bc,r.size,hdn]
   .rw[Env.set_other e v h,<-r.get t];simp only[bc];grind
structure Same(w w':aK):Prop where
 os:w'.os=w.os
 tape:w'.tape=w.tape
 output:w'.output=w.output
theorem Same.refl(w:aK):Same w w:=⟨rfl,rfl,rfl⟩
theorem Same.trans{a b c:aK}(h:Same a b)(k:Same b c):Same a c:=⟨k.os.trans h.os,k.tape.trans h.tape,k.output.trans h.output⟩
inductive Kind where|pure|read|eff|wr
def kindOf:Op->Kind|.move _|.assign _|.pick ..|.binOp ..|.unOp ..|.convert ..|.fieldAddr ..|.field ..|.indexAddr ..|.index ..|.extract ..|.slice ..|.nilCheck _|.makeInterface ..|.makeFunc ..|.build ..=>.pure|.call {callee:=.builtin .len,..}=>.pure|.call {callee:=.builtin .min,..}=>.pure|.call {callee:=.builtin .max,..}=>.pure|.load ..=>.read|.store ..=>.wr|_=>.eff
def AW7(P:aj)(ρ:ak->aa)(o:av)(v:aa):Prop:=∀w,(execOp ρ o).run P w=.ok (.value v) w
def Atu(P:aj)(B:Ws->Prop)(ρ:ak->aa)(o:av)(v:aa):Prop:=∀w:aK,B w.heap->(execOp ρ o).run P w=.ok (.value v) w
def Azu(P:aj)(ρ:ak->aa)(o:av)(h:Ws)(v:aa):Prop:=∀w,w.heap=h->(execOp ρ o).run P w=.ok (.value v) w
def AM0(P:aj)(w:aK)(K:aa->Ws->Prop):Result Next->Prop|.ok (.value v) w'=>Same w w'/\K v w'.heap|.ok .skip w'=>Same w w'/\K undef w'.heap|.ok (.enter f args) w'=>Same w w'/\Calls P f args w' λen w''=>∃v,en=.returned v/\Same w' w''/\K v w''.heap|_=>False
def ANs(P:aj)(ρ:ak->aa)(o:av)(h:Ws)(K:aa->Ws->Prop):Prop:=∀w,w.heap=h->AM0 P w K ((execOp ρ o).run P w)
theorem AM0.mono{P:aj}{w:aK}{K K':aa->Ws->Prop}(hK:∀v h,K v h->K' v h){r:Result Next}(h:AM0 P w K r):AM0 P w K' r:=by cases r with
 |ok n w'=>cases n<;>simp only[AM0]at h⊢<;>first
     |exact⟨h.1,hK _ _ h.2⟩|exact⟨h.1,Calls.mono h.2 λen w''⟨v,he,hs,hk⟩=>⟨v,he,hs,hK _ _ hk⟩⟩
 |halt x w'=>exact h
theorem ANs.mono{P:aj}{ρ:ak->aa}{o:av}{h:Ws}{K K':aa->Ws->Prop}(hK:∀v h,K v h->K' v h)(H:ANs P ρ o h K):ANs P ρ o h K':=λw hw=>(H w hw).mono hK
def ALn(h:Ws):aK:={heap:=h,tape:=λ_ _=>0,drawn:=0,os:=default,output:=#[]}
theorem AM0.some{K:aa->Ws->Prop}{r:Result Next}(h:AM0 P w K r):∃v h',K v h':=by cases r with
 |ok n w'=>cases n<;>simp only[AM0]at h<;>first
     |exact⟨_,_,h.2⟩|(obtain⟨en,w'',fr,⟨v,_,_,hk⟩,_⟩:=h.2 [];grind)
 |halt x w'=>exact h.elim
theorem ANs.some{P:aj}{ρ:ak->aa}{o:av}{h:Ws}{K:aa->Ws->Prop}(H:ANs P ρ o h K):∃v h',K v h':=(H (ALn h) rfl).some
def SOp(P:aj)(B:Ws->Prop)(st:Bool)(o:av)(e:Env)(h:Ws)(K:Env->Ws->Prop):Prop:=match kindOf o.op,st with|.pure,_=>∃v,AW7 P e.ev o v/\K (e.put o.dst v) h|.read,false=>∃v,Azu P e.ev o h v/\K (e.put o.dst v) h|.read,true=>∃v,B h/\Atu P B e.ev o v/\K (e.put o.dst v) h|.eff,_=>B h/\ANs P e.ev o h λv h'=>B h'/\K (e.put o.dst v) h'|.wr,_=>ANs P e.ev o h λv h'=>K (e.put o.dst v) h'
theorem SOp.mono{P:aj}{B:Ws->Prop}{st:Bool}{o:av}{e:Env}{h:Ws}{K K':Env->Ws->Prop}(hK:∀v h',K (e.put o.dst v) h'->K' (e.put o.dst v) h')(H:SOp P B st o e h K):SOp P B st o e h K':=by
 unfold SOp at*;split at H;.grind
 .grind
 .grind
 .exact⟨H.1,H.2.mono λv h' hk=>⟨hk.1,hK _ _ hk.2⟩⟩
 .exact H.mono λv h' hk=>hK _ _ hk
def ACn(ops:Array av)(e:Env)(j:Nat):Option Bool:=match ops[j]?.bind (·.dst)with
 |some t=>match e t with
   |.bool b=>some b|_=>none
 |none=>none
theorem Rep.yields{n:Nat}{e:Env}{a:Act}(r:Rep n e a)(ops:Array av):yielded ops a.tmps=ACn ops e:=by
 funext j;unfold yielded ACn;cases h:ops[j]?.bind (·.dst)with
 |none=>rfl|some t=>
   have hg:=r.get t;simp only[Option.bind_some];rw[<-hg];rcases bV t a.tmps.size with hl|hl
   .simp only[bc,cq hl,dr];grind
   .simp[bc,Array.getElem?_eq_none hl,undef]
def GOp(P:aj)(B:Ws->Prop)(st:Bool)(ops:Array av)(o:av)(e:Env)(h:Ws)(K:Env->Ws->Prop):Prop:=if aq o (ACn ops e)=true then SOp P B st o e h K else K (e.put o.dst undef) h
theorem GOp.mono{P:aj}{B:Ws->Prop}{st:Bool}{ops:Array av}{o:av}{e:Env}{h:Ws}{K K':Env->Ws->Prop}(hK:∀v h',K (e.put o.dst v) h'->K' (e.put o.dst v) h')(H:GOp P B st ops o e h K):GOp P B st ops o e h K':=by
 unfold GOp at*;split;.rename_i hw;rw[if_pos hw]at H;exact H.mono hK
 grind
def LI(P:aj)(B:Ws->Prop)(st:Bool)(ops:Array av):List Nat->Env->Ws->(Env->Ws->Prop)->Prop|[],e,h,K=>K e h|i::l,e,h,K=>match ops[i]? with|none=>LI P B st ops l e h K|some o=>GOp P B st ops o e h λe' h'=>LI P B st ops l e' h' K
def RL(P:aj)(B:Ws->Prop)(st:Bool)(ops:Array av):List av->Env->Ws->(Env->Ws->Prop)->Prop|[],e,h,K=>K e h|o::l,e,h,K=>GOp P B st ops o e h λe' h'=>RL P B st ops l e' h' K
theorem A4f{B:Ws->Prop}{ops:Array av}{K:Env->Ws->Prop}(l:List av):∀(k:Nat),(∀j,l[j]?=ops[k+j]?)->∀e h,RL P B st ops l e h K->LI P B st ops (List.range' k l.length) e h K:=by induction l with
 |nil=>intro k _ e h H;exact H|cons o l ih=>
   intro k hk e h H;have h0:ops[k]?=some o:=by simpa using(hk 0).symm
   have ih':=ih (k+1) λj=>by have:=hk<|j+1;grind
   simp only[bn,List.range'_succ,LI,h0];exact GOp.mono (λv h' hr=>ih' _ _ hr) H
theorem AEv{B:Ws->Prop}{ops:Array av}{Q:dw->Act->aK->Prop}{o:av}{n:Nat}{e:Env}{a:Act}{K:Env->Ws->Prop}{K':Act->aK->Prop}(hi:ops[i]?=some o)(hd:∀x,o.dst=some x->x<n)(r:Rep n e a)(H:GOp P B st ops o e w.heap K)(hK:∀e' a' w',Rep n e' a'->Same w w'->K e' w'.heap->K' a' w'):wpOp P ops Q i K' a w:=by
 unfold wpOp;simp only[hi];unfold GOp at H;rw[r.yields ops];split
 .rename_i hw;rw[if_pos hw]at H;refine .inl ?_;unfold Oper.wp;rw[r.eval];have eff:∀{K:aa->Ws->Prop},ANs P e.ev o w.heap K->(∀v h',K v h'->∀a' w',Rep n (e.put o.dst v) a'->Same w w'->w'.heap=h'->K' a' w')->o.upon P a K' Q ((execOp e.ev o).run P w):=by
   intro K H hK;have H':=H w rfl;generalize(execOp e.ev o).run P w=res at H';cases res with
   |ok nx w'=>
     cases nx<;>simp only[AM0]at H'<;>simp only[Oper.upon];case value v=>exact hK _ _ H'.2 _ _ (r.put _ _ hd) H'.1 rfl
     case skip=>exact hK _ _ H'.2 _ _ (r.put _ _ hd) H'.1 rfl
     case enter f args=>
      refine Calls.mono H'.2 λen w''⟨v,he,hs,hk⟩=>?_;subst he;exact hK _ _ hk _ _ (r.put _ _ hd) (H'.1.trans hs) rfl|halt x w'=>exact H'.elim
  unfold SOp at H;split at H;.obtain⟨v,hv,hk⟩:=H;rw[hv w];exact hK _ _ _ (r.put _ _ hd) (.refl w) hk
  .obtain⟨v,hv,hk⟩:=H;rw[hv w rfl];exact hK _ _ _ (r.put _ _ hd) (.refl w) hk
  .obtain⟨v,hb,hv,hk⟩:=H;rw[hv w hb];exact hK _ _ _ (r.put _ _ hd) (.refl w) hk
  .grind
  grind
 .rename_i hw;rw[if_neg hw]at H;exact hK _ _ _ (r.put _ _ hd) (.refl w) H
def reach(ops:Array av):Nat->Nat->Nat->Bool|0,_,_=>false|n+1,i,j=>match ops[j]? with|none=>false|some o=>o.after.any λed=>bw .any ed&&(aF ed.on i||reach ops n i ed.on)
def indep(st:Bool)(ops:Array av)(x y:av):Bool:=x.apart ops y&&match kindOf x.op,kindOf y.op with|.pure,_=>true|_,.pure=>true|.read,.read=>true|.read,.eff=>st|.eff,.read=>st|_,_=>false
def ACk(o:av):Bool:=match o.op with|.select ..=>false|_=>true
def ATh(m i:Nat):Bool:=aF (Nat.land (fJ m i) 1) 1
def A98(acc:List Nat)(o:av):Nat:=o.after.toList.foldl (λm ed=>bif bw .any ed then eD m (eD (d9 1 ed.on)<|acc.getD ed.on 0)else m) 0
def Atv:List av->List Nat->List Nat|[],acc=>acc|o::l,acc=>Atv l<|acc++[A98 acc o]
def BDr(ops:Array av):List Nat:=Atv ops.toList []
def ahead(ops:Array av)(i j:Nat):Bool:=ATh ((BDr ops).getD j 0) i
def AJu(ops:Array av):Bool->Bool|false=>false|true=>(aA ops.size).any λj=>(aA j).any λi=>match ops[i]?,ops[j]? with|some oi,some oj=>(match kindOf oi.op,kindOf oj.op with|.read,.eff=>true|.eff,.read=>true|_,_=>false)&&!ahead ops i j|_,_=>false
def AW8(n:Nat)(ops:Array av)(draw:Bool):Bool:=(aA ops.size).all λj=>match ops[j]? with|none=>false|some oj=>(match oj.dst with|some d=>decide (d<n)|none=>true)&&ACk oj&&(!draw||oj.after.all (λed=>!Region.binds .any ed||decide (ed.on<j))&&(aA j).all λi=>match ops[i]? with|none=>false|some oi=>ahead ops i j||(indep false ops oi oj||indep true ops oi oj&&AJu ops true))
theorem Ao3(a b i:Nat):ATh (eD a b) i=(ATh a i||ATh b i):=by
 have h:∀m,ATh m i=m.testBit i:=λm=>by
  unfold ATh;rw[f6];show aF (m>>>i&&&1) 1=(1&&&m>>>i !=0);rw[fW];rcases dY (m>>>i)with h|h<;>simp[eH,h]<;>rfl
 simp_all
theorem Azv(k i:Nat)(h:ATh (d9 1 k) i=true):k=i:=by
 have h2:∀m,ATh m i=m.testBit i:=λm=>by
  unfold ATh;rw[f6];show aF (m>>>i&&&1) 1=(1&&&m>>>i !=0);rw[fW];rcases dY (m>>>i)with h|h<;>simp[eH,h]<;>rfl
 rw[h2]at h;have h3:(1<<<k).testBit i=true:=h;rw[Nat.one_shiftLeft,Nat.testBit_two_pow]at h3;simpa using h3
theorem Ab5(i:Nat):ATh 0 i=false:=by unfold ATh;show aF (0>>>i&&&1) 1=false;rw[Nat.zero_shiftRight];rfl
theorem Aro{acc:List Nat}{o:av}(h:ATh (A98 acc o) i=true):∃ed∈o.after,bw .any ed=true/\(ed.on=i∨ATh (acc.getD ed.on 0) i=true):=by
 have key:∀(l:List Edge)(m:Nat),ATh (l.foldl (λm ed=>bif bw .any ed then eD m (eD (d9 1 ed.on)<|acc.getD ed.on 0)else m) m) i=true->ATh m i=true∨∃ed∈l,bw .any ed=true/\(ed.on=i∨ATh (acc.getD ed.on 0) i=true):=by
  intro l;induction l with
  |nil=>grind|cons ed l ih=>
    intro m h;rcases ih _ h with h1|⟨ed',hm,hh⟩
    .dsimp only at h1;cases hb:bw .any ed with|false=>grind|true=>
       rw[hb]at h1;simp only[cond_true]at h1;rw[Ao3,Ao3,cF,cF]at h1;rcases h1 with h1|h1|h1;.exact .inl h1
       .exact .inr ⟨ed,au ..,hb,.inl<|Azv _ _ h1⟩
       grind
    grind
 rcases key _ 0 h with h1|⟨ed,hm,hh⟩;.rw[Ab5]at h1;cases h1
 grind
theorem Amb{ops:Array av}:∀(l:List av)(acc:List Nat),(∀k,l[k]?=ops[acc.length+k]?)->(∀j i,ATh (acc.getD j 0) i=true->∃n,reach ops n i j=true)->∀j i,ATh ((Atv l acc).getD j 0) i=true->∃n,reach ops n i j=true:=by
 intro l;induction l with
 |nil=>intro acc _ hacc;exact hacc|cons o l ih=>
   intro acc hk hacc;refine ih _ λk=>by have:=hk<|k+1;grind λj i hb=>?_;rcases fo j acc.length with hj|hj|hj
   .rw[aG,bx hj,<-aG]at hb;grind
   .subst hj;rw[aG,bo<|ay _]at hb;simp only[dy,List.getElem?_cons_zero,dr]at hb;obtain⟨ed,hm,hbd,hh⟩:=Aro hb;have ho:ops[acc.length]?=some o:=by have:=hk 0;grind
    rcases hh with rfl|hh
    .refine⟨1,?_⟩;simp only[reach,ho];refine cW.2 ⟨ed,hm,?_⟩;simp_all
    .obtain⟨n,hn⟩:=hacc _ _ hh;refine⟨n+1,?_⟩;simp only[reach,ho];refine cW.2 ⟨ed,hm,?_⟩;grind
   .rw[aG,b8 (by simp;omega)]at hb;simp only[fc]at hb;rw[Ab5]at hb;cases hb
theorem AK1{ops:Array av}(h:ahead ops i j=true):∃n,reach ops n i j=true:=Amb ops.toList [] W4 (λj i hb=>by rw[aG,List.getElem?_nil,fc,Ab5]at hb;cases hb) j i h
theorem Amc{ops:Array av}{x y:av}{b:Bool}(h:indep false ops x y=true):indep b ops x y=true:=by unfold indep at h⊢;grind
section
variable{P:aj}{ops:Array av}
theorem Env.put_comm(e:Env){x y:Option Nat}(v u:aa)(h:∀d,x=some d->y≠some d):(e.put x v).put y u=(e.put y u).put x v:=by cases x with|none=>rfl|some d=>cases y with|none=>rfl|some d'=>
     have hne:d≠d':=λhe=>h d rfl (he▸rfl);funext t;show(e.set d v).set d' u t=(e.set d' u).set d v t;by_cases h1:t=d;.subst h1;rw[Env.set_other _ _ hne,Env.set_same,Env.set_same]
     .by_cases h2:t=d';.subst h2;rw[Env.set_same,Env.set_other _ _ h1,Env.set_same]
      .rw[Env.set_other _ _ h2,Env.set_other _ _ h1,Env.set_other _ _ h1,Env.set_other _ _ h2]
theorem Env.ev_put{e:Env}{d:Option Nat}(h:∀k,d=some k->x≠.tmp k):(e.put d v).ev x=e.ev x:=by cases d with|none=>rfl|some k=>cases x with|tmp t=>exact Env.set_other e v λhe=>h k rfl (he▸rfl)|_=>rfl
theorem AM4(o:av)(hs:ACk o=true)(e:Env)(d:Option Nat)(v:aa)(h:∀k,d=some k->k∉o.looksAt ops):execOp (e.put d v).ev o=execOp e.ev o:=execOp_congr o (λcs b he=>by simp[ACk,he]at hs) λx hx=>Env.ev_put λk hk hxk=>h k hk (by
  subst hxk;exact List.mem_append_left _<|List.mem_filterMap.2 ⟨.tmp k,by simpa using hx,rfl⟩)
theorem AM5(o:av)(e:Env)(d:Option Nat)(v:aa)(h:∀k,d=some k->k∉o.looksAt ops):aq o (ACn ops<|e.put d v)=aq o (ACn ops e):=by cases d with
 |none=>rfl|some k=>
   unfold aq;cases hg:o.guard with
   |none=>rfl|some gw=>
     obtain⟨g,want⟩:=gw;have hy:ACn ops (e.put (some k) v) g=ACn ops e g:=by
      unfold ACn;cases ht:ops[g]?.bind (·.dst)with
      |none=>rfl|some t=>
        have hne:t≠k:=λhe=>h k rfl (by subst he;simp[Oper.looksAt,hg,ht]);show(match e.set k v t with|.bool b=>some b|_=>none)=_;rw[Env.set_other e v hne]
     simp only[hy]
theorem SOp.swap{B:Ws->Prop}{x y:av}{e:Env}{h:Ws}{K:Env->Ws->Prop}(hk:(match kindOf x.op,kindOf y.op with|.pure,_=>true|_,.pure=>true|.read,.read=>true|.read,.eff=>st|.eff,.read=>st|_,_=>false)=true)(ey:∀(e:Env)v,execOp (e.put x.dst v).ev y=execOp e.ev y)(ex:∀(e:Env)v,execOp (e.put y.dst v).ev x=execOp e.ev x)(pc:∀(e:Env)v u,(e.put x.dst v).put y.dst u=(e.put y.dst u).put x.dst v)(H1:SOp P B st x e h λe' h'=>SOp P B st y e' h' K):SOp P B st y e h λe' h'=>SOp P B st x e' h' K:=by
 unfold SOp at H1⊢;have un:∀{u u2:aa}{w:aK},(execOp e.ev y).run P w=.ok (.value u) w->(execOp e.ev y).run P w=.ok (.value u2) w->u2=u:=by grind
 cases kx:kindOf x.op with
 |pure=>
   simp only[kx]at H1;obtain⟨v,hv,hh⟩:=H1;have hv':∀u,AW7 P (e.put y.dst u).ev x v:=λu w=>by rw[ex];exact hv w
   cases ky:kindOf y.op with
   |pure=>simp only[ky]at hh;obtain⟨u,hu,hh⟩:=hh;exact⟨u,λw=>by rw[<-ey e v];exact hu w,v,hv' u,by grind⟩|read=>cases st with|false=>simp only[ky]at hh;obtain⟨u,hu,hh⟩:=hh;exact⟨u,λw hw=>by rw[<-ey e v];exact hu w hw,v,hv' u,by grind⟩|true=>simp only[ky]at hh;obtain⟨u,hb,hu,hh⟩:=hh;exact⟨u,hb,λw hw=>by rw[<-ey e v];exact hu w hw,v,hv' u,by grind⟩
   |eff=>simp only[ky]at hh;refine⟨hh.1,λw hw=>?_⟩;have:=hh.2 w hw;rw[ey e v]at this;exact this.mono λu h' hk=>⟨hk.1,v,hv' u,by grind⟩|wr=>simp only[ky]at hh;intro w hw;have:=hh w hw;rw[ey e v]at this;exact this.mono λu h' hk=>⟨v,hv' u,by grind⟩
 |read=>cases st with
   |false=>simp only[kx]at H1;obtain⟨v,hv,hh⟩:=H1;cases ky:kindOf y.op with
     |pure=>simp only[ky]at hh;obtain⟨u,hu,hh⟩:=hh;exact⟨u,λw=>by rw[<-ey e v];exact hu w,v,λw hw=>by rw[ex];exact hv w hw,by grind⟩|read=>simp only[ky]at hh;obtain⟨u,hu,hh⟩:=hh;exact⟨u,λw hw=>by rw[<-ey e v];exact hu w hw,v,λw hw=>by rw[ex];exact hv w hw,by grind⟩|eff=>grind|wr=>grind
   |true=>
     simp only[kx]at H1;obtain⟨v,hb,hv,hh⟩:=H1;have hv':∀u,Atu P B (e.put y.dst u).ev x v:=λu w hw=>by rw[ex];exact hv w hw
     cases ky:kindOf y.op with
     |pure=>simp only[ky]at hh;obtain⟨u,hu,hh⟩:=hh;exact⟨u,λw=>by rw[<-ey e v];exact hu w,v,hb,hv' u,by grind⟩|read=>simp only[ky]at hh;obtain⟨u,hb2,hu,hh⟩:=hh;exact⟨u,hb2,λw hw=>by rw[<-ey e v];exact hu w hw,v,hb,hv' u,by grind⟩|eff=>simp only[ky]at hh;refine⟨hh.1,λw hw=>?_⟩;have:=hh.2 w hw;rw[ey e v]at this;exact this.mono λu h' hk=>⟨hk.1,v,hk.1,hv' u,by grind⟩|wr=>grind
 |eff=>simp only[kx]at H1;obtain⟨hb,H1⟩:=H1;cases ky:kindOf y.op with
   |pure=>
     simp only[ky]at H1;obtain⟨v0,h0,_,u,hu,_⟩:=H1.some;have hu':AW7 P e.ev y u:=λw=>by rw[<-ey e v0];exact hu w
     refine⟨u,hu',hb,λw hw=>?_⟩;rw[ex];refine(H1 w hw).mono λv h'⟨hb',u2,hu2,hk⟩=>⟨hb',?_⟩;have:u2=u:=un (hu'<|ALn h) (by rw[<-ey e v];exact hu2 _);grind|read=>cases st with|false=>grind|true=>
       simp only[ky]at H1;obtain⟨v0,h0,_,u,_,hu,_⟩:=H1.some;have hu':Atu P B e.ev y u:=λw hw=>by rw[<-ey e v0];exact hu w hw
       refine⟨u,hb,hu',hb,λw hw=>?_⟩;rw[ex];refine(H1 w hw).mono λv h'⟨hb',u2,_,hu2,hk⟩=>⟨hb',?_⟩;have:u2=u:=un (hu' (ALn h) hb) (by rw[<-ey e v];exact hu2 _ hb);grind|eff=>grind|wr=>grind
 |wr=>simp only[kx]at H1;cases ky:kindOf y.op with
   |pure=>
     simp only[ky]at H1;obtain⟨v0,h0,u,hu,_⟩:=H1.some;have hu':AW7 P e.ev y u:=λw=>by rw[<-ey e v0];exact hu w
     refine⟨u,hu',λw hw=>?_⟩;rw[ex];refine(H1 w hw).mono λv h'⟨u2,hu2,hk⟩=>?_;have:u2=u:=un (hu'<|ALn h) (by rw[<-ey e v];exact hu2 _);grind|read=>grind|eff=>grind|wr=>grind
theorem SOp.congr{B:Ws->Prop}{x:av}{e e2:Env}{h:Ws}{K K2:Env->Ws->Prop}(he:execOp e2.ev x=execOp e.ev x)(hK:∀v h',K (e.put x.dst v) h'->K2 (e2.put x.dst v) h')(H:SOp P B st x e h K):SOp P B st x e2 h K2:=by
 unfold SOp at H⊢;cases kx:kindOf x.op with
 |pure=>simp only[kx]at H;obtain⟨v,hv,hh⟩:=H;exact⟨v,λw=>by rw[he];exact hv w,hK _ _ hh⟩|read=>cases st with
   |false=>simp only[kx]at H;obtain⟨v,hv,hh⟩:=H;exact⟨v,λw hw=>by rw[he];exact hv w hw,hK _ _ hh⟩|true=>simp only[kx]at H;obtain⟨v,hb,hv,hh⟩:=H;exact⟨v,hb,λw hw=>by rw[he];exact hv w hw,hK _ _ hh⟩
 |eff=>simp only[kx]at H;exact⟨H.1,λw hw=>by rw[he];exact(H.2 w hw).mono λv h' hk=>⟨hk.1,hK _ _ hk.2⟩⟩|wr=>simp only[kx]at H;exactλw hw=>by rw[he];exact(H w hw).mono λv h' hk=>hK _ _ hk
theorem GOp.swap{B:Ws->Prop}{st:Bool}{x y:av}(hx:ACk x=true)(hy:ACk y=true)(hi:indep st ops x y=true){e:Env}{h:Ws}{K:Env->Ws->Prop}(H:GOp P B st ops x e h λe' h'=>GOp P B st ops y e' h' K):GOp P B st ops y e h λe' h'=>GOp P B st ops x e' h' K:=by
 simp only[indep,aY]at hi;obtain⟨hap,hk⟩:=hi;obtain⟨h1,h2,h3⟩:=Oper.apart_spec hap;have wy:∀(e:Env)v,aq y (ACn ops<|e.put x.dst v)=aq y (ACn ops e):=λe v=>AM5 y e x.dst v h1;have wx:∀(e:Env)v,aq x (ACn ops<|e.put y.dst v)=aq x (ACn ops e):=λe v=>AM5 x e y.dst v h3;have ey:∀(e:Env)v,execOp (e.put x.dst v).ev y=execOp e.ev y:=λe v=>AM4 (ops:=ops) y hy e x.dst v h1;have ex:∀(e:Env)v,execOp (e.put y.dst v).ev x=execOp e.ev x:=λe v=>AM4 (ops:=ops) x hx e y.dst v h3;have pc:∀(e:Env)v u,(e.put x.dst v).put y.dst u=(e.put y.dst u).put x.dst v:=λe v u=>Env.put_comm e v u h2;unfold GOp at H⊢;by_cases hwx:aq x (ACn ops e)=true
 .rw[if_pos hwx]at H;by_cases hwy:aq y (ACn ops e)=true
  .rw[if_pos hwy];have H1:SOp P B st x e h λe' h'=>SOp P B st y e' h' K:=H.mono λv h' hh=>by grind
   refine(SOp.swap hk ey ex pc H1).mono λu h' hh=>?_;grind
  .rw[if_neg hwy];dsimp only;rw[wx,if_pos hwx];refine SOp.congr (ex e undef) (λv h' hh=>?_) H;grind
 .rw[if_neg hwx]at H;by_cases hwy:aq y (ACn ops e)=true;.rw[if_pos hwy];rw[wy,if_pos hwy]at H;refine SOp.congr (ey e undef).symm (λv h' hh=>?_) H;grind
  grind
theorem LI.mono{B:Ws->Prop}{st:Bool}{l:List Nat}{e:Env}{h:Ws}{K K':Env->Ws->Prop}(hK:∀e h,K e h->K' e h)(H:LI P B st ops l e h K):LI P B st ops l e h K':=by induction l generalizing e h with
 |nil=>exact hK _ _ H|cons i l ih=>
   simp only[LI]at H⊢;split;.grind
   .rename_i o ho;simp only[ho]at H;exact H.mono λv h' hh=>ih hh
theorem LI.bubble{B:Ws->Prop}{oi:av}(hi:ops[i]?=some oi)(hsi:ACk oi=true)(R1:List Nat):∀{R2:List Nat}{e:Env}{h:Ws}{K:Env->Ws->Prop},(∀k∈R1,∃ok,ops[k]?=some ok/\ACk ok=true/\indep st ops ok oi=true)->LI P B st ops (R1++i::R2) e h K->LI P B st ops (i::(R1++R2)) e h K:=by induction R1 with|nil=>grind|cons k R1 ih=>intro R2 e h K hind H;obtain⟨ok,hok,hsk,hik⟩:=hind k<|au ..;simp only[ca,LI,hok]at H;have H2:GOp P B st ops ok e h λe' h'=>LI P B st ops (i::(R1++R2)) e' h' K:=H.mono λv h' hh=>ih (λk' hk'=>hind k'<|ap _ hk') hh;simp only[LI,hi]at H2;have H3:=GOp.swap hsk hsi hik H2;simp only[LI,hi,ca,hok];exact H3
theorem AJb{n:Nat}(H:AW8 n ops draw=true){oj:av}(hj:ops[j]?=some oj):(∀d,oj.dst=some d->d<n)/\ACk oj=true/\(draw=true->(∀ed∈oj.after,bw .any ed=true->ed.on<j)/\∀i oi,i<j->ops[i]?=some oi->(∃n,reach ops n i j=true)∨indep (AJu ops true) ops oi oj=true):=by
 have hlt:j<ops.size:=(an.1 hj).1;unfold AW8 at H;have H:=bP.1 H j<|cL.2 hlt;simp only[hj,aY]at H;obtain⟨⟨h1,h2⟩,h3⟩:=H;refine⟨λd hd=>by grind,h2,λhdr=>?_⟩;subst hdr;simp only[Bool.not_true,Bool.false_or,aY]at h3;obtain⟨h4,h5⟩:=h3;refine⟨λed hed hbd=>?_,λi oi hij hoi=>?_⟩;.have:=Array.all_eq_true_iff_forall_mem.1 h4 ed hed;grind
 .have:=bP.1 h5 i<|cL.2 hij;simp only[hoi,cF,aY]at this;rcases this with h|h|⟨h,hst⟩;.exact .inl<|AK1 h
  .exact .inr<|Amc h
  grind
theorem AFn{L:Nat->Prop}(hL:∀j oj,L j->ops[j]?=some oj->∀ed∈oj.after,bw .any ed=true->L ed.on):∀(n i j:Nat)(oj:av),ops[j]?=some oj->(∀ed∈oj.after,bw .any ed=true->L ed.on)->reach ops n i j=true->L i:=by intro n;induction n with|zero=>intro i j oj _ _ h;cases h|succ n ih=>
   intro i j oj hoj hall h;simp only[reach,hoj]at h;obtain⟨ed,hed,hb⟩:=cW.1 h;simp only[aY,cF]at hb;have hl:=hall ed hed hb.1;rcases hb.2 with he|hr;.rw[<-eQ he];exact hl
   .cases n with
    |zero=>cases hr|succ n=>cases ho:ops[ed.on]? with|none=>simp[reach,ho]at hr|some o2=>grind
theorem Ai4{B:Ws->Prop}{n:Nat}{Q:dw->Act->aK->Prop}(hok:AW8 n ops true=true):∀(fuel:Nat)(R:List Nat)(listed:Array Bool)(e:Env)(a:Act)(w:aK)(K:Env->Ws->Prop),R.length=fuel->List.Pairwise (·<·) R->listed.size=ops.size->(∀j,j∈R↔j<ops.size/\listed.getD j true=false)->(∀j oj,listed.getD j false=true->ops[j]?=some oj->∀ed∈oj.after,bw .any ed=true->listed.getD ed.on false=true)->Rep n e a->LI P B (AJu ops true) ops R e w.heap K->(∀e' a' w',Rep n e' a'->Same w w'->K e' w'.heap->Q .normal a' w')->wpAny P .any ops Q fuel listed a w:=by
 intro fuel;induction fuel with
 |zero=>
   intro R listed e a w K hlen _ _ hmem _ r H hK;obtain rfl:R=[]:=List.length_eq_zero_iff.1 hlen;refine⟨?_,hK _ _ _ r (.refl w) H⟩;refine List.eq_nil_iff_forall_not_mem.2 λj hj=>?_;obtain⟨hjl,oj,hoj,_⟩:=mem_ready.1 hj;grind|succ fuel ih=>
   intro R listed e a w K hlen hpw hsz hmem hcl r H hK;constructor
   .intro hr;exfalso;cases R with
    |nil=>simp at hlen|cons j R=>
      obtain⟨hjs,hjl⟩:=(hmem j).1 (au ..);obtain⟨oj,hoj⟩:∃oj,ops[j]?=some oj:=⟨ops[j],cq hjs⟩;have:j∈Region.ready .any ops listed:=mem_ready.2 ⟨hjl,oj,hoj,λed hed hbd=>by
       obtain⟨_,_,hd⟩:=AJb hok hoj;have hlt:=(hd rfl).1 ed hed hbd;cases hl:listed.getD ed.on false with
       |true=>rfl|false=>
         exfalso;have hs:ed.on<ops.size:=fV hlt hjs;have hm:ed.on∈j::R:=(hmem ed.on).2 ⟨hs,by grind⟩;rcases bA.1 hm with he|he;.omega
         .have:=(ff.1 hpw).1 _ he;omega⟩;grind
   .intro i hi;obtain⟨hil,oi,hoi,hall⟩:=mem_ready.1 hi;have his:i<ops.size:=(an.1 hoi).1;have hiR:i∈R:=(hmem i).2 ⟨his,hil⟩;obtain⟨R1,R2,rfl⟩:=fg hiR;obtain⟨hdi,hsi,hdri⟩:=AJb hok hoi;have hpw':=List.pairwise_append.1 hpw;have hb:LI P B (AJu ops true) ops (i::(R1++R2)) e w.heap K:=by
     refine LI.bubble hoi hsi R1 (λk hk=>?_) H;have hki:k<i:=hpw'.2.2 k hk i<|au ..;have hks:k<ops.size:=fV hki his;obtain⟨ok,hok'⟩:∃ok,ops[k]?=some ok:=⟨ops[k],cq hks⟩;refine⟨ok,hok',(AJb hok hok').2.1,?_⟩;rcases(hdri rfl).2 k ok hki hok' with⟨nre,hre⟩|h;.exfalso;have h1:listed.getD k false=true:=AFn (L:=λj=>listed.getD j false=true) hcl nre k i oi hoi hall hre;grind
     .exact h
    simp only[LI,hoi]at hb;refine AEv hoi hdi r hb λe' a' w' r' hs hk=>?_;have his':i<listed.size:=by omega
    refine ih (R1++R2) _ e' a' w' K ?_ ?_ ?_ ?_ ?_ r' hk λe2 a2 w2 r2 s2 k2=>hK _ _ _ r2 (hs.trans s2) k2;.grind
    .grind
    .simp[hsz]
    .intro j;have hm:=hmem j;constructor
     .intro hj;have hj':j∈R1++i::R2:=by grind
      obtain⟨h1,h2⟩:=hm.1 hj';have hne:i≠j:=by
       intro he;subst he;rcases aU.1 hj with h|h;.grind
       .have:=(ff.1 hpw'.2.1).1 i h;omega
      exact⟨h1,by rw[getD_set_ne true hne];exact h2⟩
     .rintro⟨h1,h2⟩;have hne:i≠j:=by
       intro he;subst he;simp[his']at h2
      rw[getD_set_ne true hne]at h2;grind
    .intro j oj hj hoj ed hed hbd;by_cases hij:i=j
     .subst hij;rw[hoi]at hoj;injection hoj with hoj;subst hoj;exact getD_set_true<|hall ed hed hbd
     .rw[getD_set_ne false hij]at hj;exact getD_set_true<|hcl j oj hj hoj ed hed hbd
theorem Aau{B:Ws->Prop}{n:Nat}(hmx:P.follows .mixedOrders=true){Q:dw->Act->aK->Prop}{e:Env}{a:Act}{K:Env->Ws->Prop}(hok:AW8 n ops draw=true)(r:Rep n e a)(H:RL P B (AJu ops draw) ops ops.toList e w.heap K)(hK:∀e' a' w',Rep n e' a'->Same w w'->K e' w'.heap->Q .normal a' w'):(Code.region id ops draw).wp P Q a w:=by
 have HL:LI P B (AJu ops draw) ops (aA ops.size) e w.heap K:=by
  rw[List.range_eq_range',<-cP];exact A4f ops.toList 0 W4 e _ H
 cases draw with
 |true=>
   refine wp_region_draw λt=>?_;simp only[Region.schedule,hmx,Bool.true_or,if_true];exact wpAny_sound ops.size t _ a _ (Ai4 hok ops.size (aA ops.size) (Array.replicate ops.size false) e a {w with drawn:=w.drawn+1} K W4 List.pairwise_lt_range W4 λj=>by simp_all λj oj hj _=>by
      exfalso;rcases bV j ops.size with h'|h';.simp[h']at hj
      grind r HL λe' a' w' r' hs hk=>hK e' a' w' r' ⟨hs.os,hs.tape,hs.output⟩ hk)|false=>
   refine wp_region ?_;have:∀(l:List Nat)(e:Env)(a:Act)(w:aK)(K:Env->Ws->Prop),Rep n e a->LI P B (AJu ops false) ops l e w.heap K->(∀e' a' w',Rep n e' a'->Same w w'->K e' w'.heap->Q .normal a' w')->wpOps P ops Q l a w:=by
    intro l;induction l with
    |nil=>intro e a w K r H hK;exact hK _ _ _ r (.refl w) H|cons i l ih=>
      intro e a w K r H hK;rw[wpOps_cons];simp only[LI]at H;cases hoi:ops[i]? with
      |none=>
        simp only[hoi]at H;unfold wpOp;grind|some oi=>
        simp only[hoi]at H;refine AEv hoi (AJb hok hoi).1 r H λe' a' w' r' hs hk=>?_;exact ih e' a' w' K r' hk λe2 a2 w2 r2 s2 k2=>hK _ _ _ r2 (hs.trans s2) k2
   grind
def AY5(n:Nat)(ops:Array av):Bool:=(aA ops.size).all λj=>match ops[j]? with|none=>false|some oj=>(match oj.dst with|some d=>decide (d<n)|none=>true)&&ACk oj
def AVw(ops:Array av)(draw:Bool):Bool:=!draw||(aA ops.size).all λj=>match ops[j]? with|none=>false|some oj=>oj.after.all (λed=>!Region.binds .any ed||decide (ed.on<j))&&(aA j).all λi=>match ops[i]? with|none=>false|some oi=>ahead ops i j||(indep false ops oi oj||indep true ops oi oj&&AJu ops true)
theorem Atw{n:Nat}(hb:AY5 n ops=true)(ho:AVw ops draw=true):AW8 n ops draw=true:=by
 unfold AW8;refine bP.2 λj hj=>?_;have h1:=bP.1 hb j hj;cases hoj:ops[j]? with|none=>grind|some oj=>
   simp only[hoj]at h1⊢;rw[h1,Bool.true_and];cases draw with|false=>rfl|true=>
     unfold AVw at ho;grind
theorem AK2{n:Nat}(H:AY5 n ops=true){oj:av}(hj:ops[j]?=some oj):(∀d,oj.dst=some d->d<n)/\ACk oj=true:=by have hlt:j<ops.size:=(an.1 hj).1;have h1:=bP.1 H j<|cL.2 hlt;grind
theorem RL.frame0{B:Ws->Prop}{l:List av}{e:Env}{h:Ws}{K:Env->Ws->Prop}(H:RL P B st ops l e h K):RL P B st ops l e h λe' h'=>K e' h'/\∀t,(∀o∈l,o.dst≠some t)->e' t=e t:=by induction l generalizing e h with
 |nil=>exact⟨H,λ_ _=>rfl⟩|cons o l ih=>
   refine GOp.mono (λv h' hh=>?_) H;have mono:∀{l:List av}{e:Env}{h:Ws}{K K':Env->Ws->Prop},(∀e h,K e h->K' e h)->RL P B st ops l e h K->RL P B st ops l e h K':=by
    intro l;induction l with|nil=>intro e h K K' hK H;exact hK _ _ H|cons o l ih=>intro e h K K' hK H;exact GOp.mono (λv h' hh=>ih hK hh) H
   refine mono (λe2 h2 hk=>⟨hk.1,λt ht=>?_⟩)<|ih hh;rw[hk.2 t λo' ho'=>ht o'<|ap _ ho'];cases hd:o.dst with|none=>rfl|some d=>exact Env.set_other _ _ λhe=>ht o (au ..) (by rw[hd,he])
def RW(P:aj)(ops:Array av)(draw:Bool)(K:Env->Ws->Prop)(e:Env)(h:Ws):Prop:=P.follows .mixedOrders=true->∀(n id:Nat)(a:Act)(w:aK)(Q':dw->Act->aK->Prop),AY5 n ops=true->Rep n e a->w.heap=h->(∀e' a' w',Rep n e' a'->Same w w'->K e' w'.heap->(∀t,(∀o∈ops.toList,o.dst≠some t)->e' t=e t)->Q' .normal a' w')->(Code.region id ops draw).wp P Q' a w
theorem RW.of_RL{B:Ws->Prop}{K:Env->Ws->Prop}{e:Env}{h:Ws}(ho:AVw ops draw=true)(H:RL P B (AJu ops draw) ops ops.toList e h K):RW P ops draw K e h:=by intro hmx n id a w Q' hb r hw hQ;subst hw;exact Aau hmx (Atw hb ho) r H.frame0 λe' a' w' r' s k=>hQ e' a' w' r' s k.1 k.2
theorem RW.mono{K K':Env->Ws->Prop}{e:Env}{h:Ws}(hK:∀e h,K e h->K' e h)(H:RW P ops draw K e h):RW P ops draw K' e h:=λhmx n id a w Q' hb r hw hQ=>H hmx n id a w Q' hb r hw λe' a' w' r' s k hf=>hQ e' a' w' r' s (hK _ _ k) hf
end
def AEw(K:Env->Ws->Prop)(Q:dw->Env->Ws->Prop):dw->Env->Ws->Prop|.normal=>K|x=>Q x
def AIi(id:Nat)(Q:dw->Env->Ws->Prop):dw->Env->Ws->Prop|.exit id'=>if id'=id then Q .normal else Q (.exit id')|x=>Q x
def Amd(Q:dw->Env->Ws->Prop):dw->Env->Ws->Prop|.goto _=>λ_ _=>False|x=>Q x
def W(P:aj):d8->(dw->Env->Ws->Prop)->Env->Ws->Prop|.skip,Q,e,h=>Q .normal e h|.region _ ops draw,Q,e,h=>RW P ops draw (Q .normal) e h|.seq a b,Q,e,h=>W P a (AEw (λe h=>W P b Q e h) Q) e h|.cond c x y,Q,e,h=>∃b,e.ev c=.bool b/\(b=true->W P x Q e h)/\(b=false->W P y Q e h)|.block id c,Q,e,h=>W P c (AIi id Q) e h|.loop c,Q,e,h=>∃(I:Nat->Env->Ws->Prop)(n:Nat),I n e h/\∀n e h,I n e h->W P c (AEw (λe' h'=>∃n',n'<n/\I n' e' h') Q) e h|.exit id,Q,e,h=>Q (.exit id) e h|.ret,Q,e,h=>Q .ret e h|.scope c,Q,e,h=>W P c (Amd Q) e h|.label _,Q,e,h=>Q .normal e h|_,_,_,_=>False
def okC(n:Nat):d8->Bool|.region _ ops _=>AY5 n ops|.seq a b=>okC n a&&okC n b|.cond _ a b=>okC n a&&okC n b|.block _ c=>okC n c|.loop c=>okC n c|.scope c=>okC n c|.skip|.exit _|.ret|.label _=>true|_=>false
theorem RL.mono{P:aj}{B:Ws->Prop}{st:Bool}{ops:Array av}{l:List av}{e:Env}{h:Ws}{K K':Env->Ws->Prop}(hK:∀e h,K e h->K' e h)(H:RL P B st ops l e h K):RL P B st ops l e h K':=by induction l generalizing e h with|nil=>exact hK _ _ H|cons o l ih=>exact GOp.mono (λv h' hh=>ih hh) H
theorem W.mono{P:aj}{c:d8}:∀{Q Q':dw->Env->Ws->Prop}{e:Env}{h:Ws},(∀x e h,Q x e h->Q' x e h)->W P c Q e h->W P c Q' e h:=by induction c with
 |skip=>intro Q Q' e h hQ H;exact hQ _ _ _ H|region id ops draw=>intro Q Q' e h hQ H;exact RW.mono (λe h hk=>hQ _ _ _ hk) H|seq a b iha ihb=>
   intro Q Q' e h hQ H;refine iha (λx e h hx=>?_) H;cases x<;>first|exact hQ _ _ _ hx|exact ihb hQ hx
 |cond c x y ihx ihy=>
   intro Q Q' e h hQ H;obtain⟨b,hb,h1,h2⟩:=H;exact⟨b,hb,λhh=>ihx hQ<|h1 hh,λhh=>ihy hQ<|h2 hh⟩|block id c ih=>
   intro Q Q' e h hQ H;refine ih (λx e h hx=>?_) H;cases x<;>first|exact hQ _ _ _ hx|skip
   rename_i id';by_cases hid:id'=id;.simp only[AIi,hid,if_true]at hx⊢;grind
   .simp only[AIi,hid,if_false]at hx⊢;grind|loop c ih=>
   intro Q Q' e h hQ H;obtain⟨I,n,h0,hI⟩:=H;refine⟨I,n,h0,λn e h hi=>ih (λx e h hx=>?_)<|hI n e h hi⟩;cases x<;>first|exact hQ _ _ _ hx|exact hx
 |exit id=>intro Q Q' e h hQ H;exact hQ _ _ _ H|ret=>intro Q Q' e h hQ H;exact hQ _ _ _ H|rangeFunc=>intro Q Q' e h _ H;exact H.elim|scope c ih=>
   intro Q Q' e h hQ H;refine ih (λx e h hx=>?_) H;cases x<;>first|exact hQ _ _ _ hx|exact hx
 |label=>intro Q Q' e h hQ H;exact hQ _ _ _ H|goto=>intro Q Q' e h _ H;exact H.elim|refuse=>intro Q Q' e h _ H;exact H.elim
theorem W.sound(hmx:P.follows .mixedOrders=true){n:Nat}{c:d8}:∀{Q:dw->Env->Ws->Prop}{Q':dw->Act->aK->Prop}{e:Env}{a:Act}{w:aK},okC n c=true->Rep n e a->W P c Q e w.heap->(∀x e' a' w',Rep n e' a'->Same w w'->Q x e' w'.heap->Q' x a' w')->c.wp P Q' a w:=by induction c with
 |skip=>intro Q Q' e a w _ r H hQ;exact wp_skip (hQ _ _ _ _ r (.refl w) H)|region id ops draw=>intro Q Q' e a w hok r H hQ;exact H hmx n id a w Q' hok r rfl λe' a' w' r' s k _=>hQ _ _ _ _ r' s k|seq x y ihx ihy=>
   intro Q Q' e a w hok r H hQ;simp only[okC,aY]at hok;refine wp_seq<|ihx hok.1 r H λex e' a' w' r' s k=>?_;cases ex<;>first|exact hQ _ _ _ _ r' s k|exact ihy hok.2 r' k λAk e2 a2 w2 r2 s2 k2=>hQ _ _ _ _ r2 (s.trans s2) k2
 |cond c x y ihx ihy=>
   intro Q Q' e a w hok r H hQ;simp only[okC,aY]at hok;obtain⟨b,hb,h1,h2⟩:=H;refine wp_cond_split (t:=b) (by rw[r.eval];exact hb) (λhh=>ihx hok.1 r (h1 hh) hQ) λhh=>ihy hok.2 r (h2 hh) hQ|block id c ih=>
   intro Q Q' e a w hok r H hQ;refine wp_block<|ih hok r H λex e' a' w' r' s k=>?_;cases ex<;>first|exact hQ _ _ _ _ r' s k|skip
   rename_i id';by_cases hid:id'=id;.simp only[AIi,Exit.inBlock,hid,if_true]at k⊢;grind
   .simp only[AIi,Exit.inBlock,hid,if_false]at k⊢;grind|loop c ih=>
   intro Q Q' e a w hok r H hQ;obtain⟨I,k,h0,hI⟩:=H;refine wp_loop_ghost (λk a' w'=>∃e',Rep n e' a'/\Same w w'/\I k e' w'.heap) k ⟨e,r,.refl w,h0⟩ λk1 a1 w1⟨e1,r1,s1,i1⟩=>?_;refine ih hok r1 (hI k1 e1 w1.heap i1) λex e' a' w' r' s k=>?_;cases ex<;>first|exact hQ _ _ _ _ r' (s1.trans s) k|skip
   obtain⟨k2,hlt,hk⟩:=k;exact⟨k2,hlt,e',r',s1.trans s,hk⟩|exit id=>intro Q Q' e a w _ r H hQ;exact wp_exit (hQ _ _ _ _ r (.refl w) H)|ret=>intro Q Q' e a w _ r H hQ;exact wp_ret (hQ _ _ _ _ r (.refl w) H)|rangeFunc=>intro Q Q' e a w _ _ H;exact H.elim|scope c ih=>
   intro Q Q' e a w hok r H hQ;refine wp_scope_straight<|ih hok r H λex e' a' w' r' s k=>?_;cases ex<;>first|exact hQ _ _ _ _ r' s k|exact k.elim
 |label=>intro Q Q' e a w _ r H hQ;exact wp_label (hQ _ _ _ _ r (.refl w) H)|goto=>intro Q Q' e a w _ _ H;exact H.elim|refuse=>intro Q Q' e a w _ _ H;exact H.elim
def inM(m t:Nat):Bool:=aF (Nat.land (fJ m t) 1) 1
def mix(m:Nat)(s e:Env):Env:=λt=>bif inM m t then s t else e t
def ATx(m:Nat):d8->Bool
 |.region _ ops _=>ops.toList.all λo=>match o.dst with|some d=>inM m d|none=>true
 |.seq a b=>ATx m a&&ATx m b|.cond _ a b=>ATx m a&&ATx m b|.block _ c=>ATx m c|.loop c=>ATx m c|.scope c=>ATx m c|_=>true
def setL:List (Nat×aa)->Env->Env|[],e=>e|(t,v)::l,e=>(setL l e).set t v
def AMf:List (Nat×aa)->Env->Prop|[],_=>True|(t,v)::l,e=>e t=v/\AMf l e
theorem AMf.setL{l:List (Nat×aa)}{e:Env}(h:AMf l e):setL l e=e:=by induction l with|nil=>rfl|cons x l ih=>
   obtain⟨t,v⟩:=x;obtain⟨h1,h2⟩:=h;show(QF.setL l e).set t v=e;rw[ih h2];funext u;by_cases hu:u=t;.subst hu;rw[Env.set_same,h1]
   .rw[Env.set_other _ _ hu]
theorem Ab6{m:Nat}{s e:Env}(h:∀t,inM m t=false->s t=e t):mix m s e=s:=by funext t;unfold mix;grind
theorem W.frame{m:Nat}{c:d8}:∀{Q:dw->Env->Ws->Prop}{e:Env}{h:Ws},ATx m c=true->W P c Q e h->W P c (λx e' h'=>Q x e' h'/\∀t,inM m t=false->e' t=e t) e h:=by induction c with
 |skip=>intro Q e h _ H;exact⟨H,λ_ _=>rfl⟩|region id ops draw=>
   intro Q e h hm H hmx n id a w Q' hb r hw hQ;refine H hmx n id a w Q' hb r hw λe' a' w' r' s k hf=>hQ e' a' w' r' s ⟨k,λt ht=>hf t λo ho hd=>?_⟩ hf;have h1:=bP.1 hm o ho;grind|seq a b iha ihb=>
   intro Q e h hm H;simp only[ATx,aY]at hm;refine W.mono (c:=a) (λx e1 h1 hx=>?_)<|iha hm.1 H;obtain⟨hx,hf⟩:=hx;cases x<;>first|exact⟨hx,hf⟩|exact W.mono (c:=b) (λx e2 h2 hy=>⟨hy.1,λt ht=>(hy.2 t ht).trans (hf t ht)⟩) (ihb hm.2 hx)
 |cond c x y ihx ihy=>
   intro Q e h hm H;simp only[ATx,aY]at hm;obtain⟨b,hb,h1,h2⟩:=H;exact⟨b,hb,λhh=>ihx hm.1<|h1 hh,λhh=>ihy hm.2<|h2 hh⟩|block id c ih=>
   intro Q e h hm H;refine W.mono (c:=c) (λx e1 h1 hx=>?_)<|ih hm H;obtain⟨hx,hf⟩:=hx;cases x<;>first|exact⟨hx,hf⟩|skip
   rename_i id';by_cases hid:id'=id;.simp only[AIi,hid,if_true]at hx⊢;grind
   .simp only[AIi,hid,if_false]at hx⊢;grind|loop c ih=>
   intro Q e h hm H;obtain⟨I,k,h0,hI⟩:=H;refine⟨λk e1 h1=>I k e1 h1/\∀t,inM m t=false->e1 t=e t,k,⟨h0,λ_ _=>rfl⟩,λk1 e1 h1 hi=>?_⟩;refine W.mono (λx e2 h2 hx=>?_)<|ih hm<|hI k1 e1 h1 hi.1;obtain⟨hx,hf⟩:=hx;cases x<;>first|exact⟨hx,λt ht=>(hf t ht).trans (hi.2 t ht)⟩|(obtain⟨k2,hlt,hk⟩:=hx;exact⟨k2,hlt,hk,λt ht=>(hf t ht).trans (hi.2 t ht)⟩)
 |exit id=>intro Q e h _ H;exact⟨H,λ_ _=>rfl⟩|ret=>intro Q e h _ H;exact⟨H,λ_ _=>rfl⟩|rangeFunc=>intro Q e h _ H;exact H.elim|scope c ih=>
   intro Q e h hm H;refine W.mono (c:=c) (λx e1 h1 hx=>?_)<|ih hm H;obtain⟨hx,hf⟩:=hx;cases x<;>first|exact⟨hx,hf⟩|exact hx
 |label=>intro Q e h _ H;exact⟨H,λ_ _=>rfl⟩|goto=>intro Q e h _ H;exact H.elim|refuse=>intro Q e h _ H;exact H.elim
section
variable{P:aj}{Q:dw->Env->Ws->Prop}{e:Env}{h:Ws}
theorem Xj(H:Q .normal e h):W P .skip Q e h:=H
theorem Xt(H:Q .ret e h):W P .ret Q e h:=H
theorem Y9(H:Q (.exit id) e h):W P (.exit id) Q e h:=H
theorem Wx{a b:d8}(H:W P a (AEw (λe h=>W P b Q e h) Q) e h):W P (.seq a b) Q e h:=H
theorem W8{c:d8}(H:W P c (AIi id Q) e h):W P (.block id c) Q e h:=H
theorem Abb{c:d8}(H:W P c (Amd Q) e h):W P (.scope c) Q e h:=H
theorem Abc{l:Nat}(H:Q .normal e h):W P (.label l) Q e h:=H
theorem W5{l:List av}(H:RL P (λ_=>True) false l.toArray l e h (Q .normal)):W P (.region id l.toArray false) Q e h:=RW.of_RL (B:=λ_=>True) rfl H
theorem ALo{l:List av}(hst:(AJu l.toArray true,AVw l.toArray true)=(false,true))(H:RL P (λ_=>True) false l.toArray l e h (Q .normal)):W P (.region id l.toArray true) Q e h:=RW.of_RL (B:=λ_=>True) (Prod.mk.inj hst).2 (by grind)
theorem AAr{l:List av}(B:Ws->Prop)(hst:(AJu l.toArray true,AVw l.toArray true)=(true,true))(H:RL P B true l.toArray l e h (Q .normal)):W P (.region id l.toArray true) Q e h:=RW.of_RL (B:=B) (Prod.mk.inj hst).2 (by grind)
theorem X0{c:ak}{x y:d8}(hc:e.ev c=.bool true)(H:W P x Q e h):W P (.cond c x y) Q e h:=⟨true,hc,λ_=>H,λhh=>by cases hh⟩
theorem Xi{c:ak}{x y:d8}(hc:e.ev c=.bool false)(H:W P y Q e h):W P (.cond c x y) Q e h:=⟨false,hc,(λhh=>by cases hh),λ_=>H⟩
theorem AB5{c:d8}{X:Type}(m:Nat)(live:X->List (Nat×aa))(J:Nat->X->Ws->Prop)(hm:ATx m c=true)(k0:Nat)(x0:X)(h0:J k0 x0 h)(hl:AMf (live x0) e)(H:∀k x s h',J k x h'->W P c (AEw (λe' h''=>∃k' x',k'<k/\J k' x' h''/\AMf (live x') e') Q) (setL (live x)<|mix m s e) h'):W P (.loop c) Q e h:=by
 refine⟨λk e1 h1=>(∃x,J k x h1/\AMf (live x) e1)/\∀t,inM m t=false->e1 t=e t,k0,⟨⟨x0,h0,hl⟩,λ_ _=>rfl⟩,λk e1 h1 hi=>?_⟩;obtain⟨⟨x,hJ,hA⟩,hf1⟩:=hi;have he:setL (live x) (mix m e1 e)=e1:=by rw[Ab6 hf1];exact hA.setL
 have H1:=H k x e1 h1 hJ;rw[he]at H1;refine W.mono (λy e2 h2 hx=>?_)<|W.frame hm H1;obtain⟨hx,hf⟩:=hx;cases y<;>first|exact hx|skip
 obtain⟨k',x',hlt,hJ',hA'⟩:=hx;exact⟨k',hlt,⟨x',hJ',hA'⟩,λt ht=>(hf t ht).trans (hf1 t ht)⟩
theorem ATy{a b:d8}{X:Type}(m:Nat)(live:X->List (Nat×aa))(J:X->Ws->Prop)(hm:ATx m a=true)(H:W P a (AEw (λe' h'=>∃x,J x h'/\AMf (live x) e') Q) e h)(H2:∀x s h',J x h'->W P b Q (setL (live x)<|mix m s e) h'):W P (.seq a b) Q e h:=by
 refine Wx<|W.mono (λx e1 h1 hx=>?_)<|W.frame hm H;obtain⟨hx,hf⟩:=hx;cases x<;>first|exact hx|skip
 obtain⟨x,hJ,hA⟩:=hx;have he:setL (live x) (mix m e1 e)=e1:=by rw[Ab6 hf];exact hA.setL
 have:=H2 x e1 h1 hJ;rw[he]at this;exact this
end
section
variable{P:aj}{Q:dw->Env->Ws->Prop}{K:Env->Ws->Prop}{e:Env}{h:Ws}
theorem Xr(H:K e h):AEw K Q .normal e h:=H
theorem q_b(H:Q .normal e h):AIi id Q .normal e h:=H
theorem Zj(H:Q (.exit id) e h):AEw K Q (.exit id) e h:=H
theorem AEo(H:Q .normal e h):AIi id Q (.exit id) e h:=by simp only[AIi,if_true];exact H
theorem Aav{id':Nat}(hne:id'≠id)(H:Q (.exit id') e h):AIi id Q (.exit id') e h:=by simp only[AIi,if_neg hne];exact H
theorem Ze(H:Q .ret e h):AEw K Q .ret e h:=H
theorem ADr(H:Q .ret e h):AIi id Q .ret e h:=H
theorem Ai5(H:Q .ret e h):Amd Q .ret e h:=H
end
def Ai6(P:aj)(f:gd):Prop:=∃fn,P.funcs[f]?=some fn/\(fn.name== "runtime.NumGoroutine")=false/\fn.body.isNone=false
def W6(P:aj)(f:gd)(args:Array aa)(h:Ws)(K:aa->Ws->Prop):Prop:=Ai6 P f/\∀w:aK,w.heap=h->Calls P f args w λen w'=>∃v,en=.returned v/\Same w w'/\K v w'.heap
theorem W6.mono{P:aj}{f:gd}{args:Array aa}{h:Ws}{K K':aa->Ws->Prop}(H:W6 P f args h K)(hK:∀v h',K v h'->K' v h'):W6 P f args h K':=⟨H.1,λw hw=>Calls.mono (H.2 w hw) λen w'⟨v,he,hs,hk⟩=>⟨v,he,hs,hK _ _ hk⟩⟩
def AVo:List aa->Env|[],_=>undef|v::_,0=>v|_::l,t+1=>AVo l t
theorem Ab7(l:List aa)(t:Nat):AVo l t=l[t]?.getD undef:=by induction l generalizing t with|nil=>simp[AVo]|cons v l ih=>cases t with|zero=>simp[AVo]|succ t=>simp[AVo,ih]
def AY6(P:aj)(rs:List fS)(e:Env)(h:Ws)(v:aa):Prop:=∀(fn:Func)(tmps:Array aa)(w:aK),fn.results=rs.toArray->(∀t,tmps.getD t undef=e t)->w.heap=h->(results fn tmps).run P w=.ok v w
theorem Ae2{e:Env}{h:Ws}:AY6 P [] e h (.tuple #[]):=λfn tmps w hr _ _=>by simp[results,hr]
theorem Ya{e:Env}{h:Ws}{t:Tmp}:AY6 P [.tmp t] e h (e t):=λfn tmps w hr hg _=>by rw[<-hg t];simp[results,hr]
theorem ALp{e:Env}{h:Ws}{t u:Tmp}:AY6 P [.tmp t,.tmp u] e h (.tuple #[e t,e u]):=λfn tmps w hr hg _=>by rw[<-hg t,<-hg u];simp[results,hr]
theorem Ame{e:Env}{h:Ws}{t u v:Tmp}:AY6 P [.tmp t,.tmp u,.tmp v] e h (.tuple #[e t,e u,e v]):=λfn tmps w hr hg _=>by rw[<-hg t,<-hg u,<-hg v];simp[results,hr]
def APb(P:aj)(rs:List fS)(K:aa->Ws->Prop):dw->Env->Ws->Prop|.normal,e,h|.ret,e,h=>∃v,AY6 P rs e h v/\K v h|_,_,_=>False
theorem Xn(hmx:P.follows .mixedOrders=true){fn:Func}{c:d8}{rs:List fS}{n:Nat}{h:Ws}{K:aa->Ws->Prop}(hf:P.funcs[f]?=some fn)(hn:(fn.name== "runtime.NumGoroutine")=false)(hb:fn.body=some c)(hr:fn.results=rs.toArray)(hnt:fn.ntmps=n)(hl:Nat.ble l.length n=true)(hok:okC n c=true)(H:W P c (APb P rs K) (AVo l) h):W6 P f l.toArray h K:=by
 refine⟨⟨fn,hf,hn,by simp[hb]⟩,λw hw=>?_⟩;subst hw;have hl:=Nat.le_of_ble_eq_true hl;refine calls_of_wp hf hb<|W.sound hmx (n:=n) hok ⟨?_,rfl,λt=>?_⟩ H λx e' a' w' r s k=>?_;.grind
 .rw[Ab7];simp only[bc];grind
 .cases x with
  |normal=>obtain⟨v,hv,hk⟩:=k;exact⟨r.defers,v,hv fn _ w' hr r.get rfl,v,rfl,s,hk⟩|ret=>obtain⟨v,hv,hk⟩:=k;exact⟨r.defers,v,hv fn _ w' hr r.get rfl,v,rfl,s,hk⟩|exit id=>exact k.elim|goto l=>exact k.elim|panic ch=>exact k.elim|outgrown=>exact k.elim
end Go.QF
variable{K:Go.QF.Env->Go.QF.Ws->Prop}{h h' h0:Go.QF.Ws}{B:Go.QF.Ws->Prop}{K':aa->Go.QF.Ws->Prop}
namespace Go.QF
def Yt(h:Ws)(a:Addr):Option aa:=match h[a.block]? with|some (.cells c _ _)=>if a.spot.isSome then none else c[a.off]?|_=>none
def AR4(h:Ws)(a:Addr):Bool:=match h[a.block]? with|some (.cells _ _ (lo,hi))=>lo<=a.off&&a.off<hi|_=>false
def AVp(h:Ws)(a:Addr)(v:aa):Ws:=h.modify a.block fun|.cells c elem frozen=>.cells (if a.spot.isSome then c else c.setIfInBounds a.off v) elem frozen|o=>o
theorem ATz(w:aK)(a:Addr):w.cell? a=Yt w.heap a:=rfl
def SlT(P:aj)(t el s:Nat):Prop:=P.underlying t=some (.slice el)/\∃i,P.info? el=some i/\i.size=s
def AY7:TypeDesc->Bool|.struct _|.array _ _=>true|_=>false
def NaT(P:aj)(t:Nat):Prop:=(∃d,P.underlying t=some d/\AY7 d=false)/\∃i,P.info? t=some i/\i.size=1
def AgT(P:aj)(t s:Nat):Prop:=(∃d,P.underlying t=some d/\AY7 d=true)/\∃i,P.info? t=some i/\i.size=s
def ZeT(P:aj)(t:Nat)(zero:aa)(bytes:Nat):Prop:=∃i,P.info? t=some i/\i.zero=some zero/\i.size=zero.cells.size/\i.bytes=bytes
def ATi(P:aj)(t:Nat)(k:dp):Prop:=P.underlying t=some (.int k)
def FdT(P:aj)(t f off ft:Nat):Prop:=∃fs fd,P.underlying t=some (.struct fs)/\fs[f]?=some fd/\fd.offset=off/\fd.type=ft
section
variable{P:aj}{t:am}
theorem AGk{d:TypeDesc}(h:P.underlying t=some d)(w:aK):(underlying t).run P w=.ok d w:=by simp[underlying,h]
theorem A4g{i:TypeInfo}(h:P.info? t=some i)(w:aK):(typeInfo t).run P w=.ok i w:=by simp[typeInfo,h]
theorem AK3{i:TypeInfo}(h:P.info? t=some i)(w:aK):(sizeOf t).run P w=.ok i.size w:=by simp[sizeOf,A4g h]
theorem Ai7{i:TypeInfo}(h:P.info? t=some i)(hz:i.zero=some v)(w:aK):(zeroValue t).run P w=.ok v w:=by simp[zeroValue,A4g h,hz]
theorem Atx{d:TypeDesc}(h:P.underlying t=some d)(w:aK):(isAgg t).run P w=.ok (AY7 d) w:=by cases d<;>simp[isAgg,AGk h,AY7]
end
section
variable{P:aj}{B:Ws->Prop}{st:Bool}{ops:Array av}{rest:List av}{e:Env}{h:Ws}{K:Env->Ws->Prop}
variable{d:Nat}{ty:am}{pos:String}{af:Array Edge}
theorem W0(H:K e h):RL P B st ops [] e h K:=H
theorem ABh{o:av}(hg:o.guard=none)(hk:kindOf o.op=.pure)(hv:AW7 P e.ev o v)(H:RL P B st ops rest (e.put o.dst v) h K):RL P B st ops (o::rest) e h K:=by show GOp P B st ops o e h _;unfold GOp;rw[if_pos<|by simp[aq,hg]];unfold SOp;grind
theorem AJc{o:av}(hg:o.guard=none)(hk:kindOf o.op=.eff)(hb:B h)(hv:ANs P e.ev o h λv h'=>B h'/\RL P B st ops rest (e.put o.dst v) h' K):RL P B st ops (o::rest) e h K:=by show GOp P B st ops o e h _;unfold GOp;rw[if_pos<|by simp[aq,hg]];unfold SOp;grind
theorem A5p{o:av}(hg:o.guard=none)(hk:kindOf o.op=.wr)(hv:ANs P e.ev o h λv h'=>RL P B st ops rest (e.put o.dst v) h' K):RL P B st ops (o::rest) e h K:=by show GOp P B st ops o e h _;unfold GOp;rw[if_pos<|by simp[aq,hg]];unfold SOp;grind
theorem X8{dst:Option Nat}{op:Op}(t:Nat)(b:Bool)(ht:ops[j]?.bind (·.dst)=some t)(hv:e t=.bool b)(hb:(b==want)=false)(H:RL P B st ops rest (e.put dst undef) h K):RL P B st ops (⟨dst,op,ty,pos,af,some (j,want)⟩::rest) e h K:=by
 show GOp P B st ops _ e h _;unfold GOp;rw[if_neg];.exact H
 .simp only[aq,ACn,ht,hv];grind
theorem Azw{dst:Option Nat}{op:Op}(t:Nat)(ht:ops[j]?.bind (·.dst)=some t)(hv:e t=undef)(H:RL P B st ops rest (e.put dst undef) h K):RL P B st ops (⟨dst,op,ty,pos,af,some (j,want)⟩::rest) e h K:=by
 show GOp P B st ops _ e h _;unfold GOp;rw[if_neg];.exact H
 .simp only[aq,ACn,ht,hv,undef];simp
theorem Yh{dst:Option Nat}{op:Op}(t:Nat)(b:Bool)(ht:ops[j]?.bind (·.dst)=some t)(hv:e t=.bool b)(hb:(b==want)=true)(H:RL P B st ops (⟨dst,op,ty,pos,af,none⟩::rest) e h K):RL P B st ops (⟨dst,op,ty,pos,af,some (j,want)⟩::rest) e h K:=by
 have H:GOp P B st ops ⟨dst,op,ty,pos,af,none⟩ e h _:=H;show GOp P B st ops _ e h _;unfold GOp at H⊢;rw[if_pos<|by simp[aq]]at H;rw[if_pos];.exact H
 .simp only[aq,ACn,ht,hv];grind
theorem Wu(H:RL P B st ops rest (e.mv d x) h K):RL P B st ops (⟨some d,.move x,ty,pos,af,none⟩::rest) e h K:=ABh (v:=e.ev x) rfl rfl (λw=>rfl) H
theorem X4(H:RL P B st ops rest (e.mv d x) h K):RL P B st ops (⟨some d,.assign x,ty,pos,af,none⟩::rest) e h K:=ABh (v:=e.ev x) rfl rfl (λw=>rfl) H
theorem Zk{c:ak}(hc:e.ev c=.bool true)(H:RL P B st ops rest (e.mv d x) h K):RL P B st ops (⟨some d,.pick c x y,ty,pos,af,none⟩::rest) e h K:=ABh (v:=e.ev x) rfl rfl λw=>by simp only[execOp,hc];rfl H
theorem AAs{c:ak}(hc:e.ev c=.bool false)(H:RL P B st ops rest (e.mv d y) h K):RL P B st ops (⟨some d,.pick c x y,ty,pos,af,none⟩::rest) e h K:=ABh (v:=e.ev y) rfl rfl λw=>by simp only[execOp,hc];rfl H
theorem Ab8{n c:Nat}{a:Option Addr}(hT:SlT P t el s)(hx:e.ev x=.slice a n c)(H:RL P B st ops rest (e.set d<|.int .i64 n) h K):RL P B st ops (⟨some d,.call ⟨.builtin .len,#[x],#[t]⟩,ty,pos,af,none⟩::rest) e h K:=ABh (v:=.int .i64 n) rfl rfl λw=>by
  obtain⟨hu,_⟩:=hT;simp[execOp,resolve,invoke,builtin,Builtin.len_,AGk hu,hx,goInt] H
theorem AFo{t:am}{b:Int}(hx:e.ev x=.int k a)(hy:e.ev y=.int k b)(H:RL P B st ops rest (e.set d<|.int k<|k.wrap<|a+b) h K):RL P B st ops (⟨some d,.binOp .add t x y t2,ty,pos,af,none⟩::rest) e h K:=ABh (v:=.int k<|k.wrap<|a+b) rfl rfl λw=>by simp[execOp,hx,hy,eqGuard,binOp,dN] H
theorem AOr{t:am}{b:Int}(hx:e.ev x=.int k a)(hy:e.ev y=.int k b)(H:RL P B st ops rest (e.set d<|.int k<|k.wrap<|a-b) h K):RL P B st ops (⟨some d,.binOp .sub t x y t2,ty,pos,af,none⟩::rest) e h K:=ABh (v:=.int k<|k.wrap<|a-b) rfl rfl λw=>by simp[execOp,hx,hy,eqGuard,binOp,dN] H
theorem AMg{t:am}{b:Int}(hx:e.ev x=.int k a)(hy:e.ev y=.int k b)(H:RL P B st ops rest (e.set d<|.int k<|k.wrap<|a*b) h K):RL P B st ops (⟨some d,.binOp .mul t x y t2,ty,pos,af,none⟩::rest) e h K:=ABh (v:=.int k<|k.wrap<|a*b) rfl rfl λw=>by simp[execOp,hx,hy,eqGuard,binOp,dN] H
theorem Ae3{t:am}{b:Int}(hx:e.ev x=.int k a)(hy:e.ev y=.int k b)(hb:b≠0)(H:RL P B st ops rest (e.set d<|.int k<|k.wrap<|a.tdiv b) h K):RL P B st ops (⟨some d,.binOp .quo t x y t2,ty,pos,af,none⟩::rest) e h K:=ABh (v:=.int k<|k.wrap<|a.tdiv b) rfl rfl λw=>by simp[execOp,hx,hy,eqGuard,binOp,Op.intDiv,hb] H
theorem Ao5{t:am}{b:Int}(hx:e.ev x=.int k a)(hy:e.ev y=.int k b)(hb:b≠0)(H:RL P B st ops rest (e.set d<|.int k<|a.tmod b) h K):RL P B st ops (⟨some d,.binOp .rem t x y t2,ty,pos,af,none⟩::rest) e h K:=ABh (v:=.int k<|a.tmod b) rfl rfl λw=>by simp[execOp,hx,hy,eqGuard,binOp,Op.intDiv,hb] H
def Agn(op:fv)(a b:Int):Option Bool:=match op with|.eql=>some (a==b)|.neq=>some (a !=b)|.lss=>some (decide (a<b))|.leq=>some (decide (a<=b))|.gtr=>some (decide (a>b))|.geq=>some (decide (a>=b))|_=>none
theorem Aai{op:fv}{t:am}{b:Int}{r:Bool}(hx:e.ev x=.int k a)(hy:e.ev y=.int k b)(hr:Agn op a b=some r)(H:RL P B st ops rest (e.set d<|.bool r) h K):RL P B st ops (⟨some d,.binOp op t x y t2,ty,pos,af,none⟩::rest) e h K:=ABh (v:=.bool r) rfl rfl (λw=>by cases op<;>simp only[Agn]at hr<;>first|(injection hr with hr;subst hr;simp[execOp,hx,hy,eqGuard,binOp,Op.intCmp];done)|cases hr) H
theorem Arp{op:fv}{t:am}{b:Int}{r:Bool}(hx:e.ev x=.int k a)(hy:e.ev y=.int k b)(hr:Agn op a b=some r)(HT:r=true->RL P B st ops rest (e.set d<|.bool true) h K)(HF:r=false->RL P B st ops rest (e.set d<|.bool false) h K):RL P B st ops (⟨some d,.binOp op t x y t2,ty,pos,af,none⟩::rest) e h K:=by
 refine Aai hx hy hr ?_;cases r;.exact HF rfl
 .exact HT rfl
theorem Ai8{t:am}(hx:e.ev x=.int k a)(H:RL P B st ops rest (e.set d<|.int k<|k.wrap<|0-a) h K):RL P B st ops (⟨some d,.unOp .neg t x,ty,pos,af,none⟩::rest) e h K:=ABh (v:=.int k<|k.wrap<|0-a) rfl rfl λw=>by simp[execOp,hx,Op.unary,dN] H
theorem AM6{t:am}{b:Bool}(hx:e.ev x=.bool b)(H:RL P B st ops rest (e.set d<|.bool !b) h K):RL P B st ops (⟨some d,.unOp .not t x,ty,pos,af,none⟩::rest) e h K:=ABh (v:=.bool !b) rfl rfl λw=>by simp[execOp,hx,Op.unary] H
theorem AQd(hs:ATi P src k')(hd:ATi P dst k)(hx:e.ev x=.int k' a)(H:RL P B st ops rest (e.set d<|.int k<|k.wrap a) h K):RL P B st ops (⟨some d,.convert src dst x,ty,pos,af,none⟩::rest) e h K:=ABh (v:=.int k<|k.wrap a) rfl rfl λw=>by
  unfold ATi at hs hd;simp[execOp,hx,convert,AGk hs,AGk hd,Conv.intToInt] H
theorem ABx{vs:Array aa}(hx:e.ev x=.tuple vs)(hv:vs[i]?=some v)(H:RL P B st ops rest (e.set d v) h K):RL P B st ops (⟨some d,.extract x i,ty,pos,af,none⟩::rest) e h K:=ABh (v:=v) rfl rfl λw=>by simp[execOp,hx,Instr.extract,hv] H
theorem Ai9{i:ak}{a:Addr}{len cap:Nat}{n:Int}(hT:SlT P t el s)(hx:e.ev x=.slice (some a) len cap)(hi:e.ev i=.int k n)(h0:0<=n)(h1:n<len)(H:RL P B st ops rest (e.set d<|.pointer<|some<|a.add<|n.toNat*s) h K):RL P B st ops (⟨some d,.indexAddr t x i,ty,pos,af,none⟩::rest) e h K:=ABh (v:=.pointer<|some<|a.add<|n.toNat*s) rfl rfl λw=>by
  obtain⟨hu,i,hi',hs⟩:=hT;simp[execOp,hx,hi,Instr.indexAt,asIntOf,AGk hu,AK3 hi',hs,h0,h1] H
theorem Ae4{t:am}(ht:NaT P t){a:Addr}(w:aK)(hc:Yt w.heap a=some v)(ρ:ak->aa)(x:ak)(hx:ρ x=.pointer (some a))(o:av)(ho:o.op=.load t x):(execOp ρ o).run P w=.ok (.value v) w:=by obtain⟨⟨d,hd,hna⟩,_⟩:=ht;have hc':w.cell? a=some v:=hc;have h2:=Atx (P:=P) hd w;rw[hna]at h2;simp[execOp,ho,fL,hx,bT,loadVar,h2,hc']
theorem Yf{t:am}{a:Addr}(ht:NaT P t)(hx:e.ev x=.pointer (some a))(hc:Yt h a=some v)(H:RL P B false ops rest (e.set d v) h K):RL P B false ops (⟨some d,.load t x,ty,pos,af,none⟩::rest) e h K:=by show GOp P B false ops _ e h _;unfold GOp;rw[if_pos<|by simp[aq]];exact⟨v,λw hw=>Ae4 ht w (by grind) _ x hx _ rfl,H⟩
theorem AAm{t:am}{a:Addr}(ht:NaT P t)(hx:e.ev x=.pointer (some a))(hb:B h)(hc:∀h',B h'->Yt h' a=some v)(H:RL P B true ops rest (e.set d v) h K):RL P B true ops (⟨some d,.load t x,ty,pos,af,none⟩::rest) e h K:=by show GOp P B true ops _ e h _;unfold GOp;rw[if_pos<|by simp[aq]];exact⟨v,hb,λw hw=>Ae4 ht w (hc _ hw) _ x hx _ rfl,H⟩
def isOne:aa->Bool|.agg _=>false|.tuple _=>false|_=>true
theorem Amf{a:Addr}{v0:aa}(h1:isOne v=true)(hc:w.cell? a=some v0)(hf:w.frozen? a=false):(store a v).run P w=.ok () (w.setCell a v):=by unfold store;cases v<;>first|(simp only[dR,hc,hf];rfl)|(simp[isOne]at h1)
theorem Azx{t:am}{a:Addr}{v0:aa}(ht:NaT P t)(hx:e.ev x=.pointer (some a))(hy:e.ev y=v)(h1:isOne v=true)(hc:Yt h a=some v0)(hf:AR4 h a=false)(H:RL P B st ops rest e (AVp h a v) K):RL P B st ops (⟨none,.store t x y,ty,pos,af,none⟩::rest) e h K:=by
 refine A5p rfl rfl λw hw=>?_;subst hw;obtain⟨_,i,hi,hsz⟩:=ht;have hc':w.cell? a=some v0:=hc;have hf':w.frozen? a=false:=hf;have hcl:v.cells=#[v]:=by cases v<;>first|rfl|cases h1
 have hrun:(execOp e.ev ⟨none,.store t x y,ty,pos,af,none⟩).run P w=.ok .skip (w.setCell a v):=by
  simp only[execOp,dX,hx,bT,hy];have h2:=Amf (P:=P) h1 hc' hf';simp[storeVar,AK3 hi,hcl,hsz,storeCells,dq,h2]
 rw[hrun];exact⟨⟨rfl,rfl,rfl⟩,H⟩
theorem AOb(hc:Ai6 P f)(args:Array aa)(w:aK):(callFunc f args).run P w=.ok (.enter f args) w:=by obtain⟨fn,hf,hn,hb⟩:=hc;show(fI program _).run P w=_;show dR P (match P.funcs[f]? with|none=>_|some fn=>_) w=_;rw[hf];show dR P (if(fn.name== "runtime.NumGoroutine")=true then _ else _) w=_;rw[if_neg (by simp[hn]),if_neg<|by simp[hb]];rfl
theorem Ab9{args:Array aa}{ρ:ak->aa}{o:av}(hrun:∀w,(execOp ρ o).run P w=.ok (.enter f args) w)(HC:W6 P f args h K'):ANs P ρ o h K':=by intro w hw;rw[hrun w];exact⟨.refl w,HC.2 w hw⟩
theorem Xf(hb:B h)(hxs:xs.map e.ev=l)(HC:W6 P f l.toArray h K')(H:∀v h',K' v h'->B h'/\RL P B st ops rest (e.set d v) h' K):RL P B st ops (⟨some d,.call ⟨.value<|.func f,xs.toArray,ts⟩,ty,pos,af,none⟩::rest) e h K:=by refine AJc rfl rfl hb (Ab9 (f:=f) (args:=l.toArray) (λw=>?_)<|HC.mono H);have:=AOb HC.1 l.toArray w;simp only[execOp,resolve,bO,hxs,Env.ev,Deferred.ofValue,pure,bind,fI,invoke,Array.append_empty,fb];exact this
theorem Abd{c:ak}{cl:List aa}(hb:B h)(hc:e.ev c=.func (.func f) #[] cl.toArray)(hxs:xs.map e.ev=l)(HC:W6 P f (l++cl).toArray h K')(H:∀v h',K' v h'->B h'/\RL P B st ops rest (e.set d v) h' K):RL P B st ops (⟨some d,.call ⟨.value c,xs.toArray,ts⟩,ty,pos,af,none⟩::rest) e h K:=by refine AJc rfl rfl hb (Ab9 (f:=f) (args:=(l++cl).toArray) (λw=>?_)<|HC.mono H);have:=AOb HC.1 (l++cl).toArray w;simp only[execOp,resolve,bO,hxs,hc,Deferred.ofValue,pure,bind,fI,invoke,fb,List.append_toArray];exact this
end
def Upd(S:Nat->Prop)(h h':Ws):Prop:=h.size<=h'.size/\∀k,k<h.size->¬S k->h'[k]?=h[k]?
def Ext(h h':Ws):Prop:=h.size<=h'.size/\∀k,k<h.size->h'[k]?=h[k]?
theorem Ext.refl(h:Ws):Ext h h:=⟨ay _,λ_ _=>rfl⟩
theorem Ext.trans{a b c:Ws}(h:Ext a b)(k:Ext b c):Ext a c:=⟨bW h.1 k.1,λi hi=>(k.2 i<|bt hi h.1).trans (h.2 i hi)⟩
theorem Ext.upd{a b:Ws}(h:Ext a b):Upd S a b:=⟨h.1,λk hk _=>h.2 k hk⟩
theorem Upd.refl(S:Nat->Prop)(h:Ws):Upd S h h:=⟨ay _,λ_ _ _=>rfl⟩
theorem Upd.trans{S:Nat->Prop}{a b c:Ws}(h:Upd S a b)(k:Upd S b c):Upd S a c:=⟨bW h.1 k.1,λi hi hs=>(k.2 i (bt hi h.1) hs).trans (h.2 i hi hs)⟩
theorem Upd.mono{T:Nat->Prop}{a b:Ws}(h:Upd S a b)(hST:∀k,k<a.size->S k->T k):Upd T a b:=⟨h.1,λk hk ht=>h.2 k hk λhs=>ht<|hST k hk hs⟩
theorem Ext.thenUpd{a b c:Ws}(h:Ext a b)(k:Upd S b c)(hS:∀i,S i->a.size<=i):Ext a c:=⟨bW h.1 k.1,λi hi=>(k.2 i (bt hi h.1) λhs=>by grind).trans (h.2 i hi)⟩
theorem Zt(h:Ws)(o:Obj):Ext h (h.push o):=⟨W4,λk hk=>by grind⟩
theorem AM1(h:Ws)(a:Addr)(v:aa):Upd (·=a.block) h (AVp h a v):=by refine⟨by simp[AVp],λk hk hs=>?_⟩;simp only[AVp,bK];grind
theorem Aja{a:Addr}(hc:Yt h a=some v):a.block<h.size:=by unfold Yt at hc;grind
theorem Aaj{a:Addr}(he:h'[a.block]?=h[a.block]?):Yt h' a=Yt h a:=by unfold Yt;rw[he]
theorem Yq{a:Addr}(hc:Yt h a=some v)(he:Ext h h'):Yt h' a=some v:=by rw[Aaj<|he.2 _<|Aja hc];exact hc
theorem Ae5{a:Addr}(hc:Yt h a=some v)(he:Upd S h h')(hS:¬S a.block):Yt h' a=some v:=by rw[Aaj<|he.2 _ (Aja hc) hS];exact hc
def Sl(h:Ws)(v:aa)(l:List aa):Prop:=∃a cap,v=.slice a l.length cap/\∀i x,l[i]?=some x->∃b o,a=some ⟨b,o,none⟩/\Yt h ⟨b,o+i,none⟩=some x
theorem Sl.ext(H:Sl h v l)(he:Ext h h'):Sl h' v l:=by obtain⟨a,cap,hv,hc⟩:=H;exact⟨a,cap,hv,λi x hx=>let⟨b,o,ha,hx⟩:=hc i x hx;⟨b,o,ha,Yq hx he⟩⟩
theorem Sl.upd(H:Sl h v l)(he:Upd S h h')(hS:∀b,v.ownBlock=some b->¬S b):Sl h' v l:=by obtain⟨a,cap,hv,hc⟩:=H;refine⟨a,cap,hv,λi x hx=>?_⟩;obtain⟨b,o,ha,hx⟩:=hc i x hx;exact⟨b,o,ha,Ae5 hx he<|hS b (by subst hv;subst ha;rfl)⟩
theorem Aty(h:Ws):Sl h (.slice none 0 0) []:=⟨none,0,rfl,λi x hx=>by simp at hx⟩
theorem Sl.pre{a:Option Addr}{n cap:Nat}(H:Sl h (.slice a n cap) l)(k:Nat)(hk:k<=l.length)(cap':Nat):Sl h (.slice a k cap') (l.take k):=by obtain⟨a',c',hv,hc⟩:=H;injection hv with ha hl hcap;subst ha;refine⟨a,cap',by grind,λi x hx=>hc i x ?_⟩;grind
def iv(x:Int):aa:=.int .i64 x
def Amg(h:Ws)(v:aa)(zs:List Int):Prop:=Sl h v<|zs.map<|.int .i64
def Mat(h:Ws)(v:aa)(M:List (List Int)):Prop:=∃rs:List aa,Sl h v rs/\rs.length=M.length/\∀(i:Nat)(r:aa)(z:List Int),rs[i]?=some r->M[i]?=some z->Sl h r (z.map<|.int .i64)
theorem Mat.ext{h h':Ws}{v:aa}{M:List (List Int)}(H:Mat h v M)(he:Ext h h'):Mat h' v M:=by obtain⟨rs,h1,h2,h3⟩:=H;exact⟨rs,h1.ext he,h2,λi r z hr hz=>(h3 i r z hr hz).ext he⟩
theorem Mat.row{M:List (List Int)}(H:Mat h v M){z:List Int}(hz:M[i]?=some z):∃r,(∃rs,Sl h v rs/\rs[i]?=some r)/\Sl h r (z.map<|.int .i64):=by
 obtain⟨rs,h1,h2,h3⟩:=H;have hi:i<rs.length:=by grind
 exact⟨rs[i],⟨rs,h1,ae hi⟩,h3 i _ z (ae hi) hz⟩
theorem Mat.len{M:List (List Int)}(H:Mat h v M):∃a cap,v=.slice a M.length cap:=by obtain⟨rs,⟨a,cap,hv,_⟩,h2,_⟩:=H;grind
def AAh(h:Ws)(el g:Nat)(v:aa)(l:List aa):Prop:=∃cap cur,v=.slice (some ⟨g,0,none⟩) l.length cap/\h[g]?=some (.cells cur el (0,0))/\l.length<=cap/\cap<=maxLen/\cur.size=cap/\cur.toList.take l.length=l
theorem AAh.lt(H:AAh h el g v l):g<h.size:=by obtain⟨cap,cur,_,hg,_⟩:=H;grind
theorem AAh.blk(H:AAh h el g v l):v.ownBlock=some g:=by obtain⟨cap,cur,rfl,_⟩:=H;rfl
theorem AAh.one(H:AAh h el g v l):isOne v=true:=by obtain⟨cap,cur,rfl,_⟩:=H;rfl
theorem AAh.cell(H:AAh h el g v l){x:aa}(hx:l[i]?=some x):Yt h ⟨g,i,none⟩=some x:=by obtain⟨cap,cur,_,hg,_,_,_,ht⟩:=H;have hi:=(ab.1 hx).1;simp only[Yt,hg];grind
theorem AAh.free(H:AAh h el g v l)(i:Nat):AR4 h ⟨g,i,none⟩=false:=by obtain⟨cap,cur,_,hg,_⟩:=H;simp[AR4,hg]
theorem AAh.sl(H:AAh h el g v l):Sl h v l:=by have H':=H;obtain⟨cap,cur,hv,_⟩:=H;exact⟨_,cap,hv,λi x hx=>⟨g,0,rfl,by rw[aM];exact H'.cell hx⟩⟩
theorem AAh.congr(H:AAh h el g v l)(he:h'[g]?=h[g]?):AAh h' el g v l:=by obtain⟨cap,cur,hv,hg,r⟩:=H;exact⟨cap,cur,hv,he.trans hg,r⟩
theorem AAh.ext(H:AAh h el g v l)(he:Ext h h'):AAh h' el g v l:=H.congr<|he.2 g H.lt
theorem AAh.upd(H:AAh h el g v l)(he:Upd S h h')(hS:¬S g):AAh h' el g v l:=H.congr<|he.2 g H.lt hS
theorem AAh.set{h:Ws}{el g:Nat}{v:aa}{l:List aa}(H:AAh h el g v l)(i:Nat)(y:aa)(hi:i<l.length):AAh (AVp h ⟨g,i,none⟩ y) el g v (l.set i y):=by
 obtain⟨cap,cur,hv,hg,hl,hm,hs,ht⟩:=H;refine⟨cap,cur.setIfInBounds i y,by grind,?_,by grind,hm,by simp[hs],?_⟩;.simp only[AVp,bK,if_true,hg,bI];rfl
 .rw[cg,bN,fK,ht]
theorem AQ4(h:Ws)(el n:Nat)(z:aa)(hm:n<=maxLen):AAh (h.push<|.cells (ah n z).toArray el (0,0)) el h.size (.slice (some ⟨h.size,0,none⟩) n n) (ah n z):=⟨n,(ah n z).toArray,W4,W4,W4,hm,W4,W4⟩
theorem Aca(h:Ws)(el:Nat)(l:List aa)(hm:l.length<=maxLen):AAh (h.push<|.cells l.toArray el (0,0)) el h.size (.slice (some ⟨h.size,0,none⟩) l.length l.length) l:=⟨l.length,l.toArray,rfl,W4,ay _,hm,W4,W4⟩
theorem AV7{l:List Nat}(hn:l.Nodup)(hi:l[i]?=some g)(hj:l[j]?=some g):i=j:=by obtain⟨Aa,Ab⟩:=ab.1 hi;obtain⟨Ac,Ad⟩:=ab.1 hj;have hp:=List.pairwise_iff_getElem.1 hn;grind
section
variable{P:aj}{B:Ws->Prop}{st:Bool}{ops:Array av}{rest:List av}{e:Env}{h:Ws}{K:Env->Ws->Prop}
variable{d:Nat}{ty:am}{pos:String}{af:Array Edge}
theorem Zu(b o i:Nat):(⟨b,o,none⟩:Addr).add i=⟨b,o+i,none⟩:=by unfold dq;grind
theorem Acb{i:ak}{u:aa}{n:Nat}(hT:SlT P t el 1)(hx:e.ev x=v)(HS:Sl h v l)(hi:e.ev i=.int k (n:Int))(hu:l[n]?=some u)(H:∀a,Yt h a=some u->RL P B st ops rest (e.set d<|.pointer<|some a) h K):RL P B st ops (⟨some d,.indexAddr t x i,ty,pos,af,none⟩::rest) e h K:=by
 obtain⟨a,cap,rfl,hc⟩:=HS;obtain⟨b,o,rfl,hcu⟩:=hc n u hu;have hn:=(ab.1 hu).1;refine Ai9 hT hx hi Wq Wq ?_;have he:(⟨b,o,none⟩:Addr).add ((n:Int).toNat*1)=⟨b,o+n,none⟩:=by rw[Zu];simp
 grind
theorem AQ5{i:ak}{n:Nat}(hT:SlT P t el 1)(hx:e.ev x=v)(HO:AAh h er g v l)(hi:e.ev i=.int k (n:Int))(hn:n<l.length)(H:RL P B st ops rest (e.set d<|.pointer<|some ⟨g,n,none⟩) h K):RL P B st ops (⟨some d,.indexAddr t x i,ty,pos,af,none⟩::rest) e h K:=by
 obtain⟨cap,cur,rfl,_⟩:=HO;refine Ai9 hT hx hi Wq Wq ?_;have he:(⟨g,0,none⟩:Addr).add ((n:Int).toNat*1)=⟨g,n,none⟩:=by rw[Zu];simp
 grind
theorem Atz{n:Nat}{u:aa}(ht:NaT P t)(hx:e.ev x=.pointer (some ⟨g,n,none⟩))(hy:e.ev y=u)(h1:isOne u=true)(HO:AAh h er g v l)(hn:n<l.length)(H:RL P B st ops rest e (AVp h ⟨g,n,none⟩ u) K):RL P B st ops (⟨none,.store t x y,ty,pos,af,none⟩::rest) e h K:=Azx ht hx hy h1 (HO.cell<|ae hn) (HO.free n) H
theorem AFp{t:am}(hx:e.ev x=.int .i64 (i:Int))(hi:i<4611686018427387904)(H:RL P B st ops rest (e.set d<|.int .i64 ((i+1:Nat):Int)) h K):RL P B st ops (⟨some d,.binOp .add t x (.const<|.int .i64 1) t2,ty,pos,af,none⟩::rest) e h K:=by
 refine AFo hx rfl ?_;have:IntKind.i64.wrap ((i:Int)+1)=((i+1:Nat):Int):=by rw[bC];omega
 grind
theorem Ago{t:am}{b:Int}(hx:e.ev x=.int .i64 a)(hy:e.ev y=.int .i64 b)(h0:-9223372036854775808<=a+b)(h1:a+b<=9223372036854775807)(H:RL P B st ops rest (e.set d<|.int .i64<|a+b) h K):RL P B st ops (⟨some d,.binOp .add t x y t2,ty,pos,af,none⟩::rest) e h K:=by
 refine AFo hx hy ?_;have:IntKind.i64.wrap (a+b)=a+b:=by rw[bC];omega
 grind
theorem AJd{t:am}{b:Int}(hx:e.ev x=.int .i64 a)(hy:e.ev y=.int .i64 b)(h0:-9223372036854775808<=a-b)(h1:a-b<=9223372036854775807)(H:RL P B st ops rest (e.set d<|.int .i64<|a-b) h K):RL P B st ops (⟨some d,.binOp .sub t x y t2,ty,pos,af,none⟩::rest) e h K:=by
 refine AOr hx hy ?_;have:IntKind.i64.wrap (a-b)=a-b:=by rw[bC];omega
 grind
theorem ALq{t:am}{b:Int}(hx:e.ev x=.int .i64 a)(hy:e.ev y=.int .i64 b)(h0:-9223372036854775808<=a*b)(h1:a*b<=9223372036854775807)(H:RL P B st ops rest (e.set d<|.int .i64<|a*b) h K):RL P B st ops (⟨some d,.binOp .mul t x y t2,ty,pos,af,none⟩::rest) e h K:=by
 refine AMg hx hy ?_;have:IntKind.i64.wrap (a*b)=a*b:=by rw[bC];omega
 grind
theorem AV8{t:am}{b:Int}(hx:e.ev x=.int k a)(hy:e.ev y=.int k b)(ha:0<=a)(hb:0<b)(H:RL P B st ops rest (e.set d<|.int k<|a%b) h K):RL P B st ops (⟨some d,.binOp .rem t x y t2,ty,pos,af,none⟩::rest) e h K:=by refine Ao5 hx hy Wq ?_;grind
theorem Agp{t:am}{b:Int}(hx:e.ev x=.int .i64 a)(hy:e.ev y=.int .i64 b)(ha:0<=a)(Ac:a<=9223372036854775807)(hb:0<b)(H:RL P B st ops rest (e.set d<|.int .i64<|a/b) h K):RL P B st ops (⟨some d,.binOp .quo t x y t2,ty,pos,af,none⟩::rest) e h K:=by
 refine Ae3 hx hy Wq ?_;have h1:a.tdiv b=a/b:=Int.tdiv_eq_ediv_of_nonneg ha;have h2:a/b<=a:=fx _ ha;have h3:0<=a/b:=fG ha Wq;have:IntKind.i64.wrap (a.tdiv b)=a/b:=by rw[h1,bC];omega
 grind
theorem ABa{t:am}{b:Int}(hx:e.ev x=.int k a)(hy:e.ev y=.int k b)(HT:a<b->RL P B st ops rest (e.set d<|.bool true) h K)(HF:b<=a->RL P B st ops rest (e.set d<|.bool false) h K):RL P B st ops (⟨some d,.binOp .lss t x y t2,ty,pos,af,none⟩::rest) e h K:=Arp hx hy rfl (λhc=>HT<|by simpa using hc) λhc=>HF<|by simpa using hc 
theorem AS7{t:am}{b:Int}(hx:e.ev x=.int k a)(hy:e.ev y=.int k b)(HT:a<=b->RL P B st ops rest (e.set d<|.bool true) h K)(HF:b<a->RL P B st ops rest (e.set d<|.bool false) h K):RL P B st ops (⟨some d,.binOp .leq t x y t2,ty,pos,af,none⟩::rest) e h K:=Arp hx hy rfl (λhc=>HT<|by simpa using hc) λhc=>HF<|by simpa using hc 
theorem AN4{t:am}{b:Int}(hx:e.ev x=.int k a)(hy:e.ev y=.int k b)(HT:b<a->RL P B st ops rest (e.set d<|.bool true) h K)(HF:a<=b->RL P B st ops rest (e.set d<|.bool false) h K):RL P B st ops (⟨some d,.binOp .gtr t x y t2,ty,pos,af,none⟩::rest) e h K:=Arp hx hy rfl (λhc=>HT<|by simpa using hc) λhc=>HF<|by simpa using hc 
theorem AT1{t:am}{b:Int}(hx:e.ev x=.int k a)(hy:e.ev y=.int k b)(HT:b<=a->RL P B st ops rest (e.set d<|.bool true) h K)(HF:a<b->RL P B st ops rest (e.set d<|.bool false) h K):RL P B st ops (⟨some d,.binOp .geq t x y t2,ty,pos,af,none⟩::rest) e h K:=Arp hx hy rfl (λhc=>HT<|by simpa using hc) λhc=>HF<|by simpa using hc 
theorem AS8{t:am}{b:Int}(hx:e.ev x=.int k a)(hy:e.ev y=.int k b)(HT:a=b->RL P B st ops rest (e.set d<|.bool true) h K)(HF:a≠b->RL P B st ops rest (e.set d<|.bool false) h K):RL P B st ops (⟨some d,.binOp .eql t x y t2,ty,pos,af,none⟩::rest) e h K:=Arp hx hy rfl (λhc=>HT<|by simpa using hc) λhc=>HF<|by simpa using hc 
theorem Ajb{t:am}{b:Int}(hx:e.ev x=.int k a)(hy:e.ev y=.int k b)(HT:a≠b->RL P B st ops rest (e.set d<|.bool true) h K)(HF:a=b->RL P B st ops rest (e.set d<|.bool false) h K):RL P B st ops (⟨some d,.binOp .neq t x y t2,ty,pos,af,none⟩::rest) e h K:=Arp hx hy rfl (λhc=>HT<|by simpa using hc) λhc=>HF<|by simpa using hc 
theorem AVx(z:aa)(h1:isOne z=true)(n:Nat):madeCells z.cells n=(ah n z).toArray:=by
 have:z.cells=#[z]:=by cases z<;>first|rfl|cases h1
 rw[this];apply fi;.simp[madeCells]
 .intro i h1 h2;simp[madeCells,f7]
theorem Arq{n:Nat}{z:aa}(hT:SlT P t el 1)(hz:ZeT P el z bytes)(h1:isOne z=true)(hb:B h)(hx:e.ev x=.int .i64 (n:Int))(hy:e.ev y=.int .i64 (n:Int))(hn:bytes*n<=281474976710656)(Ad:n<=281474976710656)(H:B (h.push<|.cells (ah n z).toArray el (0,0))/\RL P B st ops rest (e.set d<|.slice (some ⟨h.size,0,none⟩) n n) (h.push<|.cells (ah n z).toArray el (0,0)) K):RL P B st ops (⟨some d,.makeSlice t x y,ty,pos,af,none⟩::rest) e h K:=by
 refine AJc rfl rfl hb λw hw=>?_;subst hw;obtain⟨hu,i0,Aa,Ac⟩:=hT;obtain⟨i,hi,hzz,hsz,hby⟩:=hz;rw[hi]at Aa;injection Aa with Aa;subst Aa;have hr:=run_make (P:=P) w t el i z hu hi hzz .i64 .i64 (n:Int) (n:Int) Wq Wq (by rw[hby];omega) Wq;have:(execOp e.ev ⟨some d,.makeSlice t x y,ty,pos,af,none⟩).run P w=.ok (.value<|.slice (some ⟨w.heap.size,0,none⟩) n n) (w.alloc<|.cells (ah n z).toArray el):=by
  simp only[execOp,hx,hy];simp only[ai,Ac,bh,AVx z h1]at hr;simp[hr]
 rw[this];exact⟨⟨rfl,rfl,rfl⟩,H⟩
theorem A4h{s:ak}{z:aa}{news:List aa}(hT:SlT P t el 1)(hz:ZeT P el z bytes)(h1:isOne z=true)(hb:B h)(hs:e.ev s=v)(HO:AAh h el g v l)(hx:e.ev x=xv)(HX:Sl h xv news)(hone:∀u∈news,isOne u=true)(hn0:news≠[])(hlen:(l.length+news.length)*bytes<=140737488355328)(hlen2:l.length+news.length<=140737488355328)(H:∀v' g' h',AAh h' el g' v' (l++news)->g'=g∨g'=h.size->Upd (·=g) h h'->B h'/\RL P B st ops rest (e.set d v') h' K):RL P B st ops (⟨some d,.call ⟨.builtin .append,#[s,x],#[t,t]⟩,ty,pos,af,none⟩::rest) e h K:=by
 refine AJc rfl rfl hb λw hw=>?_;subst hw;obtain⟨hu,i0,hi0,hs0⟩:=hT;obtain⟨i,hi,hzz,hsz,hby⟩:=hz;rw[hi]at hi0;injection hi0 with hi0;subst hi0;have HO':=HO;obtain⟨cap,cur,rfl,hg,hlc,hcm,hcs,ht⟩:=HO;obtain⟨xa,xc,rfl,hxc⟩:=HX;obtain⟨u0,hu0⟩:∃u,news[0]?=some u:=by grind
 obtain⟨xb,xo,rfl,_⟩:=hxc 0 u0 hu0;have hnews:∀j u,news[j]?=some u->w.cell? ((⟨xb,xo,none⟩:Addr).add j)=some u:=λj u hu'=>by obtain⟨b,o,ha,hc⟩:=hxc j u hu';injection ha with ha;injection ha with h1 h2;subst h1;subst h2;rw[Zu];exact hc
 have hone':∀u∈news,u.oneCell'=true:=λu hu'=>by have:=hone u hu';cases u<;>first|rfl|cases this
 have hown:w.ownsRow 0 el 1 (.slice (some ⟨g,0,none⟩) l.length cap) l.length l:=⟨W4,.inr ⟨g,cap,cur,rfl,ce _,hg,hlc,hcm,by simp[hcs],by simpa using ht⟩⟩;have hzs:z.cells.size=1:=by omega
 by_cases hroom:l.length+news.length<=cap
 .have hr:=run_append_room (P:=P) w t ty el i hu hi g l.length cap cur hg ⟨xb,xo,none⟩ news.length xc news (by simp[hs0]) hnews hone' hroom (by grind);have hrun:(execOp e.ev ⟨some d,.call ⟨.builtin .append,#[s,x],#[t,t]⟩,ty,pos,af,none⟩).run P w=.ok (.value<|.slice (some ⟨g,0,none⟩) (l.length+news.length) cap) (w.setRow g (cur.toList.take (l.length*i.size)++news++cur.toList.drop (l.length*i.size+news.length)).toArray):=by simp[execOp,resolve,invoke,builtin,hs,hx,hr]
  rw[hrun];refine⟨⟨rfl,rfl,rfl⟩,H _ g _ ?_ (.inl rfl) ?_⟩
  .refine⟨cap,_,W4,setRow_heap w g cur _ el (0,0) hg,by grind,hcm,?_,?_⟩;.grind
   .simp only[hs0,bh,ht];grind
  .exact⟨by simp[cj],λk hk hne=>setRow_other w g k _ λhe=>hne he⟩
 .have hr:=run_append_grow (P:=P) w t ty el i z hu hi hzz ⟨g,0,none⟩ l.length cap l (by simp[hs0]) (λj u hu'=>by rw[Zu,aM];exact HO'.cell hu') ⟨xb,xo,none⟩ news.length xc news (by simp[hs0]) hnews Wq Wq (by rw[hby];exact growslice_fits Wq hlen);have hrun:(execOp e.ev ⟨some d,.call ⟨.builtin .append,#[s,x],#[t,t]⟩,ty,pos,af,none⟩).run P w=.ok (.value<|.slice (some ⟨w.heap.size,0,none⟩) (l.length+news.length)<|grownCap w (l.length+news.length) cap el) (w.drew.alloc<|.cells (l.toArray++news.toArray++aH z.cells (grownCap w (l.length+news.length) cap el-(l.length+news.length))) el):=by simp[execOp,resolve,invoke,builtin,hs,hx,hr]
  rw[hrun];have hge:=grownCap_ge w (l.length+news.length) cap el;have hcm':grownCap w (l.length+news.length) cap el<=maxLen:=grownCap_le_maxLen w _ _ el (by unfold maxLen;omega);refine⟨⟨rfl,rfl,rfl⟩,H _ w.heap.size _ ?_ (.inr rfl) ?_⟩
  .refine⟨_,_,W4,heap_alloc_new w.drew _,by simpa using hge,hcm',?_,?_⟩;.simp[size_zeroCells,hzs];omega
   grind
  .exact Ext.upd ⟨W4,λk hk=>heap_alloc_old w.drew _ k hk⟩
theorem At0{s:ak}{z:aa}{news:List aa}(hT:SlT P t el 1)(hz:ZeT P el z bytes)(h1:isOne z=true)(hb:B h)(hs:e.ev s=.slice none 0 0)(hx:e.ev x=xv)(HX:Sl h xv news)(hone:∀u∈news,isOne u=true)(hn0:news≠[])(hlen:news.length*bytes<=140737488355328)(hlen2:news.length<=140737488355328)(H:∀v' h',AAh h' el h.size v' news->Ext h h'->B h'/\RL P B st ops rest (e.set d v') h' K):RL P B st ops (⟨some d,.call ⟨.builtin .append,#[s,x],#[t,t]⟩,ty,pos,af,none⟩::rest) e h K:=by
 refine AJc rfl rfl hb λw hw=>?_;subst hw;obtain⟨hu,i0,hi0,hs0⟩:=hT;obtain⟨i,hi,hzz,hsz,hby⟩:=hz;rw[hi]at hi0;injection hi0 with hi0;subst hi0;obtain⟨xa,xc,rfl,hxc⟩:=HX;obtain⟨u0,hu0⟩:∃u,news[0]?=some u:=by grind
 obtain⟨xb,xo,rfl,_⟩:=hxc 0 u0 hu0;have hnews:∀j u,news[j]?=some u->w.cell? ((⟨xb,xo,none⟩:Addr).add j)=some u:=λj u hu'=>by obtain⟨b,o,ha,hc⟩:=hxc j u hu';injection ha with ha;injection ha with h1 h2;subst h1;subst h2;rw[Zu];exact hc
 have hpos:0<news.length:=(ab.1 hu0).1;have hzs:z.cells.size=1:=by omega
 have hr:=run_append_nil (P:=P) w t ty el i z hu hi hzz ⟨xb,xo,none⟩ news.length xc news (by simp[hs0]) hnews hpos Wq (by rw[hby];omega);have hrun:(execOp e.ev ⟨some d,.call ⟨.builtin .append,#[s,x],#[t,t]⟩,ty,pos,af,none⟩).run P w=.ok (.value<|.slice (some ⟨w.heap.size,0,none⟩) news.length<|grownCap w news.length 0 el) (w.drew.alloc<|.cells (news.toArray++aH z.cells (grownCap w news.length 0 el-news.length)) el):=by simp[execOp,resolve,invoke,builtin,hs,hx,hr]
 rw[hrun];have hge:=grownCap_ge w news.length 0 el;have hcm':grownCap w news.length 0 el<=maxLen:=grownCap_le_maxLen w _ _ el (by unfold maxLen;omega);refine⟨⟨rfl,rfl,rfl⟩,H _ _ ?_ ⟨W4,λk hk=>heap_alloc_old w.drew _ k hk⟩⟩;refine⟨_,_,rfl,heap_alloc_new w.drew _,hge,hcm',?_,?_⟩;.simp[size_zeroCells,hzs];omega
 grind
theorem AT2{i:ak}{M:List (List Int)}{z:List Int}{n:Nat}(hT:SlT P t el 1)(hx:e.ev x=v)(HM:Mat h v M)(hi:e.ev i=.int k (n:Int))(hz:M[n]?=some z)(H:∀a r,Yt h a=some r->Amg h r z->RL P B st ops rest (e.set d<|.pointer<|some a) h K):RL P B st ops (⟨some d,.indexAddr t x i,ty,pos,af,none⟩::rest) e h K:=by obtain⟨r,⟨rs,h1,h2⟩,h3⟩:=HM.row hz;exact Acb hT hx h1 hi h2 λa ha=>H a r ha h3
theorem AQ6{i:ak}{zs:List Int}{z:Int}{n:Nat}(hT:SlT P t el 1)(hx:e.ev x=v)(HI:Amg h v zs)(hi:e.ev i=.int k (n:Int))(hz:zs[n]?=some z)(H:∀a,Yt h a=some (.int .i64 z)->RL P B st ops rest (e.set d<|.pointer<|some a) h K):RL P B st ops (⟨some d,.indexAddr t x i,ty,pos,af,none⟩::rest) e h K:=Acb hT hx HI hi (by grind) H
theorem AY8{M:List (List Int)}(hT:SlT P t el s)(hx:e.ev x=v)(HM:Mat h v M)(H:RL P B st ops rest (e.set d<|.int .i64 (M.length:Int)) h K):RL P B st ops (⟨some d,.call ⟨.builtin .len,#[x],#[t]⟩,ty,pos,af,none⟩::rest) e h K:=by obtain⟨a,cap,rfl⟩:=HM.len;exact Ab8 hT hx H
theorem At1{zs:List Int}(hT:SlT P t el s)(hx:e.ev x=v)(HI:Amg h v zs)(H:RL P B st ops rest (e.set d<|.int .i64 (zs.length:Int)) h K):RL P B st ops (⟨some d,.call ⟨.builtin .len,#[x],#[t]⟩,ty,pos,af,none⟩::rest) e h K:=by obtain⟨a,cap,rfl,_⟩:=HI;rw[ci]at hx;exact Ab8 hT hx H
theorem AV9(hT:SlT P t el s)(hx:e.ev x=v)(HI:Sl h v l)(H:RL P B st ops rest (e.set d<|.int .i64 (l.length:Int)) h K):RL P B st ops (⟨some d,.call ⟨.builtin .len,#[x],#[t]⟩,ty,pos,af,none⟩::rest) e h K:=by obtain⟨a,cap,rfl,_⟩:=HI;exact Ab8 hT hx H
end
theorem Amg.ext{h h':Ws}{v:aa}{zs:List Int}(H:Amg h v zs)(he:Ext h h'):Amg h' v zs:=Sl.ext H he
theorem ALr(hu:P.underlying t=some (.slice el))(hi:(P.info? el).map (·.size)=some s):SlT P t el s:=by refine⟨hu,?_⟩;simp_all
theorem AIj{d:TypeDesc}(hu:P.underlying t=some d)(hd:AY7 d=false)(hi:(P.info? t).map (·.size)=some 1):NaT P t:=by refine⟨⟨d,hu,hd⟩,?_⟩;simp_all
theorem AOs{d:TypeDesc}(hu:P.underlying t=some d)(hd:AY7 d=true)(hi:(P.info? t).map (·.size)=some s):AgT P t s:=by refine⟨⟨d,hu,hd⟩,?_⟩;simp_all
theorem AFy{z:aa}(hi:(P.info? t).map (λi=>(i.zero,i.size,i.bytes))=some (some z,z.cells.size,bytes)):ZeT P t z bytes:=by cases h:P.info? t with|none=>grind|some i=>
   rw[h]at hi;simp only[bI,cK,Prod.mk.injEq]at hi;exact⟨i,h,hi.1,hi.2.1,hi.2.2⟩
def partsOf:Nat->List aa->List (Nat×aa)|_,[]=>[]|k,v::l=>(k,v)::partsOf (k+1) l
theorem Ae6(h1:isOne v=true):v.cells=#[v]:=by cases v<;>first|rfl|cases h1
theorem Amh(l:List aa):∀(pre old:List aa),(∀u∈l,isOne u=true)->old.length=l.length->bZ (λi=>some (i*1,1)) (pre++old).toArray (partsOf pre.length l)=some (pre++l).toArray:=by induction l with
 |nil=>
   intro pre old _ ho;obtain rfl:old=[]:=cb ho;simp[partsOf,bZ]|cons v l ih=>
   intro pre old h1 ho;cases old with
   |nil=>simp at ho|cons o old=>
     have hc:=Ae6<|h1 v<|au ..;simp only[partsOf,bZ,hc];have hs:¬(#[v].size≠1||decide (pre.length*1+#[v].size>(pre++o::old).toArray.size))=true:=by simp
     rw[if_neg hs];have hset:#[v].zipIdx.foldl (λcs(x:aa×Nat)=>cs.setIfInBounds (pre.length*1+x.2) x.1) (pre++o::old).toArray=(pre++[v]++old).toArray:=by simp
     grind
section
variable{P:aj}{B:Ws->Prop}{st:Bool}{ops:Array av}{rest:List av}{e:Env}{h:Ws}{K:Env->Ws->Prop}
variable{d:Nat}{ty:am}{pos:String}{af:Array Edge}
theorem At2{n:Nat}{z:aa}(l:List aa)(hT:SlT P t el 1)(hz:ZeT P el z bytes)(h1:isOne z=true)(hb:B h)(hn:l.length=n)(hn2:n<=16777216)(hpos:0<n)(hp:(parts.map λ(i,x)=>(i,e.ev x))=partsOf 0 l)(hone:∀u∈l,isOne u=true)(H:B (h.push<|.cells l.toArray el (0,0))/\RL P B st ops rest (e.set d<|.slice (some ⟨h.size,0,none⟩) n n) (h.push<|.cells l.toArray el (0,0)) K):RL P B st ops (⟨some d,.buildSlice t n parts.toArray,ty,pos,af,none⟩::rest) e h K:=by
 refine AJc rfl rfl hb λw hw=>?_;subst hw;obtain⟨hu,i0,hi0,hs0⟩:=hT;obtain⟨i,hi,hzz,hsz,hby⟩:=hz;rw[hi]at hi0;injection hi0 with hi0;subst hi0;have hf:=Amh l [] (ah n z) hone (by simp[hn]);simp only[List.nil_append,dM,bh]at hf;have hmade:(cJ n).map (λx=>z.cells[x%z.cells.size]!)=(ah n z).toArray:=AVx z h1 n;have hne:¬n=0:=by omega
 have:(execOp e.ev ⟨some d,.buildSlice t n parts.toArray,ty,pos,af,none⟩).run P w=.ok (.value<|.slice (some ⟨w.heap.size,0,none⟩) n n) (w.alloc<|.cells l.toArray el):=by
  simp only[execOp,bO];rw[hp];have h3:¬n*i.size>2^24:=by rw[hs0];omega
  have h4:¬n*i.size=0:=by rw[hs0];omega
  simp only[cv,ck,AGk hu,Result.andThen,AK3 hi,if_neg h3,if_neg h4,Ai7 hi hzz];have hp1:dR P (pure z.cells:Sem (Array aa)) w=.ok z.cells w:=rfl;simp only[hp1,hs0,bh];rw[hmade,hf];simp[newRow]
 rw[this];exact⟨⟨rfl,rfl,rfl⟩,H⟩
theorem A4i(hb:B h)(hx:e.ev x=v)(H:B (h.push<|.cells v.cells t (0,0))/\RL P B st ops rest (e.set d<|.pointer<|some ⟨h.size,0,none⟩) (h.push<|.cells v.cells t (0,0)) K):RL P B st ops (⟨some d,.box t x,ty,pos,af,none⟩::rest) e h K:=by
 refine AJc rfl rfl hb λw hw=>?_;subst hw;have:(execOp e.ev ⟨some d,.box t x,ty,pos,af,none⟩).run P w=.ok (.value<|.pointer<|some ⟨w.heap.size,0,none⟩) (w.alloc<|.cells v.cells t):=by simp[execOp,hx,Instr.box,newVar,newRow]
 rw[this];exact⟨⟨rfl,rfl,rfl⟩,H⟩
theorem Ao6{z:aa}(hz:ZeT P t z bytes)(hb:B h)(H:B (h.push<|.cells z.cells t (0,0))/\RL P B st ops rest (e.set d<|.pointer<|some ⟨h.size,0,none⟩) (h.push<|.cells z.cells t (0,0)) K):RL P B st ops (⟨some d,.alloc t,ty,pos,af,none⟩::rest) e h K:=by
 refine AJc rfl rfl hb λw hw=>?_;subst hw;obtain⟨i,hi,hzz,hsz,hby⟩:=hz;have:(execOp e.ev ⟨some d,.alloc t,ty,pos,af,none⟩).run P w=.ok (.value<|.pointer<|some ⟨w.heap.size,0,none⟩) (w.alloc<|.cells z.cells t):=by simp[execOp,Instr.alloc,Ai7 hi hzz,newVar,newRow]
 rw[this];exact⟨⟨rfl,rfl,rfl⟩,H⟩
theorem AE8(hv:∀w,(Instr.build t (parts.map λ(i,x)=>(i,e.ev x)).toArray).run P w=.ok v w)(H:RL P B st ops rest (e.set d v) h K):RL P B st ops (⟨some d,.build t parts.toArray,ty,pos,af,none⟩::rest) e h K:=ABh (v:=v) rfl rfl λw=>by simp only[execOp,bO,ck,hv w];rfl H
theorem AOc{a:Addr}(hx:e.ev x=.pointer (some a))(H:RL P B st ops rest (e.set d<|.pointer<|some a) h K):RL P B st ops (⟨some d,.nilCheck x,ty,pos,af,none⟩::rest) e h K:=ABh (v:=.pointer<|some a) rfl rfl λw=>by simp[execOp,hx] H
theorem BDs{f off ft fs:Nat}{a:Addr}(hf:FdT P t f off ft)(hs:(P.info? ft).map (·.size)=some fs)(hfs:fs≠0)(hx:e.ev x=.pointer (some a))(H:RL P B st ops rest (e.set d<|.pointer<|some<|a.add off) h K):RL P B st ops (⟨some d,.fieldAddr t x f,ty,pos,af,none⟩::rest) e h K:=ABh (v:=.pointer<|some<|a.add off) rfl rfl λw=>by
  obtain⟨fds,fd,hu,hfd,ho,hft⟩:=hf;subst hft;cases hi:P.info? fd.type with
  |none=>grind|some i=>
    rw[hi]at hs;have hs':i.size=fs:=by simpa using hs
    simp[execOp,hx,Instr.fieldAt,AGk hu,hfd,bT,fieldPlace,AK3 hi,hs',hfs,ho] H
theorem A4j{i:ak}{cs:Array aa}{v u:aa}(hv:∀w,(eE t (e.ev x)<|e.ev i).run P w=.ok u w)(H:RL P B st ops rest (e.set d u) h K):RL P B st ops (⟨some d,.index t x i,ty,pos,af,none⟩::rest) e h K:=ABh (v:=u) rfl rfl λw=>by simp only[execOp,ck,hv w];rfl H
theorem A5q{f:Nat}{u:aa}(hv:∀w,(Instr.field t (e.ev x) f).run P w=.ok u w)(H:RL P B st ops rest (e.set d u) h K):RL P B st ops (⟨some d,.field t x f,ty,pos,af,none⟩::rest) e h K:=ABh (v:=u) rfl rfl λw=>by simp only[execOp,ck,hv w];rfl H
theorem Arr{f:Fn}{cs:List ak}(hcs:cs.map e.ev=l)(H:RL P B st ops rest (e.set d<|.func f #[] l.toArray) h K):RL P B st ops (⟨some d,.makeFunc f #[] cs.toArray,ty,pos,af,none⟩::rest) e h K:=ABh (v:=.func f #[] l.toArray) rfl rfl λw=>by simp[execOp,Instr.makeFunc,hcs] H
theorem run_loadCells{a:Addr}(l:List aa):∀(k:Nat)(acc:Array aa),(∀i u,l[i]?=some u->w.cell? (a.add<|k+i)=some u)->(loadCellsFrom a k l.length acc).run P w=.ok (acc++l.toArray) w:=by induction l with
 |nil=>intro k acc _;simp[loadCellsFrom]|cons v l ih=>
   intro k acc hc;have h0:=hc 0 v rfl;have ih':=ih (k+1) (acc.push v) λi u hu=>by have:=hc (i+1) u (by simpa using hu);grind
   simp only[cn]at h0;simp[loadCellsFrom,h0,ih']
theorem Ae7(ht:AgT P t s){a:Addr}(hl:l.length=s)(w:aK)(hc:∀i u,l[i]?=some u->Yt w.heap (a.add i)=some u)(ρ:ak->aa)(x:ak)(hx:ρ x=.pointer (some a))(o:av)(ho:o.op=.load t x):(execOp ρ o).run P w=.ok (.value<|.agg l.toArray) w:=by obtain⟨⟨dd,hd,hag⟩,i,hi,hsz⟩:=ht;have h1:=run_loadCells (P:=P) (a:=a) (w:=w) l 0 #[] (λi u hu=>by rw[aM];exact hc i u hu);rw[hl,<-hsz]at h1;have h2:=Atx (P:=P) hd w;rw[hag]at h2;simp only[execOp,ho,fL,hx,bT,loadVar];simp[h2,AK3 hi,loadCells,h1]
theorem AQ7{a:Addr}(l:List aa)(ht:AgT P t s)(hl:l.length=s)(hx:e.ev x=.pointer (some a))(hc:∀i u,l[i]?=some u->Yt h (a.add i)=some u)(H:RL P B false ops rest (e.set d<|.agg l.toArray) h K):RL P B false ops (⟨some d,.load t x,ty,pos,af,none⟩::rest) e h K:=by show GOp P B false ops _ e h _;unfold GOp;rw[if_pos<|by simp[aq]];exact⟨_,λw hw=>Ae7 ht hl w (by grind) _ x hx _ rfl,H⟩
theorem AEa{a:Addr}(l:List aa)(ht:AgT P t s)(hl:l.length=s)(hx:e.ev x=.pointer (some a))(hb:B h)(hc:∀h',B h'->∀i u,l[i]?=some u->Yt h' (a.add i)=some u)(H:RL P B true ops rest (e.set d<|.agg l.toArray) h K):RL P B true ops (⟨some d,.load t x,ty,pos,af,none⟩::rest) e h K:=by show GOp P B true ops _ e h _;unfold GOp;rw[if_pos<|by simp[aq]];exact⟨_,hb,λw hw=>Ae7 ht hl w (hc _ hw) _ x hx _ rfl,H⟩
theorem A5r{a:Option Addr}{n cap k:Nat}(hT:SlT P t el s)(hx:e.ev x=.slice a n cap)(hy:e.ev y=.int kk (k:Int))(hk:k<=cap)(H:RL P B st ops rest (e.set d<|.slice a k cap) h K):RL P B st ops (⟨some d,.slice t x none (some y) none,ty,pos,af,none⟩::rest) e h K:=ABh (v:=.slice a k cap) rfl rfl λw=>by
  obtain⟨hu,i,hi,hs⟩:=hT;have h1:(k:Int)<=(cap:Int):=by omega
  have ha:(if cap=0 then a else Option.map (λx=>x.add<|0*i.size) a)=a:=by
   split;.rfl
   .cases a<;>simp[dq]
  simp[execOp,hx,hy,fH,fQ,AGk hu,fh,fm,asIntOf,h1,AK3 hi,dq];intro hlt;omega H
theorem Ajc{a:Option Addr}{n cap k:Nat}(hT:SlT P t el s)(hx:e.ev x=.slice a n cap)(hy:e.ev y=.int kk (k:Int))(hk:k<=n)(hn:n<=cap)(H:RL P B st ops rest (e.set d<|.slice (if cap=k then a else a.map (·.add<|k*s)) (n-k)<|cap-k) h K):RL P B st ops (⟨some d,.slice t x (some y) none none,ty,pos,af,none⟩::rest) e h K:=ABh (v:=.slice (if cap=k then a else a.map (·.add<|k*s)) (n-k)<|cap-k) rfl rfl λw=>by
  obtain⟨hu,i,hi,hs⟩:=hT;have h1:(k:Int)<=(n:Int):=by omega
  simp[execOp,hx,hy,fH,fQ,AGk hu,fh,fm,asIntOf,h1,AK3 hi,hs];intro hlt;omega H
end
theorem AQ8(a b:Int):a<b∨b<=a:=by omega
theorem AY9{b A B:Int}(ha:0<=a)(hA:a<=A)(hb:0<=b)(hB:b<=B):0<=a*b/\a*b<=A*B:=⟨cO ha hb,Int.mul_le_mul hA hB hb<|Int.le_trans ha hA⟩
theorem A99{x:Int}(hx:0<=x)(h:x*x<=2147483647):x<=46340:=by
 rcases AQ8 46340 x with hc|hc;.have:=(AY9 (a:=46341) (b:=46341) (A:=x) (B:=x) Wq Wq Wq Wq).2;omega
 .exact hc
def Pr(n:Int):Prop:=2<=n/\∀d,2<=d->d<n->n%d≠0
theorem AR5{n:Int}(h:n%d=0):d∣n:=eC h
theorem AWa{n:Int}(h:d∣n):n%d=0:=Int.emod_eq_zero_of_dvd h
theorem Ami{n:Int}(hn:2<=n)(hd:2<=d)(hsq:n<d*d)(h:∀c,2<=c->c<d->n%c≠0):Pr n:=by
 refine⟨hn,λc hc hcn hm=>?_⟩;rcases AQ8 c d with hlt|hge;.grind
 .obtain⟨q,hq⟩:=AR5 hm;have hq0:0<q:=by
   rcases AQ8 0 q with h|h;.exact h
   .have:c*q<=0:=Int.mul_nonpos_of_nonneg_of_nonpos Wq h;omega
  have hqd:q<d:=by
   rcases AQ8 q d with h|h;.exact h
   .have:=(AY9 (a:=d) (b:=d) (A:=c) (B:=q) Wq hge Wq h).2;omega
  have hq2:2<=q:=by grind
  exact h q hq2 hqd<|AWa ⟨c,by grind⟩
theorem At3{n:Int}(hd:2<=d)(h:d*d<=n):d<n:=by have:d*2<=d*d:=Int.mul_le_mul_of_nonneg_left hd Wq;omega
open Classical in noncomputable def AKw(n:Int):Bool:=decide (n<=2147483647/\Pr n)
theorem Acd{n:Int}(h1:n<=2147483647)(h2:Pr n):true=AKw n:=by simp[AKw,h1,h2]
theorem Ace{n:Int}(h:¬(n<=2147483647/\Pr n)):false=AKw n:=by simp[AKw,h]
theorem Ars{n:Int}(h:AKw n=true):n<=2147483647/\Pr n:=by simpa[AKw]using h
theorem AQe{n c:Int}(hc:n%c≠0)(hcd:d%c=0):n%d≠0:=by intro h;have h1:=AR5 h;have h2:=AR5 hcd;exact hc<|AWa<|eh h2 h1
theorem BAa{n lo hi:Int}(h2:n%2≠0)(h3:n%3≠0)(h5:n%5≠0)(h:∀d,2<=d->d<lo->n%d≠0)(hlo:n%lo≠0)(hb:∀d,lo<d->d<hi->d%2=0∨d%3=0∨d%5=0):∀d,2<=d->d<hi->n%d≠0:=by
 intro d hd hdh;rcases AQ8 d lo with h1|h1;.exact h d hd h1
 .rcases Int.lt_or_eq_of_le h1 with h1|h1
  .rcases hb d h1 hdh with e|e|e;.exact AQe h2 e
   .exact AQe h3 e
   .exact AQe h5 e
  grind
theorem A5s{n:Int}(h2:n%2≠0)(h3:n%3≠0)(h5:n%5≠0):∀d,2<=d->d<7->n%d≠0:=by
 intro d hd hdh;have Ad:d=2∨d=3∨d=4∨d=5∨d=6:=by omega
 grind
def AQ9:List Int:=[7,11,13,17,19,23,29,31]
def ARa(j:Nat):Int:=(AQ9++[37])[j]?.getD 0
theorem Art{base:Int}(hb:base%30=0)(hj:j<8):∀d,base+ARa j<d->d<base+ARa (j+1)->d%2=0∨d%3=0∨d%5=0:=by
 intro d h1 h2;have:j=0∨j=1∨j=2∨j=3∨j=4∨j=5∨j=6∨j=7:=by omega
 obtain⟨q,rfl⟩:∃q,base=30*q:=⟨base/30,Wq⟩;obtain⟨r,rfl⟩:∃r,d=30*q+r:=⟨d-30*q,Wq⟩;rcases this with rfl|rfl|rfl|rfl|rfl|rfl|rfl|rfl<;>simp[ARa,AQ9]at h1 h2;.omega
 .omega
 .omega
 .omega
 .omega
 .grind
 .omega
 grind
theorem APm(hj:j<8):7<=ARa j/\ARa j<=31:=by
 have:j=0∨j=1∨j=2∨j=3∨j=4∨j=5∨j=6∨j=7:=by omega
 rcases this with rfl|rfl|rfl|rfl|rfl|rfl|rfl|rfl<;>simp[ARa,AQ9]
def Acf(m x r:Int):Prop:=0<=r/\r<m/\r*x%m=1%m
end Go.QF
namespace Go.Proofs.YtgmdhndbcohgiaaGreatDoor
open Go Go.QF
theorem mx:Tryz.prog.follows .mixedOrders=true:=by kernel_rfl
theorem AEx:SlT Tryz.prog 25 76 1:=ALr Tryz.underlying25 Ww
theorem AFz:SlT Tryz.prog 76 2 1:=ALr Tryz.underlying76 Ww
theorem BAb:SlT Tryz.prog 164 3 1:=ALr Tryz.underlying164 Ww
theorem At4:SlT Tryz.prog 22 170 1:=ALr Tryz.underlying22 Ww
theorem AIk:NaT Tryz.prog 76:=AIj Tryz.underlying76 rfl Ww
theorem Ajd:NaT Tryz.prog 22:=AIj Tryz.underlying22 rfl Ww
theorem AJe:NaT Tryz.prog 2:=AIj Tryz.underlying2 rfl Ww
theorem BAc:NaT Tryz.prog 170:=AIj Tryz.underlying170 rfl Ww
theorem AZa:NaT Tryz.prog 3:=AIj Tryz.underlying3 rfl Ww
theorem Aje:NaT Tryz.prog 5:=AIj Tryz.underlying5 rfl Ww
theorem Zn:NaT Tryz.prog 4:=AIj Tryz.underlying4 rfl Ww
theorem AOt:ATi Tryz.prog 2 .i64:=Tryz.underlying2
theorem At5:ATi Tryz.prog 3 .i64:=Tryz.underlying3
theorem BAd:ATi Tryz.prog 170 .i8:=Tryz.underlying170
theorem At6:ATi Tryz.prog 5 .u8:=Tryz.underlying5
theorem Amj:ZeT Tryz.prog 76 (.slice none 0 0) 24:=AFy Ww
theorem Amk:ZeT Tryz.prog 2 (.int .i64 0) 8:=AFy Ww
theorem A5t:ZeT Tryz.prog 3 (.int .i64 0) 8:=AFy Ww
theorem Ao7:ZeT Tryz.prog 4 (.bool false) 1:=AFy Ww
theorem Azy:AgT Tryz.prog 209 8:=AOs Tryz.underlying209 rfl Ww
def AOd(h:Ws):Prop:=∀i u,(AQ9.map<|dx .i64)[i]?=some u->Yt h ⟨0,i,none⟩=some u
theorem AOd.ext(H:AOd h)(he:Ext h h'):AOd h':=λi u hu=>Yq (H i u hu) he
open Go.ChangeShapes Go.WideShapes Go.ChangeAt Go.RowKit
theorem own:ownKnob Tryz.prog.godebug=none:=by kernel_rfl
theorem laidOut:laidOutB Tryz.prog=true:=by kernel_rfl
theorem BAe:Tryz.prog.globalNamed "quadform/prime.offsets"=some 0:=by kernel_rfl
theorem At7:Tryz.prog.globals[0]?.map (·.type)=some 209:=by kernel_rfl
theorem At8:Tryz.prog.cellsOf 209=8:=by kernel_rfl
theorem Aru:Tryz.prog.cellsOf 2=1:=by kernel_rfl
theorem Ajf{W:aK}(h:laidMetH Tryz.prog [("quadform/prime.offsets",Rows.laid_quadform_prime_offsets)] W):AOd W.heap:=by
 have T:Lib.TabIs Tryz.prog W "quadform/prime.offsets" .i64 [7,11,13,17,19,23,29,31]:=Lib.tabIs_of_head (rest:=[]) BAe At7 Tryz.underlying209 Tryz.underlying2 Aru At8 h;intro i u hu;have Aa:(([7,11,13,17,19,23,29,31]:List Int).map (dx .i64))[i]?=some u:=hu;have hi:i<([7,11,13,17,19,23,29,31]:List Int).length:=by have:=(ab.1 Aa).1;simpa using this
 have hc:=T.cell BAe i hi;rw[fj,ae hi]at Aa;simp only[bI,cK]at Aa;rw[<-Aa];rw[aG,ae hi]at hc;exact hc
theorem Arv{W:aK}{a:Addr}(h:W.cell? a=some v):a=⟨a.block,a.off,none⟩:=by
 obtain⟨b,o,s⟩:=a;cases s with
 |none=>rfl|some s=>
   unfold World.cell? at h;split at h;.simp at h
   .cases h
theorem Ajg{W:aK}{a:Option Addr}{len cap:Nat}(hl:l.length=len)(hn:a=none->len=0)(hc:∀a',a=some a'->∀i x,l[i]?=some x->W.cell? (a'.add i)=some x):Sl W.heap (.slice a len cap) l:=by
 refine⟨a,cap,by rw[hl],λi x hx=>?_⟩;cases a with
 |none=>have:=hn rfl;have:=(ab.1 hx).1;omega|some a'=>
   have h0:0<l.length:=by have:=(ab.1 hx).1;omega
   have hs:=Arv<|hc a' rfl 0 _ (ae h0);have Ab:a'.add 0=a':=by simp[dq]
   rw[Ab]at hs;refine⟨a'.block,a'.off,by rw[<-hs],?_⟩;have:=hc a' rfl i x hx;rw[hs]at this;rw[show(⟨a'.block,a'.off+i,none⟩:Addr)=(⟨a'.block,a'.off,none⟩:Addr).add i by rw[Zu]];exact this
theorem Aml{args:Array aa}{W:aK}(H:W6 Tryz.prog f args W.heap λx h'=>Ext W.heap h'/\x=.bool true):Calls Tryz.prog f args W λe W'=>e=.returned (.bool true)/\Below W.heap.size W W':=by refine Calls.mono (H.2 W rfl) λe W' hk=>?_;obtain⟨v,rfl,hs,hE,rfl⟩:=hk;exact⟨rfl,⟨hs.os,hs.tape,hs.output,hE.1,hE.2⟩⟩
noncomputable def AZb(os:Os):aK:={fy Tryz.prog os ⟨#[],#[],[]⟩with heap:=(fy Tryz.prog os ⟨#[],#[],[]⟩).heap.modify 0 fun|.cells _ t frozen=>.cells #[.int .i64 7,.int .i64 11,.int .i64 13,.int .i64 17,.int .i64 19,.int .i64 23,.int .i64 29,.int .i64 31] t frozen|o=>o}
end Go.Proofs.YtgmdhndbcohgiaaGreatDoor
namespace Go.QF
def AM7(M:List (List Int)):Nat:=(M[0]?.getD []).length
def Valid(M:List (List Int)):Prop:=1<=M.length/\M.length<=16/\1<=AM7 M/\AM7 M<=16/\∀z∈M,z.length=AM7 M
instance(M:List (List Int)):Decidable (Valid M):=by unfold Valid;infer_instance
def At9(M:List (List Int)):Prop:=Valid M/\M.length=AM7 M/\M.length<=8
instance(M:List (List Int)):Decidable (At9 M):=by unfold At9;infer_instance
def ent(A:List (List Int))(i j:Nat):Int:=(A[i]?.getD [])[j]?.getD 0
theorem A5u{A:List (List Int)}(hi:i<A.length)(hj:j<A[i].length):ent A i j=A[i][j]:=by simp[ent,hi,hj]
def psum(f:Nat->Int):Nat->Int|0=>0|n+1=>psum f n+f n
theorem Wy{f g:Nat->Int}{n:Nat}(h:∀k,k<n->f k=g k):psum f n=psum g n:=by induction n with|zero=>rfl|succ n ih=>simp only[psum];grind
def Xw(r c:Nat)(f:Wz):List (List Int):=(aA r).map λi=>(aA c).map λj=>f i j
theorem Xh(r c:Nat)(f:Wz):(Xw r c f).length=r:=by simp[Xw]
theorem ADe{r c:Nat}{f:Wz}(hi:i<r):(Xw r c f)[i]?=some ((aA c).map λj=>f i j):=by simp[Xw,hi]
theorem AU2{r c:Nat}{f:Wz}(hi:i<r)(hj:j<c):ent (Xw r c f) i j=f i j:=by simp[ent,Xw,hi,hj]
theorem Aua{r c:Nat}{f:Wz}(hr:0<r):AM7 (Xw r c f)=c:=by simp[AM7,Xw,hr]
theorem AJv{r c:Nat}{f g:Wz}(h:∀i j,i<r->j<c->f i j=g i j):Xw r c f=Xw r c g:=by unfold Xw;simp_all
theorem Amm{A:List (List Int)}{c:Nat}(h:∀z∈A,z.length=c):A=Xw A.length c (ent A):=by refine cy (by simp[Xw]) λi h1 h2=>?_;simp only[Xw,dD,de];have hl:=h A[i]<|fp _;refine cy (by simp[hl]) λj h3 h4=>?_;simp only[dD,de];rw[A5u h1 h3]
theorem AW9{r c:Nat}{f:Wz}:∀z∈Xw r c f,z.length=c:=by intro z hz;simp only[Xw,eA]at hz;grind
def Aax(C:Nat)(f g:Nat->Int)(j:Nat):List Int:=(aA C).map λc=>if c<j then f c else g c
theorem Arw(C:Nat)(f g:Nat->Int):Aax C f g 0=(aA C).map g:=by simp[Aax]
theorem Aub(f g:Nat->Int)(h:C<=j):Aax C f g j=(aA C).map f:=by unfold Aax;refine List.map_congr_left λc hc=>if_pos (by grind)
theorem AT3(C:Nat)(f g:Nat->Int)(j:Nat):(Aax C f g j).length=C:=by simp[Aax]
theorem Acg{f g:Nat->Int}{c:Nat}(hc:c<C):(Aax C f g j)[c]?=some (if c<j then f c else g c):=by simp[Aax,hc]
theorem Auc{f g:Nat->Int}{y:Int}(hc:j<C)(hy:y=f j):(Aax C f g j).set j y=Aax C f g (j+1):=by
 subst hy;refine bM λc=>?_;rw[du];by_cases hjc:j=c;.subst hjc;rw[if_pos rfl,if_pos (by rw[AT3];exact hc),Acg hc,if_pos Wq]
 .rw[if_neg hjc];rcases bV c C with h|h;.rw[Acg h,Acg h];grind
  .rw[b8 (by rw[AT3];exact h),b8 (by rw[AT3];exact h)]
theorem Amn(f:Nat->α)(i:Nat):(aA i).map f++[f i]=(aA<|i+1).map f:=by rw[List.range_succ,dL];rfl
theorem Arx(C:Nat):(aA C).map (λ_=>(0:Int))=ah C 0:=by refine cy W4 λi h1 h2=>by simp
theorem Ach{l:List Int}{y:Int}(h:l[j]?=some y):l.set j y=l:=by refine bM λi=>?_;grind
end Go.QF
namespace Go.Proofs.YtgmdhndbcohgiaaGreatDoor
open Go Go.QF
def ANu(n f:Int):Prop:=2<=f/\n%f=0/\f<=n/\∀d,2<=d->d<f->n%d≠0
theorem Ae8{n f:Int}(H:ANu n f):f=n↔Pr n:=by
 obtain⟨h1,h2,h3,h4⟩:=H;constructor;.rintro rfl;exact⟨h1,h4⟩
 .intro h;rcases AQ8 f n with h5|h5;.exact absurd h2<|h.2 f h1 h5
  .omega
def pv(i:Nat):Int:=[2,3,5][i]?.getD 0
theorem Aud(hi:i<3):pv i=2/\i=0∨pv i=3/\i=1∨pv i=5/\i=2:=by
 have:i=0∨i=1∨i=2:=by omega
 rcases this with rfl|rfl|rfl<;>simp[pv]
theorem Ajh{n:Int}(hn:2<=n)(hi:i<3)(h2:1<=i->n%2≠0)(h3:2<=i->n%3≠0)(hm:n%pv i=0):ANu n (pv i):=by
 have hle:=fO Wq<|eC hm;rcases Aud hi with⟨e,rfl⟩|⟨e,rfl⟩|⟨e,rfl⟩<;>rw[e]at hm hle⊢<;>refine⟨Wq,hm,hle,λd a b=>?_⟩;.omega
 .obtain rfl:d=2:=by omega
  exact h2 Wq
 .have:=h2 Wq;have:=h3 Wq;have:d=2∨d=3∨d=4:=by omega
  rcases this with rfl|rfl|rfl<;>omega
theorem BDt(hi:i<3)(w:aK):(eE 208 (.agg #[.int .i64 2,.int .i64 3,.int .i64 5])<|.int .i64 (i:Int)).run Tryz.prog w=.ok (.int .i64<|pv i) w:=by
 have:i=0∨i=1∨i=2:=by omega
 rcases this with rfl|rfl|rfl<;>(show _=_;kernel_rfl)
theorem BDu(hi:i<8)(w:aK):(eE 209 (.agg (AQ9.map<|dx .i64).toArray)<|.int .i64 (i:Int)).run Tryz.prog w=.ok (.int .i64<|ARa i) w:=by
 have:i=0∨i=1∨i=2∨i=3∨i=4∨i=5∨i=6∨i=7:=by omega
 rcases this with rfl|rfl|rfl|rfl|rfl|rfl|rfl|rfl<;>(show _=_;kernel_rfl)
theorem Aji{n:Int}(hn:2<=n)(Am:n<=2147483647)(HO:AOd h):W6 Tryz.prog 142 #[.int .i64 n] h λv h'=>h'=h/\∃f,v=.int .i64 f/\ANu n f:=by
 refine Xn (l:=[_]) mx Tryz.func142 rfl rfl rfl rfl rfl Ww (Wx<|W5<|X4<|W0<|Xr<|Abb<|Wx<|Wx<|W5<|AE8 (v:=.agg #[.int .i64 2,.int .i64 3,.int .i64 5]) (λ_=>by kernel_rfl)<|Wu<|W0<|Xr<|W8<|AB5 1046548 (λi:Nat=>[(11,.int .i64 (i:Int))]) (λk i h'=>h'=h/\k=3-i/\i<=3/\(1<=i->n%2≠0)/\(2<=i->n%3≠0)/\(3<=i->n%5≠0)) Ww 3 0 ?_ ⟨rfl,trivial⟩ ?_);.exact⟨rfl,rfl,Wq,λh=>by omega,λh=>by omega,λh=>by omega⟩
 rintro k i s h1⟨rfl,rfl,hi,h2,h3,h5⟩;refine Wx<|W5<|ABa rfl rfl (λAf=>?_) λAf=>?_
 .refine W0<|Xr<|Wx<|X0 rfl (Xj<|Xr<|Wx<|W8<|Wx<|W5<|A4j (cs:=#[]) (v:=undef) (BDt Wq)<|X4<|W0<|Xr<|Wx<|W5<|Wu<|Wu<|AV8 rfl rfl Wq (by have:=Aud (i:=i) Wq;omega) (AS8 rfl rfl (λAa=>?_) λAa=>?_));.refine W0<|Xr<|X0 rfl (Wx<|W5<|Wu<|X4<|W0<|Xr<|Xt<|ADr<|Ze<|Ze<|ADr<|Ze<|Ai5<|⟨_,Ya,?_⟩);exact⟨rfl,pv i,rfl,Ajh Wq Wq h2 h3<|by assumption⟩
  .refine W0<|Xr<|Xi rfl (Xj<|q_b<|Xr<|W5<|AFp rfl Wq (Wu<|W0<|Xr ?_));have hp:=Aud (i:=i) Wq;exact⟨3-(i+1),i+1,Wq,⟨rfl,rfl,Wq,λh=>by rcases hp with⟨e,_⟩|⟨e,_⟩|⟨e,_⟩<;>first|(rw[e]at Aa;exact Aa)|exact h2 Wq,λh=>by rcases hp with⟨e,_⟩|⟨e,_⟩|⟨e,_⟩<;>first|omega|(rw[e]at Aa;exact Aa)|exact h3 Wq,λh=>by rcases hp with⟨e,_⟩|⟨e,_⟩|⟨e,_⟩<;>first|omega|(rw[e]at Aa;exact Aa)⟩,rfl,trivial⟩
 .refine W0<|Xr<|Wx<|Xi rfl (Y9<|Zj<|Zj<|AEo<|Xr<|Wx<|W5<|Wu<|X4<|W0<|Xr<|Wx<|Abc<|Xr<|Wx<|Wx<|W5<|X4<|W0<|Xr ?_);refine W8 ?_;have h2:=h2 Wq;have h3:=h3 Wq;have h5:=h5 Wq;refine AB5 2199021159264 (λb:Int=>[(5,.int .i64 n),(6,.int .i64 b)]) (λk b h'=>h'=h1/\k=(50000-b).toNat/\0<=b/\b<=46400/\b%30=0/\∀d,2<=d->d<b+7->n%d≠0) Ww 50000 0 ?_ ⟨rfl,rfl,trivial⟩ ?_;.exact⟨rfl,rfl,Wq,Wq,Wq,λd a b=>A5s h2 h3 h5 d a Wq⟩
  rintro k b s h1⟨rfl,rfl,Ao,Ap,Ag,hJ⟩;refine Wx<|W8<|Wx<|W5<|AQ7 (AQ9.map<|dx .i64) Azy rfl rfl (λi u hu=>by rw[Zu,aM];exact HO i u hu) ?_;refine Wu<|W0<|Xr<|W8<|AB5 2199006479136 (λj:Nat=>[(24,.int .i64 (j:Int)),(5,.int .i64 n)]) (λk j h'=>h'=h1/\k=8-j/\j<=8/\(1<=j->(b+ARa (j-1))*(b+ARa (j-1))<=n)/\∀d,2<=d->d<b+ARa j->n%d≠0) Ww 8 0 ?_ ⟨rfl,rfl,trivial⟩ ?_;.exact⟨rfl,rfl,Wq,λh=>by omega,hJ⟩
  rintro k j s h1⟨rfl,rfl,hj,Ah,hjJ⟩;refine Wx<|W5<|ABa rfl rfl (λAi=>?_) λAi=>?_
  .refine W0<|Xr<|Wx<|X0 rfl (Xj<|Xr<|Wx<|W8<|Wx<|W5<|A4j (cs:=#[]) (v:=undef) (BDu Wq)<|X4<|W0<|Xr<|Wx<|W5<|Wu<|Wu<|Ago rfl rfl (by have:=APm (j:=j) Wq;omega) (by have:=APm (j:=j) Wq;omega) (X4<|W0<|Xr ?_));refine Wx<|Wx<|W5<|Wu<|Wu<|ALq rfl rfl (by have:=APm (j:=j) Wq;have:=AY9 (a:=b+ARa j) (b:=b+ARa j) (A:=47000) (B:=47000) Wq Wq Wq Wq;omega) (by have:=APm (j:=j) Wq;have:=AY9 (a:=b+ARa j) (b:=b+ARa j) (A:=47000) (B:=47000) Wq Wq Wq Wq;omega) (Wu<|AN4 rfl rfl (λAj=>?_) λAj=>?_);.refine W0<|Xr<|X0 rfl (Y9<|Zj<|Aav Wr<|Zj<|Zj<|Aav Wr<|Aav Wr<|Zj<|Zj<|AEo<|Xr<|Wx<|W5<|Wu<|X4<|W0<|Xr<|Xt<|Ai5<|⟨_,Ya,?_⟩);have hob:=APm (j:=j) Wq;exact⟨rfl,n,rfl,⟨Wq,Int.emod_self,Wq,(Ami Wq (d:=b+ARa j) Wq Wq hjJ).2⟩⟩
   .refine W0<|Xr<|Xi rfl (Xj<|Xr<|Wx<|W5<|Wu<|Wu<|AV8 rfl rfl Wq (by have:=APm (j:=j) Wq;omega) (AS8 rfl rfl (λAk=>?_) λAk=>?_));.refine W0<|Xr<|X0 rfl (Wx<|W5<|Wu<|X4<|W0<|Xr<|Y9<|Aav Wr<|Zj<|Zj<|Aav Wr<|Aav Wr<|Zj<|Zj<|AEo<|Xr<|Wx<|W5<|Wu<|X4<|W0<|Xr<|Xt<|Ai5<|⟨_,Ya,?_⟩);have hob:=APm (j:=j) Wq;have hlt:=At3 (n:=n) (d:=b+ARa j) Wq Wq;exact⟨rfl,b+ARa j,rfl,⟨Wq,by assumption,Wq,hjJ⟩⟩
    .refine W0<|Xr<|Xi rfl (Xj<|q_b<|Xr<|W5<|AFp rfl Wq (Wu<|W0<|Xr ?_));exact⟨8-(j+1),j+1,Wq,⟨rfl,rfl,Wq,λh=>by rw[show j+1-1=j by omega];omega,BAa h2 h3 h5 hjJ (by assumption)<|Art Ag Wq⟩,rfl,rfl,trivial⟩
  .refine W0<|Xr<|Wx<|Xi rfl (Y9<|Zj<|Zj<|AEo<|q_b<|Xr<|W5<|Wu<|Ago rfl rfl Wq Wq (X4<|W0<|Xr ?_));have hsq:=Ah Wq;have Aq:=A99 (x:=b+ARa (j-1)) (by have:=APm (j:=j-1) Wq;omega) Wq;obtain rfl:j=8:=by omega
   have e7:ARa (8-1)=31:=rfl;exact⟨(50000-(b+30)).toNat,b+30,Wq,⟨rfl,rfl,Wq,Wq,Wq,λd a c=>hjJ d a (by have:ARa 8=37:=rfl;omega)⟩,rfl,rfl,trivial⟩
theorem A4k(n:Int)(HO:AOd h):W6 Tryz.prog 186 #[.int .i64 n] h λv h'=>h'=h/\v=.bool (AKw n):=by
 refine Xn (l:=[_]) mx Tryz.func186 rfl rfl rfl rfl rfl Ww (Wx<|W5<|X4<|W0<|Xr<|Wx<|W5<|Wu<|AT1 rfl rfl (λAa=>?_) λAa=>?_)
 .refine Wu<|Yh 5 true Ww rfl rfl (Wu<|Yh 5 true Ww rfl rfl (AS7 rfl rfl (λAb=>?_) λAb=>?_))
  .refine Zk rfl (Wu<|Yh 9 true Ww rfl rfl (Wu<|Yh 9 true Ww rfl rfl (Xf trivial rfl (Aji Wq Wq HO) λv' h' hk=>?_)));obtain⟨rfl,f,rfl,hf⟩:=hk;refine⟨trivial,?_⟩;refine Yh 9 true Ww rfl rfl (Wu<|Yh 9 true Ww rfl rfl (AS8 rfl rfl (λAc=>?_) λAc=>?_));.refine Zk rfl (X4<|W0<|Xr<|Xt<|⟨_,Ya,?_⟩);exact⟨rfl,show cR true=_ from congrArg _<|Acd Wq<|(Ae8 hf).1 (by assumption)⟩
   .refine Zk rfl (X4<|W0<|Xr<|Xt<|⟨_,Ya,?_⟩);exact⟨rfl,show cR false=_ from congrArg _<|Ace λhp=>absurd ((Ae8 hf).2 hp.2)<|by assumption⟩
  .refine Zk rfl (Wu<|X8 9 false Ww rfl rfl (X8 9 false Ww rfl rfl (X8 9 false Ww rfl rfl (X8 9 false Ww rfl rfl (AAs rfl (X4<|W0<|Xr<|Xt<|⟨_,Ya,?_⟩))))));exact⟨rfl,show cR false=_ from congrArg _<|Ace λhp=>by omega⟩
 .refine Wu<|X8 5 false Ww rfl rfl (X8 5 false Ww rfl rfl (AAs rfl (Wu<|X8 9 false Ww rfl rfl (X8 9 false Ww rfl rfl (X8 9 false Ww rfl rfl (X8 9 false Ww rfl rfl (AAs rfl (X4<|W0<|Xr<|Xt<|⟨_,Ya,?_⟩))))))));exact⟨rfl,show cR false=_ from congrArg _ (Ace λhp=>by have:=hp.2.1;omega)⟩
def EI(m x a b u v:Int):Prop:=0<=b/\0<=a/\a<=m/\b<=m/\(∃s U V:Int,(s=1∨s=-1)/\u=s*U/\v=-s*V/\0<=U/\0<=V/\a*V+b*U=m)/\m∣u*x-a/\m∣v*x-b/\∀g:Int,g∣a->g∣b->g∣m/\g∣x
theorem EI.start{m x:Int}(hx:0<=x)(hxm:x<m):EI m x m x 0 1:=⟨hx,Wq,Wq,Wq,⟨-1,0,1,.inr rfl,Wq,Wq,Wq,Wq,Wq⟩,⟨-1,Wq⟩,⟨0,Wq⟩,λg h1 h2=>⟨h1,h2⟩⟩
theorem EI.bounds{m x b u v:Int}(H:EI m x a b u v)(hb:0<b):0<=a/b/\a/b<=m/\0<=a/b*b/\a/b*b<=a/\-m<=a/b*v/\a/b*v<=m/\-m<=u-a/b*v/\u-a/b*v<=m:=by
 obtain⟨h0,ha,ham,hbm,⟨s,U,V,hs,rfl,rfl,hU,hV,hm⟩,_⟩:=H;have hq:0<=a/b:=fG ha h0;have hqa:a/b*b<=a:=Int.ediv_mul_le _ Wq;have Ac:a/b<=a:=fx _ ha;have hqb:0<=a/b*b:=cO hq h0;have hqV:0<=a/b*V:=cO hq hV;have hV':b*(U+a/b*V)<=m:=by
  have e:b*(U+a/b*V)=b*U+a/b*b*V:=by rw[dJ,<-bL,bX b<|a/b]
  have:a/b*b*V<=a*V:=dF hqa hV;omega
 have hW:U+a/b*V<=b*(U+a/b*V):=by
  have:1*(U+a/b*V)<=b*(U+a/b*V):=dF Wq Wq;omega
 rcases hs with rfl|rfl
 .have e1:a/b*(-1*V)=-(a/b*V):=by rw[e5,f9,e6]
  rw[e1];omega
 .have e1:a/b*(- -1*V)=a/b*V:=by rw[ga,f9]
  rw[e1];omega
theorem EI.step{m x b u v:Int}(H:EI m x a b u v)(hb:0<b):EI m x b (a-a/b*b) v (u-a/b*v):=by
 have hbd:=H.bounds hb;obtain⟨h0,ha,ham,hbm,⟨s,U,V,hs,rfl,rfl,hU,hV,hm⟩,hu,hv,hg⟩:=H;have hmod:a-a/b*b=a%b:=by rw[Int.emod_def,bX]
 have h1:=dQ a (b:=b) Wq;have h2:=di a hb;have hqV:0<=a/b*V:=cO hbd.1 hV;refine⟨Wq,h0,hbm,Wq,⟨-s,V,U+a/b*V,Wq,rfl,?_,hV,Wq,?_⟩,hv,?_,λg g1 g2=>?_⟩;.rw[ga,dJ,e5,e6,Int.sub_neg,Int.mul_left_comm]
 .rw[dJ,f8,<-bL,bX b<|a/b];omega
 .have e:(s*U-a/b*(-s*V))*x-(a-a/b*b)=s*U*x-a-a/b*(-s*V*x-b):=by rw[f8,Int.mul_sub,bL<|a/b];omega
  rw[e];exact gb hu<|ej hv
 .have:g∣a:=by
   have:=Int.dvd_add g2<|eh g1<|Int.dvd_mul_left (a/b) b;rwa[Int.sub_add_cancel]at this
  exact hg g this g1
theorem EI.done{m x u v:Int}(hm:2<=m)(H:EI m x a 0 u v):1<=a/\(a=1->Acf m x (u%m))/\(a≠1->¬∃y,Acf m x y):=by
 obtain⟨h0,ha,ham,hbm,⟨s,U,V,hs,_,_,hU,hV,hmm⟩,hu,hv,hg⟩:=H;have Aa:1<=a:=by
  rcases AQ8 0 a with h|h;.omega
  .obtain rfl:a=0:=by omega
   omega
 refine⟨Aa,λhe=>?_,λhne=>?_⟩;.subst he;refine⟨dQ _ Wq,di _ Wq,?_⟩;rw[cC,fP,<-cC];exact cQ.2<|AWa hu
 .rintro⟨y,_,_,hy⟩;obtain⟨g1,g2⟩:=hg a (Int.dvd_refl _) ⟨0,Wq⟩;have e1:a∣y*x-1:=eh g1<|AR5<|cQ.1 hy;have e2:a∣y*x:=ej g2;have e3:a∣1:=by have:=gb e2 e1;rwa[Int.sub_sub_self]at this
  have:=fO Wq e3;omega
end Go.Proofs.YtgmdhndbcohgiaaGreatDoor
namespace Go.QF
def AF8(h:Ws)(er ei b:Nat)(gs:List Nat)(v:aa)(n:Nat)(Z:List (List Int)):Prop:=∃rs:List aa,AAh h er b v rs/\rs.length=n/\Z.length<=n/\gs.length=Z.length/\(∀(i g:Nat)(r:aa)(z:List Int),gs[i]?=some g->rs[i]?=some r->Z[i]?=some z->AAh h ei g r (z.map<|.int .i64))/\(b::gs).Nodup
def A5v(h:Ws)(er ei b:Nat)(gs:List Nat)(v:aa)(M:List (List Int)):Prop:=AF8 h er ei b gs v M.length M
theorem A5v.mat{ei b:Nat}{gs:List Nat}{M:List (List Int)}(H:A5v h er ei b gs v M):Mat h v M:=by
 obtain⟨rs,h1,h2,_,h3,h4,_⟩:=H;refine⟨rs,h1.sl,h2,λi r z hr hz=>?_⟩;have hi:i<gs.length:=by grind
 exact(h4 i gs[i] r z (ae hi) hr hz).sl
theorem AF8.upd{S:Nat->Prop}{h h':Ws}{er ei b n:Nat}{gs:List Nat}{v:aa}{M:List (List Int)}(H:AF8 h er ei b gs v n M)(he:Upd S h h')(hS:∀g∈b::gs,¬S g):AF8 h' er ei b gs v n M:=by obtain⟨rs,h1,h2,h2',h3,h4,h5⟩:=H;exact⟨rs,h1.upd he<|hS b<|au ..,h2,h2',h3,λi g r z hg hr hz=>(h4 i g r z hg hr hz).upd he (hS g<|ap _<|aw hg),h5⟩
theorem AF8.ext{ei b n:Nat}{gs:List Nat}{M:List (List Int)}(H:AF8 h er ei b gs v n M)(he:Ext h h'):AF8 h' er ei b gs v n M:=H.upd (S:=λ_=>False) he.upd λ_ _ h=>h
theorem AF8.lt{h:Ws}{er ei b n:Nat}{gs:List Nat}{v:aa}{M:List (List Int)}(H:AF8 h er ei b gs v n M):∀g∈b::gs,g<h.size:=by
 obtain⟨rs,h1,h2,h2',h3,h4,h5⟩:=H;intro g hg;rcases bA.1 hg with rfl|hg;.exact h1.lt
 .obtain⟨i,hi⟩:=aI hg;have hi':i<M.length:=by grind
  exact(h4 i g (rs[i]'Wq) M[i] hi (ae _)<|ae _).lt
theorem AF8.ne{ei b n:Nat}{gs:List Nat}{M:List (List Int)}(H:AF8 h er ei b gs v n M)(hg:gs[i]?=some g):g≠b:=by obtain⟨rs,h1,h2,h2',h3,h4,h5⟩:=H;grind
theorem AF8.row{ei b n:Nat}{gs:List Nat}{M:List (List Int)}(H:AF8 h er ei b gs v n M){z:List Int}(hz:M[i]?=some z):∃g r rs,gs[i]?=some g/\AAh h er b v rs/\rs[i]?=some r/\rs.length=n/\AAh h ei g r (z.map<|.int .i64)/\g≠b:=by have H':=H;obtain⟨rs,h1,h2,h2',h3,h4,h5⟩:=H;have hi:=(ab.1 hz).1;exact⟨gs[i]'Wq,rs[i]'Wq,rs,ae _,h1,ae _,h2,h4 i _ _ z (ae _) (ae _) hz,H'.ne<|ae _⟩
theorem AF8.setRow{ei b n:Nat}{gs:List Nat}{M:List (List Int)}(H:AF8 h er ei b gs v n M)(hg:gs[i]?=some g)(hu:Upd (·=g) h h'){z':List Int}(hr:∀r z,M[i]?=some z->AAh h ei g r (z.map<|.int .i64)->AAh h' ei g r (z'.map<|.int .i64)):AF8 h' er ei b gs v n (M.set i z'):=by
 obtain⟨rs,h1,h2,h2',h3,h4,h5⟩:=H;have hi:i<gs.length:=(ab.1 hg).1;have hgm:=aw hg;refine⟨rs,h1.upd hu λhe=>(ao.1 h5).1 (he▸hgm),h2,by simpa using h2',by simp[h3],λj g' r z hg' hr' hz=>?_,h5⟩;by_cases hij:i=j;.grind
 .rw[bz hij]at hz;exact(h4 j g' r z hg' hr' hz).upd hu λhe=>hij<|AV7 (ao.1 h5).2 hg<|he▸hg' 
theorem AF8.setElem{ei b n:Nat}{gs:List Nat}{M:List (List Int)}(H:AF8 h er ei b gs v n M){z:List Int}(hg:gs[i]?=some g)(hz:M[i]?=some z)(hj:j<z.length)(y:Int):AF8 (AVp h ⟨g,j,none⟩<|.int .i64 y) er ei b gs v n (M.set i<|z.set j y):=by refine H.setRow hg (AM1 _ _ _) λr z2 Aa ho=>?_;rw[hz]at Aa;injection Aa with Aa;subst Aa;rw[fN];exact ho.set j _ (by simpa using hj)
theorem Ary(h:Ws)(er ei n:Nat)(hm:n<=maxLen):AF8 (h.push<|.cells (ah n<|.slice none 0 0).toArray er (0,0)) er ei h.size [] (.slice (some ⟨h.size,0,none⟩) n n) n []:=⟨_,AQ4 h er n _ hm,W4,W4,rfl,λi g r z hg=>by simp at hg,W4⟩
theorem AF8.push{ei b n:Nat}{gs:List Nat}{M:List (List Int)}(H:AF8 h er ei b gs v n M)(hi:M.length=i)(hn:i<n){z:List Int}(hr:AAh h ei g r (z.map<|.int .i64))(hg:g∉b::gs):AF8 (AVp h ⟨b,i,none⟩ r) er ei b (gs++[g]) v n (M++[z]):=by
 subst hi;obtain⟨rs,h1,h2,h2',h3,h4,h5⟩:=H;have hb:=(ao.1 h5).1;have hgb:g≠b:=λhe=>hg<|he▸au ..;refine⟨rs.set M.length r,h1.set _ _ Wq,by simp[h2],by simp;omega,by simp[h3],λi g' r' z' hg' hr' hz'=>?_,?_⟩
 .rcases fo i M.length with hi|hi|hi;.rw[bx Wq]at hg' hz';rw[bz Wq]at hr';exact(h4 i g' r' z' hg' hr' hz').upd (AM1 _ _ _) λhe=>hb<|by grind
  .subst hi;rw[bo Wq,h3]at hg';rw[bo Wq]at hz';rw[bU Wq]at hr';simp at hg' hz' hr';subst hg';subst hz';subst hr';exact hr.upd (AM1 _ _ _) hgb
  grind
 grind
section
variable{P:aj}{B:Ws->Prop}{st:Bool}{ops:Array av}{rest:List av}{e:Env}{h:Ws}{K:Env->Ws->Prop}
variable{d:Nat}{ty:am}{pos:String}{af:Array Edge}
theorem BAf{i:ak}{ei b n:Nat}{gs:List Nat}{M:List (List Int)}{z:List Int}(hT:SlT P t el 1)(hx:e.ev x=v)(HP:AF8 h er ei b gs v n M)(hi:e.ev i=.int k (j:Int))(hz:M[j]?=some z)(H:∀a r g,Yt h a=some r->gs[j]?=some g->AAh h ei g r (z.map<|.int .i64)->RL P B st ops rest (e.set d<|.pointer<|some a) h K):RL P B st ops (⟨some d,.indexAddr t x i,ty,pos,af,none⟩::rest) e h K:=by obtain⟨g,r,rs,hg,h1,h2,_,h3,_⟩:=HP.row hz;exact Acb hT hx h1.sl hi h2 λa ha=>H a r g ha hg h3
theorem A5w{i:ak}{M:List (List Int)}{z:List Int}{n:Nat}(hT:SlT P t el 1)(hx:e.ev x=v)(HM:Mat h0 v M)(hE:Ext h0 h)(hi:e.ev i=.int k (n:Int))(hz:M[n]?=some z)(H:∀a r,Yt h a=some r->Amg h0 r z->RL P B st ops rest (e.set d<|.pointer<|some a) h K):RL P B st ops (⟨some d,.indexAddr t x i,ty,pos,af,none⟩::rest) e h K:=by obtain⟨r,⟨rs,h1,h2⟩,h3⟩:=HM.row hz;exact Acb hT hx (h1.ext hE) hi h2 λa ha=>H a r ha h3
theorem AF8.top{h:Ws}{ei b n:Nat}{gs:List Nat}{M:List (List Int)}(H:AF8 h er ei b gs v n M):∃rs,AAh h er b v rs/\rs.length=n:=let⟨rs,h1,h2,_⟩:=H;⟨rs,h1,h2⟩
theorem Amo{ei b n:Nat}{gs:List Nat}{M:List (List Int)}(hT:SlT P t el s)(hx:e.ev x=v)(HP:AF8 h er ei b gs v n M)(H:RL P B st ops rest (e.set d<|.int .i64 (n:Int)) h K):RL P B st ops (⟨some d,.call ⟨.builtin .len,#[x],#[t]⟩,ty,pos,af,none⟩::rest) e h K:=by obtain⟨rs,h1,h2,_⟩:=HP;have:=AV9 (ops:=ops) (rest:=rest) (K:=K) (B:=B) (st:=st) (d:=d) (ty:=ty) (pos:=pos) (af:=af) hT hx h1.sl;grind
end
theorem Aue(h:Ws)(el n:Nat)(x:Int)(hm:n<=maxLen):AAh (h.push<|.cells (ah n<|.int .i64 x).toArray el (0,0)) el h.size (.slice (some ⟨h.size,0,none⟩) n n) ((ah n x).map (.int .i64)):=by rw[cX];exact AQ4 h el n (.int .i64 x) hm
theorem Ajj{l:List α}{x:α}(h:l.length=i):(l++[x])[i]?=some x:=by subst h;simp
theorem Auf{l:List α}{x y:α}(h:l.length=i):(l++[x]).set i y=l++[y]:=by subst h;simp
theorem Ae9{l:List α}{x:α}(h:l[i]?=some x):l.take i++[x]=l.take (i+1):=by obtain⟨hi,rfl⟩:=ab.1 h;simp_all
def Gro(h:Ws)(el lo:Nat)(v:aa)(l:List aa):Prop:=l=[]/\v=.slice none 0 0∨∃g,lo<=g/\AAh h el g v l
theorem Agq(h:Ws)(el lo:Nat):Gro h el lo (.slice none 0 0) []:=.inl ⟨rfl,rfl⟩
theorem Gro.blk{h:Ws}{el lo:Nat}{v:aa}{l:List aa}(H:Gro h el lo v l):∀g,v.ownBlock=some g->lo<=g/\g<h.size:=by
 intro g hg;rcases H with⟨rfl,rfl⟩|⟨g',hg',H⟩;.cases hg
 .have:=H.blk;rw[hg]at this;injection this with this;subst this;exact⟨hg',H.lt⟩
section
variable{P:aj}{B:Ws->Prop}{st:Bool}{ops:Array av}{rest:List av}{e:Env}{h:Ws}{K:Env->Ws->Prop}
variable{d d':Nat}{ty ty':am}{pos pos':String}{af af':Array Edge}
theorem A5x{s:ak}{lo:Nat}{z u:aa}(hT:SlT P t el 1)(hz:ZeT P el z bytes)(h1:isOne z=true)(hbB:∀h',B h')(hs:∀p,(e.set d p).ev s=v)(hy:e.ev y=u)(hu:isOne u=true)(HG:Gro h el lo v l)(hlo:lo<=h.size)(hby:bytes<=1000)(hl:l.length<=100000000)(H:∀p v' h',Gro h' el lo v' (l++[u])->Upd (λk=>v.ownBlock=some k) h h'->(v'.ownBlock=v.ownBlock∨∃g,v'.ownBlock=some g/\h.size<=g)->RL P B st ops rest ((e.set d p).set d' v') h' K):RL P B st ops (⟨some d,.buildSlice t 1 #[(0,y)],ty,pos,af,none⟩::⟨some d',.call ⟨.builtin .append,#[s,.tmp d],#[t,t]⟩,ty',pos',af',none⟩::rest) e h K:=by
 have hsz:l.length*bytes<=100000000*1000:=aP hl hby;have hb2:(l.length+1)*bytes<=140737488355328:=by grind
 refine At2 [u] hT hz h1 (hbB h) rfl Wq Wq (by simp[partsOf,hy]) (by simpa using hu) ⟨hbB _,?_⟩;have hnew:=(Aca h el [u]<|by simp[maxLen]).sl;have hE:=Zt h<|.cells #[u] el (0,0);have hsz2:(h.push<|.cells #[u] el (0,0)).size=h.size+1:=by simp
 rcases HG with⟨rfl,rfl⟩|⟨g,hg,HO⟩;.refine At0 hT hz h1 (hbB _) (hs _) (Env.set_same _ _ _) hnew (by simpa using hu) W4 (by simp;omega) W4 λv' h' HO' he=>⟨hbB _,?_⟩;exact H _ v' h' (.inr ⟨_,Wq,HO'⟩) (hE.trans he).upd<|.inr ⟨_,HO'.blk,Wq⟩
 .refine A4h hT hz h1 (hbB _) (hs _) (HO.ext hE) (Env.set_same _ _ _) hnew (by simpa using hu) W4 (by simpa using hb2) (by simp;omega) λv' g' h' HO' hgg hup=>⟨hbB _,?_⟩;refine H _ v' h' (.inr ⟨g',?_,HO'⟩) ?_ ?_;.omega
  .refine(hE.upd.trans hup).mono λk _ hk=>?_;have hk2:k=g:=hk;rw[hk2];exact HO.blk
  .rcases hgg with rfl|rfl;.exact .inl<|HO'.blk.trans HO.blk.symm
   .exact .inr ⟨_,HO'.blk,Wq⟩
end
end Go.QF
namespace Go.Proofs.YtgmdhndbcohgiaaGreatDoor
open Go Go.QF
abbrev tR:Nat:=76
abbrev tI:Nat:=2
end Go.Proofs.YtgmdhndbcohgiaaGreatDoor
namespace Go.QF
def Ym(F:Wz)(i:Nat)(g:Nat->Int):Wz:=λk=>if k=i then g else F k
theorem Yu(F:Wz)(i:Nat)(g:Nat->Int):Ym F i g i=g:=if_pos rfl
theorem ACo(F:Wz){k:Nat}(g:Nat->Int)(h:k≠i):Ym F i g k=F k:=if_neg h
theorem AGl{r c:Nat}{F:Wz}{g:Nat->Int}:(Xw r c F).set i ((aA c).map g)=Xw r c (Ym F i g):=by
 refine cy (by simp[Xw]) λk h1 h2=>?_;rw[List.getElem_set];simp only[Xw,dD,de];by_cases hik:i=k;.subst hik;rw[if_pos rfl,Yu]
 .rw[if_neg hik,ACo _ _ λhe=>hik he.symm]
def AB7(F:Wz)(a b:Nat):Wz:=Ym (Ym F a<|F b) b<|F a
theorem Aci{p:Int}(hp:Pr p):∀(n:Nat)(x:Int),x.toNat<=n->0<x->x<p->∃y,y*x%p=1:=by
 intro n;induction n with
 |zero=>intro x h1 h2;omega|succ n ih=>
   intro x hn hx hxp;have h2:=hp.1;rcases AQ8 1 x with h1|h1
   .have hr:p%x≠0:=hp.2 x Wq hxp;have Ac:=dQ p (b:=x) Wq;have Ad:=di p (b:=x) hx;obtain⟨s,hs⟩:=ih (p%x) Wq Wq Wq;refine⟨-(s*(p/x)),?_⟩;have hd:=Int.mul_ediv_add_emod p x;have he:-(s*(p/x))*x=s*(p%x)+p*-s:=by
     have:s*(x*(p/x)+p%x)=s*p:=by rw[hd]
     rw[dJ]at this;rw[e5,bL,bX (p/x) x,e6,bX p s];omega
    rw[he,Int.add_mul_emod_self_left,hs]
   .obtain rfl:x=1:=by omega
    exact⟨1,fq Wq Wq⟩
theorem Ajk[DecidableEq α]:∀(l t:List α),l.Nodup->(∀x∈l,x∈t)->t.length<=l.length->l.Perm t:=by
 intro l;induction l with
 |nil=>
   intro t _ _ h;obtain rfl:t=[]:=cb (by simpa using h);exact .nil|cons x l ih=>
   intro t hn hs hl;have hx:=hs x<|au ..;have hp:=List.perm_cons_erase hx;refine .trans (.cons x<|ih (t.erase x) (ao.1 hn).2 (λy hy=>?_) ?_) hp.symm;.refine(List.mem_erase_of_ne λhe:y=x=>(ao.1 hn).1 (he▸hy)).2 (hs y<|ap _ hy)
   .have:=hp.length_eq;simp at this hl;omega
def X6:List Int->Int|[]=>1|x::l=>x*X6 l
theorem Acj{l t:List Int}(h:l.Perm t):X6 l=X6 t:=by induction h with|nil=>rfl|cons x _ ih=>simp only[X6];rw[ih]|swap x y l=>simp only[X6];rw[<-bL,<-bL,bX x y]|trans _ _ Aa Ab=>exact Aa.trans Ab
def upN(n:Nat):List Int:=(aA n).map λi:Nat=>(i:Int)+1 
theorem AIy{n:Nat}{x:Int}:x∈upN n↔1<=x/\x<=n:=by
 simp only[upN,eA,cL];constructor;.rintro⟨i,hi,rfl⟩;omega
 .rintro⟨h1,h2⟩;exact⟨(x-1).toNat,Wq,Wq⟩
theorem Arz(n:Nat):(upN n).Nodup:=by unfold upN;rw[List.nodup_iff_pairwise_ne,List.pairwise_map];refine List.Pairwise.imp ?_ List.nodup_range;intro a b h he;omega
theorem cancel{p x b:Int}(hp:Pr p)(hx:0<x)(hxp:x<p)(h:a*x%p=b*x%p):a%p=b%p:=by
 obtain⟨y,hy⟩:=Aci hp x.toNat x (ay _) hx hxp;have h2:=hp.1;have key:∀c:Int,c%p=c*x*y%p:=λc=>by rw[bL,cC,bX x y,hy,Int.mul_one,fP]
 rw[key a,key b,cC,h,<-cC]
theorem Aug{p x:Int}(hp:Pr p)(ha:0<a)(hap:a<p)(hx:0<x)(hxp:x<p):a*x%p≠0:=by intro h;have:=cancel (a:=a) (b:=0) hp hx hxp (by rw[h];simp);rw[fq Wq hap]at this;simp at this;omega
theorem Azz{p b:Int}(hp:Pr p):∀l:List Int,(∀x∈l,0<x/\x<p)->a*X6 l%p=b*X6 l%p->a%p=b%p:=by
 intro l;induction l generalizing a b with
 |nil=>intro _ h;simpa[X6]using h|cons x l ih=>
   intro hl h;have hx:=hl x<|au ..;simp only[X6,<-bL]at h;exact cancel hp hx.1 hx.2<|ih (λy hy=>hl y<|ap _ hy) h
theorem Ajl(F:Wz)(a b:Nat):AB7 F a b b=F a:=Yu _ _ _
theorem AZc(F:Wz){a b:Nat}:AB7 F a b a=F b:=by
 unfold AB7;by_cases h:a=b;.subst h;rw[Yu]
 .rw[ACo _ _ h,Yu]
theorem Ack(F:Wz){a b k:Nat}(ha:k≠a)(hb:k≠b):AB7 F a b k=F k:=by unfold AB7;rw[ACo _ _ hb,ACo _ _ ha]
def Zc(n:Nat)(F:Wz)(c:Nat):Prop:=∀c' i,c'<c->c'<i->i<n->F i c'=0
def Zi(F:Wz)(c i:Nat):Prop:=∀k,c<k->k<i->F k c=0
theorem Az0{F:Wz}{c:Nat}(H:Zi F c i)(h:F i c=0):Zi F c (i+1):=by
 intro k h1 h2;rcases bV k i with h3|h3;.exact H k h1 h3
 grind
theorem Az1{n:Nat}{F:Wz}{c:Nat}(H:Zc n F c)(h:Zi F c n):Zc n F (c+1):=by
 intro c' k h1 h2 h3;rcases bV c' c with h4|h4;.exact H c' k h4 h2 h3
 .obtain rfl:c'=c:=by omega
  exact h k h2 h3
theorem Aeq{z:aa}(h1:isOne z=true)(n:Nat):aH z.cells n=(ah n z).toArray:=by have hc:=Ae6 h1;have hsz:=size_zeroCells z.cells n;refine fi (by grind) λi h2 h3=>?_;have hm:i%1=0:=f7 i;simp[aH,hc,hm]
section
variable{P:aj}{B:Ws->Prop}{st:Bool}{ops:Array av}{rest:List av}{e:Env}{h:Ws}{K:Env->Ws->Prop}
variable{d:Nat}{ty:am}{pos:String}{af:Array Edge}
theorem A5y{s:ak}{tn n:Nat}{z:aa}{kn:dp}(hT:SlT P t el 1)(hN:ATi P tn kn)(hz:ZeT P el z bytes)(h1:isOne z=true)(hb:B h)(hs:e.ev s=v)(HO:AAh h el g v l)(hx:e.ev x=.int k (n:Int))(Ad:0<n)(hlen:(l.length+n)*bytes<=140737488355328)(Ae:l.length+n<=140737488355328)(H:∀v' g' h',AAh h' el g' v' (l++ah n z)->g'=g∨g'=h.size->Upd (·=g) h h'->(∃cur,h'[g]?=some (.cells cur el (0,0)))->B h'/\RL P B st ops rest (e.set d v') h' K):RL P B st ops (⟨some d,.call ⟨.builtin .append,#[s,x],#[t,tn]⟩,ty,pos,af,none⟩::rest) e h K:=by
 refine AJc rfl rfl hb λw hw=>?_;subst hw;obtain⟨hu,i0,Ab,Aa⟩:=hT;obtain⟨i,hi,hzz,hsz,hby⟩:=hz;rw[hi]at Ab;injection Ab with Ab;subst Ab;have HO':=HO;obtain⟨cap,cur,rfl,hg,hlc,hcm,hcs,ht⟩:=HO;have hnn:n≠0:=by omega
 have hw:IntKind.i64.wrap (n:Int)=n:=by rw[bC];omega
 have hneg:¬(n:Int)<0:=by omega
 have hnb:n*i.bytes<=140737488355328:=by grind
 have h48i:¬281474976710656<(n:Int)*(i.bytes:Int):=by omega
 have hzc:=Aeq h1 n;have hone':∀u∈ah n z,u.oneCell'=true:=λu hu'=>by
  have:=(List.mem_replicate.1 hu').2;subst this;cases u<;>first|rfl|cases h1
 by_cases hroom:l.length+n<=cap
 .have hst:=run_storeCells_at P g (l.length*i.size) el (ah n z) 0 cur w hg (by grind) hone';simp only[cn]at hst;have hr:(bR #[t,tn] ty #[.slice (some ⟨g,0,none⟩) l.length cap,.int k (n:Int)]).run P w=.ok (.slice (some ⟨g,0,none⟩) (l.length+n) cap) (w.setRow g (cur.toList.take (l.length*i.size)++ah n z++cur.toList.drop (l.length*i.size+(ah n z).length)).toArray):=by
   simp[bR,AGk hu,AGk hN,run_underlying hu,run_underlying hN,sizeOf,typeInfo,hi,asInt,asIntOf,hw,hneg,h48i,hroom,Aa,hnn,zeroValue,hzz,hzc,Addr.add_lit];have hst':=hst;simp[Aa]at hst';simp_all
  have hrun:(execOp e.ev ⟨some d,.call ⟨.builtin .append,#[s,x],#[t,tn]⟩,ty,pos,af,none⟩).run P w=.ok (.value<|.slice (some ⟨g,0,none⟩) (l.length+n) cap) (w.setRow g (cur.toList.take (l.length*i.size)++ah n z++cur.toList.drop (l.length*i.size+(ah n z).length)).toArray):=by
   simp only[execOp,resolve,invoke,builtin];simp[hs,hx,hr]
  rw[hrun];refine⟨⟨rfl,rfl,rfl⟩,H _ g _ ?_ (.inl rfl) ?_ ?_⟩
  .refine⟨cap,_,W4,setRow_heap w g cur _ el (0,0) hg,by grind,hcm,?_,?_⟩;.grind
   .simp only[Aa,bh,ht];grind
  .exact⟨by simp[cj],λk hk hne=>setRow_other w g k _ λhe=>hne he⟩
  .exact⟨_,setRow_heap w g cur _ el (0,0) hg⟩
 .have hfit:et (l.length+n) cap*i.bytes<=281474976710656:=by rw[hby];exact growslice_fits Wq hlen
  have hn:¬l.length+n<=cap:=hroom;have h63':¬9223372036854775807<(l.length:Int)+(n:Int):=by omega
  have h48':¬281474976710656<et (l.length+n) cap*i.bytes:=by omega
  have hfo:=run_firstCells_some (P:=P) w.drew i.size l.length ⟨g,0,none⟩ l.length cap l (by simp[Aa]) λj u hu'=>by rw[Zu,aM];exact HO'.cell hu'
  rw[Aa]at hfo;have hr:(bR #[t,tn] ty #[.slice (some ⟨g,0,none⟩) l.length cap,.int k (n:Int)]).run P w=.ok (.slice (some ⟨w.heap.size,0,none⟩) (l.length+n)<|grownCap w (l.length+n) cap el) (w.drew.alloc<|.cells (l.toArray++(ah n z).toArray++aH z.cells (grownCap w (l.length+n) cap el-(l.length+n))) el):=by simp[bR,AGk hu,AGk hN,run_underlying hu,run_underlying hN,sizeOf,typeInfo,zeroValue,hi,hzz,asInt,asIntOf,hw,hneg,h48i,hn,h63',h48',Question.forced,hfo,newRow,grownCap,Aa,hnn,hzc]
  have hrun:(execOp e.ev ⟨some d,.call ⟨.builtin .append,#[s,x],#[t,tn]⟩,ty,pos,af,none⟩).run P w=.ok (.value<|.slice (some ⟨w.heap.size,0,none⟩) (l.length+n)<|grownCap w (l.length+n) cap el) (w.drew.alloc<|.cells (l.toArray++(ah n z).toArray++aH z.cells (grownCap w (l.length+n) cap el-(l.length+n))) el):=by
   simp only[execOp,resolve,invoke,builtin];simp[hs,hx,hr]
  rw[hrun];have hzs:z.cells.size=1:=by omega
  have hge:=grownCap_ge w (l.length+n) cap el;have hcm':grownCap w (l.length+n) cap el<=maxLen:=grownCap_le_maxLen w _ _ el (by unfold maxLen;omega);refine⟨⟨rfl,rfl,rfl⟩,H _ w.heap.size _ ?_ (.inr rfl) ?_ ?_⟩
  .refine⟨_,_,W4,heap_alloc_new w.drew _,by simpa using hge,hcm',?_,?_⟩;.simp[size_zeroCells,hzs];omega
   grind
  .exact Ext.upd ⟨W4,λk hk=>heap_alloc_old w.drew _ k hk⟩
  .exact⟨cur,(heap_alloc_old w.drew _ g (an.1 hg).1).trans hg⟩
end
section
variable{P:aj}{B:Ws->Prop}{st:Bool}{ops:Array av}{rest:List av}{e:Env}{h:Ws}{K:Env->Ws->Prop}
variable{d:Nat}{ty:am}{pos:String}{af:Array Edge}
theorem AMl{t:am}{a b:Nat}(hx:e.ev x=.int .i64 (a:Int))(hy:e.ev y=.int .i64 (b:Int))(h1:a+b<=9223372036854775807)(H:RL P B st ops rest (e.set d<|.int .i64 ((a+b:Nat):Int)) h K):RL P B st ops (⟨some d,.binOp .add t x y t2,ty,pos,af,none⟩::rest) e h K:=by refine Ago hx hy Wq Wq ?_;rw[<-Int.natCast_add];exact H
end
section
variable{P:aj}{B:Ws->Prop}{st:Bool}{ops:Array av}{rest:List av}{e:Env}{h:Ws}{K:Env->Ws->Prop}
variable{d:Nat}{ty:am}{pos:String}{af:Array Edge}
theorem Auh{t:am}{a b:Nat}(hx:e.ev x=.int k (a:Int))(hy:e.ev y=.int k (b:Int))(hb:0<b)(H:RL P B st ops rest (e.set d<|.int k ((a%b:Nat):Int)) h K):RL P B st ops (⟨some d,.binOp .rem t x y t2,ty,pos,af,none⟩::rest) e h K:=by refine AV8 hx hy Wq Wq ?_;rw[<-Int.natCast_emod];exact H
theorem A4l{t:am}{k2:dp}(h1:ATi P t k)(h2:ATi P t2 k2)(hx:e.ev x=.int k a)(hw:k2.wrap a=a)(H:RL P B st ops rest (e.set d<|.int k2 a) h K):RL P B st ops (⟨some d,.convert t t2 x,ty,pos,af,none⟩::rest) e h K:=by refine AQd h1 h2 hx ?_;rw[hw];exact H
end
section
variable{P:aj}{B:Ws->Prop}{st:Bool}{ops:Array av}{rest:List av}{e:Env}{h:Ws}{K:Env->Ws->Prop}
variable{d:Nat}{ty:am}{pos:String}{af:Array Edge}
end
theorem wrap_small(h0:-9223372036854775808<=a)(h1:a<=9223372036854775807):IntKind.i64.wrap a=a:=by rw[bC];omega
end Go.QF
namespace Go.Proofs.YtgmdhndbcohgiaaGreatDoor
open Go Go.QF
def i8V(z:Int):aa:=.int .i8 z
open Go.ChangeShapes Go.WideShapes Go.ChangeAt Go.RowKit
theorem Aui:Tryz.prog.cellsOf 170=1:=by kernel_rfl
theorem Auj:Tryz.prog.cellsOf 5=1:=by kernel_rfl
theorem Auk:Tryz.prog.cellsOf 22=1:=by kernel_rfl
theorem wf_i8{z:Int}(h:(Lit.int .i8 z).wf=true):-128<=z/\z<=127:=by simp[Lit.wf,fE,fF,bH,be]at h;omega
theorem wf_u8{z:Int}(h:(Lit.int .u8 z).wf=true):0<=z/\z<=255:=by simp[Lit.wf,fE,fF,bH,be]at h;omega
theorem Aul{H:Type}{enc:am×aa->H}{W:aK}{fuel:Nat}{x:DataW H×List MemPlace}(hf:DataW.trod enc Tryz.prog W 0 (λ_=>true) true fuel 22 [v]=some x):∃Z:List Int,Sl W.heap v (Z.map i8V)/\∀z∈Z,-128<=z/\z<=127:=by
 rcases open_ints Tryz.underlying22 Tryz.underlying170 Aui hf with⟨hcs,_⟩|⟨a,len,cap,zs,hcs,_,hl,_,hz,_,hcell,hwz⟩;.simp at hcs;subst hcs;exact⟨[],Aty _,λz hz=>by cases hz⟩
 .simp at hcs;subst hcs;simp only[if_true]at hz;refine⟨zs.take len,Ajg (by simp;omega) (λh=>by cases h) λa' ha i x hx=>?_,λz hz'=>wf_i8<|hwz z<|eR hz'⟩;injection ha with ha;subst ha;have hi:i<len:=by have:=(ab.1 hx).1;simp at this;omega
  rw[hcell i Wq];rw[fj,df,if_pos hi,ae Wq]at hx;simp only[bI,cK]at hx;rw[<-hx,aG,ae Wq];rfl
end Go.Proofs.YtgmdhndbcohgiaaGreatDoor
namespace Go.QF
def Yz(t:Nat)(h:Ws)(b:Nat)(l:List aa):Prop:=h[b]?=some (.cells l.toArray t (0,0))
theorem Yz.lt{b:Nat}(H:Yz t h b l):b<h.size:=(an.1 H).1
theorem Yz.cell{b:Nat}(H:Yz t h b l){u:aa}(hu:l[i]?=some u):Yt h ⟨b,i,none⟩=some u:=by unfold Yz at H;simp[Yt,H,hu]
theorem Yz.free{b:Nat}(H:Yz t h b l)(i:Nat):AR4 h ⟨b,i,none⟩=false:=by unfold Yz at H;simp[AR4,H]
theorem Yz.agg{b:Nat}(H:Yz t h b l):∀i u,l[i]?=some u->Yt h ((⟨b,0,none⟩:Addr).add i)=some u:=by intro i u hu;rw[Zu,aM];exact H.cell hu
theorem Yz.upd{b:Nat}(H:Yz t h b l)(hU:Upd S h h')(hS:¬S b):Yz t h' b l:=(hU.2 b H.lt hS).trans H
theorem Yz.ext{b:Nat}(H:Yz t h b l)(hE:Ext h h'):Yz t h' b l:=(hE.2 b H.lt).trans H
theorem Yz.set{t:Nat}{h:Ws}{b:Nat}{l:List aa}(H:Yz t h b l)(i:Nat)(y:aa):Yz t (AVp h ⟨b,i,none⟩ y) b (l.set i y):=by unfold Yz at H⊢;simp only[AVp,bK,if_true,H,bI];simp
def SlK(h:Ws)(k:Nat)(v:aa)(L:List (List aa)):Prop:=∃a cap,v=.slice a L.length cap/\∀i row,L[i]?=some row->∃b o,a=some ⟨b,o,none⟩/\∀j x,row[j]?=some x->Yt h ⟨b,o+i*k+j,none⟩=some x
theorem SlK.ext{k:Nat}{L:List (List aa)}(H:SlK h k v L)(he:Ext h h'):SlK h' k v L:=by obtain⟨a,cap,hv,hc⟩:=H;exact⟨a,cap,hv,λi r hr=>let⟨b,o,ha,hx⟩:=hc i r hr;⟨b,o,ha,λj x hj=>Yq (hx j x hj) he⟩⟩
theorem Ao8(h:Ws)(k:Nat):SlK h k (.slice none 0 0) []:=⟨none,0,rfl,λi x hx=>by simp at hx⟩
def AFi(h:Ws)(el k g:Nat)(v:aa)(L:List (List aa)):Prop:=∃cap cur,v=.slice (some ⟨g,0,none⟩) L.length cap/\h[g]?=some (.cells cur el (0,0))/\L.length<=cap/\cap<=maxLen/\cur.size=cap*k/\(∀r∈L,r.length=k)/\cur.toList.take (L.length*k)=L.flatten
theorem AGm{k:Nat}:∀{L:List (List aa)},(∀r∈L,r.length=k)->L.flatten.length=L.length*k:=by
 intro L;induction L with
 |nil=>intro _;simp|cons r L ih=>grind
theorem ARb{k:Nat}:∀{L:List (List aa)}{i j:Nat}{r:List aa}{x:aa},(∀r∈L,r.length=k)->L[i]?=some r->r[j]?=some x->L.flatten[i*k+j]?=some x:=by
 intro L;induction L with
 |nil=>grind|cons s L ih=>
   intro i j r x h hi hj;have hs:=h s<|au ..;cases i with
   |zero=>grind|succ i=>grind
theorem AFi.lt{k:Nat}{L:List (List aa)}(H:AFi h el k g v L):g<h.size:=by obtain⟨cap,cur,_,hg,_⟩:=H;grind
theorem AFi.blk{k:Nat}{L:List (List aa)}(H:AFi h el k g v L):v.ownBlock=some g:=by obtain⟨cap,cur,rfl,_⟩:=H;rfl
theorem AFi.cell{k:Nat}{L:List (List aa)}(H:AFi h el k g v L){r:List aa}{x:aa}(hr:L[i]?=some r)(hx:r[j]?=some x):Yt h ⟨g,i*k+j,none⟩=some x:=by obtain⟨cap,cur,_,hg,_,_,_,hk,ht⟩:=H;have h1:=ARb hk hr hx;have hi:=(ab.1 h1).1;rw[AGm hk]at hi;rw[<-ht,df,if_pos hi]at h1;simp only[Yt,hg];simpa using h1
theorem AFi.free{k:Nat}{L:List (List aa)}(H:AFi h el k g v L)(i:Nat):AR4 h ⟨g,i,none⟩=false:=by obtain⟨cap,cur,_,hg,_⟩:=H;simp[AR4,hg]
theorem AFi.sl{k:Nat}{L:List (List aa)}(H:AFi h el k g v L):SlK h k v L:=by have H':=H;obtain⟨cap,cur,hv,_⟩:=H;exact⟨_,cap,hv,λi r hr=>⟨g,0,rfl,λj x hx=>by rw[aM];exact H'.cell hr hx⟩⟩
theorem AFi.congr{k:Nat}{L:List (List aa)}(H:AFi h el k g v L)(he:h'[g]?=h[g]?):AFi h' el k g v L:=by obtain⟨cap,cur,hv,hg,r⟩:=H;exact⟨cap,cur,hv,he.trans hg,r⟩
theorem AFi.ext{k:Nat}{L:List (List aa)}(H:AFi h el k g v L)(he:Ext h h'):AFi h' el k g v L:=H.congr<|he.2 g H.lt
theorem AFi.upd{k:Nat}{L:List (List aa)}(H:AFi h el k g v L)(he:Upd S h h')(hS:¬S g):AFi h' el k g v L:=H.congr<|he.2 g H.lt hS
theorem Aum{k:Nat}:∀{L:List (List aa)}{i j:Nat}{r:List aa}(y:aa),(∀r∈L,r.length=k)->L[i]?=some r->j<k->(L.set i<|r.set j y).flatten=L.flatten.set (i*k+j) y:=by
 intro L;induction L with
 |nil=>grind|cons s L ih=>
   intro i j r y h hi hj;have hs:=h s<|au ..;cases i with
   |zero=>grind|succ i=>grind
theorem AFi.set{h:Ws}{el k g:Nat}{v:aa}{L:List (List aa)}(H:AFi h el k g v L){i j:Nat}{r:List aa}(y:aa)(hr:L[i]?=some r)(hj:j<k):AFi (AVp h ⟨g,i*k+j,none⟩ y) el k g v (L.set i<|r.set j y):=by
 obtain⟨cap,cur,hv,hg,hl,hm,hs,hk,ht⟩:=H;have hrk:=hk r<|aw hr;refine⟨cap,cur.setIfInBounds (i*k+j) y,by grind,?_,by grind,hm,by simp[hs],?_,?_⟩;.simp only[AVp,bK,if_true,hg,bI];rfl
 .grind
 .rw[cg,bN,fK,ht,Aum y hk hr hj]
def Aun(h:Ws)(el k lo:Nat)(v:aa)(L:List (List aa)):Prop:=L=[]/\v=.slice none 0 0∨∃g,lo<=g/\AFi h el k g v L
theorem Afa:∀(l pre old:List aa),old.length=l.length->(l.zipIdx pre.length).foldl (λ(cs:Array aa)(x:aa×Nat)=>cs.setIfInBounds (0+x.2) x.1) (pre++old).toArray=(pre++l).toArray:=by
 intro l;induction l with
 |nil=>simp_all|cons v l ih=>
   intro pre old h;cases old with
   |nil=>simp at h|cons o old=>
     have:=ih (pre++[v]) old (by simpa using h);simp_all
section
variable{P:aj}{B:Ws->Prop}{st:Bool}{ops:Array av}{rest:List av}{e:Env}{h:Ws}{K:Env->Ws->Prop}
variable{d d':Nat}{ty ty':am}{pos pos':String}{af af':Array Edge}
theorem ADj(l:List aa)(hbB:∀h',B h')(hx:e.ev x=v)(hl:v.cells=l.toArray)(H:∀b h',Yz t h' b l->Ext h h'->h.size<=b->b<h'.size->RL P B st ops rest (e.set d<|.pointer<|some ⟨b,0,none⟩) h' K):RL P B st ops (⟨some d,.box t x,ty,pos,af,none⟩::rest) e h K:=by refine A4i (hbB _) hx ⟨hbB _,?_⟩;exact H h.size _ (by unfold Yz;rw[hl];simp) (Zt _ _) (ay _) W4
theorem ACp{z:aa}(l:List aa)(hz:ZeT P t z bytes)(hl:z.cells=l.toArray)(hbB:∀h',B h')(H:∀b h',Yz t h' b l->Ext h h'->h.size<=b->b<h'.size->RL P B st ops rest (e.set d<|.pointer<|some ⟨b,0,none⟩) h' K):RL P B st ops (⟨some d,.alloc t,ty,pos,af,none⟩::rest) e h K:=by refine Ao6 hz (hbB _) ⟨hbB _,?_⟩;exact H h.size _ (by unfold Yz;rw[hl];simp) (Zt _ _) (ay _) W4
theorem ARc{b:Nat}{u:aa}(l':List aa)(ht:NaT P t)(hx:e.ev x=.pointer (some ⟨b,i,none⟩))(hy:e.ev y=u)(h1:isOne u=true)(HB:Yz tb h b l)(hi:i<l.length)(hl:l.set i u=l')(H:∀h',Yz tb h' b l'->Upd (·=b) h h'->RL P B st ops rest e h' K):RL P B st ops (⟨none,.store t x y,ty,pos,af,none⟩::rest) e h K:=Azx ht hx hy h1 (HB.cell<|ae hi) (HB.free i) (H _ (hl▸HB.set i u)<|AM1 _ _ _)
theorem Amp{b:Nat}{l':List aa}(HB:Yz t w.heap b l)(hl:l'.length=l.length)(h1:∀u∈l',isOne u=true):∃w',(storeCells ⟨b,0,none⟩ l').run P w=.ok () w'/\w'.tape=w.tape/\w'.os=w.os/\w'.output=w.output/\Yz t w'.heap b l'/\Upd (·=b) w.heap w'.heap:=by
 have hone':∀u∈l',u.oneCell'=true:=λu hu'=>by have:=h1 u hu';cases u<;>first|rfl|cases this
 have:=run_storeCells_at P b 0 t l' 0 l.toArray w HB (by simp[hl]) hone';refine⟨_,this,rfl,rfl,rfl,?_,?_⟩;.unfold Yz;rw[setRow_heap w b l.toArray _ t (0,0) HB];simp[hl]
 .exact⟨by simp[cj],λk hk hne=>setRow_other w b k _ λhe=>hne he⟩
theorem AAn{b:Nat}(l':List aa)(ht:AgT P t s)(hl':l'.length=s)(hl:l.length=s)(hx:e.ev x=.pointer (some ⟨b,0,none⟩))(hy:e.ev y=.agg l'.toArray)(h1:∀u∈l',isOne u=true)(HB:Yz tb h b l)(H:∀h',Yz tb h' b l'->Upd (·=b) h h'->RL P B st ops rest e h' K):RL P B st ops (⟨none,.store t x y,ty,pos,af,none⟩::rest) e h K:=by
 refine A5p rfl rfl λw hw=>?_;subst hw;obtain⟨_,i,hi,hsz⟩:=ht;obtain⟨w',hr,ht',ho',hu',HB',hU⟩:=Amp (P:=P) HB (hl'.trans hl.symm) h1;have hrun:(execOp e.ev ⟨none,.store t x y,ty,pos,af,none⟩).run P w=.ok .skip w':=by simp only[execOp,dX,hx,bT,hy];simp[storeVar,AK3 hi,fM,hsz,hl',hr]
 rw[hrun];exact⟨⟨ho',ht',hu'⟩,H _ HB' hU⟩
theorem AA8{f off ft fs b o:Nat}(hf:FdT P t f off ft)(hs:(P.info? ft).map (·.size)=some fs)(hfs:fs≠0)(hx:e.ev x=.pointer (some ⟨b,o,none⟩))(H:RL P B st ops rest (e.set d<|.pointer<|some ⟨b,o+off,none⟩) h K):RL P B st ops (⟨some d,.fieldAddr t x f,ty,pos,af,none⟩::rest) e h K:=by refine BDs hf hs hfs hx ?_;rw[Zu];exact H
theorem BAg{z:aa}(l:List aa)(hT:SlT P t el s)(hz:ZeT P el z bytes)(hb:B h)(hy:e.ev y=.agg l.toArray)(hl:l.length=s)(hs1:0<s)(hs2:s<=1000)(H:B (h.push<|.cells l.toArray el (0,0))/\RL P B st ops rest (e.set d<|.slice (some ⟨h.size,0,none⟩) 1 1) (h.push<|.cells l.toArray el (0,0)) K):RL P B st ops (⟨some d,.buildSlice t 1 #[(0,y)],ty,pos,af,none⟩::rest) e h K:=by
 refine AJc rfl rfl hb λw hw=>?_;subst hw;obtain⟨hu,i0,hi0,hs0⟩:=hT;obtain⟨i,hi,hzz,hsz,hby⟩:=hz;rw[hi]at hi0;injection hi0 with hi0;subst hi0;have h3:¬1*i.size>2^24:=by rw[hs0];omega
 have h4:¬1*i.size=0:=by rw[hs0];omega
 have hfill:bZ (λj=>some (j*i.size,i.size)) ((cJ<|1*i.size).map (z.cells[·%z.cells.size]!)) [(0,.agg l.toArray)]=some l.toArray:=by
  have hvc:(f5 l.toArray).cells=l.toArray:=rfl;generalize z.cells=zc;simp only[bZ,hvc,ba,hl,hs0];rw[if_neg W4];congr 1;obtain⟨old,ho⟩:∃old:List aa,((cJ<|1*s).map (zc[·%zc.size]!))=old.toArray:=⟨_,(eN).symm⟩;have hol:old.length=l.length:=by have:=congrArg fY ho;grind
  rw[ho];have:=Afa l [] old hol;grind
 have:(execOp e.ev ⟨some d,.buildSlice t 1 #[(0,y)],ty,pos,af,none⟩).run P w=.ok (.value<|.slice (some ⟨w.heap.size,0,none⟩) 1 1) (w.alloc<|.cells l.toArray el):=by simp only[execOp,bO,gg,hy];simp only[cv,ck,AGk hu,Result.andThen,AK3 hi,if_neg h3,if_neg h4,Ai7 hi hzz];have hp1:dR P (pure z.cells:Sem (Array aa)) w=.ok z.cells w:=rfl;simp only[hp1];rw[hfill];simp[newRow]
 rw[this];exact⟨⟨rfl,rfl,rfl⟩,H⟩
theorem Auo(h:Ws)(el k:Nat)(l:List aa)(hl:l.length=k):AFi (h.push<|.cells l.toArray el (0,0)) el k h.size (.slice (some ⟨h.size,0,none⟩) 1 1) [l]:=⟨1,l.toArray,rfl,W4,W4,by simp[maxLen],by simp[hl],by simpa using hl,by simp[<-hl]⟩
theorem AT4{op:fv}{t:am}{b c:Int}(hx:e.ev x=.int k a)(hy:e.ev y=.int k b)(hop:op=.and∨op=.or∨op=.xor∨op=.andNot)(hv:∀w,(dZ op k a b).run P w=.ok (.int k c) w)(H:RL P B st ops rest (e.set d<|.int k c) h K):RL P B st ops (⟨some d,.binOp op t x y t2,ty,pos,af,none⟩::rest) e h K:=ABh (v:=.int k c) rfl rfl λw=>by rcases hop with rfl|rfl|rfl|rfl<;>simp[execOp,hx,hy,eqGuard,binOp,hv] H
theorem Afb{t:am}{n:Nat}(hx:e.ev x=.int k a)(hy:e.ev y=.int k' (n:Int))(hn:n<=k.bits)(H:RL P B st ops rest (e.set d<|.int k<|k.wrap<|a*2^n) h K):RL P B st ops (⟨some d,.binOp .shl t x y t2,ty,pos,af,none⟩::rest) e h K:=ABh (v:=.int k<|k.wrap<|a*2^n) rfl rfl λw=>by
  have h1:¬(n:Int)<0:=by omega
  have h2:min n k.bits=n:=by omega
  simp[execOp,hx,hy,eqGuard,binOp,Op.shift,h1,h2] H
theorem Aak{t:am}{n:Nat}(hx:e.ev x=.int k a)(hy:e.ev y=.int k' (n:Int))(hn:n<=k.bits)(H:RL P B st ops rest (e.set d<|.int k<|a/2^n) h K):RL P B st ops (⟨some d,.binOp .shr t x y t2,ty,pos,af,none⟩::rest) e h K:=ABh (v:=.int k<|a/2^n) rfl rfl λw=>by
  have h1:¬(n:Int)<0:=by omega
  have h2:min n k.bits=n:=by omega
  have h3:a.fdiv (2^n)=a/2^n:=Int.fdiv_eq_ediv_of_nonneg _<|Int.le_of_lt<|Int.pow_pos Wq;simp[execOp,hx,hy,eqGuard,binOp,Op.shift,h1,h2,h3] H
theorem Acl{t:am}{a b:Bool}(ht:P.underlying t=some .bool)(w:aK):(Op.equal t (.bool a)<|.bool b).run P w=.ok (a==b) w:=by show(d7 (9999+1) t _ _).run P w=_;rw[d7];simp[AGk ht]
theorem Acm{t:am}{a b:Bool}(ht:P.underlying t=some .bool)(hx:e.ev x=.bool a)(hy:e.ev y=.bool b)(H:RL P B st ops rest (e.set d<|.bool<|a==b) h K):RL P B st ops (⟨some d,.binOp .eql t x y t2,ty,pos,af,none⟩::rest) e h K:=ABh (v:=.bool<|a==b) rfl rfl λw=>by simp[execOp,hx,hy,eqGuard,binOp,Acl ht] H
theorem Acn{t:am}{a b:Bool}(ht:P.underlying t=some .bool)(hx:e.ev x=.bool a)(hy:e.ev y=.bool b)(H:RL P B st ops rest (e.set d<|.bool<|! a==b) h K):RL P B st ops (⟨some d,.binOp .neq t x y t2,ty,pos,af,none⟩::rest) e h K:=ABh (v:=.bool<|! a==b) rfl rfl λw=>by simp[execOp,hx,hy,eqGuard,binOp,Acl ht] H
end
theorem ALs(ht:AgT P t s){a:Addr}(hl:l.length=s)(w:aK)(hc:∀i u,l[i]?=some u->Yt w.heap (a.add i)=some u):(loadVar t a).run P w=.ok (.agg l.toArray) w:=by obtain⟨⟨dd,hd,hag⟩,i,hi,hsz⟩:=ht;have h1:=run_loadCells (P:=P) (a:=a) (w:=w) l 0 #[] (λi u hu=>by rw[aM];exact hc i u hu);rw[hl,<-hsz]at h1;have h2:=Atx (P:=P) hd w;rw[hag]at h2;simp[loadVar,h2,AK3 hi,loadCells,h1]
theorem ABy{e:Env}{t:Tmp}{b:Nat}(ht:AgT P ty s)(hl:l.length=s)(he:e t=.pointer (some ⟨b,0,none⟩))(HB:Yz tb h b l):AY6 P [.cell t ty] e h (.agg l.toArray):=λfn tmps w hr hg hw=>by
  have h1:tmps[t]?.getD undef=.pointer (some ⟨b,0,none⟩):=by simp_all
  have h2:=ALs ht hl w (a:=⟨b,0,none⟩) (by rw[hw];exact HB.agg);simp only[results,hr];simp[h1,asAddr,h2]
theorem Abe{e:Env}{t u:Tmp}{b:Nat}(ht:AgT P ty s)(hl:l.length=s)(he:e t=.pointer (some ⟨b,0,none⟩))(HB:Yz tb h b l):AY6 P [.cell t ty,.tmp u] e h (.tuple #[.agg l.toArray,e u]):=λfn tmps w hr hg hw=>by
  have h1:tmps[t]?.getD undef=.pointer (some ⟨b,0,none⟩):=by simp_all
  have h2:=ALs ht hl w (a:=⟨b,0,none⟩) (by rw[hw];exact HB.agg);rw[<-hg u];simp only[results,hr];simp[h1,asAddr,h2]
theorem ALt{e:Env}{t t2 u:Tmp}{Ad s2 Ae b b2:Nat}{l2:List aa}(ht:AgT P ty s)(hl:l.length=s)(he:e t=.pointer (some ⟨b,0,none⟩))(HB:Yz tb h b l)(Af:AgT P Ad s2)(Ag:l2.length=s2)(Ao:e t2=.pointer (some ⟨b2,0,none⟩))(Ah:Yz Ae h b2 l2):AY6 P [.cell t ty,.cell t2 Ad,.tmp u] e h (.tuple #[.agg l.toArray,.agg l2.toArray,e u]):=λfn tmps w hr hg hw=>by
  have h1:tmps[t]?.getD undef=.pointer (some ⟨b,0,none⟩):=by simp_all
  have h3:tmps[t2]?.getD undef=.pointer (some ⟨b2,0,none⟩):=by simp_all
  have h2:=ALs ht hl w (a:=⟨b,0,none⟩) (by rw[hw];exact HB.agg);have h4:=ALs Af Ag w (a:=⟨b2,0,none⟩) (by rw[hw];exact Ah.agg);rw[<-hg u];simp only[results,hr];simp[h1,h3,asAddr,h2,h4]
def AK4(v:aa):Prop:=∃a n c,v=.slice a n c/\n<=c
theorem AZd:AK4 (.slice none 0 0):=⟨_,_,_,rfl,ay _⟩
theorem AAh.cap{h:Ws}{el g:Nat}{v:aa}{l:List aa}(H:AAh h el g v l):AK4 v:=by obtain⟨cap,cur,rfl,_,hl,_⟩:=H;exact⟨_,_,_,rfl,hl⟩
theorem Sl.drop{h:Ws}{a:Option Addr}{n cap k:Nat}{l:List aa}(H:Sl h (.slice a n cap) l)(hk:k<=n)(hc:n<=cap):Sl h (.slice (if cap=k then a else a.map (·.add<|k*1)) (n-k)<|cap-k) (l.drop k):=by obtain⟨a',c',hv,hx⟩:=H;injection hv with ha hl hcap;subst ha;refine⟨_,_,by rw[dC,hl],λi x hi=>?_⟩;rw[List.getElem?_drop]at hi;have hil:=(ab.1 hi).1;obtain⟨b,o,ha,hcell⟩:=hx _ _ hi;refine⟨b,o+k,?_,by grind⟩;rw[if_neg Wq,ha];simp[dq]
theorem Mat.drop{h:Ws}{a:Option Addr}{n cap k:Nat}{M:List (List Int)}(H:Mat h (.slice a n cap) M)(hk:k<=n)(hc:n<=cap):Mat h (.slice (if cap=k then a else a.map (·.add<|k*1)) (n-k)<|cap-k) (M.drop k):=by obtain⟨rs,h1,h2,h3⟩:=H;refine⟨rs.drop k,h1.drop hk hc,by simp[h2],λi r z hr hz=>?_⟩;grind
section
variable{P:aj}{B:Ws->Prop}{st:Bool}{ops:Array av}{rest:List av}{e:Env}{h:Ws}{K:Env->Ws->Prop}
variable{d:Nat}{ty:am}{pos:String}{af:Array Edge}
theorem Ar0{k:Nat}{M:List (List Int)}(hT:SlT P t el 1)(hx:e.ev x=v)(HM:Mat h v M)(hc:AK4 v)(hy:e.ev y=.int kk (k:Int))(hk:k<=M.length)(H:∀v',Mat h v' (M.drop k)->AK4 v'->RL P B st ops rest (e.set d v') h K):RL P B st ops (⟨some d,.slice t x (some y) none none,ty,pos,af,none⟩::rest) e h K:=by obtain⟨a,n,c,rfl,hnc⟩:=hc;obtain⟨a',c',hv⟩:=HM.len;injection hv with _ hn _;exact Ajc hT hx hy Wq hnc<|H _ (HM.drop Wq hnc) ⟨_,_,_,rfl,Wq⟩
end
def AM8(h:Ws)(er ei lo b:Nat)(gs:List Nat)(v:aa)(n:Nat)(Z:List (List Int)):Prop:=AF8 h er ei b gs v n Z/\∀g∈b::gs,lo<=g
theorem AM8.ext{h h':Ws}{er ei lo b n:Nat}{gs:List Nat}{v:aa}{M:List (List Int)}(H:AM8 h er ei lo b gs v n M)(he:Ext h h'):AM8 h' er ei lo b gs v n M:=⟨H.1.ext he,H.2⟩
theorem AM8.cap{h:Ws}{er ei lo b n:Nat}{gs:List Nat}{v:aa}{M:List (List Int)}(H:AM8 h er ei lo b gs v n M):AK4 v:=let⟨_,h1,_⟩:=H.1.top;h1.cap
theorem AM8.mat{h:Ws}{er ei lo b:Nat}{gs:List Nat}{v:aa}{M:List (List Int)}(H:AM8 h er ei lo b gs v M.length M):Mat h v M:=A5v.mat H.1
section
variable{P:aj}{B:Ws->Prop}{st:Bool}{ops:Array av}{rest:List av}{e:Env}{h:Ws}{K:Env->Ws->Prop}
variable{d:Nat}{ty:am}{pos:String}{af:Array Edge}
theorem BAh{ei n:Nat}(hT:SlT P t er 1)(hz:ZeT P er (.slice none 0 0) bytes)(hbB:∀h',B h')(hx:e.ev x=.int .i64 (n:Int))(hy:e.ev y=.int .i64 (n:Int))(hby:bytes<=1000)(hn:n<=100000000)(H:∀b v h',AM8 h' er ei h.size b [] v n []->Ext h h'->h.size<=b->b<h'.size->RL P B st ops rest (e.set d v) h' K):RL P B st ops (⟨some d,.makeSlice t x y,ty,pos,af,none⟩::rest) e h K:=by have h1:bytes*n<=1000*100000000:=aP hby hn;refine Arq hT hz rfl (hbB _) hx hy Wq Wq ⟨hbB _,?_⟩;exact H h.size _ _ ⟨Ary h er ei n (by unfold maxLen;omega),W4⟩ (Zt _ _) (ay _) W4
theorem BAi{ei n:Nat}(hT:SlT P t ei 1)(hz:ZeT P ei (.int .i64 0) bytes)(hbB:∀h',B h')(hx:e.ev x=.int .i64 (n:Int))(hy:e.ev y=.int .i64 (n:Int))(hby:bytes<=1000)(hn:n<=100000000)(H:∀g v h',AAh h' ei g v ((ah n (0:Int)).map (.int .i64))->Ext h h'->h.size<=g->g<h'.size->RL P B st ops rest (e.set d v) h' K):RL P B st ops (⟨some d,.makeSlice t x y,ty,pos,af,none⟩::rest) e h K:=by have h1:bytes*n<=1000*100000000:=aP hby hn;refine Arq hT hz rfl (hbB _) hx hy Wq Wq ⟨hbB _,?_⟩;exact H h.size _ _ (Aue h ei n 0 (by unfold maxLen;omega)) (Zt _ _) (ay _) W4
theorem Az3{i:ak}{ei lo b n:Nat}{gs:List Nat}{Z:List (List Int)}(hT:SlT P t el 1)(hx:e.ev x=v)(HP:AM8 h er ei lo b gs v n Z)(hi:e.ev i=.int k (j:Int))(hj:j<n)(H:RL P B st ops rest (e.set d<|.pointer<|some ⟨b,j,none⟩) h K):RL P B st ops (⟨some d,.indexAddr t x i,ty,pos,af,none⟩::rest) e h K:=by obtain⟨rs,h1,h2⟩:=HP.1.top;exact AQ5 hT hx h1 hi Wq H
theorem Az4{ei lo b n:Nat}{gs:List Nat}{Z:List (List Int)}{z:List Int}(ht:NaT P t)(hx:e.ev x=.pointer (some ⟨b,j,none⟩))(hy:e.ev y=r)(HP:AM8 h er ei lo b gs v n Z)(hj:Z.length=j)(hjn:j<n)(hr:AAh h ei g r (z.map<|.int .i64))(hg:g∉b::gs)(hlo:lo<=g)(H:∀h',AM8 h' er ei lo b (gs++[g]) v n (Z++[z])->Upd (·=b) h h'->RL P B st ops rest e h' K):RL P B st ops (⟨none,.store t x y,ty,pos,af,none⟩::rest) e h K:=by
 obtain⟨rs,h1,h2⟩:=HP.1.top;refine Atz ht hx hy hr.one h1 Wq<|H _ ⟨HP.1.push hj hjn hr hg,λq hq=>?_⟩<|AM1 _ _ _;rw[<-ca]at hq;rcases aU.1 hq with hq|hq;.exact HP.2 q hq
 grind
theorem BAj{i:ak}{ei lo b n:Nat}{gs:List Nat}{M:List (List Int)}{z:List Int}(hT:SlT P t el 1)(hx:e.ev x=v)(HP:AM8 h er ei lo b gs v n M)(hi:e.ev i=.int k (j:Int))(hz:M[j]?=some z)(H:∀a r g,Yt h a=some r->gs[j]?=some g->AAh h ei g r (z.map<|.int .i64)->RL P B st ops rest (e.set d<|.pointer<|some a) h K):RL P B st ops (⟨some d,.indexAddr t x i,ty,pos,af,none⟩::rest) e h K:=BAf hT hx HP.1 hi hz H
theorem Az5{ei lo b n:Nat}{gs:List Nat}{M:List (List Int)}{z:List Int}{u:Int}(z':List Int)(ht:NaT P t)(hx:e.ev x=.pointer (some ⟨g,j,none⟩))(hy:e.ev y=.int .i64 u)(HP:AM8 h er ei lo b gs v n M)(hg:gs[i]?=some g)(hz:M[i]?=some z)(hr:AAh h ei g r (z.map<|.int .i64))(hj:j<z.length)(hz':z.set j u=z')(H:∀h',AM8 h' er ei lo b gs v n (M.set i z')->Upd (·=g) h h'->lo<=g->RL P B st ops rest e h' K):RL P B st ops (⟨none,.store t x y,ty,pos,af,none⟩::rest) e h K:=Atz ht hx hy rfl hr (by simpa using hj) (H _ ⟨hz'▸HP.1.setElem hg hz hj u,HP.2⟩ (AM1 _ _ _)<|HP.2 g<|ap _<|aw hg)
end
def nv:List Nat->Nat|[]=>0|x::l=>x+4294967296*nv l
def Dig(L:List Nat):Prop:=∀x∈L,x<4294967296
def TL(L:List Nat):Prop:=∀x,L.getLast?=some x->x≠0
theorem AU3(l m:List Nat):nv (l++m)=nv l+4294967296^l.length*nv m:=by induction l with|nil=>simp[nv]|cons x l ih=>simp only[ca,nv,ih,bn,cm];grind
theorem AG5(l:List Nat)(x:Nat):nv (l++[x])=nv l+4294967296^l.length*x:=by rw[AU3];simp[nv]
theorem AJ4{L:List Nat}(h:Dig L):nv L<4294967296^L.length:=by induction L with
 |nil=>simp[nv]|cons x l ih=>
   have h1:=h x<|au ..;have h2:=ih λy hy=>h y<|ap _ hy;simp only[nv,bn,cm];omega
theorem AXa{L:List Nat}(h:Dig L)(k:Nat):Dig (L.take k):=λx hx=>h x<|eR hx
theorem ADk{L:List Nat}(h:TL L)(h0:nv L=0):L=[]:=by
 rcases eJ L with rfl|⟨l,x,rfl⟩;.rfl
 .rw[eK,AG5]at h0;have hx:=h x W4;have:0<4294967296^l.length:=dH Wr;have:=cT (4294967296^l.length)<|eG.2 hx;omega
theorem Aup{L:List Nat}(h:TL L)(hL:L≠[]):4294967296^(L.length-1)<=nv L:=by
 rcases eJ L with rfl|⟨l,x,rfl⟩;.grind
 .have hx:=h x W4;rw[eK,AG5];have h2:=cT (4294967296^l.length)<|eG.2 hx;grind
def AKj(n:Nat):aa:=.int .u32 (n:Int)
structure DS(h:Ws)(lo:Nat)(v:aa)(L:List Nat):Prop where
 sl:Sl h v (L.map AKj)cap:AK4 v
 dig:Dig L
 lo:∀g,v.ownBlock=some g->lo<=g
 tg:∀g,v.ownBlock=some g->∃cur off,h[g]?=some (.cells cur 96 off)
theorem DS.ext{h h':Ws}{lo:Nat}{v:aa}{L:List Nat}(H:DS h lo v L)(he:Ext h h'):DS h' lo v L:=⟨H.sl.ext he,H.cap,H.dig,H.lo,λg hg=>let⟨cur,off,hx⟩:=H.tg g hg;⟨cur,off,(he.2 g (an.1 hx).1).trans hx⟩⟩
theorem DS.updLo{b:Nat}{lo:Nat}{L:List Nat}(H:DS h lo v L)(he:Upd (·=b) h h')(hb:b<lo):DS h' lo v L:=⟨H.sl.upd he λg hg hs=>by have:=H.lo g hg;omega,H.cap,H.dig,H.lo,λg hg=>let⟨cur,off,hx⟩:=H.tg g hg;⟨cur,off,(he.2 g (an.1 hx).1 λhs=>by have:=H.lo g hg;omega).trans hx⟩⟩
theorem DS.mono{lo lo':Nat}{L:List Nat}(H:DS h lo v L)(hl:lo'<=lo):DS h lo' v L:=⟨H.sl,H.cap,H.dig,λg hg=>bW hl<|H.lo g hg,H.tg⟩
theorem AK4.one(H:AK4 v):isOne v=true:=by obtain⟨a,n,c,rfl,_⟩:=H;rfl
theorem AE1{ng:Bool}{s:aa}(H:AK4 s):∀u∈[cR ng,s],isOne u=true:=by
 intro u hu;simp only[bA,List.not_mem_nil,or_false]at hu;rcases hu with rfl|rfl;.rfl
 .exact H.one
theorem AOv(h:Ws)(lo:Nat):DS h lo (.slice none 0 0) []:=⟨by simpa using Aty h,AZd,λx hx=>by simp at hx,λg hg=>(by cases hg),λg hg=>by cases hg⟩
theorem APn{L:List Nat}{x:Nat}(h:L[i]?=some x):(L.map AKj)[i]?=some (AKj x):=by simp[h]
def sgn(neg:Bool)(n:Nat):Int:=if neg then-(n:Int)else n
theorem AQf:TL []:=λx hx=>by cases hx
theorem AF0{L:List Nat}(h:TL L){k:Nat}(hk:nv L<4294967296^k):L.length<=k:=by
 by_cases hL:L=[];.subst hL;simp
 .have h1:=Aup h hL;have h2:4294967296^(L.length-1)<4294967296^k:=Nat.lt_of_le_of_lt h1 hk;have:=(Nat.pow_lt_pow_iff_right (by decide:1<4294967296)).1 h2;omega
structure ZV(h:Ws)(lo:Nat)(v:aa)(z:Int):Prop where out:∃neg s L,v=.agg #[.bool neg,s]/\DS h lo s L/\TL L/\L.length<=100/\z=sgn neg (nv L)
theorem ZV.ext{h h':Ws}{lo:Nat}{v:aa}{z:Int}(H:ZV h lo v z)(he:Ext h h'):ZV h' lo v z:=by obtain⟨n,s,L,h1,h2,h3⟩:=H.out;exact⟨n,s,L,h1,h2.ext he,h3⟩
theorem ZV.updLo{b:Nat}{h h':Ws}{lo:Nat}{v:aa}{z:Int}(H:ZV h lo v z)(he:Upd (·=b) h h')(hb:b<lo):ZV h' lo v z:=by obtain⟨n,s,L,h1,h2,h3⟩:=H.out;exact⟨n,s,L,h1,h2.updLo he hb,h3⟩
section
variable{P:aj}{B:Ws->Prop}{st:Bool}{ops:Array av}{rest:List av}{e:Env}{h:Ws}{K:Env->Ws->Prop}
variable{d:Nat}{ty:am}{pos:String}{af:Array Edge}
theorem Agr{k:Nat}(hT:SlT P t el 1)(hx:e.ev x=v)(HS:Sl h v l)(hc:AK4 v)(hy:e.ev y=.int kk (k:Int))(hk:k<=l.length)(H:∀v',Sl h v' (l.take k)->AK4 v'->v'.ownBlock=v.ownBlock->RL P B st ops rest (e.set d v') h K):RL P B st ops (⟨some d,.slice t x none (some y) none,ty,pos,af,none⟩::rest) e h K:=by
 obtain⟨a,n,c,rfl,hnc⟩:=hc;have hn:n=l.length:=by obtain⟨a',c',hv,_⟩:=HS;grind
 refine A5r hT hx hy Wq<|H _ (HS.pre k hk c) ⟨_,_,_,rfl,Wq⟩ ?_;cases a<;>rfl
theorem Yk{lo:Nat}{L:List Nat}(hT:SlT P t el s)(hx:e.ev x=v)(HI:DS h lo v L)(H:RL P B st ops rest (e.set d<|.int .i64 (L.length:Int)) h K):RL P B st ops (⟨some d,.call ⟨.builtin .len,#[x],#[t]⟩,ty,pos,af,none⟩::rest) e h K:=by refine AV9 hT hx HI.sl ?_;grind
theorem AE2{i:ak}{lo:Nat}{L:List Nat}{u:Nat}{n:Nat}(hT:SlT P t el 1)(hx:e.ev x=v)(HS:DS h lo v L)(hi:e.ev i=.int k (n:Int))(hu:L[n]?=some u)(H:∀a,Yt h a=some (.int .u32 (u:Int))->RL P B st ops rest (e.set d<|.pointer<|some a) h K):RL P B st ops (⟨some d,.indexAddr t x i,ty,pos,af,none⟩::rest) e h K:=Acb hT hx HS.sl hi (APn hu) H
theorem Aco{n:Nat}(hT:SlT P t el 1)(hz:ZeT P el (.int .u32 0) bytes)(hbB:∀h',B h')(hx:e.ev x=.int .i64 (n:Int))(hy:e.ev y=.int .i64 (n:Int))(hby:bytes<=1000)(hn:n<=100000000)(H:∀g v h',AAh h' el g v ((ah n 0).map AKj)->Ext h h'->h.size<=g->g<h'.size->RL P B st ops rest (e.set d v) h' K):RL P B st ops (⟨some d,.makeSlice t x y,ty,pos,af,none⟩::rest) e h K:=by have h1:bytes*n<=1000*100000000:=aP hby hn;refine Arq hT hz rfl (hbB _) hx hy Wq Wq ⟨hbB _,?_⟩;refine H h.size _ _ ?_ (Zt _ _) (ay _) W4;rw[cX];exact AQ4 h el n (.int .u32 0) (by unfold maxLen;omega)
theorem AS9{n u:Nat}(D':List Nat)(ht:NaT P t)(hx:e.ev x=.pointer (some ⟨g,n,none⟩))(hy:e.ev y=.int .u32 (u:Int))(HO:AAh h er g v (D.map AKj))(hn:n<D.length)(hD:D.set n u=D')(H:∀h',AAh h' er g v (D'.map AKj)->Upd (·=g) h h'->RL P B st ops rest e h' K):RL P B st ops (⟨none,.store t x y,ty,pos,af,none⟩::rest) e h K:=by have h2:=HO.set n (AKj u) (by simpa using hn);rw[<-fN,hD]at h2;exact Atz ht hx hy rfl HO (by simpa using hn) (H _ h2<|AM1 _ _ _)
theorem ALu{t:am}{a b:Nat}(hx:e.ev x=.int .u64 (a:Int))(hy:e.ev y=.int .u64 (b:Int))(h1:a+b<18446744073709551616)(H:RL P B st ops rest (e.set d<|.int .u64 ((a+b:Nat):Int)) h K):RL P B st ops (⟨some d,.binOp .add t x y t2,ty,pos,af,none⟩::rest) e h K:=by refine AFo hx hy ?_;rw[show IntKind.u64.wrap ((a:Int)+(b:Int))=((a+b:Nat):Int)by simp only[bS,bH,be];simp;omega];exact H
theorem Ags{t:am}{a b:Nat}(hx:e.ev x=.int .u64 (a:Int))(hy:e.ev y=.int .u64 (b:Int))(h1:a*b<18446744073709551616)(H:RL P B st ops rest (e.set d<|.int .u64 ((a*b:Nat):Int)) h K):RL P B st ops (⟨some d,.binOp .mul t x y t2,ty,pos,af,none⟩::rest) e h K:=by refine AMg hx hy ?_;rw[show IntKind.u64.wrap ((a:Int)*(b:Int))=((a*b:Nat):Int)by rw[<-Int.natCast_mul];simp only[bS,bH,be];grind];exact H
theorem AR6{t:am}{a:Nat}(hx:e.ev x=.int .u64 (a:Int))(hy:e.ev y=.int k 32)(H:RL P B st ops rest (e.set d<|.int .u64 ((a/4294967296:Nat):Int)) h K):RL P B st ops (⟨some d,.binOp .shr t x y t2,ty,pos,af,none⟩::rest) e h K:=by refine Aak (n:=32) hx hy Wr ?_;grind
theorem AQg{a:Nat}(hs:ATi P src .u32)(hd:ATi P dst .u64)(hx:e.ev x=.int .u32 (a:Int))(ha:a<4294967296)(H:RL P B st ops rest (e.set d<|.int .u64 (a:Int)) h K):RL P B st ops (⟨some d,.convert src dst x,ty,pos,af,none⟩::rest) e h K:=by refine AQd hs hd hx ?_;rw[show IntKind.u64.wrap (a:Int)=(a:Int)by simp only[bS,bH,be];simp;omega];exact H
theorem ATa{a:Nat}(hs:ATi P src .u64)(hd:ATi P dst .u32)(hx:e.ev x=.int .u64 (a:Int))(H:RL P B st ops rest (e.set d<|.int .u32 ((a%4294967296:Nat):Int)) h K):RL P B st ops (⟨some d,.convert src dst x,ty,pos,af,none⟩::rest) e h K:=by refine AQd hs hd hx ?_;rw[show IntKind.u32.wrap (a:Int)=((a%4294967296:Nat):Int)by simp only[bS,bH,be];simp];exact H
theorem Az6{t el:am}{a:Option Addr}{n c:Nat}(ht:P.underlying t=some (.slice el))(hx:e.ev x=.slice a n c)(H:RL P B st ops rest (e.set d<|.bool a.isNone) h K):RL P B st ops (⟨some d,.binOp .eql t x (.const<|.slice none 0 0) t2,ty,pos,af,none⟩::rest) e h K:=ABh (v:=.bool a.isNone) rfl rfl λw=>by
  have hr:(Op.equal t (.slice a n c)<|.slice none 0 0).run P w=.ok a.isNone w:=by show(d7 (9999+1) t _ _).run P w=_;rw[d7];cases a<;>simp[AGk ht]
  have hy:e.ev (.const<|.slice none 0 0)=.slice none 0 0:=rfl;simp[execOp,hx,hy,eqGuard,binOp,hr] H
theorem BAk(hT:SlT P t el s)(hbB:∀h',B h')(H:∀g v h',AAh h' el g v []->Ext h h'->h.size<=g->g<h'.size->RL P B st ops rest (e.set d v) h' K):RL P B st ops (⟨some d,.buildSlice t 0 #[],ty,pos,af,none⟩::rest) e h K:=by
 refine AJc rfl rfl (hbB _) λw hw=>?_;subst hw;obtain⟨hu,i,hi,hs⟩:=hT;have:(execOp e.ev ⟨some d,.buildSlice t 0 #[],ty,pos,af,none⟩).run P w=.ok (.value<|.slice (some ⟨w.heap.size,0,none⟩) 0 0) (w.alloc<|.cells #[] el):=by simp[execOp,cv,AGk hu,AK3 hi,bZ,newRow];grind
 rw[this];exact⟨⟨rfl,rfl,rfl⟩,hbB _,H w.heap.size _ _ (Aca w.heap el []<|by simp[maxLen]) (Zt _ _) (ay _) W4⟩
theorem A5z{s:ak}{xc:Nat}{xa:Addr}(hT:SlT P t el 1)(hbB:∀h',B h')(hs:e.ev s=v)(HO:AAh h el g v l)(hx:e.ev x=.slice (some xa) 0 xc)(H:∀v' h',AAh h' el g v' l->Upd (·=g) h h'->RL P B st ops rest (e.set d v') h' K):RL P B st ops (⟨some d,.call ⟨.builtin .append,#[s,x],#[t,t]⟩,ty,pos,af,none⟩::rest) e h K:=by
 refine AJc rfl rfl (hbB _) λw hw=>?_;subst hw;obtain⟨hu,i,hi,hs0⟩:=hT;obtain⟨cap,cur,rfl,hg,hlc,hcm,hcs,ht⟩:=HO;have hr:=run_append_room (P:=P) w t ty el i hu hi g l.length cap cur hg xa 0 xc [] W4 (λj u hu'=>by simp at hu') (λu hu'=>by simp at hu') Wq (by grind);have hrun:(execOp e.ev ⟨some d,.call ⟨.builtin .append,#[s,x],#[t,t]⟩,ty,pos,af,none⟩).run P w=.ok (.value<|.slice (some ⟨g,0,none⟩) (l.length+0) cap) (w.setRow g (cur.toList.take (l.length*i.size)++[]++cur.toList.drop (l.length*i.size+0)).toArray):=by simp[execOp,resolve,invoke,builtin,hs,hx,hr]
 rw[hrun];refine⟨⟨rfl,rfl,rfl⟩,hbB _,H _ _ ?_ ⟨by simp[cj],λk hk hne=>setRow_other w g k _ λhe=>hne he⟩⟩;refine⟨cap,_,rfl,setRow_heap w g cur _ el (0,0) hg,hlc,hcm,?_,?_⟩;.grind
 grind
theorem Auq{n:Nat}{z:aa}(l:List aa)(hT:SlT P t el 1)(hz:ZeT P el z bytes)(h1:isOne z=true)(hbB:∀h',B h')(hn:l.length=n)(hn2:n<=1000000)(hpos:0<n)(hp:(parts.map λ(i,x)=>(i,e.ev x))=partsOf 0 l)(hone:∀u∈l,isOne u=true)(H:∀g v h',AAh h' el g v l->Ext h h'->h.size<=g->g<h'.size->RL P B st ops rest (e.set d v) h' K):RL P B st ops (⟨some d,.buildSlice t n parts.toArray,ty,pos,af,none⟩::rest) e h K:=by subst hn;refine At2 l hT hz h1 (hbB _) rfl Wq hpos hp hone ⟨hbB _,?_⟩;exact H h.size _ _ (Aca h el l (by unfold maxLen;omega)) (Zt _ _) (ay _) W4
end
theorem Az7{lo n c:Nat}{a:Option Addr}{L:List Nat}(ha:a=none)(H:DS h lo (.slice a n c) L):L=[]:=by
 subst ha;cases L with
 |nil=>rfl|cons x l=>
   obtain⟨a',c',hv,hc⟩:=H.sl;obtain⟨b,o,ha,_⟩:=hc 0 _ rfl;grind
theorem Aur{lo n c:Nat}{a:Option Addr}(H:DS h lo (.slice a n c) []):n=0:=by obtain⟨a',c',hv,hc⟩:=H.sl;grind
theorem Abf{u n:Nat}(hi:D.length=i)(hn:i<n):(D++ah (n-i) 0).set i u=D++[u]++ah (n-(i+1)) 0:=by rw[show n-i=n-(i+1)+1 by omega,fa,List.set_append_right _ _ Wq,hi,dy];simp
theorem AJf{u:Nat}(h:Dig D)(hu:u<4294967296):Dig (D++[u]):=by
 intro x hx;rcases aU.1 hx with h1|h1;.exact h x h1
 grind
theorem AR7{D c S:Nat}(hD:D+4294967296^i*c=S):D+4294967296^i*((c+s)%4294967296)+4294967296^(i+1)*((c+s)/4294967296)=S+4294967296^i*s:=by have h1:=Nat.mod_add_div (c+s) 4294967296;grind
theorem AAh.ds{lo:Nat}{L:List Nat}(H:AAh h 96 g v (L.map AKj))(hd:Dig L)(hl:lo<=g):DS h lo v L:=⟨H.sl,H.cap,hd,λq hq=>by rw[H.blk]at hq;injection hq with hq;omega,λq hq=>by
  rw[H.blk]at hq;injection hq with hq;subst hq;obtain⟨cap,cur,_,hg,_⟩:=H;exact⟨cur,(0,0),hg⟩⟩
theorem Aus{a b:Nat}(ha:a<18446744073709551616)(hb:b<18446744073709551616)(w:aK):(dZ .or .u64 (a:Int) (b:Int)).run P w=.ok (.int .u64 ((a|||b:Nat):Int)) w:=by
 have h1:(aV 64 (a:Int)).toNat=a:=by grind
 have h2:(aV 64 (b:Int)).toNat=b:=by grind
 have h3:a|||b<2^64:=Nat.or_lt_two_pow Wq Wq;simp only[dZ];show Result.ok (dx .u64<|IntKind.u64.wrap ((aV 64 (a:Int)|||aV 64 (b:Int)).toNat:Int)) w=_;rw[BitVec.toNat_or,h1,h2];have:IntKind.u64.wrap ((a|||b:Nat):Int)=((a|||b:Nat):Int):=by
  simp only[bS,bH,be];simp;omega
 rw[this]
theorem Aut{a b:Nat}(h:a<2^i):a|||2^i*b=a+2^i*b:=by rw[Nat.or_comm,<-dV h,Nat.add_comm]
theorem Yp{L:List Nat}{x:Nat}(h:L[i]?=some x):nv (L.take<|i+1)=nv (L.take i)+4294967296^i*x:=by rw[<-Ae9 h,AG5,b9,cG<|by grind]
theorem AOw{L:List Nat}(h:Dig L)(hi:i<=L.length):nv (L.take i)<4294967296^i:=by have:=AJ4<|AXa h i;grind
theorem AG6(L:List Nat)(i:Nat):nv (L.take<|i+1)=nv (L.take i)+4294967296^i*L[i]?.getD 0:=by cases h:L[i]? with
 |some x=>rw[Yp h];rfl|none=>
   have:=List.getElem?_eq_none_iff.1 h;rw[bJ Wq,bJ Wq];simp
theorem AT5{D c SA SB x y d c':Nat}(hD:D+SB=SA+4294967296^i*c)(hd:d+y+c=x+4294967296*c'):D+4294967296^i*d+(SB+4294967296^i*y)=SA+4294967296^i*x+4294967296^(i+1)*c':=by grind
theorem AWb(i:Nat):4294967296^i=2^(32*i):=by rw[Nat.pow_mul]
theorem wrap_u32(a:Int):IntKind.u32.wrap a=a%4294967296:=by simp[bS,bH,be]
theorem wrap_u64(a:Int):IntKind.u64.wrap a=a%18446744073709551616:=by simp[bS,bH,be]
section
variable{P:aj}{B:Ws->Prop}{st:Bool}{ops:Array av}{rest:List av}{e:Env}{h:Ws}{K:Env->Ws->Prop}
variable{d d':Nat}{ty ty':am}{pos pos':String}{af af':Array Edge}
theorem A4m{s:ak}{lo:Nat}{L:List Nat}(hT:SlT P t 96 1)(hz:ZeT P 96 (.int .u32 0) bytes)(hbB:∀h',B h')(hs:e.ev s=.slice none 0 0)(hx:e.ev x=xv)(HX:DS h lo xv L)(hby:bytes<=1000)(hn:L.length<=100000000)(H:∀v' h',DS h' h.size v' L->Ext h h'->RL P B st ops rest (e.set d v') h' K):RL P B st ops (⟨some d,.call ⟨.builtin .append,#[s,x],#[t,t]⟩,ty,pos,af,none⟩::rest) e h K:=by
 by_cases hL:L=[]
 .subst hL;refine AJc rfl rfl (hbB _) λw hw=>?_;subst hw;obtain⟨hu,i,hi,hs0⟩:=hT;obtain⟨xa,xc,hxe,_⟩:=HX.sl;have hrun:(execOp e.ev ⟨some d,.call ⟨.builtin .append,#[s,x],#[t,t]⟩,ty,pos,af,none⟩).run P w=.ok (.value<|.slice none 0 0) w:=by
   subst hxe;have hc:(eM i.size 0<|.slice xa 0 xc).run P w=.ok #[] w:=by cases xa with
    |none=>exact run_firstCells_none (P:=P) w _ 0 0 xc|some a=>exact run_firstCells_some (P:=P) w i.size 0 a 0 xc [] W4 λj v hj=>by simp at hj
   simp only[List.map_nil,dM]at hx;simp[execOp,resolve,invoke,builtin,hs,hx,bR,AGk hu,AK3 hi,fu,hc]
  rw[hrun];exact⟨⟨rfl,rfl,rfl⟩,hbB _,H _ _ (AOv _ _)<|Ext.refl _⟩
 .have h1:L.length*bytes<=100000000*1000:=aP hn hby;refine At0 hT hz rfl (hbB _) hs hx HX.sl λu hu=>by obtain⟨y,_,rfl⟩:=eA.1 hu;rfl (by simpa using hL) (by rw[ci];omega) (by rw[ci];omega) λv' h' HO E=>⟨hbB _,H v' h' (HO.ds HX.dig<|ay _) E⟩
theorem AU4{s:ak}{u:Nat}(hT:SlT P t el 1)(hz:ZeT P el (.int .u32 0) bytes)(hbB:∀h',B h')(hs:∀p,(e.set d p).ev s=v)(hy:e.ev y=.int .u32 (u:Int))(E0:Ext h0 h)(HG:Gro h el h0.size v (D.map AKj))(hby:bytes<=1000)(hl:D.length<=100000000)(H:∀p v' h',Gro h' el h0.size v' ((D++[u]).map AKj)->Ext h0 h'->RL P B st ops rest ((e.set d p).set d' v') h' K):RL P B st ops (⟨some d,.buildSlice t 1 #[(0,y)],ty,pos,af,none⟩::⟨some d',.call ⟨.builtin .append,#[s,.tmp d],#[t,t]⟩,ty',pos',af',none⟩::rest) e h K:=by refine A5x hT hz rfl hbB hs hy rfl HG E0.1 hby (by grind) λp v' h' HG' U _=>?_;refine H p v' h' (by rw[dL];exact HG')<|E0.thenUpd U λk hk=>?_;exact(HG.blk k hk).1
end
theorem Gro.ds{h:Ws}{lo:Nat}{v:aa}{D:List Nat}(H:Gro h 96 lo v (D.map AKj))(hd:Dig D):DS h lo v D:=by
 rcases H with⟨h1,rfl⟩|⟨g,hg,HO⟩
 .have:D=[]:=by simpa using h1
  subst this;exact AOv _ _
 .exact HO.ds hd hg
theorem Ao9{L:List Nat}{n x:Nat}(hx:L[n-1]?=some x)(h0:x≠0)(hn:0<n):TL (L.take n):=by intro y hy;grind
theorem AT6{L:List Nat}:∀{q x:Nat}(u:Nat),L[q]?=some x->nv (L.set q u)+4294967296^q*x=nv L+4294967296^q*u:=by induction L with|nil=>grind|cons y L ih=>
   intro q x u h;cases q with
   |zero=>simp at h;subst h;simp[nv];omega|succ q=>
     have h1:=ih u (q:=q) (x:=x) (by simpa using h);simp only[co,nv,cm];grind
theorem APo{L:List Nat}{q u:Nat}(h:Dig L)(hu:u<4294967296):Dig (L.set q u):=by
 intro x hx;rcases List.mem_or_eq_of_mem_set hx with h1|h1;.exact h x h1
 .omega
theorem Acp{O O' V0 Pi c x y o u c' S:Nat}(hset:O'+4294967296^(i+j)*o=O+4294967296^(i+j)*u)(hinv:O+4294967296^(i+j)*c=V0+4294967296^i*(x*S))(ht:u+4294967296*c'=c+(x*y+o)):O'+4294967296^(i+(j+1))*c'=V0+4294967296^i*(x*(S+4294967296^j*y)):=by grind
theorem Agt{c x y o:Nat}(hc:c<4294967296)(hx:x<4294967296)(hy:y<4294967296)(ho:o<4294967296):c+(x*y+o)<18446744073709551616:=by have:x*y<=4294967295*4294967295:=aP Wq Wq;omega
theorem Agu{L:List Nat}(h:Dig L)(i:Nat):L[i]?.getD 0<4294967296:=by cases hq:L[i]? with|none=>simp|some q=>exact h q<|aw hq
theorem Auu{D b S x u b':Nat}(hD:D+4294967296^i*b=S)(hu:u+4294967296*b'=2*x+b):D+4294967296^i*u+4294967296^(i+1)*b'=S+4294967296^i*(2*x):=by grind
theorem Auv{L:List Nat}(h:Dig L):∀{k x:Nat},L[k]?=some x->nv L/4294967296^k%4294967296=x:=by
 intro k x hx;have hk:=(ab.1 hx).1;have e:nv L=nv (L.take k)+4294967296^k*nv (L.drop k):=by
  have:=AU3 (L.take k)<|L.drop k;rwa[List.take_append_drop,b9,cG Wq]at this
 have hlt:=AOw h (i:=k) Wq;rw[e,e9 _ _<|dH Wr,dE hlt,aM];have hd:L.drop k=x::L.drop (k+1):=by
  rw[List.drop_eq_getElem_cons hk];grind
 rw[hd];simp only[nv];have:=h x<|aw hx;omega
theorem AU5(i:Nat):(2:Nat)^i=4294967296^(i/32)*2^(i%32):=by rw[AWb,<-dI];congr 1;omega
theorem Apa{L:List Nat}(h:Dig L){x:Nat}(hx:L[i/32]?=some x):nv L/2^i%2=x/2^(i%32)%2:=by
 rw[<-Auv h hx,AU5 i,<-eI];generalize nv L/4294967296^(i/32)=y;have hs:i%32<32:=dW _ Wr;generalize i%32=s at hs;have h1:y=y%4294967296+2^s*(2*2^(31-s)*(y/4294967296)):=by
  have e:2^s*(2*2^(31-s))=(4294967296:Nat):=by rw[show(4294967296:Nat)=2^32 by decide,<-Nat.pow_succ',<-dI];grind
  rw[<-cu,e];omega
 conv=>lhs;rw[h1]
 rw[e9 _ _<|dH Wr,cu,Nat.add_mul_mod_self_left]
theorem Apb{L:List Nat}(h:Dig L){x q:Nat}(hx:L[i/32]?=some x)(hq:nv L=2^(i+1)*q):∃t,x=2^(i%32+1)*t:=by have h1:=Auv h hx;rw[hq,cm,AU5 i]at h1;rw[cu,cu,Nat.mul_div_cancel_left _<|dH Wr]at h1;have hs:i%32<32:=dW _ Wr;generalize i%32=s at hs h1;refine⟨q%2^(31-s),?_⟩;rw[<-h1,<-cu,<-cm,show(4294967296:Nat)=2^(s+1)*2^(31-s)by rw[<-dI,show s+1+(31-s)=32 by omega],Nat.mul_mod_mul_left]
theorem Auw:2^(s+1)*t|||2^s=2^(s+1)*t+2^s:=by rw[<-dV (Nat.pow_lt_pow_right Wr Wq)]
theorem Abg(hs:s<32)(h:2^(s+1)*t<4294967296):2^(s+1)*t+2^s<4294967296:=by
 have e:2^(s+1)*2^(31-s)=(4294967296:Nat):=by rw[<-dI,show s+1+(31-s)=32 by omega]
 have h1:t<2^(31-s):=by
  rw[<-e]at h;exact Nat.lt_of_mul_lt_mul_left h
 have h2:2^(s+1)*(t+1)<=4294967296:=by rw[<-e];exact cT _ h1
 grind
theorem Ajm{N n R:Nat}(hn:n≠0)(hR:R=N/2^(i+1)%n):2*R+N/2^i%2=2*(N/2^(i+1)%n)+N/2^i%2/\(n<=2*R+N/2^i%2->N/2^i%n=2*R+N/2^i%2-n/\N/2^i/n=2*(N/2^(i+1)/n)+1)/\(2*R+N/2^i%2<n->N/2^i%n=2*R+N/2^i%2/\N/2^i/n=2*(N/2^(i+1)/n)):=by
 have e:N/2^(i+1)=N/2^i/2:=by rw[cm,<-eI]
 rw[e]at hR⊢;generalize N/2^i=y at*;refine⟨by rw[hR],λh=>?_,λh=>?_⟩
 .have h1:=dP (y/2) n;have h2:=dW (y/2)<|dh hn;rw[<-hR]at h1 h2;generalize y/2/n=q at*;have h3:y=n*(2*q+1)+(2*R+y%2-n):=by grind
  have h4:2*R+y%2-n<n:=by omega
  generalize y%2=b at*;generalize 2*R+b-n=r at*;subst h3;exact⟨by rw[fB,fw h4],by rw[fC<|dh hn,dE h4,cn]⟩
 .have h1:=dP (y/2) n;rw[<-hR]at h1;generalize y/2/n=q at*;have h3:y=n*(2*q)+(2*R+y%2):=by grind
  generalize y%2=b at*;generalize 2*R+b=r at*;subst h3;exact⟨by rw[fB,fw h],by rw[fC<|dh hn,dE h,cn]⟩
theorem ZV.mono{h:Ws}{lo lo':Nat}{v:aa}{z:Int}(H:ZV h lo v z)(hl:lo'<=lo):ZV h lo' v z:=by obtain⟨n,s,L,h1,h2,h3⟩:=H.out;exact⟨n,s,L,h1,h2.mono hl,h3⟩
def Agv:Obj->Bool|.cells _ el _=>aF el 96|_=>false
def AKf(h:Ws)(b:Nat):Prop:=∃o,h[b]?=some o/\Agv o=false
def Yg(F:List Nat)(h h':Ws):Prop:=(h.size<=h'.size/\∀k,k<h.size->k∉F->h'[k]?=h[k]?)/\∀b∈F,b<h.size->AKf h b/\AKf h' b
theorem Yg.size{F:List Nat}{h h':Ws}(H:Yg F h h'):h.size<=h'.size:=H.1.1
theorem Yg.ext(H:Yg [] h h'):Ext h h':=⟨H.1.1,λk hk=>H.1.2 k hk W4⟩
theorem Ext.upT(H:Ext h h'):Yg [] h h':=⟨⟨H.1,λk hk _=>H.2 k hk⟩,λb hb=>by simp at hb⟩
theorem Yg.refl(h:Ws):Yg [] h h:=(Ext.refl h).upT
theorem AKf.of{b:Nat}(H:AKf h b)(U:Yg F h h'):AKf h' b:=by
 obtain⟨o,h1,h2⟩:=H;have hb:=(an.1 h1).1;by_cases hm:b∈F;.exact(U.2 b hm hb).2
 .exact⟨o,(U.1.2 b hb hm).trans h1,h2⟩
theorem Yg.refl'(H:∀b∈F,b<h.size->AKf h b):Yg F h h:=⟨⟨ay _,λ_ _ _=>rfl⟩,λb hb hl=>⟨H b hb hl,H b hb hl⟩⟩
theorem Yg.then{a b c:Ws}(H:Yg F a b)(K:Yg G b c)(hG:∀x∈G,x∈F∨a.size<=x):Yg F a c:=by refine⟨⟨bW H.1.1 K.1.1,λk hk hF=>?_⟩,λx hx hl=>⟨(H.2 x hx hl).1,(H.2 x hx hl).2.of K⟩⟩;rw[K.1.2 k (bt hk H.1.1) λhg=>by grind,H.1.2 k hk hF]
theorem Yg.trans{a b c:Ws}(H:Yg F a b)(K:Yg G b c)(hG:∀x∈G,x<a.size->AKf a x):Yg (F++G) a c:=by
 refine⟨⟨bW H.1.1 K.1.1,λk hk hF=>?_⟩,λx hx hl=>?_⟩;.rw[aU]at hF;rw[K.1.2 k (bt hk H.1.1) λhg=>hF<|.inr hg,H.1.2 k hk λhg=>hF<|.inl hg]
 .rcases aU.1 hx with h1|h1;.exact⟨(H.2 x h1 hl).1,(H.2 x h1 hl).2.of K⟩
  .exact⟨hG x h1 hl,((hG x h1 hl).of H).of K⟩
theorem Yg.mono{a b:Ws}(H:Yg F a b)(hFG:∀x∈F,x∈G)(hG:∀x∈G,x<a.size->AKf a x):Yg G a b:=⟨⟨H.1.1,λk hk hF=>H.1.2 k hk λh=>hF<|hFG k h⟩,λx hx hl=>⟨hG x hx hl,(hG x hx hl).of H⟩⟩
theorem Ext.thenT{a b c:Ws}(H:Ext a b)(K:Yg F b c)(hF:∀x∈F,a.size<=x):Ext a c:=(H.upT.then K λx hx=>.inr<|hF x hx).ext
theorem AMm(U:Upd (·=g) h h')(hg:g∈F)(hF:∀b∈F,b<h.size->AKf h b)(hg':AKf h' g):Yg F h h':=by
 refine⟨⟨U.1,λk hk hF=>U.2 k hk λhe=>hF<|he▸hg⟩,λb hb hl=>⟨hF b hb hl,?_⟩⟩;by_cases he:b=g;.exact he▸hg'
 .obtain⟨o,h1,h2⟩:=hF b hb hl;exact⟨o,(U.2 b hl he).trans h1,h2⟩
theorem DS.upT{lo:Nat}{L:List Nat}(H:DS h lo v L)(U:Yg F h h'):DS h' lo v L:=by
 have hne:∀g,v.ownBlock=some g->g∉F:=λg hg hgF=>by
  obtain⟨cur',off',hx⟩:=H.tg g hg;obtain⟨⟨o,hb,hel⟩,_⟩:=U.2 g hgF (an.1 hx).1;rw[hb]at hx;injection hx with hx;subst hx;exact absurd (hel.symm.trans<|Nat.beq_eq.mpr rfl) Bool.false_ne_true
 have he:Upd (·∈F) h h':=U.1;exact⟨H.sl.upd he λg hg=>hne g hg,H.cap,H.dig,H.lo,λg hg=>let⟨cur,off,hx⟩:=H.tg g hg;⟨cur,off,(he.2 g (an.1 hx).1<|hne g hg).trans hx⟩⟩
def ZZ(h:Ws)(v:aa)(z:Int):Prop:=ZV h 0 v z
theorem ZV.zz{lo:Nat}{z:Int}(H:ZV h lo v z):ZZ h v z:=H.mono<|ce _
theorem ZZ.upT{F:List Nat}{h h':Ws}{v:aa}{z:Int}(H:ZZ h v z)(U:Yg F h h'):ZZ h' v z:=by obtain⟨n,s,L,h1,h2,h3⟩:=H.out;exact⟨n,s,L,h1,h2.upT U,h3⟩
structure Zx(α:Type)where
 k:Nat
 ag:Bool
 rep:Ws->α->List aa->Prop
 klen:∀{h a cs},rep h a cs->cs.length=k
 one:∀{h a cs},rep h a cs->∀u∈cs,isOne u=true
 upT:∀{F h h' a cs},rep h a cs->Yg F h h'->rep h' a cs
 pos:0<k
 le:k<=1000
 sc:ag=false->k=1
def Zx.val{α:Type}(c:Zx α)(cs:List aa):aa:=bif c.ag then .agg cs.toArray else cs.headD undef
def Afc{α:Type}(k:Nat)(ag:Bool)(f:α->List aa)(hk:∀a,(f a).length=k)(h1:∀a,∀u∈f a,isOne u=true)(hp:0<k)(hl:k<=1000)(hs:ag=false->k=1):Zx α where
 k:=k;ag:=ag;rep:=λ_ a cs=>cs=f a;klen:=λh=>h▸hk _;one:=λh=>h▸h1 _;upT:=λh _=>h;pos:=hp;le:=hl;sc:=hs
def cI(κ:dp):Zx Int:=Afc 1 false (λa=>[.int κ a]) (λ_=>rfl) λa u hu=>by rw[ar.1 hu];rfl Wr Wr λ_=>rfl
def cB:Zx Bool:=Afc 1 false (λa=>[.bool a]) (λ_=>rfl) λa u hu=>by rw[ar.1 hu];rfl Wr Wr λ_=>rfl
theorem BAl{P:aa->Prop}{a b c d e:aa}(ha:P a)(hb:P b)(hc:P c)(hd:P d)(he:P e):∀u∈[a,b,c,d,e],P u:=by grind
abbrev Xe:=Int×Int×Int×Int×Int
abbrev Xm:=Int×Int×Int×Bool×Int
def Ajn:Zx Xe:=Afc 5 true (λa=>[.int .i64 a.1,.int .i64 a.2.1,.int .i64 a.2.2.1,.int .i64 a.2.2.2.1,.int .i64 a.2.2.2.2]) (λ_=>rfl) (λa=>BAl (P:=λu=>isOne u=true) rfl rfl rfl rfl rfl) Wr Wr λh=>by cases h 
def AJw:Zx Xm:=Afc 5 true (λa=>[.int .i64 a.1,.int .i64 a.2.1,.int .i64 a.2.2.1,.bool a.2.2.2.1,.int .i64 a.2.2.2.2]) (λ_=>rfl) (λa=>BAl (P:=λu=>isOne u=true) rfl rfl rfl rfl rfl) Wr Wr λh=>by cases h 
def cZ:Zx Int where
 k:=2;ag:=true;rep:=λh z cs=>cs.length=2/\ZZ h (.agg cs.toArray) z;klen:=λh=>h.1;one:=λ{h a cs}H=>by
  obtain⟨hl,n,s,L,h1,h2,h3⟩:=H;have:cs=[.bool n,s]:=by grind
  subst this;exact AE1 h2.cap
 upT:=λH U=>⟨H.1,H.2.upT U⟩;pos:=by decide
 le:=by decide
 sc:=λh=>by cases h
theorem ZZ.cs{h:Ws}{v:aa}{z:Int}(H:ZZ h v z):∃cs,v=.agg cs.toArray/\cZ.rep h z cs:=by have H':=H;obtain⟨n,s,L,rfl,h2,h3⟩:=H'.out;exact⟨[.bool n,s],rfl,rfl,H⟩
def Al{α:Type}(c:Zx α)(h:Ws)(L:List α)(Ls:List (List aa)):Prop:=Ls.length=L.length/\∀(i:Nat)(cs:List aa)(a:α),Ls[i]?=some cs->L[i]?=some a->c.rep h a cs
theorem Al.upT{α:Type}{c:Zx α}{F:List Nat}{h h':Ws}{L:List α}{Ls:List (List aa)}(H:Al c h L Ls)(U:Yg F h h'):Al c h' L Ls:=⟨H.1,λi cs a h1 h2=>c.upT (H.2 i cs a h1 h2) U⟩
theorem Aux(c:Zx α)(h:Ws):Al c h [] []:=⟨rfl,λi cs a h1=>by simp at h1⟩
theorem Al.get{c:Zx α}{L:List α}{Ls:List (List aa)}(H:Al c h L Ls){a:α}(ha:L[i]?=some a):∃cs,Ls[i]?=some cs/\c.rep h a cs:=by have hi:=(ab.1 ha).1;exact⟨Ls[i]'(by rw[H.1];exact hi),ae _,H.2 i _ a (ae _) ha⟩
theorem Al.push{c:Zx α}{L:List α}{Ls:List (List aa)}(H:Al c h L Ls){a:α}{cs:List aa}(hr:c.rep h a cs):Al c h (L++[a]) (Ls++[cs]):=by
 refine⟨by simp[H.1],λi cs' a' h1 h2=>?_⟩;rcases bV i L.length with hi|hi;.rw[bx (by rw[H.1];exact hi)]at h1;rw[bx hi]at h2;exact H.2 i cs' a' h1 h2
 .rw[bo (by rw[H.1];exact hi),H.1]at h1;grind
theorem Al.set{α:Type}{c:Zx α}{h:Ws}{L:List α}{Ls:List (List aa)}(H:Al c h L Ls)(n:Nat){a:α}{cs:List aa}(hr:c.rep h a cs):Al c h (L.set n a) (Ls.set n cs):=by
 refine⟨by simp[H.1],λi cs' a' h1 h2=>?_⟩;by_cases hi:n=i;.grind
 .rw[bz hi]at h1 h2;exact H.2 i cs' a' h1 h2
theorem Auy{c:Zx α}{a:α}{cs:List aa}(hr:c.rep h a cs)(n:Nat):Al c h (ah n a) (ah n cs):=by refine⟨W4,λi cs' a' h1 h2=>?_⟩;grind
def SlC{α:Type}(c:Zx α)(h:Ws)(v:aa)(L:List α):Prop:=∃Ls,SlK h c.k v Ls/\Al c h L Ls
theorem SlC.ext{α:Type}{c:Zx α}{h h':Ws}{v:aa}{L:List α}(H:SlC c h v L)(E:Ext h h'):SlC c h' v L:=by obtain⟨Ls,h1,h2⟩:=H;exact⟨Ls,h1.ext E,h2.upT E.upT⟩
theorem Az8(c:Zx α)(h:Ws):SlC c h (.slice none 0 0) []:=⟨[],Ao8 h c.k,Aux c h⟩
def Zv{α:Type}(c:Zx α)(h:Ws)(v:aa)(M:List (List α)):Prop:=AK4 v/\∃rs:List aa,SlK h 1 v (rs.map λr=>[r])/\rs.length=M.length/\∀(i:Nat)(r:aa)(L:List α),rs[i]?=some r->M[i]?=some L->SlC c h r L
theorem Zv.ext{α:Type}{c:Zx α}{h h':Ws}{v:aa}{M:List (List α)}(H:Zv c h v M)(E:Ext h h'):Zv c h' v M:=by obtain⟨h0,rs,h1,h2,h3⟩:=H;exact⟨h0,rs,h1.ext E,h2,λi r L hr hL=>(h3 i r L hr hL).ext E⟩
def OwC{α:Type}(c:Zx α)(el:Nat)(h:Ws)(F:List Nat)(v:aa)(L:List α):Prop:=L=[]/\v=.slice none 0 0/\F=[]∨∃g Ls,F=[g]/\AFi h el c.k g v Ls/\Al c h L Ls/\aF el 96=false
theorem AU6(c:Zx α)(el:Nat)(h:Ws):OwC c el h [] (.slice none 0 0) []:=.inl ⟨rfl,rfl,rfl⟩
theorem OwC.upT{α:Type}{c:Zx α}{el:Nat}{h h':Ws}{F G:List Nat}{v:aa}{L:List α}(H:OwC c el h F v L)(U:Yg G h h')(hd:∀b∈F,b∉G):OwC c el h' F v L:=by
 rcases H with⟨h1,h2,h3⟩|⟨g,Ls,rfl,h2,h3,h4⟩;.exact .inl ⟨h1,h2,h3⟩
 .exact .inr ⟨g,Ls,rfl,h2.upd (S:=(·∈G)) U.1<|hd g W4,h3.upT U,h4⟩
theorem OwC.ext{c:Zx α}{L:List α}(H:OwC c el h F v L)(E:Ext h h'):OwC c el h' F v L:=H.upT E.upT λb _=>by simp
theorem OwC.rd{c:Zx α}{L:List α}(H:OwC c el h F v L):SlC c h v L:=by
 rcases H with⟨rfl,rfl,_⟩|⟨g,Ls,rfl,h2,h3,_⟩;.exact Az8 c h
 .exact⟨Ls,h2.sl,h3⟩
theorem OwC.lt{α:Type}{c:Zx α}{el:Nat}{h:Ws}{F:List Nat}{v:aa}{L:List α}(H:OwC c el h F v L):∀b∈F,b<h.size:=by
 rcases H with⟨rfl,rfl,rfl⟩|⟨g,Ls,rfl,h2,h3,_⟩;.grind
 .intro b hb;rw[ar.1 hb];exact h2.lt
theorem AFi.notD{k:Nat}{L:List (List aa)}(H:AFi h el k g v L)(hel:aF el 96=false):AKf h g:=by obtain⟨cap,cur,_,hg,_⟩:=H;exact⟨_,hg,hel⟩
theorem OwC.notD{α:Type}{c:Zx α}{el:Nat}{h:Ws}{F:List Nat}{v:aa}{L:List α}(H:OwC c el h F v L):∀b∈F,AKf h b:=by
 rcases H with⟨rfl,rfl,rfl⟩|⟨g,Ls,rfl,h2,h3,h4⟩;.grind
 .intro b hb;rw[ar.1 hb];exact h2.notD h4
theorem OwC.nodup{c:Zx α}{L:List α}(H:OwC c el h F v L):F.Nodup:=by rcases H with⟨rfl,rfl,rfl⟩|⟨g,Ls,rfl,_⟩<;>simp
theorem OwC.isOne{α:Type}{c:Zx α}{el:Nat}{h:Ws}{F:List Nat}{v:aa}{L:List α}(H:OwC c el h F v L):isOne v=true:=by rcases H with⟨rfl,rfl,rfl⟩|⟨g,Ls,rfl,⟨cap,cur,rfl,_⟩,_⟩<;>rfl
def Yv{α:Type}(c:Zx α)(er el:Nat)(h:Ws)(F:List Nat)(Gs:List (List Nat))(rs:List aa)(v:aa)(M:List (List α)):Prop:=M=[]/\v=.slice none 0 0/\F=[]/\Gs=[]/\rs=[]∨∃b,F=b::Gs.flatten/\F.Nodup/\AFi h er 1 b v (rs.map λr=>[r])/\aF er 96=false/\rs.length=M.length/\Gs.length=M.length/\∀(i:Nat)(G:List Nat)(r:aa)(L:List α),Gs[i]?=some G->rs[i]?=some r->M[i]?=some L->OwC c el h G r L
theorem AT7(c:Zx α)(er el:Nat)(h:Ws):Yv c er el h [] [] [] (.slice none 0 0) []:=.inl ⟨rfl,rfl,rfl,rfl,rfl⟩
theorem AAo{x:Nat}(h:Gs[i]?=some G)(hx:x∈G):x∈Gs.flatten:=bE.2 ⟨G,aw h,hx⟩
theorem Yv.upT{α:Type}{c:Zx α}{er el:Nat}{h h':Ws}{F Q:List Nat}{Gs:List (List Nat)}{rs:List aa}{v:aa}{M:List (List α)}(H:Yv c er el h F Gs rs v M)(U:Yg Q h h')(hd:∀b∈F,b∉Q):Yv c er el h' F Gs rs v M:=by
 rcases H with H|⟨b,rfl,hn,h2,h3,h4,h5,h6⟩;.exact .inl H
 .exact .inr ⟨b,rfl,hn,h2.upd (S:=(·∈Q)) U.1<|hd b W4,h3,h4,h5,λi G r L hG hr hL=>(h6 i G r L hG hr hL).upT U λx hx=>hd x<|ap _<|AAo hG hx⟩
theorem Yv.rd{α:Type}{c:Zx α}{er el:Nat}{h:Ws}{F:List Nat}{Gs:List (List Nat)}{rs:List aa}{v:aa}{M:List (List α)}(H:Yv c er el h F Gs rs v M):Zv c h v M:=by
 rcases H with⟨rfl,rfl,rfl,rfl,rfl⟩|⟨b,rfl,hn,h2,h3,h4,h5,h6⟩;.exact⟨AZd,[],Ao8 h 1,rfl,λi r L hr=>by simp at hr⟩
 .refine⟨let⟨_,_,hv,_,hl,_⟩:=h2;⟨_,_,_,hv,hl⟩,rs,h2.sl,h4,λi r L hr hL=>?_⟩;have hi:=(ab.1 hL).1;exact(h6 i (Gs[i]'Wq) r L (ae _) hr hL).rd
theorem Yv.notD{α:Type}{c:Zx α}{er el:Nat}{h:Ws}{F:List Nat}{Gs:List (List Nat)}{rs:List aa}{v:aa}{M:List (List α)}(H:Yv c er el h F Gs rs v M):∀b∈F,AKf h b:=by
 rcases H with⟨rfl,rfl,rfl,rfl,rfl⟩|⟨b,rfl,hn,h2,h3,h4,h5,h6⟩;.grind
 .intro x hx;rcases bA.1 hx with rfl|hx;.exact h2.notD h3
  .obtain⟨G,hG,hxG⟩:=bE.1 hx;obtain⟨i,hi⟩:=aI hG;have hil:=(ab.1 hi).1;exact(h6 i G (rs[i]'Wq) (M[i]'Wq) hi (ae _)<|ae _).notD x hxG
theorem AKf.lt{b:Nat}(H:AKf h b):b<h.size:=by obtain⟨o,h1,_⟩:=H;grind
theorem Yv.lt{α:Type}{c:Zx α}{er el:Nat}{h:Ws}{F:List Nat}{Gs:List (List Nat)}{rs:List aa}{v:aa}{M:List (List α)}(H:Yv c er el h F Gs rs v M):∀b∈F,b<h.size:=λb hb=>(H.notD b hb).lt
theorem Yv.nodup{c:Zx α}{M:List (List α)}(H:Yv c er el h F Gs rs v M):F.Nodup:=by
 rcases H with⟨rfl,rfl,rfl,rfl,rfl⟩|⟨b,rfl,hn,_⟩;.simp
 .exact hn
theorem Yv.isOne{α:Type}{c:Zx α}{er el:Nat}{h:Ws}{F:List Nat}{Gs:List (List Nat)}{rs:List aa}{v:aa}{M:List (List α)}(H:Yv c er el h F Gs rs v M):isOne v=true:=by rcases H with⟨rfl,rfl,rfl,rfl,rfl⟩|⟨b,rfl,hn,⟨cap,cur,rfl,_⟩,_⟩<;>rfl
theorem Yv.row{c:Zx α}{M:List (List α)}(H:Yv c er el h F Gs rs v M){L:List α}(hr:rs[i]?=some r)(hL:M[i]?=some L):∃G,Gs[i]?=some G/\OwC c el h G r L/\∀x∈G,x∈F:=by
 rcases H with⟨rfl,rfl,rfl,rfl,rfl⟩|⟨b,rfl,hn,h2,h3,h4,h5,h6⟩;.simp at hL
 .have hi:=(ab.1 hL).1;exact⟨Gs[i]'Wq,ae _,h6 i _ r L (ae _) hr hL,λx hx=>ap _<|AAo (ae _) hx⟩
theorem Yv.rowRd{c:Zx α}{M:List (List α)}(H:Yv c er el h F Gs rs v M){L:List α}(hr:rs[i]?=some r)(hL:M[i]?=some L):SlC c h r L:=let⟨_,_,h1,_⟩:=H.row hr hL;h1.rd
theorem Apc{b:Nat}(H:Yz t h b l)(ht:aF t 96=false):AKf h b:=⟨_,H,ht⟩
theorem Yz.upT{b:Nat}(H:Yz t h b l)(U:Yg G h h')(hd:∀x∈[b],x∉G):Yz t h' b l:=H.upd (S:=(·∈G)) U.1<|hd b W4
def Sp(h:Ws)(lo:Nat)(Fs:List (List Nat)):Prop:=Fs.flatten.Nodup/\∀b∈Fs.flatten,lo<=b/\b<h.size
theorem A50(h:Ws)(lo:Nat):Sp h lo []:=⟨W4,λb hb=>by simp at hb⟩
theorem Sp.keep{lo:Nat}(S:Sp h lo Fs)(hs:h.size<=h'.size):Sp h' lo Fs:=⟨S.1,λb hb=>⟨(S.2 b hb).1,bt (S.2 b hb).2 hs⟩⟩
theorem Sp.app{lo:Nat}{Ks:List (List Nat)}(S:Sp h lo Fs)(S':Sp h' h.size Ks)(hs:h.size<=h'.size)(hl:lo<=h.size):Sp h' lo (Fs++Ks):=by
 refine⟨?_,λb hb=>?_⟩;.rw[bD];refine aL.2 ⟨S.1,S'.1,λx hx y hy he=>?_⟩;have h1:=(S.2 x hx).2;have h2:=(S'.2 y hy).1;omega
 .rw[bD]at hb;rcases aU.1 hb with h1|h1;.exact⟨(S.2 b h1).1,bt (S.2 b h1).2 hs⟩
  .exact⟨bW hl (S'.2 b h1).1,(S'.2 b h1).2⟩
theorem AFj{b:Nat}(h1:h.size<=b)(h2:b<h'.size):Sp h' h.size [[b]]:=⟨W4,λx hx=>by grind⟩
theorem Sp.lo{h:Ws}{lo:Nat}{Fs:List (List Nat)}(S:Sp h lo Fs)(i:Nat){F:List Nat}(hi:Fs[i]?=some F):∀b∈F,lo<=b/\b<h.size:=λb hb=>S.2 b<|AAo hi hb
theorem Ajo:∀{i j:Nat}{F G:List Nat},Fs.flatten.Nodup->Fs[i]?=some F->Fs[j]?=some G->i≠j->∀b∈F,b∉G:=by induction Fs with
 |nil=>grind|cons K Fs ih=>
   intro i j F G hn hi hj hij b hb hg;rw[ax]at hn;obtain⟨h1,h2,h3⟩:=aL.1 hn;cases i with
   |zero=>cases j with
     |zero=>exact hij rfl|succ j=>
       simp at hi hj;subst hi;exact h3 b hb b (AAo hj hg) rfl
   |succ i=>cases j with
     |zero=>
       simp at hi hj;subst hj;exact h3 b hg b (AAo hi hb) rfl|succ j=>grind
theorem Sp.dj{lo:Nat}(S:Sp h lo Fs)(i j:Nat)(hi:Fs[i]?=some F)(hj:Fs[j]?=some G)(hij:i≠j):∀b∈F,b∉G:=Ajo S.1 hi hj hij
theorem AG7:∀{i x:Nat}{F:List Nat},x∈(Fs.set i F).flatten->x∈F∨∃j G,j≠i/\Fs[j]?=some G/\x∈G:=by induction Fs with|nil=>grind|cons K Fs ih=>
   intro i x F h;cases i with
   |zero=>
     rw[fe,ax]at h;rcases aU.1 h with h|h;.exact .inl h
     .obtain⟨G,hG,hx⟩:=bE.1 h;obtain⟨j,hj⟩:=aI hG;exact .inr ⟨j+1,G,Wq,by simpa using hj,hx⟩|succ i=>
     rw[co,ax]at h;rcases aU.1 h with h|h;.exact .inr ⟨0,K,Wq,rfl,h⟩
     .rcases ih h with h1|⟨j,G,h1,h2,h3⟩;.exact .inl h1
      .exact .inr ⟨j+1,G,Wq,by simpa using h2,h3⟩
theorem ALv:∀{i:Nat}{F:List Nat},Fs.flatten.Nodup->F.Nodup->(∀x∈F,∀j G,j≠i->Fs[j]?=some G->x∉G)->(Fs.set i F).flatten.Nodup:=by induction Fs with|nil=>grind|cons K Fs ih=>
   intro i F hn hF hd;rw[ax]at hn;obtain⟨h1,h2,h3⟩:=aL.1 hn;cases i with
   |zero=>
     rw[fe,ax];refine aL.2 ⟨hF,h2,λx hx y hy he=>?_⟩;obtain⟨G,hG,hy⟩:=bE.1 hy;obtain⟨j,hj⟩:=aI hG;exact hd x hx (j+1) G Wq (by simpa using hj) (he▸hy)|succ i=>
     rw[co,ax];refine aL.2 ⟨h1,ih h2 hF λx hx j G hj hG=>hd x hx (j+1) G Wq (by simpa using hG),λx hx y hy he=>?_⟩;rcases AG7 hy with h4|⟨j,G,hj,hG,hy⟩;.exact hd y h4 0 K Wq rfl (he▸hx)
     .exact h3 x hx y (AAo hG hy) he
theorem Sp.put{lo:Nat}(S:Sp h lo Fs)(i:Nat){F':List Nat}(hi:Fs[i]?=some F)(hn:F'.Nodup)(hs:h.size<=h'.size)(hl:lo<=h.size)(hF:∀x∈F',x<h'.size)(hsub:∀x∈F',x∈F∨h.size<=x):Sp h' lo (Fs.set i F'):=by
 refine⟨ALv S.1 hn λx hx j G hj hG hxG=>?_,λb hb=>?_⟩
 .rcases hsub x hx with h1|h1;.exact S.dj i j hi hG (λhe=>hj he.symm) x h1 hxG
  .have:=(S.lo j hG x hxG).2;omega
 .rcases AG7 hb with h1|⟨j,G,hj,hG,hb⟩
  .refine⟨?_,hF b h1⟩;rcases hsub b h1 with h2|h2;.exact(S.lo i hi b h2).1
   .omega
  .have:=S.lo j hG b hb;omega
theorem Sp.sel{lo:Nat}(S:Sp h lo Fs)(is:List Nat)(hn:is.Nodup):Sp h lo (is.map λi=>Fs[i]?.getD []):=by
 have key:∀is:List Nat,is.Nodup->(is.map λi=>Fs[i]?.getD []).flatten.Nodup/\∀b∈(is.map λi=>Fs[i]?.getD []).flatten,∃i F,i∈is/\Fs[i]?=some F/\b∈F:=by intro is;induction is with|nil=>grind|cons i is ih=>intro hn;obtain⟨hni,hn⟩:=ao.1 hn;obtain⟨h1,h2⟩:=ih hn;cases hi:Fs[i]? with
    |none=>grind|some F=>
      simp only[List.map_cons,hi,dr,ax];refine⟨aL.2 ⟨?_,h1,λx hx y hy he=>?_⟩,λb hb=>?_⟩;.obtain⟨s,t,hst⟩:=fg<|aw hi;have:=S.1;grind
      .obtain⟨j,G,hj,hG,hy⟩:=h2 y hy;exact S.dj i j hi hG (λh=>hni<|h▸hj) x hx<|he▸hy
      grind
 obtain⟨h1,h2⟩:=key is hn;exact⟨h1,λb hb=>let⟨i,F,_,hF,hbF⟩:=h2 b hb;S.lo i hF b hbF⟩
def iter{S E:Type}(body:S->Option (S⊕E)):Nat->S->Option E|0,_=>none|n+1,s=>match body s with|none=>none|some (.inl s')=>iter body n s'|some (.inr e)=>some e
def BAm{S E:Type}(body:S->Option (S⊕E))(n:Nat)(ex:E):S⊕E->Prop|.inl s'=>iter body n s'=some ex|.inr e=>e=ex
theorem Ar1{S E:Type}{body:S->Option (S⊕E)}{n:Nat}{s:S}{ex:E}(H:iter body n s=some ex):∃k r,n=k+1/\body s=some r/\BAm body k ex r:=by cases n with
 |zero=>cases H|succ k=>
   rw[iter]at H;cases hb:body s with
   |none=>grind|some r=>
     rw[hb]at H;refine⟨k,r,rfl,rfl,?_⟩;cases r with
     |inl s'=>exact H|inr e=>exact gf H
theorem Xq{β:Type}{o:Option α}{f:α->Option β}{r:β}(H:o.bind f=some r):∃x,o=some x/\f x=some r:=by cases o with|none=>cases H|some x=>grind
theorem ifT{c:Prop}[Decidable c]{a b:Option α}{r:α}(H:(if c then a else b)=some r)(hc:c):a=some r:=by grind
theorem ifF{c:Prop}[Decidable c]{a b:Option α}{r:α}(H:(if c then a else b)=some r)(hc:¬c):b=some r:=by grind
theorem Ajp{c:Bool}{a b:Option α}{r:α}(H:(if c=true then a else b)=some r)(hc:c=false):b=some r:=by grind
theorem ifN{c:Prop}[Decidable c]{a:Option α}{r:α}(H:(if c then a else none)=some r):c/\a=some r:=by grind
theorem AMb{c:Prop}[Decidable c]{a b:Option α}{r:α}(H:(if c then a else b)=some r)(hc:decide c=true):a=some r:=ifT H<|of_decide_eq_true hc
theorem AMc{c:Prop}[Decidable c]{a b:Option α}{r:α}(H:(if c then a else b)=some r)(hc:decide c=false):b=some r:=ifF H<|of_decide_eq_false hc
def gI{α:Type}(L:List α)(i:Int):Option α:=if 0<=i then L[i.toNat]? else none
def sI{α:Type}(L:List α)(i:Int)(x:α):List α:=L.set i.toNat x
theorem ACq{L:List α}{i:Int}{a:α}(H:gI L i=some a):∃n:Nat,i=n/\L[n]?=some a:=by unfold gI at H;grind
abbrev W3(x:Int):Int:=IntKind.i64.wrap x
theorem Amq{B:List Nat}(h1:∀b∈F,b∉A)(h2:∀b∈F,b∉B):∀b∈F,b∉A++B:=λb hb hm=>by grind
theorem Amr:∀b∈F,b∉([]:List Nat):=λb _ h=>by simp at h
theorem Abh{P:Nat->Prop}{B:List Nat}(h1:∀b∈A,P b)(h2:∀b∈B,P b):∀b∈A++B,P b:=λb hb=>by grind
theorem all_nil{P:Nat->Prop}:∀b∈([]:List Nat),P b:=λb h=>by simp at h
theorem Yg.thenE{a b c:Ws}(H:Yg F a b)(E:Ext b c):Yg F a c:=H.then E.upT λx hx=>by simp at hx
theorem Yg.start(H:∀b∈F,AKf h b):Yg F h h:=Yg.refl' λb hb _=>H b hb
theorem AJg{b:Nat}(H:Yz t h b l)(ht:aF t 96=false):∀x∈[b],AKf h x:=λx hx=>by rw[ar.1 hx];exact Apc H ht
theorem AWc{FO:List Nat}{a c:Nat}(h1:∀x∈F,a<=x)(h3:c<=a):∀x∈F,x∈FO∨c<=x:=λx hx=>.inr (by grind)
theorem Apd{B:List Nat}{c:Nat}(h:F=A):∀x∈F,x∈A++B∨c<=x:=λx hx=>.inl (by grind)
theorem AU7{a:Addr}(hc:Yt h a=some v)(U:Yg F h h')(hd:a.block∉F):Yt h' a=some v:=Ae5 (S:=(·∈F)) hc U.1 hd
theorem Yv.rowI{c:Zx α}{M:List (List α)}(H:Yv c er el h F Gs rs v M){i:Int}{L:List α}(hr:rs[i.toNat]?=some r)(hL:gI M i=some L):SlC c h r L:=by obtain⟨n,rfl,hL⟩:=ACq hL;exact H.rowRd hr hL
theorem Sp.loAll{lo:Nat}(S:Sp h lo Fs)(i:Nat)(hi:Fs[i]?=some F):∀b∈F,lo<=b:=λb hb=>(S.lo i hi b hb).1
theorem Yz.stA{b:Nat}{l':List aa}(H:Yz tb h' b l')(U:Upd (·=b) h h')(hN:∀x∈[b],AKf h x)(ht:aF tb 96=false):Yg [b] h h':=AMm U W4 (λx hx _=>hN x hx)<|Apc H ht
theorem Abi(H:AAh h el g v l):AFi h el 1 g v (l.map λx=>[x]):=by
 obtain⟨cap,cur,h1,h2,h3,h4,h5,h6⟩:=H;have hf:∀l:List aa,(l.map λx=>[x]).flatten=l:=λl=>by induction l<;>simp_all
 exact⟨cap,cur,by grind,h2,by grind,h4,Wq,λr hr=>by grind,by grind⟩
section
variable{P:aj}{B:Ws->Prop}{st:Bool}{ops:Array av}{rest:List av}{e:Env}{h:Ws}{K:Env->Ws->Prop}
variable{d d':Nat}{ty ty':am}{pos pos':String}{af af':Array Edge}
theorem BAn{z w0:aa}(l:List aa)(hT:SlT P t el s)(hz:ZeT P el z bytes)(hb:B h)(hy:e.ev y=w0)(Ad:w0.cells=l.toArray)(hl:l.length=s)(Ah:0<s)(Ai:s<=1000)(H:B (h.push<|.cells l.toArray el (0,0))/\RL P B st ops rest (e.set d<|.slice (some ⟨h.size,0,none⟩) 1 1) (h.push<|.cells l.toArray el (0,0)) K):RL P B st ops (⟨some d,.buildSlice t 1 #[(0,y)],ty,pos,af,none⟩::rest) e h K:=by
 refine AJc rfl rfl hb λw hw=>?_;subst hw;obtain⟨hu,i0,Aa,Ac⟩:=hT;obtain⟨i,hi,hzz,hsz,hby⟩:=hz;rw[hi]at Aa;injection Aa with Aa;subst Aa;have h3:¬1*i.size>2^24:=by rw[Ac];omega
 have h4:¬1*i.size=0:=by rw[Ac];omega
 have hfill:bZ (λj=>some (j*i.size,i.size)) ((cJ<|1*i.size).map (z.cells[·%z.cells.size]!)) [(0,w0)]=some l.toArray:=by
  generalize z.cells=zc;simp only[bZ,Ad,ba,hl,Ac];rw[if_neg W4];congr 1;obtain⟨old,ho⟩:∃old:List aa,((cJ<|1*s).map (zc[·%zc.size]!))=old.toArray:=⟨_,(eN).symm⟩;have hol:old.length=l.length:=by have:=congrArg fY ho;grind
  rw[ho];have:=Afa l [] old hol;grind
 have:(execOp e.ev ⟨some d,.buildSlice t 1 #[(0,y)],ty,pos,af,none⟩).run P w=.ok (.value<|.slice (some ⟨w.heap.size,0,none⟩) 1 1) (w.alloc<|.cells l.toArray el):=by
  simp only[execOp,bO,gg,hy];simp only[cv,ck,AGk hu,Result.andThen,AK3 hi,if_neg h3,if_neg h4,Ai7 hi hzz];have Ag:dR P (pure z.cells:Sem (Array aa)) w=.ok z.cells w:=rfl;simp only[Ag];rw[hfill];simp[newRow]
 rw[this];exact⟨⟨rfl,rfl,rfl⟩,H⟩
def PU(el:Nat)(v:aa)(h h':Ws):Prop:=Upd (λk=>v.ownBlock=some k) h h'/\∀g,v.ownBlock=some g->∃cur,h'[g]?=some (.cells cur el (0,0))
theorem Auz{h:Ws}{k lo:Nat}{L:List (List aa)}(H:Aun h el k lo v L)(E:Ext h h'):PU el v h h':=by
 refine⟨E.upd,λg hg=>?_⟩;rcases H with⟨_,rfl⟩|⟨g',_,HO⟩;.cases hg
 .rw[HO.blk]at hg;injection hg with hg;subst hg;obtain⟨cap,cur,_,hgg,_⟩:=HO.ext E;grind
theorem Ape{s:ak}{lo k:Nat}{z w0:aa}{L:List (List aa)}(u:List aa)(hT:SlT P t el k)(hz:ZeT P el z bytes)(hzk:z.cells.size=k)(Ae:B h)(hbB:∀h',PU el v h h'->B h')(hs:∀p,(e.set d p).ev s=v)(hy:e.ev y=w0)(Af:w0.cells=u.toArray)(hu:u.length=k)(hone:∀x∈u,isOne x=true)(Ag:0<k)(Ah:k<=1000)(HG:Aun h el k lo v L)(hlo:lo<=h.size)(hby:bytes<=1000)(hl:L.length<=100000000)(H:∀p v' h',Aun h' el k lo v' (L++[u])->PU el v h h'->(v'.ownBlock=v.ownBlock∨∃g,v'.ownBlock=some g/\h.size<=g)->RL P B st ops rest ((e.set d p).set d' v') h' K):RL P B st ops (⟨some d,.buildSlice t 1 #[(0,y)],ty,pos,af,none⟩::⟨some d',.call ⟨.builtin .append,#[s,.tmp d],#[t,t]⟩,ty',pos',af',none⟩::rest) e h K:=by
 have hsz:L.length*bytes<=100000000*1000:=aP hl hby;have Ai:(L.length+1)*bytes<=140737488355328:=by grind
 refine BAn u hT hz Ae hy Af hu Ag Ah ⟨hbB _<|Auz HG<|Zt _ _,?_⟩;have hnew:=Auo h el k u hu;have hE:=Zt h<|.cells u.toArray el (0,0);have Ao:(h.push<|.cells u.toArray el (0,0)).size=h.size+1:=by simp
 have hone':∀x∈u,x.oneCell'=true:=λx hx'=>by have:=hone x hx';cases x<;>first|rfl|cases this
 refine AJc rfl rfl (hbB _<|Auz HG<|Zt _ _) λw hw=>?_;have hws:w.heap.size=h.size+1:=by grind
 have hEw:Ext h w.heap:=by grind
 obtain⟨hut,i0,Aa,Ad⟩:=hT;obtain⟨i,hi,hzz,hszz,hbyy⟩:=hz;rw[hi]at Aa;injection Aa with Aa;subst Aa;have hnews:∀j x,u[j]?=some x->w.cell? ((⟨h.size,0,none⟩:Addr).add j)=some x:=λj x hx=>by
  rw[Zu,aM];have:=hnew.cell (i:=0) rfl hx;rw[Nat.zero_mul,aM]at this;rw[ATz,hw];exact this
 rcases HG with⟨rfl,rfl⟩|⟨g,hg,HO⟩
 .have hr:=run_append_nil (P:=P) w t ty' el i z hut hi hzz ⟨h.size,0,none⟩ 1 1 u Wq hnews Wq Wq (by rw[hbyy];omega);have hrun:(execOp (e.set d<|.slice (some ⟨h.size,0,none⟩) 1 1).ev ⟨some d',.call ⟨.builtin .append,#[s,.tmp d],#[t,t]⟩,ty',pos',af',none⟩).run P w=.ok (.value<|.slice (some ⟨w.heap.size,0,none⟩) 1<|grownCap w 1 0 el) (w.drew.alloc<|.cells (u.toArray++aH z.cells (grownCap w 1 0 el-1)) el):=by
   have hd:(e.set d<|.slice (some ⟨h.size,0,none⟩) 1 1).ev (.tmp d)=.slice (some ⟨h.size,0,none⟩) 1 1:=Env.set_same _ _ _;simp[execOp,resolve,invoke,builtin,hs,hd,hr]
  rw[hrun];have hge:=grownCap_ge w 1 0 el;have hcm':grownCap w 1 0 el<=maxLen:=grownCap_le_maxLen w _ _ el (by unfold maxLen;omega);refine⟨⟨rfl,rfl,rfl⟩,hbB _ ?Aj,H _ _ _ (.inr ⟨w.heap.size,Wq,?_⟩) ?Aj<|.inr ⟨w.heap.size,rfl,Wq⟩⟩;rotate_left
  .refine⟨_,_,rfl,heap_alloc_new w.drew _,hge,hcm',?_,by simpa using hu,?_⟩;.rw[cr,size_zeroCells,hzk,ba,hu,eY];have:1*k<=grownCap w 1 0 el*k:=aJ k hge;omega
   simp_all
  .exact⟨(hEw.trans ⟨W4,λk hk=>heap_alloc_old w.drew _ k hk⟩).upd,λg hg=>by cases hg⟩
 .have Ab:=HO.ext hE;rw[<-hw]at Ab;have hcell:∀j x,L.flatten[j]?=some x->w.cell? ((⟨g,0,none⟩:Addr).add j)=some x:=λj x hx=>by
   obtain⟨cap,cur,_,hgg,_,_,_,hkk,ht⟩:=Ab;rw[Zu,aM,ATz];have hj:=(ab.1 hx).1;rw[AGm hkk]at hj;rw[<-ht,df,if_pos hj]at hx;simp only[Yt,hgg];simpa using hx
  have Aq:=Ab;obtain⟨cap,cur,rfl,hgg,hlc,hcm,hcs,hkk,ht⟩:=Ab;have hd:(e.set d<|.slice (some ⟨h.size,0,none⟩) 1 1).ev (.tmp d)=.slice (some ⟨h.size,0,none⟩) 1 1:=Env.set_same _ _ _;have hlu:(L++[u]).length=L.length+1:=by simp
  have hkk':∀r∈L++[u],r.length=k:=by grind
  by_cases hroom:L.length+1<=cap
  .have hmul:(L.length+1)*k<=cap*k:=aJ k hroom;rw[cM,Nat.one_mul]at hmul;have hr:=run_append_room (P:=P) w t ty' el i hut hi g L.length cap cur hgg ⟨h.size,0,none⟩ 1 1 u Wq hnews hone' hroom (by grind);have hrun:(execOp (e.set d<|.slice (some ⟨h.size,0,none⟩) 1 1).ev ⟨some d',.call ⟨.builtin .append,#[s,.tmp d],#[t,t]⟩,ty',pos',af',none⟩).run P w=.ok (.value<|.slice (some ⟨g,0,none⟩) (L.length+1) cap) (w.setRow g (cur.toList.take (L.length*i.size)++u++cur.toList.drop (L.length*i.size+u.length)).toArray):=by simp[execOp,resolve,invoke,builtin,hs,hd,hr]
   rw[hrun];refine⟨⟨rfl,rfl,rfl⟩,hbB _ ?Ak,H _ _ _ (.inr ⟨g,hg,?_⟩) ?Ak<|.inl rfl⟩;rotate_left
   .refine⟨cap,_,by rw[hlu],setRow_heap w g cur _ el (0,0) hgg,Wq,hcm,?_,hkk',?_⟩;.simp only[Ad,ba,cY,b9,dC,cP,hcs,hu];omega
    .simp only[Ad,ht,hlu];rw[bD,ax,cx,cE];have:(L.length+1)*k=(L.flatten++u).length:=by grind
     grind
   .exact⟨hEw.upd.trans ⟨by simp[cj],λq hq hne=>setRow_other w g q _ λhe=>hne (by rw[he];rfl)⟩,λg' hg'=>by injection hg' with hg';subst hg';exact⟨_,setRow_heap w g cur _ el (0,0) hgg⟩⟩
  .have hr:=run_append_grow (P:=P) w t ty' el i z hut hi hzz ⟨g,0,none⟩ L.length cap L.flatten (by grind) hcell ⟨h.size,0,none⟩ 1 1 u Wq hnews Wq Wq (by rw[hbyy];exact growslice_fits Wq Ai);have hrun:(execOp (e.set d<|.slice (some ⟨h.size,0,none⟩) 1 1).ev ⟨some d',.call ⟨.builtin .append,#[s,.tmp d],#[t,t]⟩,ty',pos',af',none⟩).run P w=.ok (.value<|.slice (some ⟨w.heap.size,0,none⟩) (L.length+1)<|grownCap w (L.length+1) cap el) (w.drew.alloc<|.cells (L.flatten.toArray++u.toArray++aH z.cells (grownCap w (L.length+1) cap el-(L.length+1))) el):=by simp[execOp,resolve,invoke,builtin,hs,hd,hr]
   rw[hrun];have hge:=grownCap_ge w (L.length+1) cap el;have hcm':grownCap w (L.length+1) cap el<=maxLen:=grownCap_le_maxLen w _ _ el (by unfold maxLen;omega);refine⟨⟨rfl,rfl,rfl⟩,hbB _ ?Am,H _ _ _ (.inr ⟨w.heap.size,Wq,?_⟩) ?Am<|.inr ⟨w.heap.size,rfl,Wq⟩⟩;rotate_left
   .refine⟨_,_,by rw[hlu],heap_alloc_new w.drew _,Wq,hcm',?_,hkk',?_⟩;.have hmm:(L.length+1)*k<=grownCap w (L.length+1) cap el*k:=aJ k hge;rw[cM]at hmm;rw[cr,cr,size_zeroCells,hzk,ba,ba,hu,AGm hkk,eY,cM];omega
    .simp only[eU,hlu];rw[bD,ax,cx,cE];have:(L.length+1)*k=(L.flatten++u).length:=by grind
     grind
   .exact⟨(hEw.trans ⟨W4,λk hk=>heap_alloc_old w.drew _ k hk⟩).upd,λg' hg'=>by injection hg' with hg';subst hg';exact⟨_,(heap_alloc_old w.drew _ g (an.1 hgg).1).trans hgg⟩⟩
theorem Ajq{k:Nat}:∀{L:List (List aa)}{i:Nat}{row:List aa},(∀r∈L,r.length=k)->row.length=k->i<L.length->(L.set i row).flatten=L.flatten.take (i*k)++row++L.flatten.drop (i*k+k):=by
 intro L;induction L with
 |nil=>grind|cons s L ih=>
   intro i row hk hr hi;have hs:=hk s<|au ..;cases i with|zero=>grind|succ i=>
     have:=ih (λr hr=>hk r<|ap _ hr) hr (by simpa using hi);simp only[co,ax,this];rw[dz,List.drop_append,hs,show(i+1)*k-k=i*k by rw[cM];omega,show(i+1)*k+k-k=i*k+k by rw[cM];omega,bJ (l:=s) (by grind),List.drop_of_length_le (l:=s) Wq];simp
theorem AFi.setAll{k n:Nat}{L:List (List aa)}{h:Ws}{row:List aa}(HO:AFi h el k g v L)(hn:n<L.length)(hrow:row.length=k)(hcur:∀cur,h[g]?=some (.cells cur el (0,0))->h'[g]?=some (.cells (cur.toList.take (n*k)++row++cur.toList.drop (n*k+row.length)).toArray el (0,0))):AFi h' el k g v (L.set n row):=by
 obtain⟨cap,cur,hv,hg,hl,hm,hs,hk,ht⟩:=HO;have hle':n*k+k<=L.length*k:=by rw[<-fT];exact aJ k hn
 have hle2':L.length*k<=cap*k:=aJ k hl;have hcl:L.length*k<=cur.toList.length:=by grind
 refine⟨cap,_,by grind,hcur cur hg,by grind,hm,?_,?_,?_⟩;.simp only[ba,cY,b9,dC,cP,hrow];omega
 .grind
 .rw[cg,Ajq hk hrow hn,<-ht];have e1:((cur.toList.take (n*k)++row++cur.toList.drop (n*k+row.length)).toArray).toList=cur.toList.take (n*k)++row++cur.toList.drop (n*k+row.length):=rfl;rw[e1,dz,dz,fD,fD,Nat.min_eq_right Wq,cG Wq,cY,b9,cG Wq,hrow];rw[bJ (l:=row) (by rw[hrow];omega),List.drop_take]
theorem A51{n:Nat}{L:List (List aa)}(row:List aa)(ht:AgT P t s)(hrow:row.length=s)(hx:e.ev x=.pointer (some ⟨g,n*s,none⟩))(hy:e.ev y=.agg row.toArray)(h1:∀u∈row,isOne u=true)(HO:AFi h el s g v L)(hn:n<L.length)(H:∀h',(∀v L,AFi h el s g v L->n<L.length->AFi h' el s g v (L.set n row))->Upd (·=g) h h'->RL P B st ops rest e h' K):RL P B st ops (⟨none,.store t x y,ty,pos,af,none⟩::rest) e h K:=by
 refine A5p rfl rfl λw hw=>?_;subst hw;obtain⟨_,i,hi,hsz⟩:=ht;obtain⟨cap,cur,hv,hg,hl,hm,hs,hk,htk⟩:=HO;have hone':∀u∈row,u.oneCell'=true:=λu hu'=>by have:=h1 u hu';cases u<;>first|rfl|cases this
 have hle:n*s+s<=L.length*s:=by rw[<-fT];exact aJ s hn
 have Ab:L.length*s<=cap*s:=aJ s hl;have hr:=run_storeCells_at P g (n*s) el row 0 cur w hg Wq hone';have hrun:(execOp e.ev ⟨none,.store t x y,ty,pos,af,none⟩).run P w=.ok .skip (w.setRow g (cur.toList.take (n*s+0)++row++cur.toList.drop (n*s+0+row.length)).toArray):=by
  simp only[execOp,dX,hx,bT,hy];simp only[cn]at hr;simp[storeVar,AK3 hi,fM,hsz,hrow,hr]
 rw[hrun];exact⟨⟨rfl,rfl,rfl⟩,H _ (λv' L' HO' hn'=>HO'.setAll hn' hrow λcur' hc'=>by
  rw[hg]at hc';injection hc' with hc';injection hc' with hc' _ _;subst hc';exact setRow_heap w g cur _ el (0,0) hg) ⟨by simp[cj],λk hk hne=>setRow_other w g k _ λhe=>hne he⟩⟩
theorem Aes(a b:aa)(n:Nat):madeCells #[a,b] (n*2)=((ah n [a,b]).flatten).toArray:=by
 apply fi;.simp[madeCells]
 .intro i h1 h2;have hi:i<n*2:=by simp_all
  simp only[madeCells,Array.getElem_map,Array.getElem_range];have hk:∀r∈ah n [a,b],r.length=2:=λr hr=>by grind
  have h3:(ah n [a,b])[i/2]?=some [a,b]:=by grind
  have hg:(ah n [a,b]).flatten[i]?=some #[a,b][i%2]!:=by
   have hm:i%2=0∨i%2=1:=by omega
   rcases hm with hm|hm
   .have:=ARb hk h3 (j:=0) (x:=a) rfl;grind
   .have:=ARb hk h3 (j:=1) (x:=b) rfl;grind
  grind
theorem A52{n:Nat}{a b:aa}(hT:SlT P t el 2)(hz:ZeT P el (.agg #[a,b]) bytes)(hb:B h)(hx:e.ev x=.int .i64 (n:Int))(hy:e.ev y=.int .i64 (n:Int))(hby:bytes<=1000)(hn:n<=100000000)(H:∀h',AFi h' el 2 h.size (.slice (some ⟨h.size,0,none⟩) n n) (ah n [a,b])->Ext h h'->h.size<h'.size->B h'->RL P B st ops rest (e.set d<|.slice (some ⟨h.size,0,none⟩) n n) h' K)(hbB:B (h.push<|.cells ((ah n [a,b]).flatten).toArray el (0,0))):RL P B st ops (⟨some d,.makeSlice t x y,ty,pos,af,none⟩::rest) e h K:=by
 have h1:bytes*n<=1000*100000000:=aP hby hn;refine AJc rfl rfl hb λw hw=>?_;subst hw;obtain⟨hu,i0,hi0,hs0⟩:=hT;obtain⟨i,hi,hzz,hsz,hby'⟩:=hz;rw[hi]at hi0;injection hi0 with hi0;subst hi0;have hr:=run_make (P:=P) w t el i (.agg #[a,b]) hu hi hzz .i64 .i64 (n:Int) (n:Int) Wq Wq (by rw[hby'];omega) Wq;have:(execOp e.ev ⟨some d,.makeSlice t x y,ty,pos,af,none⟩).run P w=.ok (.value<|.slice (some ⟨w.heap.size,0,none⟩) n n) (w.alloc<|.cells ((ah n [a,b]).flatten).toArray el):=by simp only[execOp,hx,hy];have hc:(f5 #[a,b]).cells=#[a,b]:=rfl;simp only[ai,hs0,hc,Aes]at hr;simp[hr]
 rw[this];have hk:∀r∈ah n [a,b],r.length=2:=λr hr=>by grind
 refine⟨⟨rfl,rfl,rfl⟩,hbB,H _ ⟨n,((ah n [a,b]).flatten).toArray,W4,heap_alloc_new w _,W4,by unfold maxLen;omega,?_,hk,?_⟩ (Zt _ _) W4 hbB⟩;.simp_all
 .rw[show((ah n [a,b]).flatten).toArray.toList=(ah n [a,b]).flatten from rfl];exact bJ (by simp_all)
theorem AXb{i:ak}{L:List (List aa)}{n:Nat}(hT:SlT P t el s)(hx:e.ev x=v)(HO:AFi h0 er s g v L)(hi:e.ev i=.int k (n:Int))(hn:n<L.length)(H:RL P B st ops rest (e.set d<|.pointer<|some ⟨g,n*s,none⟩) h K):RL P B st ops (⟨some d,.indexAddr t x i,ty,pos,af,none⟩::rest) e h K:=by
 obtain⟨cap,cur,rfl,_⟩:=HO;refine Ai9 hT hx hi Wq Wq ?_;have he:(⟨g,0,none⟩:Addr).add ((n:Int).toNat*s)=⟨g,n*s,none⟩:=by rw[Zu];simp
 grind
theorem ALw{c:Zx α}{i:ak}{L:List α}{n:Int}{a:α}(hT:SlT P t el c.k)(hx:e.ev x=v)(HS:SlC c h0 v L)(hi:e.ev i=.int κ n)(ha:gI L n=some a)(H:∀b o cs,c.rep h0 a cs->(∀j u,cs[j]?=some u->Yt h0 ⟨b,o+j,none⟩=some u)->RL P B st ops rest (e.set d<|.pointer<|some ⟨b,o,none⟩) h K):RL P B st ops (⟨some d,.indexAddr t x i,ty,pos,af,none⟩::rest) e h K:=by
 obtain⟨m,rfl,Ab⟩:=ACq ha;clear ha;have ha:=Ab;obtain⟨Ls,⟨ad,cap,rfl,hc⟩,HA⟩:=HS;obtain⟨cs,hcs,hrep⟩:=HA.get ha;obtain⟨b,o,rfl,hcu⟩:=hc m cs hcs;have hn:=(ab.1 hcs).1;refine Ai9 hT hx hi Wq Wq ?_;have he:(⟨b,o,none⟩:Addr).add ((m:Int).toNat*c.k)=⟨b,o+m*c.k,none⟩:=by rw[Zu];simp
 grind
theorem ARd{c:Zx α}{i:ak}{M:List (List α)}{n:Int}{L:List α}(hT:SlT P t el 1)(hx:e.ev x=v)(HS:Zv c h0 v M)(hi:e.ev i=.int κ n)(ha:gI M n=some L)(H:∀b o r,Yt h0 ⟨b,o,none⟩=some r->SlC c h0 r L->RL P B st ops rest (e.set d<|.pointer<|some ⟨b,o,none⟩) h K):RL P B st ops (⟨some d,.indexAddr t x i,ty,pos,af,none⟩::rest) e h K:=by
 obtain⟨m,rfl,Ab⟩:=ACq ha;clear ha;have ha:=Ab;obtain⟨_,rs,⟨ad,cap,rfl,hc⟩,hl,HA⟩:=HS;have hm:=(ab.1 ha).1;obtain⟨r,hr⟩:∃r,rs[m]?=some r:=⟨rs[m]'Wq,ae _⟩;obtain⟨b,o,rfl,hcu⟩:=hc m [r] (by simp[hr]);refine Ai9 hT hx hi Wq (by simp;omega) ?_;have he:(⟨b,o,none⟩:Addr).add ((m:Int).toNat*1)=⟨b,o+m*1,none⟩:=by rw[Zu];simp
 rw[he];exact H b _ r (hcu 0 r rfl)<|HA m r L hr ha
theorem AXc{c:Zx α}{M:List (List α)}{n:Nat}{L:List α}(HO:Yv c er el h0 F Gs rs v M)(ha:M[n]?=some L):∃b r,F=b::Gs.flatten/\AFi h0 er 1 b v (rs.map λr=>[r])/\rs[n]?=some r/\n<rs.length:=by
 rcases HO with⟨rfl,_⟩|⟨b,hF,hn,h2,h3,h4,h5,h6⟩;.simp at ha
 .have hm:=(ab.1 ha).1;simp_all
theorem AT8{c:Zx α}{i:ak}{M:List (List α)}{n:Int}{L:List α}(hT:SlT P t el0 1)(hx:e.ev x=v)(HO:Yv c er el h0 F Gs rs v M)(hi:e.ev i=.int κ n)(ha:gI M n=some L)(H:∀b r,F=b::Gs.flatten->rs[n.toNat]?=some r->Yt h0 ⟨b,n.toNat,none⟩=some r->RL P B st ops rest (e.set d<|.pointer<|some ⟨b,n.toNat,none⟩) h K):RL P B st ops (⟨some d,.indexAddr t x i,ty,pos,af,none⟩::rest) e h K:=by obtain⟨m,rfl,hm0⟩:=ACq ha;clear ha;have ha:=hm0;obtain⟨b,r,hF,h2,hr,hm⟩:=AXc HO ha;have hcell:=h2.cell (i:=m) (j:=0) (r:=[r]) (x:=r) (by simp[hr]) rfl;refine AXb (er:=er) (n:=m) hT hx h2 hi (by simpa using hm) ?_;grind
theorem AIz{c:Zx α}{i:ak}{L:List α}{n:Int}{a:α}(hT:SlT P t el0 c.k)(hx:e.ev x=v)(HO:OwC c el h0 F v L)(hi:e.ev i=.int κ n)(ha:gI L n=some a)(H:∀g,F=[g]->RL P B st ops rest (e.set d<|.pointer<|some ⟨g,n.toNat*c.k,none⟩) h K):RL P B st ops (⟨some d,.indexAddr t x i,ty,pos,af,none⟩::rest) e h K:=by
 obtain⟨m,rfl,hm0⟩:=ACq ha;clear ha;have ha:=hm0;rcases HO with⟨rfl,_⟩|⟨g,Ls,hF,h2,h3,_⟩;.simp at ha
 .have hm:=(ab.1 ha).1;exact AXb (er:=el) (n:=m) hT hx h2 hi (by rw[h3.1];exact hm)<|H g hF
theorem OwC.cells{c:Zx α}{L:List α}{n:Int}{a:α}(HO:OwC c el h0 F v L)(hF:F=[g])(ha:gI L n=some a):∃cs,c.rep h0 a cs/\∀j u,cs[j]?=some u->Yt h0 ⟨g,n.toNat*c.k+j,none⟩=some u:=by
 obtain⟨m,rfl,Ab⟩:=ACq ha;clear ha;have ha:=Ab;rcases HO with⟨rfl,_⟩|⟨g',Ls,hF',h2,h3,_⟩;.simp at ha
 .rw[hF]at hF';injection hF' with hg;subst hg;obtain⟨cs,hcs,hrep⟩:=h3.get ha;exact⟨cs,hrep,λj u hu=>h2.cell hcs hu⟩
theorem Agw{c:Zx α}{i:ak}{M:List (List α)}{m n:Int}{L:List α}{a:α}(hT:SlT P t el0 c.k)(hx:e.ev x=r)(HO:Yv c er el h0 F Gs rs v M)(hr:rs[m.toNat]?=some r)(hL:gI M m=some L)(hi:e.ev i=.int κ n)(ha:gI L n=some a)(H:∀g,Gs[m.toNat]?=some [g]->RL P B st ops rest (e.set d<|.pointer<|some ⟨g,n.toNat*c.k,none⟩) h K):RL P B st ops (⟨some d,.indexAddr t x i,ty,pos,af,none⟩::rest) e h K:=by obtain⟨q,rfl,hm0⟩:=ACq hL;clear hL;have hL:=hm0;obtain⟨G,hG,HR,_⟩:=HO.row hr hL;exact AIz hT hx HR hi ha λg hg=>H g<|hg▸hG
theorem Yv.cells{α:Type}{c:Zx α}{er el:Nat}{g:Nat}{F:List Nat}{Gs:List (List Nat)}{rs:List aa}{v:aa}{M:List (List α)}{m n:Int}{L:List α}{a:α}{h0:Ws}(HO:Yv c er el h0 F Gs rs v M)(hG:Gs[m.toNat]?=some [g])(hL:gI M m=some L)(ha:gI L n=some a):∃cs,c.rep h0 a cs/\∀j u,cs[j]?=some u->Yt h0 ⟨g,n.toNat*c.k+j,none⟩=some u:=by obtain⟨q,rfl,Ab⟩:=ACq hL;clear hL;have hL:=Ab;obtain⟨b,r,hF,h2,hr,hm⟩:=AXc HO hL;obtain⟨G,hG',HR,_⟩:=HO.row hr hL;rw[ai,hG']at hG;injection hG with hG;subst hG;exact HR.cells rfl ha
theorem AK5{c:Zx α}{b o:Nat}{a:α}{cs:List aa}(ht:AgT P t c.k)(hx:e.ev x=.pointer (some ⟨b,o,none⟩))(hrep:c.rep h a cs)(hc:∀j u,cs[j]?=some u->Yt h ⟨b,o+j,none⟩=some u)(H:RL P B false ops rest (e.set d<|.agg cs.toArray) h K):RL P B false ops (⟨some d,.load t x,ty,pos,af,none⟩::rest) e h K:=AQ7 cs ht (c.klen hrep) hx (λi u hu=>by rw[Zu];exact hc i u hu) H
theorem AWd{c:Zx α}{b o:Nat}{a:α}{cs:List aa}(ht:AgT P t c.k)(hx:e.ev x=.pointer (some ⟨b,o,none⟩))(hrep:c.rep h0 a cs)(hb:B h)(hB:∀h',B h'->∀j u,cs[j]?=some u->Yt h' ⟨b,o+j,none⟩=some u)(H:RL P B true ops rest (e.set d<|.agg cs.toArray) h K):RL P B true ops (⟨some d,.load t x,ty,pos,af,none⟩::rest) e h K:=AEa cs ht (c.klen hrep) hx hb λh' hb i u hu=>by rw[Zu];grind H
theorem AQh{c:Zx α}{L:List α}(hT:SlT P t el s)(hx:e.ev x=v)(HI:SlC c h0 v L)(H:RL P B st ops rest (e.set d<|.int .i64 (L.length:Int)) h K):RL P B st ops (⟨some d,.call ⟨.builtin .len,#[x],#[t]⟩,ty,pos,af,none⟩::rest) e h K:=by obtain⟨Ls,⟨a,cap,rfl,_⟩,HA⟩:=HI;rw[HA.1]at hx;exact Ab8 hT hx H
theorem AWe{c:Zx α}{M:List (List α)}(hT:SlT P t el s)(hx:e.ev x=v)(HI:Zv c h0 v M)(H:RL P B st ops rest (e.set d<|.int .i64 (M.length:Int)) h K):RL P B st ops (⟨some d,.call ⟨.builtin .len,#[x],#[t]⟩,ty,pos,af,none⟩::rest) e h K:=by obtain⟨_,rs,⟨a,cap,rfl,_⟩,hl,_⟩:=HI;rw[ci,hl]at hx;exact Ab8 hT hx H
def A0a(P:aj)(B:Ws->Prop)(st:Bool)(ops:Array av)(rest:List av)(e:Env)(h:Ws)(K:Env->Ws->Prop)(o:av)(el k g n:Nat)(row:List aa):Prop:=∀(v:aa)(L:List (List aa)),AFi h el k g v L->n<L.length->(∀h',(∀v' L',AFi h el k g v' L'->n<L'.length->AFi h' el k g v' (L'.set n row))->Upd (·=g) h h'->RL P B st ops rest e h' K)->RL P B st ops (o::rest) e h K
theorem APp{n:Nat}{row:List aa}(ht:AgT P t s)(hrow:row.length=s)(hx:e.ev x=.pointer (some ⟨g,n*s,none⟩))(hy:e.ev y=.agg row.toArray)(h1:∀u∈row,isOne u=true):A0a P B st ops rest e h K ⟨none,.store t x y,ty,pos,af,none⟩ el s g n row:=λv L HO hn H=>A51 row ht hrow hx hy h1 HO hn H
theorem AM2{n:Nat}{u:aa}(ht:NaT P t)(hx:e.ev x=.pointer (some ⟨g,n*1,none⟩))(hy:e.ev y=u)(h1:isOne u=true):A0a P B st ops rest e h K ⟨none,.store t x y,ty,pos,af,none⟩ el 1 g n [u]:=by
 intro v L HO hn H;rw[bh]at hx;have hl:∀v' L',AFi h el 1 g v' L'->n<L'.length->∃x0,L'[n]?=some [x0]:=λv' L' HO' hn'=>by
  obtain⟨_,_,_,_,_,_,_,hk,_⟩:=HO';have:=hk (L'[n]'hn')<|fp _;obtain⟨x0,Ab⟩:=eB.1 this;grind
 obtain⟨x0,Ab⟩:=hl v L HO hn;have hc:=HO.cell Ab (j:=0) (x:=x0) rfl;rw[bh,cn]at hc;refine Azx ht hx hy h1 hc (HO.free _)<|H _ (λv' L' HO' hn'=>?_)<|AM1 _ _ _;obtain⟨x1,Ad⟩:=hl v' L' HO' hn';have:=HO'.set (j:=0) u Ad Wr;grind
theorem AT9{c:Zx α}{o:av}{L:List α}{n:Int}{a a':α}{cs:List aa}(HS:A0a P B st ops rest e h K o el c.k g n.toNat cs)(HO:OwC c el h F v L)(hF:F=[g])(ha:gI L n=some a)(hrep:c.rep h a' cs)(H:∀h',OwC c el h' F v (sI L n a')->Yg F h h'->RL P B st ops rest e h' K):RL P B st ops (o::rest) e h K:=by
 obtain⟨m,rfl,Ad⟩:=ACq ha;clear ha;have ha:=Ad;rw[ai]at HS;have hnd:=HO.notD;rcases HO with⟨rfl,_⟩|⟨g',Ls,hF',h2,h3,h4⟩;.simp at ha
 .rw[hF]at hF';injection hF' with hg;subst hg;have hm:=(ab.1 ha).1;refine HS v Ls h2 (by rw[h3.1];exact hm) λh' hS hU=>?_;have h2':=hS v Ls h2 (by rw[h3.1];exact hm);have U:Yg F h h':=AMm hU (by simp[hF]) (λb hb _=>hnd b hb)<|h2'.notD h4;exact H h' (.inr ⟨g,_,hF,h2',(h3.set m hrep).upT U,h4⟩) U
theorem AUa(hn:Gs.flatten.Nodup)(hi:Gs[i]?=some [g])(hj:Gs[j]?=some G)(hg:g∈G):i=j:=by
 by_cases hij:i=j;.exact hij
 .exact absurd hg<|Ajo hn hi hj hij g W4
theorem Ams{c:Zx α}{o:av}{M:List (List α)}{m n:Int}{L:List α}{a a':α}{cs:List aa}(HS:A0a P B st ops rest e h K o el c.k g n.toNat cs)(HO:Yv c er el h F Gs rs v M)(hG:Gs[m.toNat]?=some [g])(hL:gI M m=some L)(ha:gI L n=some a)(hrep:c.rep h a' cs)(H:∀h',Yv c er el h' F Gs rs v (sI M m<|sI L n a')->Yg F h h'->RL P B st ops rest e h' K):RL P B st ops (o::rest) e h K:=by
 obtain⟨i,rfl,Ae⟩:=ACq hL;clear hL;have hL:=Ae;rw[ai]at hG;have hnd:=HO.notD;obtain⟨b,r,hFb,Am,hr,hi⟩:=AXc HO hL;obtain⟨G,hG',HR,hGF⟩:=HO.row hr hL;rw[hG]at hG';injection hG' with hG';subst hG';obtain⟨j,rfl,ha'⟩:=ACq ha;rcases HO with⟨rfl,_⟩|⟨b',hF',hn,h2,h3,h4,h5,h6⟩;.simp at hL
 rcases HR with⟨_,_,Aa⟩|⟨g',Ls,Aa,Ad,Ab,Ac⟩;.cases Aa
 injection Aa with Aa;subst Aa;have hj:=(ab.1 ha').1;rw[ai]at HS;refine HS r Ls Ad (by rw[Ab.1];exact hj) λh' hS hU=>?_;have hk2':=hS r Ls Ad (by rw[Ab.1];exact hj);have U:Yg F h h':=AMm hU (hGF g W4) (λb hb _=>hnd b hb)<|hk2'.notD Ac;have hbg:b'≠g:=λhe=>by
  rw[hF']at hn;exact(ao.1 hn).1 (he▸AAo hG W4)
 refine H h' (.inr ⟨b',hF',hn,h2.upd hU hbg,h3,by simp[sI,h4],by simp[sI,h5],λi' G' r' L' hGi hri hLi=>?_⟩) U;by_cases hii:i'=i
 .subst hii;rw[hG]at hGi;injection hGi with hGi;subst hGi;rw[hr]at hri;injection hri with hri;subst hri;have:L'=sI L (j:Int) a':=by
   simp only[sI,ai]at hLi⊢;grind
  subst this;refine .inr ⟨g,_,rfl,hk2',?_,Ac⟩;simp only[sI,ai];exact(Ab.set j hrep).upT U
 .have hLi':M[i']?=some L':=by
   simp only[sI,ai]at hLi;grind
  have U1:Yg [g] h h':=AMm hU W4 (λb hb _=>hnd b<|hGF b hb)<|hk2'.notD Ac;exact(h6 i' G' r' L' hGi hri hLi').upT U1 λx hx hxg=>by
   rw[ar.1 hxg]at hx;rw[hF']at hn;exact hii (AUa (ao.1 hn).2 hG hGi hx).symm
theorem Au0{c:Zx α}{F':List Nat}{r':aa}{M:List (List α)}{n:Int}{L L':List α}(ht:NaT P t)(HO:Yv c er el h F Gs rs v M)(hL:gI M n=some L){b:Nat}(hF:F=b::Gs.flatten)(hx:e.ev x=.pointer (some ⟨b,n.toNat,none⟩))(hy:e.ev y=r')(HR:OwC c el h F' r' L')(hd:∀z∈F',z∉F)(H:∀h',Yv c er el h' (b::(Gs.set n.toNat F').flatten) (Gs.set n.toNat F') (rs.set n.toNat r') v (sI M n L')->Yg F h h'->(∀z∈b::(Gs.set n.toNat F').flatten,z∈F++F')->RL P B st ops rest e h' K):RL P B st ops (⟨none,.store t x y,ty,pos,af,none⟩::rest) e h K:=by
 obtain⟨i,rfl,hm0⟩:=ACq hL;clear hL;have hL:=hm0;simp only[ai,sI]at hx H⊢;have hnd:=HO.notD;have hlt:=HR.lt;have hi:=(ab.1 hL).1;rcases HO with⟨rfl,_⟩|⟨b',hF',hn,h2,h3,h4,h5,h6⟩;.simp at hL
 rw[hF]at hF';injection hF' with hF';subst hF';have hsub:∀z∈b::(Gs.set i F').flatten,z∈F++F':=by
  intro z hz;rcases bA.1 hz with rfl|hz;.simp[hF]
  .rcases AG7 hz with h7|⟨j,G,_,hG,hz⟩;.simp[h7]
   .rw[hF];simp only[ca,bA,aU];exact .inr<|.inl<|AAo hG hz
 rw[hF]at hn;have hnf:=ao.1 hn;refine(AM2 (n:=i) (el:=er) (g:=b) ht (by grind) hy HR.isOne) v _ h2 (by grind) λh' hS hU=>?_;have h2':=hS v _ h2 (by grind);have U:Yg F h h':=AMm hU (by simp[hF]) (λb hb _=>hnd b hb)<|h2'.notD h3;have U1:Yg [b] h h':=AMm hU W4 (λx hx _=>hnd x<|by grind)<|h2'.notD h3;refine H h' (.inr ⟨b,rfl,?_,by simp_all,h3,by simp[h4],by simp[h5],λi' G' r2 L2 hGi hri hLi=>?_⟩) U hsub
 .refine ao.2 ⟨λhz=>?_,ALv hnf.2 HR.nodup λz hz j G _ hG hzG=>?_⟩
  .rcases AG7 hz with h7|⟨j,G,_,hG,hz⟩;.grind
   .exact hnf.1<|AAo hG hz
  .exact hd z hz (by rw[hF];exact ap _<|AAo hG hzG)
 .by_cases hii:i'=i;.subst hii;rw[bU Wq]at hGi hri hLi;injection hGi with hGi;injection hri with hri;injection hLi with hLi;subst hGi;subst hri;subst hLi;exact HR.upT U hd
  .rw[bz λhe=>hii he.symm]at hGi hri hLi;exact(h6 i' G' r2 L2 hGi hri hLi).upT U1 λz hz hzb=>by rw[ar.1 hzb]at hz;exact hnf.1<|AAo hGi hz
theorem AZe{c:Zx α}{n:Int}{z:aa}{a:α}(hT:SlT P t el 1)(hz:ZeT P el z bytes)(h1:isOne z=true)(hk:c.k=1)(hrep:∀h,c.rep h a [z])(hel:aF el 96=false)(hb:B h)(hBE:∀h',Ext h h'->B h')(hx:e.ev x=.int .i64 n)(hy:e.ev y=.int .i64 n)(hby:bytes<=1000)(hn:0<=n/\n<=100000000)(H:∀b v h',OwC c el h' [b] v (ah n.toNat a)->Ext h h'->h.size<=b->b<h'.size->RL P B st ops rest (e.set d v) h' K):RL P B st ops (⟨some d,.makeSlice t x y,ty,pos,af,none⟩::rest) e h K:=by obtain⟨m,rfl⟩:∃m:Nat,n=m:=⟨n.toNat,Wq⟩;have h2:bytes*m<=1000*100000000:=aP hby Wq;refine Arq hT hz h1 hb hx hy Wq Wq ⟨hBE _<|Zt _ _,?_⟩;rw[ai]at H;refine H h.size _ _ (.inr ⟨h.size,_,rfl,by rw[hk];exact Abi<|AQ4 h el m z (by unfold maxLen;omega),?_,hel⟩) (Zt _ _) (ay _) W4;rw[cX];exact Auy (hrep _) m
theorem AZf{n:Int}(hT:SlT P t el 2)(hz:ZeT P el (.agg #[.bool false,.slice none 0 0]) bytes)(hel:aF el 96=false)(hb:B h)(hBE:∀h',Ext h h'->B h')(hx:e.ev x=.int .i64 n)(hy:e.ev y=.int .i64 n)(hby:bytes<=1000)(hn:0<=n/\n<=100000000)(H:∀b v h',OwC cZ el h' [b] v (ah n.toNat 0)->Ext h h'->h.size<=b->b<h'.size->RL P B st ops rest (e.set d v) h' K):RL P B st ops (⟨some d,.makeSlice t x y,ty,pos,af,none⟩::rest) e h K:=by obtain⟨m,rfl⟩:∃m:Nat,n=m:=⟨n.toNat,Wq⟩;rw[ai]at H;refine A52 hT hz hb hx hy hby Wq (λh' HO E hlt _=>H h.size _ _ (.inr ⟨h.size,_,rfl,HO,Auy (c:=cZ) (show cZ.rep h' 0 _ from⟨rfl,⟨false,_,[],rfl,AOv _ _,AQf,W4,rfl⟩⟩) m,hel⟩) E (ay _) hlt)<|hBE _<|Zt _ _
theorem Au1(c:Zx α)(el:Nat){n:Int}(hT:SlT P t er 1)(hz:ZeT P er (.slice none 0 0) bytes)(her:aF er 96=false)(hb:B h)(hBE:∀h',Ext h h'->B h')(hx:e.ev x=.int .i64 n)(hy:e.ev y=.int .i64 n)(hby:bytes<=1000)(hn:0<=n/\n<=100000000)(H:∀F Gs rs v h',Yv c er el h' F Gs rs v (ah n.toNat [])->Ext h h'->Sp h' h.size [F]->RL P B st ops rest (e.set d v) h' K):RL P B st ops (⟨some d,.makeSlice t x y,ty,pos,af,none⟩::rest) e h K:=by
 obtain⟨m,rfl⟩:∃m:Nat,n=m:=⟨n.toNat,Wq⟩;rw[ai]at H;have h2:bytes*m<=1000*100000000:=aP hby Wq;refine Arq hT hz rfl hb hx hy Wq Wq ⟨hBE _<|Zt _ _,?_⟩;have hf:(ah m ([]:List Nat)).flatten=[]:=by induction m<;>simp_all[fa]
 refine H [h.size] (ah m []) (ah m<|.slice none 0 0) _ _ (.inr ⟨h.size,by rw[hf],W4,Abi<|AQ4 h er m _ (by unfold maxLen;omega),her,W4,W4,λi G r L hG hr hL=>.inl ⟨?_,?_,?_⟩⟩) (Zt _ _)<|AFj (ay _) W4;.exact ct<|aw hL
 .exact ct<|aw hr
 .exact ct<|aw hG
theorem Ar2{c:Zx α}{h:Ws}{a:α}{cs:List aa}(hrep:c.rep h a cs):(c.val cs).cells=cs.toArray:=by
 unfold Zx.val;have h1:=c.one hrep;have h2:=c.klen hrep;cases hag:c.ag with
 |true=>rfl|false=>
   rw[c.sc hag]at h2;obtain⟨u,rfl⟩:=eB.1 h2;have:=h1 u W4;simp only[cond_false,List.headD];cases u<;>first|rfl|cases this
theorem Agx{c:Zx α}{s:ak}{z:aa}{L:List α}{a:α}{cs:List aa}(hT:SlT P t el c.k)(hz:ZeT P el z bytes)(hzk:z.cells.size=c.k)(hel:aF el 96=false)(hb0:B h)(hbB:∀h',Yg F h h'->B h')(hs:∀p,(e.set d p).ev s=v)(hy:e.ev y=c.val cs)(hrep:c.rep h a cs)(HO:OwC c el h F v L)(hby:bytes<=1000)(hl:L.length<=100000000)(H:∀p F' v' h',OwC c el h' F' v' (L++[a])->Yg F h h'->(∀x∈F',x∈F∨h.size<=x)->RL P B st ops rest ((e.set d p).set d' v') h' K):RL P B st ops (⟨some d,.buildSlice t 1 #[(0,y)],ty,pos,af,none⟩::⟨some d',.call ⟨.builtin .append,#[s,.tmp d],#[t,t]⟩,ty',pos',af',none⟩::rest) e h K:=by
 have hG:∃Ls,Aun h el c.k 0 v Ls/\Al c h L Ls/\(∀x,v.ownBlock=some x->x∈F)/\∀x∈F,v.ownBlock=some x:=by
  rcases HO with⟨rfl,rfl,rfl⟩|⟨g,Ls,rfl,h2,h3,h4⟩;.exact⟨[],.inl ⟨rfl,rfl⟩,Aux c h,(λx hx=>by cases hx),λx hx=>by simp at hx⟩
  .exact⟨Ls,.inr ⟨g,ce _,h2⟩,h3,λx hx=>by rw[h2.blk]at hx;injection hx with hx;simp[hx],λx hx=>by rw[ar.1 hx];exact h2.blk⟩
 obtain⟨Ls,HG,HA,hFb,hbF⟩:=hG;have hnd:=HO.notD;have key:∀h',PU el v h h'->Yg F h h':=λh' U=>⟨⟨U.1.1,λk hk hkF=>U.1.2 k hk λhv=>hkF<|hFb k hv⟩,λx hx hl=>⟨hnd x hx,by obtain⟨cur,hc⟩:=U.2 x<|hbF x hx;exact⟨_,hc,hel⟩⟩⟩;refine Ape (B:=B) (lo:=0) cs hT hz hzk hb0 (λh' U=>hbB h'<|key h' U) hs hy (Ar2 hrep) (c.klen hrep) (c.one hrep) c.pos c.le HG (ce _) hby (by rw[HA.1];exact hl) λp v' h' HG' U hv'=>?_;have UT:=key h' U;rcases HG' with⟨h1,_⟩|⟨g',_,HO'⟩;.simp at h1
 .refine H p [g'] v' h' (.inr ⟨g',_,rfl,HO',(HA.upT UT).push (c.upT hrep UT),hel⟩) UT λx hx=>?_;rw[ar.1 hx];rcases hv' with h1|⟨g2,h1,h2⟩;.exact .inl<|hFb _<|h1▸HO'.blk
  .rw[HO'.blk]at h1;injection h1 with h1;exact .inr Wq
theorem Apf{c:Zx α}{s:ak}{z:aa}{F0:List Nat}{M:List (List α)}{L:List α}(hT:SlT P t er 1)(hz:ZeT P er z bytes)(hzk:z.cells.size=1)(her:aF er 96=false)(hb0:B h)(hbB:∀h',Yg F h h'->B h')(hs:∀p,(e.set d p).ev s=v)(hy:e.ev y=r)(HR:OwC c el h F0 r L)(HO:Yv c er el h F Gs rs v M)(hdj:∀x∈F0,x∉F)(hby:bytes<=1000)(hl:M.length<=100000000)(H:∀p F' v' h',Yv c er el h' F' (Gs++[F0]) (rs++[r]) v' (M++[L])->Yg F h h'->(∀x∈F',x∈F++F0∨h.size<=x)->RL P B st ops rest ((e.set d p).set d' v') h' K):RL P B st ops (⟨some d,.buildSlice t 1 #[(0,y)],ty,pos,af,none⟩::⟨some d',.call ⟨.builtin .append,#[s,.tmp d],#[t,t]⟩,ty',pos',af',none⟩::rest) e h K:=by
 have hnd:=HO.notD;have hnd0:=HR.notD;have hlt0:=HR.lt;have hlt:=HO.lt;have hG:∃bs:List Nat,Aun h er 1 0 v (rs.map λr=>[r])/\F=bs++Gs.flatten/\(∀x,v.ownBlock=some x->bs=[x])/\(∀x∈bs,v.ownBlock=some x)/\rs.length=M.length/\Gs.length=M.length/\F.Nodup/\∀(i:Nat)(G:List Nat)(r:aa)(L:List α),Gs[i]?=some G->rs[i]?=some r->M[i]?=some L->OwC c el h G r L:=by
  rcases HO with⟨rfl,rfl,rfl,rfl,rfl⟩|⟨b,rfl,hn,h2,h3,h4,h5,h6⟩;.exact⟨[],.inl ⟨rfl,rfl⟩,rfl,(λx hx=>by cases hx),λx hx=>by simp at hx,rfl,rfl,W4,λi G r L hG=>by simp at hG⟩
  .exact⟨[b],.inr ⟨b,ce _,h2⟩,rfl,λx hx=>by rw[h2.blk]at hx;injection hx with hx;rw[hx],λx hx=>by rw[ar.1 hx];exact h2.blk,h4,h5,hn,h6⟩
 obtain⟨bs,HG,hF,hFb,hbF,h4,h5,hn,h6⟩:=hG;have key:∀h',PU er v h h'->Yg bs h h':=λh' U=>⟨⟨U.1.1,λk hk hkF=>U.1.2 k hk λhv=>hkF (by rw[hFb k hv];simp)⟩,λx hx hl=>⟨hnd x (by rw[hF];simp[hx]),by obtain⟨cur,hc⟩:=U.2 x<|hbF x hx;exact⟨_,hc,her⟩⟩⟩;have keyF:∀h',Yg bs h h'->Yg F h h':=λh' U=>U.mono λx hx=>by rw[hF];simp[hx] λx hx _=>hnd x hx;have hone:=HR.isOne;have hvc:r.cells=[r].toArray:=by cases r<;>first|rfl|cases hone
 refine Ape (B:=B) (lo:=0) [r] hT hz hzk hb0 (λh' U=>hbB h'<|keyF h'<|key h' U) hs hy hvc rfl (λx hx=>by rw[ar.1 hx];exact hone) Wr Wr HG (ce _) hby (by rw[ci,h4];exact hl) λp v' h' HG' U hv'=>?_;have UT:=key h' U;rcases HG' with⟨h1,_⟩|⟨b',_,HO'⟩;.simp at h1
 have hsub:b'∈F∨h.size<=b':=by
  rcases hv' with h1|⟨g2,h1,h2⟩;.have:=hFb b'<|h1▸HO'.blk;rw[this]at hF;exact .inl (by rw[hF];simp)
  .rw[HO'.blk]at h1;injection h1 with h1;exact .inr Wq
 have hbG:b'∉Gs.flatten:=λhm=>by
  rcases hv' with h1|⟨g2,h1,h2⟩;.have:=hFb b'<|h1▸HO'.blk;rw[hF,this]at hn;exact(ao.1 hn).1 hm
  .rw[HO'.blk]at h1;injection h1 with h1;have:=hlt b' (by rw[hF];simp[hm]);omega
 have hbF0:b'∉F0:=λhm=>by
  rcases hsub with h1|h1;.exact hdj b' hm h1
  .have:=hlt0 b' hm;omega
 have hnG:Gs.flatten.Nodup:=by rw[hF]at hn;exact(aL.1 hn).2.1
 refine H p (b'::(Gs++[F0]).flatten) v' h' (.inr ⟨b',rfl,?_,by rw[dL];exact HO',her,by simp[h4],by simp[h5],λi G r2 L2 hGi hri hLi=>?_⟩) (keyF h' UT) λx hx=>?_;.refine ao.2 ⟨by simp[hbG,hbF0],?_⟩;simp only[bD,ax,cx,cE];exact aL.2 ⟨hnG,HR.nodup,λx hx y hy he=>hdj y hy (by rw[hF];simp[he▸hx])⟩
 .rcases bV i M.length with hi|hi
  .rw[bx Wq]at hGi hri hLi;exact(h6 i G r2 L2 hGi hri hLi).upT UT λx hx hxb=>by have hxo:=hbF x hxb;have hb1:=hFb x hxo;rw[hF,hb1]at hn;exact(ao.1 hn).1 (AAo hGi hx)
  .rw[bo Wq]at hGi hri hLi;have:i-M.length=0:=by have:=(ab.1 hLi).1;simp at this;omega
   rw[show i-Gs.length=0 by omega]at hGi;rw[show i-rs.length=0 by omega]at hri;rw[this]at hLi;injection hGi with hGi;injection hri with hri;injection hLi with hLi;subst hGi;subst hri;subst hLi;exact HR.upT UT λx hx hxb=>hdj x hx (by rw[hF];simp[hxb])
 .simp only[bD,ax,cx,cE,bA,aU]at hx;rcases hx with rfl|hx|hx
  .rcases hsub with h1|h1;.exact .inl (by simp[h1])
   .exact .inr h1
  .exact .inl (by rw[hF];simp[hx])
  .exact .inl (by simp[hx])
theorem Acq(l:List aa)(hb:B h)(hBE:∀h',Ext h h'->B h')(hx:e.ev x=v)(hl:v.cells=l.toArray)(H:∀b h',Yz t h' b l->Ext h h'->Sp h' h.size [[b]]->RL P B st ops rest (e.set d<|.pointer<|some ⟨b,0,none⟩) h' K):RL P B st ops (⟨some d,.box t x,ty,pos,af,none⟩::rest) e h K:=by refine A4i hb hx ⟨hBE _<|Zt _ _,?_⟩;exact H h.size _ (by unfold Yz;rw[hl];simp) (Zt _ _)<|AFj (ay _) W4
theorem ARe{z:aa}(l:List aa)(hz:ZeT P t z bytes)(hl:z.cells=l.toArray)(hb:B h)(hBE:∀h',Ext h h'->B h')(H:∀b h',Yz t h' b l->Ext h h'->Sp h' h.size [[b]]->RL P B st ops rest (e.set d<|.pointer<|some ⟨b,0,none⟩) h' K):RL P B st ops (⟨some d,.alloc t,ty,pos,af,none⟩::rest) e h K:=by refine Ao6 hz hb ⟨hBE _<|Zt _ _,?_⟩;exact H h.size _ (by unfold Yz;rw[hl];simp) (Zt _ _)<|AFj (ay _) W4
theorem ADs(hb:B h)(hBE:∀h',Ext h h'->B h')(hxs:xs.map e.ev=l)(HC:W6 P f l.toArray h λx h'=>Ext h h'/\K' x h')(H:∀v h',Ext h h'->K' v h'->RL P B st ops rest (e.set d v) h' K):RL P B st ops (⟨some d,.call ⟨.value<|.func f,xs.toArray,ts⟩,ty,pos,af,none⟩::rest) e h K:=Xf hb hxs HC λv h' hk=>⟨hBE _ hk.1,H v h' hk.1 hk.2⟩
theorem X3(h:Ws):cZ.rep h 0 [.bool false,.slice none 0 0]:=⟨rfl,⟨false,_,[],rfl,AOv _ _,AQf,W4,rfl⟩⟩
end
theorem A0b(a b:Int):Agn .lss a b=some (decide (a<b)):=rfl
theorem A0c(a b:Int):Agn .leq a b=some (decide (a<=b)):=rfl
theorem A0d(a b:Int):Agn .gtr a b=some (decide (b<a)):=rfl
theorem Apg(a b:Int):Agn .geq a b=some (decide (b<=a)):=rfl
theorem A0e(a b:Int):Agn .eql a b=some (decide (a=b)):=by show some _=some _;grind
theorem A0f(a b:Int):Agn .neq a b=some (decide ¬a=b):=by show some (a !=b)=some _;grind
theorem SlC.isOne{α:Type}{c:Zx α}{h:Ws}{v:aa}{L:List α}(H:SlC c h v L):isOne v=true:=by obtain⟨Ls,⟨a,cap,rfl,_⟩,_⟩:=H;rfl
theorem Zv.isOne{α:Type}{c:Zx α}{h:Ws}{v:aa}{L:List (List α)}(H:Zv c h v L):isOne v=true:=by obtain⟨_,Ls,⟨a,cap,rfl,_⟩,_⟩:=H;rfl
theorem Yv.rowG{c:Zx α}{M:List (List α)}(H:Yv c er el h F Gs rs v M){i:Int}{L:List α}(hL:gI M i=some L):∃G,Gs[i.toNat]?=some G/\(∀x∈G,x∈F)/\(∀x∈G,AKf h x)/\∀b,F=b::Gs.flatten->b∉G:=by have hnd:=H.notD;have hn:=H.nodup;obtain⟨n,rfl,hL⟩:=ACq hL;obtain⟨b,r,hF,h2,hr,hm⟩:=AXc H hL;obtain⟨G,hG,HR,hGF⟩:=H.row hr hL;refine⟨G,hG,hGF,λx hx=>hnd x<|hGF x hx,λb' hb' hm'=>?_⟩;rw[hb']at hn;exact(ao.1 hn).1 (AAo hG hm')
def swp(i j k:Nat):Nat:=if k=i then j else if k=j then i else k
theorem A0g{k l:Nat}(h:swp i j k=swp i j l):k=l:=by unfold swp at h;grind
theorem Acr{β:Type}{L:List β}{a b:β}(ha:L[i]?=some a)(hb:L[j]?=some b)(k:Nat):((L.set i b).set j a)[k]?=L[swp i j k]?:=by have hi:=(ab.1 ha).1;have hj:=(ab.1 hb).1;unfold swp;grind
theorem Ajr:∀{Gs:List (List Nat)},(∀(i:Nat)(G:List Nat),Gs[i]?=some G->G.Nodup)->(∀(i j:Nat)(G H:List Nat),i≠j->Gs[i]?=some G->Gs[j]?=some H->∀x∈G,x∉H)->Gs.flatten.Nodup:=by
 intro Gs;induction Gs with
 |nil=>intro _ _;simp|cons G Gs ih=>
   intro h1 h2;rw[ax];refine aL.2 ⟨h1 0 G rfl,ih (λi H hi=>h1 (i+1) H<|by simpa using hi) λi j A B hij hA hB=>h2 (i+1) (j+1) A B Wq (by simpa using hA) (by simpa using hB),λx hx y hy he=>?_⟩;obtain⟨H,hH,hyH⟩:=bE.1 hy;obtain⟨j,hj⟩:=aI hH;exact h2 0 (j+1) G H Wq rfl (by simpa using hj) x hx (he▸hyH)
section
variable{P:aj}{B:Ws->Prop}{st:Bool}{ops:Array av}{rest:List av}{e:Env}{h:Ws}{K:Env->Ws->Prop}
variable{d d' d2:Nat}{ty ty' ty2 ty3:am}{pos pos' pos2 pos3:String}{af af' af2 af3:Array Edge}
theorem Afd{c:Zx α}{i:ak}{d':Nat}{v1:aa}{m:Nat}{F1:List Nat}{M:List (List α)}{L L1:List α}{h1:Ws}(hTr:SlT P tr er0 1)(htl:NaT P tl)(HO:Yv c er el h0 F Gs rs v M)(hL0:M[m]?=some L)(hG:Gs[m]?=some G)(HR1:OwC c el h1 F1 v1 L1)(U1:Yg G h0 h1)(hF1:∀x∈F1,x∈G∨h0.size<=x)(hx:e.ev x=v)(hi:e.ev i=.int κ (m:Int))(hd1:∀w,(e.set d2 w).ev (.tmp d')=v1)(H:∀q F' Gs' rs' h',Yv c er el h' F' Gs' rs' v (sI M m L1)->Yg F h0 h'->(∀x∈F',x∈F∨h0.size<=x)->RL P B st ops rest (e.set d2 q) h' K):RL P B st ops (⟨some d2,.indexAddr tr x i,ty2,pos2,af2,none⟩::⟨none,.store tl (.tmp d2)<|.tmp d',ty3,pos3,af3,none⟩::rest) e h1 K:=by
 have hnd:=HO.notD;have hlt:=HO.lt;have hn:=HO.nodup;obtain⟨b,r0,hFb,hb2,hr0,hm⟩:=AXc HO hL0;obtain⟨G',hG',_,hGF⟩:=HO.row hr0 hL0;rw[hG]at hG';injection hG' with hG';subst hG';have hbG:b∉G:=λhm'=>by rw[hFb]at hn;exact(ao.1 hn).1 (AAo hG hm')
 have HO':=HO;rcases HO' with⟨rfl,_⟩|⟨b',hF',_,h2,h3,h4,h5,h6⟩;.simp at hL0
 rw[hFb]at hF';injection hF' with hF';subst hF';have h21:=h2.upd (S:=(·∈G)) U1.1 hbG;have hml:m<M.length:=(ab.1 hL0).1;refine AXb (er:=er) (n:=m) hTr hx h21 hi (by simpa using hm) ?_;rw[bh];have hd2:(e.set d2<|.pointer<|some ⟨b,m,none⟩).ev (.tmp d2)=.pointer (some ⟨b,m,none⟩):=Env.set_same _ _ _;refine(AM2 (n:=m) (el:=er) (g:=b) htl (by grind) (hd1 _) HR1.isOne) v _ h21 (by simpa using hm) λh' hS hU=>?_;have h22:=hS v _ h21 (by simpa using hm);have hnd1:∀x∈F,AKf h1 x:=λx hx=>(hnd x hx).of U1;have U2:Yg [b] h1 h':=AMm hU W4 (λx hx _=>hnd1 x<|by grind)<|h22.notD h3;have UF:Yg F h0 h':=(U1.mono hGF λx hx _=>hnd x hx).then U2 λx hx=>.inl (by grind);have hbF1:b∉F1:=λhm'=>by grind
 have hsub:∀x∈b::(Gs.set m F1).flatten,x∈F∨h0.size<=x:=by
  intro z hz;rcases bA.1 hz with rfl|hz;.grind
  .rcases AG7 hz with h7|⟨j,G2,_,hG2,hz⟩;.grind
   .exact .inl (by rw[hFb];exact ap _<|AAo hG2 hz)
 have hn2:=hn;rw[hFb]at hn2;have hnf:=ao.1 hn2;refine H _ (b::(Gs.set m F1).flatten) (Gs.set m F1) (rs.set m v1) h' (.inr ⟨b,rfl,?_,by simp_all,h3,by simp[sI,h4],by simp[sI,h5],λi' G2 r2 L2 hGi hri hLi=>?_⟩) UF hsub
 .refine ao.2 ⟨λhz=>?_,ALv hnf.2 HR1.nodup λz hz j G2 hj hG2 hzG=>?_⟩
  .rcases AG7 hz with h7|⟨j,G2,_,hG2,hz⟩;.exact hbF1 h7
   .exact hnf.1<|AAo hG2 hz
  .rcases hF1 z hz with h7|h7;.exact Ajo hnf.2 hG hG2 (λhe=>hj he.symm) z h7 hzG
   .have:=hlt z (by rw[hFb];exact ap _<|AAo hG2 hzG);omega
 .by_cases hii:i'=m;.subst hii;rw[bU Wq]at hGi hri;simp only[sI,ai]at hLi;rw[bU Wq]at hLi;injection hGi with hGi;injection hri with hri;injection hLi with hLi;subst hGi;subst hri;subst hLi;exact HR1.upT U2 λz hz hzb=>hbF1<|ar.1 hzb▸hz
  .rw[bz λhe=>hii he.symm]at hGi hri;simp only[sI,ai]at hLi;rw[bz λhe=>hii he.symm]at hLi;exact((h6 i' G2 r2 L2 hGi hri hLi).upT U1 λz hz hzG=>Ajo hnf.2 hGi hG hii z hz hzG).upT U2 λz hz hzb=>by rw[ar.1 hzb]at hz;exact hnf.1<|AAo hGi hz
theorem Afe{c:Zx α}{s i:ak}{z:aa}{n:Int}{M:List (List α)}{L:List α}{a:α}{cs:List aa}(hT:SlT P t el c.k)(hz:ZeT P el z bytes)(hzk:z.cells.size=c.k)(hel:aF el 96=false)(hTr:SlT P tr er0 1)(htl:NaT P tl)(HO:Yv c er el h F Gs rs v M)(hr:rs[n.toNat]?=some r)(hL:gI M n=some L)(hG:Gs[n.toNat]?=some G)(hb0:B h)(hbB:∀h',Yg G h h'->B h')(hs:∀p,(e.set d p).ev s=r)(hy:e.ev y=c.val cs)(hrep:c.rep h a cs)(hx:∀p w,((e.set d p).set d' w).ev x=v)(hi:∀p w,((e.set d p).set d' w).ev i=.int κ n)(hdd:aF d' d2=false)(hby:bytes<=1000)(hl:L.length<=100000000)(H:∀p q F' Gs' rs' v' h',Yv c er el h' F' Gs' rs' v (sI M n<|L++[a])->Yg F h h'->(∀x∈F',x∈F∨h.size<=x)->RL P B st ops rest (((e.set d p).set d' v').set d2 q) h' K):RL P B st ops (⟨some d,.buildSlice t 1 #[(0,y)],ty,pos,af,none⟩::⟨some d',.call ⟨.builtin .append,#[s,.tmp d],#[t,t]⟩,ty',pos',af',none⟩::⟨some d2,.indexAddr tr x i,ty2,pos2,af2,none⟩::⟨none,.store tl (.tmp d2)<|.tmp d',ty3,pos3,af3,none⟩::rest) e h K:=by
 obtain⟨m,rfl,hL0⟩:=ACq hL;rw[ai]at hr hG;obtain⟨G',hG',HR,hGF⟩:=HO.row hr hL0;rw[hG]at hG';injection hG' with hG';subst hG';refine Agx hT hz hzk hel hb0 hbB hs hy hrep HR hby hl λp F1 v1 h1 HR1 U1 hF1=>?_;exact Afd hTr htl HO hL0 hG HR1 U1 hF1 (hx p v1) (hi p v1) λw=>by show(bif aF d' d2 then _ else bif aF d' d' then _ else _)=_;rw[hdd,Nat.beq_eq.mpr rfl];rfl λq F' Gs' rs' h' H1 H2 H3=>H p q F' Gs' rs' v1 h' H1 H2 H3
theorem Amt{c:Zx α}{x1 x2 y1 y2 i1 i2:ak}{r1 r2:aa}{κ1 κ2:dp}{n1 n2:Int}{M:List (List α)}{L1 L2:List α}(hTr:SlT P tr er0 1)(htl:NaT P tl)(HO:Yv c er el h F Gs rs v M)(hr1:rs[n1.toNat]?=some r1)(hr2:rs[n2.toNat]?=some r2)(hL1:gI M n1=some L1)(hL2:gI M n2=some L2)(hx1:e.ev x1=v)(hi1:e.ev i1=.int κ1 n1)(hy1:∀p,(e.set d p).ev y1=r2)(hx2:∀p,(e.set d p).ev x2=v)(hi2:∀p,(e.set d p).ev i2=.int κ2 n2)(hy2:∀p q,((e.set d p).set d' q).ev y2=r1)(H:∀p q F' Gs' rs' h',Yv c er el h' F' Gs' rs' v (sI (sI M n1 L2) n2 L1)->Yg F h h'->(∀x∈F',x∈F∨h.size<=x)->RL P B st ops rest ((e.set d p).set d' q) h' K):RL P B st ops (⟨some d,.indexAddr tr x1 i1,ty,pos,af,none⟩::⟨none,.store tl (.tmp d) y1,ty',pos',af',none⟩::⟨some d',.indexAddr tr x2 i2,ty2,pos2,af2,none⟩::⟨none,.store tl (.tmp d') y2,ty3,pos3,af3,none⟩::rest) e h K:=by
 obtain⟨m1,rfl,hM1⟩:=ACq hL1;obtain⟨m2,rfl,hM2⟩:=ACq hL2;rw[ai]at hr1 hr2;have hnd:=HO.notD;have hlt:=HO.lt;have hn:=HO.nodup;have hm1:=(ab.1 hM1).1;have hm2:=(ab.1 hM2).1;obtain⟨G1,hG1,HR1,hGF1⟩:=HO.row hr1 hM1;obtain⟨G2,hG2,HR2,hGF2⟩:=HO.row hr2 hM2;rcases HO with⟨rfl,_⟩|⟨b,hF,_,h2,h3,h4,h5,h6⟩;.simp at hM1
 rw[hF]at hn;have hnf:=ao.1 hn;refine AXb (er:=er) (n:=m1) hTr hx1 h2 hi1 (by grind) ?_;rw[bh];refine(AM2 (n:=m1) (el:=er) (g:=b) htl (by rw[bh];exact Env.set_same _ _ _) (hy1 _) HR2.isOne) v _ h2 (by grind) λh1 hS1 hU1=>?_;have h21:=hS1 v _ h2 (by grind);refine AXb (er:=er) (n:=m2) hTr (hx2 _) h21 (hi2 _) (by grind) ?_;rw[bh];refine(AM2 (n:=m2) (el:=er) (g:=b) htl (by rw[bh];exact Env.set_same _ _ _) (hy2 _ _) HR1.isOne) v _ h21 (by grind) λh' hS2 hU2=>?_;have h22:=hS2 v _ h21 (by grind);have N1:Yg [b] h h1:=AMm hU1 W4 (λx hx _=>hnd x<|by grind)<|h21.notD h3;have N2:Yg [b] h1 h':=AMm hU2 W4 (λx hx hl=>(hnd x<|by grind).of N1)<|h22.notD h3;have N:Yg [b] h h':=N1.then N2 λx hx=>.inl hx;have UF:Yg F h h':=N.mono λx hx=>by grind λx hx _=>hnd x hx;have gG:=λk=>Acr (L:=Gs) hG1 hG2 k;have gR:=λk=>Acr (L:=rs) hr1 hr2 k;have gM:=λk=>Acr (L:=M) hM1 hM2 k;have hsub:∀x∈b::((Gs.set m1 G2).set m2 G1).flatten,x∈F:=by
  intro z hz;rw[hF];rcases bA.1 hz with rfl|hz;.simp
  .obtain⟨G,hG,hzG⟩:=bE.1 hz;obtain⟨k,hk⟩:=aI hG;rw[gG]at hk;exact ap _<|AAo hk hzG
 refine H _ _ (b::((Gs.set m1 G2).set m2 G1).flatten) ((Gs.set m1 G2).set m2 G1) ((rs.set m1 r2).set m2 r1) h' (.inr ⟨b,rfl,?_,?_,h3,by simp[sI,h4],by simp[sI,h5],λk G r L hG hr hL=>?_⟩) UF λx hx=>.inl<|hsub x hx
 .refine ao.2 ⟨λhz=>?_,Ajr (λk G hk=>?_) λk l G G' hkl hk hl x hx hx'=>?_⟩;.obtain⟨G,hG,hzG⟩:=bE.1 hz;obtain⟨k,hk⟩:=aI hG;rw[gG]at hk;exact hnf.1<|AAo hk hzG
  .grind
  .rw[gG]at hk hl;exact Ajo hnf.2 hk hl (λhe=>hkl<|A0g he) x hx hx'
 .simp_all
 .simp only[sI,ai]at hL;rw[gG]at hG;rw[gR]at hr;rw[gM]at hL;exact(h6 _ G r L hG hr hL).upT N λx hx hxb=>by rw[ar.1 hxb]at hx;exact hnf.1<|AAo hG hx
end
theorem Au2{a:Nat}{B:List Nat}(h1:a∉A)(h2:a∉B):a∉A++B:=λh=>by grind
theorem Au3{a:Nat}:a∉([]:List Nat):=by simp
theorem SlC.shape{c:Zx α}{L:List α}(H:SlC c h v L):∃a n cap,v=.slice a n cap:=by obtain⟨Ls,⟨a,cap,rfl,_⟩,_⟩:=H;grind
theorem Zv.shape{c:Zx α}{L:List (List α)}(H:Zv c h v L):∃a n cap,v=.slice a n cap:=by obtain⟨_,Ls,⟨a,cap,rfl,_⟩,_⟩:=H;grind
def Zm:Nat:=4294967296^99
def AJx(op:fv)(k:dp)(a b:Int):Int:=match op with|.and=>k.wrap ((aV k.bits a&&&aV k.bits b).toNat:Int)|.or=>k.wrap ((aV k.bits a|||aV k.bits b).toNat:Int)|.xor=>k.wrap ((aV k.bits a^^^aV k.bits b).toNat:Int)|.andNot=>k.wrap ((aV k.bits a&&&~~~aV k.bits b).toNat:Int)|_=>0
theorem Au4(op:fv)(k:dp)(a b:Int)(hop:op=.and∨op=.or∨op=.xor∨op=.andNot)(w:aK):(dZ op k a b).run P w=.ok (.int k<|AJx op k a b) w:=by rcases hop with rfl|rfl|rfl|rfl<;>rfl
section
variable{P:aj}{B:Ws->Prop}{st:Bool}{ops:Array av}{rest:List av}{e:Env}{h:Ws}{K:Env->Ws->Prop}
variable{d d':Nat}{ty ty':am}{pos pos':String}{af af':Array Edge}
theorem Au5{t:am}{n:Int}(hx:e.ev x=.int k a)(hy:e.ev y=.int k' n)(hn:0<=n/\n<=k.bits)(H:RL P B st ops rest (e.set d<|.int k<|k.wrap<|a*2^n.toNat) h K):RL P B st ops (⟨some d,.binOp .shl t x y t2,ty,pos,af,none⟩::rest) e h K:=by obtain⟨m,rfl⟩:∃m:Nat,n=m:=⟨n.toNat,Wq⟩;rw[ai]at H;exact Afb hx hy Wq H
theorem Au6{t:am}{n:Int}(hx:e.ev x=.int k a)(hy:e.ev y=.int k' n)(hn:0<=n/\n<=k.bits)(H:RL P B st ops rest (e.set d<|.int k<|a/2^n.toNat) h K):RL P B st ops (⟨some d,.binOp .shr t x y t2,ty,pos,af,none⟩::rest) e h K:=by obtain⟨m,rfl⟩:∃m:Nat,n=m:=⟨n.toNat,Wq⟩;rw[ai]at H;exact Aak hx hy Wq H
theorem A53{op:fv}{t:am}{b:Int}(hx:e.ev x=.int k a)(hy:e.ev y=.int k b)(hop:op=.and∨op=.or∨op=.xor∨op=.andNot)(H:RL P B st ops rest (e.set d<|.int k<|AJx op k a b) h K):RL P B st ops (⟨some d,.binOp op t x y t2,ty,pos,af,none⟩::rest) e h K:=AT4 hx hy hop (Au4 op k a b hop) H
theorem A54{c:Zx α}{u:aa}{L:List α}{n:Int}{a a':α}(ht:NaT P t)(hx:e.ev x=.pointer (some ⟨g,n.toNat*c.k+j,none⟩))(hy:e.ev y=u)(h1:isOne u=true)(hj:j<c.k)(HO:OwC c el h F v L)(hF:F=[g])(ha:gI L n=some a)(hrep:∀cs,c.rep h a cs->c.rep h a' (cs.set j u))(H:∀h',OwC c el h' F v (sI L n a')->Yg F h h'->RL P B st ops rest e h' K):RL P B st ops (⟨none,.store t x y,ty,pos,af,none⟩::rest) e h K:=by
 have hnd:=HO.notD;obtain⟨m,rfl,ham⟩:=ACq ha;rw[ai]at hx;rcases HO with⟨rfl,_⟩|⟨g',Ls,hF',h2,h3,h4⟩;.simp at ham
 rw[hF]at hF';injection hF' with hg;subst hg;obtain⟨cs,hcs,hr⟩:=h3.get ham;have hm:=(ab.1 hcs).1;obtain⟨x0,hx0⟩:∃x0,cs[j]?=some x0:=⟨cs[j]'(by rw[c.klen hr];exact hj),ae _⟩;refine Azx ht hx hy h1 (h2.cell hcs hx0) (h2.free _) ?_;have h2':=h2.set u hcs hj;have U:Yg F h (AVp h ⟨g,m*c.k+j,none⟩ u):=AMm (AM1 _ _ _) (by simp[hF]) (λb hb _=>hnd b hb)<|h2'.notD h4;refine H _ (.inr ⟨g,_,hF,h2',?_,h4⟩) U;rw[sI,ai];exact(h3.set m<|hrep cs hr).upT U
theorem Au7{c:Zx α}{s:ak}{z:aa}{L:List α}(hT:SlT P t el c.k)(hz:ZeT P el z bytes)(hzk:z.cells.size=c.k)(hel:aF el 96=false)(hb:B h)(hBE:∀h',Ext h h'->B h')(hs:e.ev s=.slice none 0 0)(hx:e.ev x=xv)(HX:SlC c h xv L)(hby:bytes<=1000)(hl:L.length<=100000000)(H:∀F v' h',OwC c el h' F v' L->Ext h h'->Sp h' h.size [F]->RL P B st ops rest (e.set d v') h' K):RL P B st ops (⟨some d,.call ⟨.builtin .append,#[s,x],#[t,t]⟩,ty,pos,af,none⟩::rest) e h K:=by
 obtain⟨Ls,⟨xa,xc,rfl,hxc⟩,HA⟩:=HX;refine AJc rfl rfl hb λw hw=>?_;subst hw;obtain⟨hu,i0,hi0,hs0⟩:=hT;obtain⟨i,hi,hzz,hsz,hbyy⟩:=hz;rw[hi]at hi0;injection hi0 with hi0;subst hi0;by_cases hL:Ls=[]
 .subst hL;have hLn:L=[]:=by have:=HA.1;exact cb this.symm
  subst hLn;have hrun:(execOp e.ev ⟨some d,.call ⟨.builtin .append,#[s,x],#[t,t]⟩,ty,pos,af,none⟩).run P w=.ok (.value<|.slice none 0 0) w:=by
   have hc:(eM i.size 0<|.slice xa 0 xc).run P w=.ok #[] w:=by cases xa with
    |none=>exact run_firstCells_none (P:=P) w _ 0 0 xc|some a=>exact run_firstCells_some (P:=P) w i.size 0 a 0 xc [] W4 λj v hj=>by simp at hj
   simp only[dM]at hx;simp[execOp,resolve,invoke,builtin,hs,hx,bR,AGk hu,AK3 hi,fu,hc]
  rw[hrun];exact⟨⟨rfl,rfl,rfl⟩,hb,H [] _ _ (AU6 c el _) (Ext.refl _) ⟨W4,λb hb=>by simp at hb⟩⟩
 .have hlen:0<Ls.length:=List.length_pos_iff.2 hL;have hk:∀r∈Ls,r.length=c.k:=λr hr=>by obtain⟨q,hq⟩:=aI hr;have hql:=(ab.1 hq).1;exact c.klen<|HA.2 q r (L[q]'(by rw[<-HA.1];exact hql)) hq<|ae _
  obtain⟨r0,hr0⟩:∃r0,Ls[0]?=some r0:=⟨Ls[0],ae _⟩;obtain⟨b,o,rfl,_⟩:=hxc 0 r0 hr0;have hnews:∀q u,Ls.flatten[q]?=some u->w.cell? ((⟨b,o,none⟩:Addr).add q)=some u:=λq u hq=>by
   have hqk:q/c.k<Ls.length:=by have hq':=(ab.1 hq).1;rw[AGm hk]at hq';exact Nat.div_lt_of_lt_mul (by rw[fU];exact hq')
   obtain⟨row,hrow⟩:∃row,Ls[q/c.k]?=some row:=⟨Ls[q/c.k],ae hqk⟩;have hrl:=hk row<|aw hrow;have hmod:=dW q c.pos;have hg:=ARb hk hrow (j:=q%c.k) (x:=row[q%c.k]'Wq)<|ae _;have e1:q/c.k*c.k+q%c.k=q:=by rw[fU];exact dP q c.k
   rw[e1,hq]at hg;injection hg with hg;obtain⟨b',o',hbo,hcell⟩:=hxc (q/c.k) row hrow;injection hbo with hbo;injection hbo with hb1 hb2;subst hb1;subst hb2;have:=hcell (q%c.k) u (by rw[hg];exact ae _);rw[Zu,ATz];rw[Nat.add_assoc,e1]at this;exact this
  have hmul:Ls.length*bytes<=100000000*1000:=aP (by rw[HA.1];exact hl) hby;have hr:=run_append_nil (P:=P) w t ty el i z hu hi hzz ⟨b,o,none⟩ Ls.length xc Ls.flatten (by rw[AGm hk,hs0]) hnews hlen (by rw[HA.1];omega) (by rw[hbyy];omega);have hrun:(execOp e.ev ⟨some d,.call ⟨.builtin .append,#[s,x],#[t,t]⟩,ty,pos,af,none⟩).run P w=.ok (.value<|.slice (some ⟨w.heap.size,0,none⟩) Ls.length<|grownCap w Ls.length 0 el) (w.drew.alloc<|.cells (Ls.flatten.toArray++aH z.cells (grownCap w Ls.length 0 el-Ls.length)) el):=by simp[execOp,resolve,invoke,builtin,hs,hx,hr]
  rw[hrun];have hge:=grownCap_ge w Ls.length 0 el;have hcm':grownCap w Ls.length 0 el<=maxLen:=grownCap_le_maxLen w _ _ el (by unfold maxLen;rw[HA.1];omega);have E:Ext w.heap (w.drew.alloc<|.cells (Ls.flatten.toArray++aH z.cells (grownCap w Ls.length 0 el-Ls.length)) el).heap:=⟨W4,λk hk=>heap_alloc_old w.drew _ k hk⟩;refine⟨⟨rfl,rfl,rfl⟩,hBE _ E,H [w.heap.size] _ _ (.inr ⟨w.heap.size,Ls,rfl,⟨_,_,rfl,heap_alloc_new w.drew _,hge,hcm',?_,hk,?_⟩,HA.upT E.upT,hel⟩) E<|AFj (ay _) W4⟩;.rw[cr,size_zeroCells,hzk,ba,AGm hk,eY];have:=aJ c.k hge;omega
  .simp only[eU];rw[<-AGm hk];exact List.take_left
end
def over{α:Type}:List α->Nat->List α->List α|l,0,[]=>l|[],_,_=>[]|_::l,0,v::vs=>v::over l 0 vs|x::l,k+1,vs=>x::over l k vs
theorem Au8:∀(l:List α)(k:Nat)(vs:List α),(over l k vs).length=l.length:=by
 intro l;induction l with
 |nil=>intro k vs;cases k<;>cases vs<;>rfl|cons x l ih=>
   intro k vs;cases k with
   |zero=>cases vs with
     |nil=>rfl|cons v vs=>simp[over,ih]
   |succ k=>simp[over,ih]
theorem AOx:∀(l:List α)(k:Nat)(vs:List α)(o:Nat),(over l k vs)[o]?=if k<=o/\o<k+vs.length/\o<l.length then vs[o-k]? else l[o]?:=by
 intro l;induction l with|nil=>intro k vs o;cases k<;>cases vs<;>simp[over]|cons x l ih=>
   intro k vs o;cases k with
   |zero=>cases vs with
     |nil=>simp[over]|cons v vs=>cases o with|zero=>simp[over]|succ o=>
         simp only[over,bG,ih];simp only[bn,ce,true_and,Nat.sub_zero,bG,aM,Nat.add_lt_add_iff_right]
   |succ k=>cases o with
     |zero=>simp[over]|succ o=>
       simp only[over,bG,ih,bn];by_cases hc:k<=o/\o<k+vs.length/\o<l.length;.rw[if_pos hc,if_pos Wq];congr 1;omega
       .rw[if_neg hc,if_neg Wq]
theorem Agy{a b:Nat}(h:a≠b):aF a b=false:=by cases hb:aF a b with|false=>rfl|true=>exact absurd (eQ hb) h
section
variable{P:aj}{B:Ws->Prop}{st:Bool}{ops:Array av}{rest:List av}{K:Env->Ws->Prop}{h:Ws}{G:List (Nat×Nat)}{e:Env}{H:Ws}{d:Nat}{ty:am}{pos:String}{af:Array Edge}
end
theorem Ar3(off:Nat):∀(l:List aa)(k:Nat)(arr:Array aa),((l.zipIdx k).foldl (λ(cs:Array aa)(x:aa×Nat)=>cs.setIfInBounds (off+x.2) x.1) arr).toList=over arr.toList (off+k) l:=by
 intro l;induction l with
 |nil=>
   intro k arr;simp only[List.zipIdx_nil,List.foldl_nil];apply bM;intro o;rw[AOx,if_neg (by simp;omega)]|cons v l ih=>
   intro k arr;simp only[List.zipIdx_cons,List.foldl_cons];rw[ih];apply bM;intro o;rw[AOx,AOx];simp only[bN,cg,bn];by_cases hc:off+(k+1)<=o/\o<off+(k+1)+l.length/\o<arr.toList.length;.rw[if_pos hc,if_pos Wq,show o-(off+k)=o-(off+(k+1))+1 by omega,bG]
   .rw[if_neg hc,du];by_cases he:off+k=o
    .subst he;rw[if_pos rfl];by_cases hl:off+k<arr.toList.length;.rw[if_pos hl,if_pos Wq,dy];rfl
     .rw[if_neg hl,if_neg Wq,b8 Wq]
    .rw[if_neg he,if_neg Wq]
theorem Aet(b:Nat):∀(vs:List aa)(o:Nat)(w:aK)(cs:Array aa)(t:am)(q:Nat×Nat),w.heap[b]?=some (.cells cs t q)->o+vs.length<=cs.size->∃cs',(w.setCells b o vs).heap[b]?=some (.cells cs' t q)/\cs'.toList=over cs.toList o vs/\Upd (·=b) w.heap (w.setCells b o vs).heap/\Same w (w.setCells b o vs):=by
 intro vs;induction vs with
 |nil=>
   intro o w cs t q hb ho;refine⟨cs,hb,?_,Upd.refl _ _,.refl w⟩;apply bM;intro k;rw[AOx,if_neg (by simp;omega)]|cons v vs ih=>
   intro o w cs t q hb ho;simp only[bn]at ho;have h1:(w.setCell ⟨b,o,none⟩ v).heap[b]?=some (.cells (cs.setIfInBounds o v) t q):=by
    have:(w.setCell ⟨b,o,none⟩ v).heap=AVp w.heap ⟨b,o,none⟩ v:=rfl;rw[this];simp only[AVp,bK,if_true,hb,bI];rfl
   obtain⟨cs',h2,h3,h4,h5⟩:=ih (o+1) (w.setCell ⟨b,o,none⟩ v) _ t q h1 (by simp;omega);refine⟨cs',h2,?_,(AM1 w.heap ⟨b,o,none⟩ v).trans h4,Same.trans (b:=w.setCell ⟨b,o,none⟩ v) ⟨rfl,rfl,rfl⟩ h5⟩;rw[h3];have:=Ar3 o (v::vs) 0 cs;apply bM;intro k;rw[AOx,AOx];simp only[bN,cg,bn];by_cases hc:o+1<=k/\k<o+1+vs.length/\k<cs.toList.length;.rw[if_pos hc,if_pos Wq,show k-o=k-(o+1)+1 by omega,bG]
   .rw[if_neg hc,du];by_cases he:o=k
    .subst he;rw[if_pos rfl,if_pos (by simp;omega),if_pos (by simp;omega),dy];rfl
    .rw[if_neg he];by_cases hl:k<cs.toList.length;.rw[if_neg Wq]
     .rw[if_neg Wq]
section
variable{P:aj}{B:Ws->Prop}{st:Bool}{ops:Array av}{rest:List av}{K:Env->Ws->Prop}{h:Ws}{G:List (Nat×Nat)}{e:Env}{H:Ws}{d:Nat}{ty:am}{pos:String}{af:Array Edge}
theorem A55{s:ak}{t:am}{u:aa}(hB:B H)(hrun:∀w,w.heap=H->∃w',(Builtin.copy_ #[t,t2] ty #[e.ev s,e.ev x]).run P w=.ok u w'/\Same w w'/\B w'.heap/\RL P B st ops rest (e.set d u) w'.heap K):RL P B st ops (⟨some d,.call ⟨.builtin .copy,#[s,x],#[t,t2]⟩,ty,pos,af,none⟩::rest) e H K:=by
 refine AJc rfl rfl hB λw hw=>?_;obtain⟨w',h1,h2,h3,h4⟩:=hrun w hw;have:(execOp e.ev ⟨some d,.call ⟨.builtin .copy,#[s,x],#[t,t2]⟩,ty,pos,af,none⟩).run P w=.ok (.value u) w':=by simp[execOp,resolve,invoke,builtin,h1]
 rw[this];exact⟨h2,h3,h4⟩
end
end Go.QF
