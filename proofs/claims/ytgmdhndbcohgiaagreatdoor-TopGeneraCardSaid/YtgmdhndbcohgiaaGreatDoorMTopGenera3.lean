/-
  Texts of a proof, joined. Conditions stand in each statement.
-/
import Derived.Test.YtgmdhndbcohgiaaGreatDoorMTopGenera2
set_option linter.unusedVariables false
set_option linter.unusedSimpArgs false
open Go renaming Value->aa,Operand->an,Oper->ay,TypeId->aG,Program->aK,FuncId->bL,IntKind->bV,Code->cr,Exit->cQ,ResultVar->cR,World->di
open List renaming replicate->ab,mem_append_left->ah,getElem?_eq_getElem->aj,mem_cons_of_mem->ao,mem_cons_self->ap,mem_append->ar,mem_append_right->au,pairwise_append->av,range->aw,mem_of_getElem?->aI,pairwise_cons->aL,mem_singleton->aM,take_add_one->aP,set_append_right->aV,all_eq_true->aY,mem_cons->ba,replicate_succ->bc,flatten_append->be,mem_range->bn,append_assoc->bt,erase_append_right->bx,getElem?_set_ne->bD,map_cons->bH,append_of_mem->bK,length_take->bR,cons_append->bS,eq_nil_of_length_eq_zero->bT,nil_append->bU,getElem?_eq_some_iff->b9,length_eq_zero_iff->cg,erase_append_left->ci,length_replicate->ck,range'->cm,range_eq_range'->cn,length_pos_iff->cu,filter_eq_self->cv,set_cons_zero->cx,nodup_append->cy,ext_getElem?->cC,take_length->cF,mem_filter->cK,Pairwise->cO
open Sum renaming inr->ae,inl->ai
open Array renaming getElem?_eq_some_iff->ak,getElem?_eq_getElem->bo,size->bz,range->cj,replicate->cJ
open Nat renaming le_of_ble_eq_true->am,beq->aq,ble->aA,le_trans->aF,mul_le_mul->aJ,le_refl->bE,pos_of_ne_zero->bM,zero_add->bN,sub_self->bO,lt_or_ge->bP,min_eq_left->bX,div_add_mod->bZ,mod_lt->b8,add_assoc->cb,mul_comm->cT,lt_trans->cW,add_zero->cX
open Int renaming toNat->ax,emod_eq_of_lt->bw,mul_comm->bA,natAbs_mul->bG,eq_of_mul_eq_mul_left->ca,mul_assoc->ce,mul_ediv_add_emod->co,toNat_natCast->cG,mul_eq_zero->cM,sub_emod->cY,mul_emod->de,add_emod->df,mul_one->dh
open Bool renaming and_eq_true->aH,false_or->cP
open Go.Value renaming int->aU
open Ne renaming symm->bh
open Go.Instr renaming build->bC,fill->ct
open Option.some renaming inj->bI
open Go.Region renaming binds->bJ,ready->cL
set_option maxRecDepth 100000
set_option maxHeartbeats 40000000
open Go Go.QF
variable{ts:Array aG}{st want na neg:Bool}{Q:cQ->Go.QF.Env->Go.QF.Ws->Prop}{x0 x1:Go.Proofs.YtgmdhndbcohgiaaGreatDoor.Y6}{K:Go.QF.Env->Go.QF.Ws->Prop}{h h0 h':Go.QF.Ws}{B:Go.QF.Ws->Prop}{A A0:Go.QF.Wz}{d a z1 z2 z3 z4 z5 a1 a5 a9 last:Int}{κ:bV}{Gs:List (List Nat)}{vs:List (Nat×aa)}{l:List Go.Proofs.YtgmdhndbcohgiaaGreatDoor.Y6}{F F0 F' is R T:List Nat}{xs:List an}{rs c' c1 c2 c3 c5:List aa}{t el s id i r er q bytes k g fuel f tb j el0 d' sz er0 tr tl er' el' p D:Nat}{N:Nat->Prop}{x y:an}{dst:Option Nat}{P:aK}{G:Prop}{α β X S E:Type}{ty ty' ty2 ty3:aG}{v v' Aa Ac:aa}
namespace Go.QF
theorem A6y{ops:Array ay}{rest:List ay}{e:Env}{d:Nat}{pos:String}{af:Array Edge}(hT:SlT P t el s)(hb:B h)(H:B (h.push<|.cells #[] el (0,0))/\RL P B st ops rest (e.set d<|.slice (some ⟨h.size,0,none⟩) 0 0) (h.push<|.cells #[] el (0,0)) K):RL P B st ops (⟨some d,.buildSlice t 0 #[],ty,pos,af,none⟩::rest) e h K:=by
 refine AJc rfl rfl hb λw hw=>?_;subst hw;obtain⟨hu,i0,hi0,hs0⟩:=hT;have hrun:(execOp e.ev ⟨some d,.buildSlice t 0 #[],ty,pos,af,none⟩).run P w=.ok (.value<|.slice (some ⟨w.heap.size,0,none⟩) 0 0) (w.alloc<|.cells #[] el):=by simp[execOp,Instr.buildSlice,AGk hu,AK3 hi0,ct,newRow];rw[show cj 0=#[]from rfl,Array.map_empty]
 rw[hrun];exact⟨⟨rfl,rfl,rfl⟩,H.1,H.2⟩
theorem A1h(h:Ws):Sp h h.size [[]]:=⟨W4,λb hb=>by simp at hb⟩
theorem Av2{ops:Array ay}{rest:List ay}{e:Env}{d:Nat}{pos:String}{af:Array Edge}{t t2 el:aG}{a:Option Addr}{n c:Nat}(hT:SlT P t el s)(hx:e.ev x=.slice a n c)(hy:e.ev y=.slice none 0 0)(H:RL P B st ops rest (e.set d<|.bool a.isNone) h K):RL P B st ops (⟨some d,.binOp .eql t x y t2,ty,pos,af,none⟩::rest) e h K:=ABh (v:=.bool a.isNone) rfl rfl λw=>by
  have hr:(Op.equal t (.slice a n c)<|.slice none 0 0).run P w=.ok a.isNone w:=by show(Op.equalIn (9999+1) t _ _).run P w=_;rw[Op.equalIn];cases a<;>simp[AGk hT.1]
  simp[execOp,hx,hy,eqGuard,binOp,hr] H
theorem ASe.mono{P:aK}{l:Nat}{args:List aa}{h:Ws}{K K':aa->Ws->Prop}(H:ASe P l args h K')(hK:∀v h',K' v h'->K v h'):ASe P l args h K:=λw hw=>by
 obtain⟨f,tmps,assign,body,h1,h2⟩:=H w hw;exact⟨f,tmps,assign,body,h1,h2.mono λen w'⟨v,he,hs,hk⟩=>⟨v,he,hs,hK _ _ hk⟩⟩
theorem Av3{e:Env}{l:Nat}{o1 o2 o3 o4 o5:ay}{post:List ay}{d:Tmp}{c:an}{pos:String}{af:Array Edge}(hnd:(([o1,o2,o3,o4,o5]++post).all APr&&([o1,o2,o3,o4,o5]++⟨some d,.call ⟨.value c,xs.toArray,ts⟩,ty,pos,af,none⟩::post).all ACk)=true)(H:RL P (λ_=>True) false (o1::o2::o3::o4::o5::⟨some d,.call ⟨.value c,xs.toArray,ts⟩,ty,pos,af,none⟩::post).toArray [o1,o2,o3,o4,o5] e h λe1 h1=>e1.ev c=.func (.yield l) #[] #[]/\∃l1,xs.map e1.ev=l1/\ASe P l l1 h1 λv h2=>RL P (λ_=>True) false (o1::o2::o3::o4::o5::⟨some d,.call ⟨.value c,xs.toArray,ts⟩,ty,pos,af,none⟩::post).toArray post (e1.set d v) h2 (Q .normal)):W P (.region id (o1::o2::o3::o4::o5::⟨some d,.call ⟨.value c,xs.toArray,ts⟩,ty,pos,af,none⟩::post).toArray false) Q e h:=A1f (pre:=[o1,o2,o3,o4,o5]) hnd H
end Go.QF
namespace Go.Proofs.YtgmdhndbcohgiaaGreatDoor
theorem BA7:ZeT Tryz.prog 25 (.slice none 0 0) 24:=AFy Ww
def aOb(b:Nat)(o:Obj):Y6:=⟨[b],λh=>h[b]?=some o,λ{G h h'}U d H=>(U.1.2 b (ak.1 H).1<|d b W4).trans H⟩
namespace Xg
variable{h0 h h':Ws}{l l':List Y6}
theorem ob(k:Xg h0 h l){b:Nat}{o:Obj}(e:Rep i l (aOb b o) (aOb b o) l'):h[b]?=some o:=AGn k.p e.1
theorem rg(k:Xg h0 h l)(E:Ext h h'){b:Nat}{o o2:Obj}(h1:h.size<=r)(h2:h.size<=b)(h3:r<h'.size)(h4:b<h'.size)(hne:r≠b)(H1:h'[r]?=some o)(H2:h'[b]?=some o2):Xg h0 h' (aOb r o::aOb b o2::l):=k.n E [aOb r o,aOb b o2] (AZk h1 h2 h3 h4 hne) ⟨H1,H2,trivial⟩
theorem uob(k:Xg h0 h l){b:Nat}{o o':Obj}(e:Rep i l (aOb b o) (aOb b o') l')(hd:Agv o=false)(hd':Agv o'=false):∃h',Array.setIfInBounds h b o'=h'/\Yg [b] h h'/\Xg h0 h' l':=by
 have H:h[b]?=some o:=AGn k.p e.1;have hb:=(ak.1 H).1;have H':(h.setIfInBounds b o')[b]?=some o':=by simp[hb]
 have U:Yg [b] h (h.setIfInBounds b o'):=⟨⟨W4,λk hk hn=>by rw[Array.getElem?_setIfInBounds_ne λhe=>hn<|by simp[he]]⟩,λx hx hl=>by rw[aM.1 hx];exact⟨⟨o,H,hd⟩,⟨o',H',hd'⟩⟩⟩;exact⟨_,rfl,U,k.u e U H' (by simp[aOb]) (λx hx=>by simp[aOb]at hx;subst hx;simpa using hb) λx hx=>.inl hx⟩
theorem rowS{c:Zx α}(k:Xg h0 h l){M:List (List α)}(e:Rep i l (aO2 c er el F Gs rs v M) (aO2 c er el F Gs rs v M) l'){q:Int}{r:aa}{L:List α}(hr:rs[q.toNat]?=some r)(hL:gI M q=some L):∃G,OwC c el h G r L/\Sp h h0.size [G]:=by
 obtain⟨n,rfl,hL⟩:=ACq hL;obtain⟨G,_,HO,hG⟩:=(k.o2 e).row hr hL;exact⟨G,HO,by simpa using HO.nodup,λb hb=>by
  have hb:b∈G:=by simpa using hb
  exact⟨k.lo e b<|hG b hb,HO.lt b hb⟩⟩
end Xg
end Go.Proofs.YtgmdhndbcohgiaaGreatDoor
namespace Go.QF
section
variable{P:aK}{B:Ws->Prop}{st:Bool}{ops:Array ay}{rest:List ay}{e:Env}{h:Ws}{K:Env->Ws->Prop}{d:Nat}{ty:aG}{pos:String}{af:Array Edge}
theorem Av4{c:Zx α}{s:an}{z xv:aa}{g0:Nat}{L:List α}(hT:SlT P t el c.k)(hz:ZeT P el z bytes)(hzk:z.cells.size=c.k)(hel:aq el 96=false)(hb:B h)(hBE:∀h',Ext h h'->B h')(hs:e.ev s=.slice (some ⟨g0,0,none⟩) 0 0)(Ae:L≠[])(hx:e.ev x=xv)(HX:SlC c h xv L)(hby:bytes<=1000)(hl:L.length<=100000000)(H:∀F v' h',OwC c el h' F v' L->Ext h h'->Sp h' h.size [F]->RL P B st ops rest (e.set d v') h' K):RL P B st ops (⟨some d,.call ⟨.builtin .append,#[s,x],#[t,t]⟩,ty,pos,af,none⟩::rest) e h K:=by
 obtain⟨Ls,⟨xa,xc,rfl,hxc⟩,HA⟩:=HX;refine AJc rfl rfl hb λw hw=>?_;subst hw;obtain⟨hu,i0,Aa,Af⟩:=hT;obtain⟨i,hi,hzz,hsz,hbyy⟩:=hz;rw[hi]at Aa;injection Aa with Aa;subst Aa;by_cases hL:Ls=[];.subst hL;exact absurd (bT HA.1.symm) Ae
 .have hlen:0<Ls.length:=cu.2 hL;have hk:∀r∈Ls,r.length=c.k:=λr hr=>by
   obtain⟨q,hq⟩:=List.getElem?_of_mem hr;have hql:=(b9.1 hq).1;exact c.klen<|HA.2 q r (L[q]'(by rw[<-HA.1];exact hql)) hq<|aj _
  obtain⟨r0,Ag⟩:∃r0,Ls[0]?=some r0:=⟨Ls[0],aj _⟩;obtain⟨b,o,rfl,_⟩:=hxc 0 r0 Ag;have hnews:∀q u,Ls.flatten[q]?=some u->w.cell? ((⟨b,o,none⟩:Addr).add q)=some u:=λq u hq=>by
   have hqk:q/c.k<Ls.length:=by
    have hq':=(b9.1 hq).1;rw[AGm hk]at hq';exact Nat.div_lt_of_lt_mul (by rw[cT];exact hq')
   obtain⟨row,hrow⟩:∃row,Ls[q/c.k]?=some row:=⟨Ls[q/c.k],aj hqk⟩;have hrl:=hk row<|aI hrow;have hmod:=b8 q c.pos;have hg:=ARb hk hrow (j:=q%c.k) (x:=row[q%c.k]'Wq)<|aj _;have e1:q/c.k*c.k+q%c.k=q:=by rw[cT];exact bZ q c.k
   rw[e1,hq]at hg;injection hg with hg;obtain⟨b',o',hbo,hcell⟩:=hxc (q/c.k) row hrow;injection hbo with hbo;injection hbo with Ah Ai;subst Ah;subst Ai;have:=hcell (q%c.k) u (by rw[hg];exact aj _);rw[Zu,ATz];rw[cb,e1]at this;exact this
  have hmul:Ls.length*bytes<=100000000*1000:=aJ (by rw[HA.1];exact hl) hby;have hr:=run_append_grow (P:=P) w t ty el i z hu hi hzz ⟨g0,0,none⟩ 0 0 [] W4 (λj v hj=>by simp at hj) ⟨b,o,none⟩ Ls.length xc Ls.flatten (by rw[AGm hk,Af]) hnews Wq (by rw[HA.1];omega) (by rw[bN,nextslicecap_zero hlen,hbyy];omega);rw[bN,show([]:List aa).toArray=#[]from rfl,Array.empty_append]at hr;have hrun:(execOp e.ev ⟨some d,.call ⟨.builtin .append,#[s,x],#[t,t]⟩,ty,pos,af,none⟩).run P w=.ok (.value<|.slice (some ⟨w.heap.size,0,none⟩) Ls.length<|grownCap w Ls.length 0 el) (w.drew.alloc<|.cells (Ls.flatten.toArray++Builtin.zeroCells z.cells (grownCap w Ls.length 0 el-Ls.length)) el):=by simp[execOp,resolve,invoke,builtin,hs,hx,hr]
  rw[hrun];have hge:=grownCap_ge w Ls.length 0 el;have hcm':grownCap w Ls.length 0 el<=maxLen:=grownCap_le_maxLen w _ _ el (by unfold maxLen;rw[HA.1];omega);have E:Ext w.heap (w.drew.alloc<|.cells (Ls.flatten.toArray++Builtin.zeroCells z.cells (grownCap w Ls.length 0 el-Ls.length)) el).heap:=⟨W4,λk hk=>heap_alloc_old w.drew _ k hk⟩;refine⟨⟨rfl,rfl,rfl⟩,hBE _ E,H [w.heap.size] _ _ (.inr ⟨w.heap.size,Ls,rfl,⟨_,_,rfl,heap_alloc_new w.drew _,hge,hcm',?_,hk,?_⟩,HA.upT E.upT,hel⟩) E<|AFj (bE _) W4⟩;.rw[Array.size_append,size_zeroCells,hzk,List.size_toArray,AGm hk,Nat.sub_mul];have:=Nat.mul_le_mul_right c.k hge;omega
  .simp only[Array.toList_append];rw[<-AGm hk];exact List.take_left
end
end Go.QF
namespace Go.Proofs.YtgmdhndbcohgiaaGreatDoor
theorem A1i{c:Zx α}{a:Option Addr}{n:Nat}{L:List α}(H:SlC c h (.slice a n k) L)(hn:a=none):L=[]:=by
 subst hn;obtain⟨Ls,⟨xa,xc,hv,hx⟩,hA⟩:=H;injection hv with h1 h2 h3;cases Ls with
 |nil=>exact bT hA.1.symm|cons r Ls=>
   obtain⟨b,o,hb,_⟩:=hx 0 r rfl;rw[<-h1]at hb;cases hb
theorem A1j{c:Zx α}{a:Option Addr}{n:Nat}(H:SlC c h (.slice a n k) []):n=0:=by obtain⟨Ls,⟨xa,xc,hv,hx⟩,hA⟩:=H;injection hv with h1 h2 h3;rw[h2];exact hA.1
theorem A1k{ops:Array ay}{rest:List ay}{e:Env}{d:Nat}{pos:String}{af:Array Edge}{s:an}{t el:aG}{n c:Nat}{xa:Option Addr}(hT:SlT P t el k)(hb:B h)(hs:e.ev s=.slice (some ⟨g,0,none⟩) 0 0)(hx:e.ev x=.slice xa n c)(hn:n=0)(H:RL P B st ops rest (e.set d<|.slice (some ⟨g,0,none⟩) 0 0) h K):RL P B st ops (⟨some d,.call ⟨.builtin .append,#[s,x],#[t,t]⟩,ty,pos,af,none⟩::rest) e h K:=by
 subst hn;refine AJc rfl rfl hb λw hw=>?_;subst hw;obtain⟨hu,i,hi,hs0⟩:=hT;have hc:(Builtin.firstCells i.size 0<|.slice xa 0 c).run P w=.ok #[] w:=by cases xa with
  |none=>exact run_firstCells_none (P:=P) w _ 0 0 c|some a=>exact run_firstCells_some (P:=P) w i.size 0 a 0 c [] W4 λj v hj=>by simp at hj
 have hrun:(execOp e.ev ⟨some d,.call ⟨.builtin .append,#[s,x],#[t,t]⟩,ty,pos,af,none⟩).run P w=.ok (.value<|.slice (some ⟨g,0,none⟩) 0 0) w:=by simp[execOp,resolve,invoke,builtin,hs,hx,Builtin.append_,AGk hu,AK3 hi,Builtin.lenOf,hc,storeCells,Result.andThen]
 rw[hrun];exact⟨⟨rfl,rfl,rfl⟩,hb,H⟩
def AKp(fuel:Nat)(L:List Xm):Option (List Xm):=if L.length<=100000000 then some L else none
theorem AWi{L r:List Xm}(H:SlC AJw h v L)(hp:AKp fuel L=some r):W6 Tryz.prog 181 #[v] h λx h'=>Ext h h'/\∃(x0:aa)(F0:List Nat),x=x0/\OwC AJw 184 h' F0 x0 r/\Sp h' (bz h) [F0]:=by
 unfold AKp at hp;obtain⟨hl,hp⟩:=ifN hp;cases hp;obtain⟨a,n,c,hv⟩:=H.shape;subst hv;refine Xn (l:=[_]) mx Tryz.func181 rfl rfl rfl rfl rfl Ww (Xd<|Xu<|Wx<|Xd<|Wu<|Av2 (a:=a) (n:=n) (c:=c) Ajs rfl rfl (Xl<|⟨_,rfl,λhc=>?_,λhc=>?_⟩));.refine Xd<|Xu<|Xt<|Ze ?_;have hL:L=[]:=A1i H (by cases a with|none=>rfl|some a=>cases hc);subst hL;exact⟨_,Ya,Ext.refl _,_,[],rfl,AU6 _ _ _,A1h _⟩
 .refine Xj<|Xr<|Xd<|A6y Ajs trivial ⟨trivial,?_⟩;have E0:Ext h (h.push<|.cells #[] 184 (0,0)):=Zt _ _;by_cases hL:L=[];.subst hL;refine Wu<|A1k (xa:=a) (n:=n) (c:=c) Ajs trivial rfl rfl (A1j H) (Xu<|Xt ?_);exact⟨_,Ya,E0,_,[h.size],rfl,.inr ⟨h.size,[],rfl,⟨0,#[],rfl,W4,W4,W4,W4,W4,W4⟩,⟨rfl,λi cs a h1 h2=>by simp at h1⟩,Ww⟩,AFj (bE _) W4⟩
  .refine Wu<|Av4 (c:=AJw) (L:=L) Ajs Avb rfl rfl trivial (λ_ _=>trivial) rfl hL rfl (H.ext E0) Wr hl λF v' h' HO E S=>Xu<|Xt ?_;exact⟨_,Ya,E0.trans E,_,F,rfl,HO,⟨S.1,λb hb=>⟨aF E0.1 (S.2 b hb).1,(S.2 b hb).2⟩⟩⟩
theorem AWj:AgT Tryz.prog 43 3:=AOs Tryz.underlying43 rfl Ww
theorem Ang:ZeT Tryz.prog 43 (.agg #[.int .i64 0,.int .i64 0,.slice none 0 0]) 40:=AFy Ww
theorem A1l:FdT Tryz.prog 43 0 0 3:=⟨_,_,Tryz.underlying43,rfl,rfl,rfl⟩
theorem A1m:FdT Tryz.prog 43 1 1 2:=⟨_,_,Tryz.underlying43,rfl,rfl,rfl⟩
theorem AXs:FdT Tryz.prog 43 2 2 41:=⟨_,_,Tryz.underlying43,rfl,rfl,rfl⟩
theorem Anh:SlT Tryz.prog 41 90 2:=ALr Tryz.underlying41 Ww
theorem Ada:NaT Tryz.prog 41:=AIj Tryz.underlying41 rfl Ww
theorem BD0{e:Env}{G:List Nat->Env->Ws->Prop}(H:G [] e h):KA [] h0 G e h N:=λbl hl _ _=>by
 obtain rfl:=cg.1 hl;exact H
theorem A6z{ops:Array ay}{m:Nat}:Amz P B ops m []:=λq a o hq=>by cases hq
def Adb(lo n:Nat)(f:List Nat):List Nat:=(aw n).filter λb=>decide (lo<=b)&&!f.contains b
def aW(lo:Nat)(h:Ws)(r:List Y6)(f:List Nat):Y6:=⟨(fps r).flatten++Adb lo h.size (f++(fps r).flatten),λh'=>AQi h' r/\∀b∈(fps r).flatten++Adb lo h.size (f++(fps r).flatten),b<h.size->h'[b]?=h[b]?,λ{G h1 h2}U d H=>⟨Ag5 H.1 U λF hF b hb=>d b<|ah _<|List.mem_flatten.2 ⟨F,hF,hb⟩,λb hb hl=>by rw[<-H.2 b hb hl];refine U.1.2 b ?_<|d b hb;have h3:=H.2 b hb hl;rw[bo hl]at h3;exact(ak.1 h3).1⟩⟩
theorem Av5(l:List Y6)(is js:List Nat):AE4 l (is++js)=AE4 l is++AE4 l js:=by induction is with|nil=>rfl|cons i is ih=>show AG9 l i::AE4 l (is++js)=_;rw[ih];rfl
theorem Ahd{m:List Y6}(H:AQi h (l++m)):AQi h l/\AQi h m:=by induction l with|nil=>exact⟨trivial,H⟩|cons a l ih=>exact⟨⟨H.1,(ih H.2).1⟩,(ih H.2).2⟩
namespace Xg
variable{h0 h h':Ws}{l m r:List Y6}
theorem jn(k:Xg h0 h l)(is js:List Nat)(hn:(is++js).Nodup):Xg h0 h (AE4 l is++[aW h0.size h (AE4 l js) (fps<|AE4 l is).flatten]):=by
 have k2:=k.sel (is++js) hn;rw[Av5]at k2;obtain⟨x,s,p⟩:=k2;rw[Abn]at s;obtain⟨s1,s2⟩:=s;rw[be]at s1 s2;refine⟨x,?_,Ac2 (Ahd p).1 ⟨⟨(Ahd p).2,λ_ _ _=>rfl⟩,trivial⟩⟩;rw[Abn];show Sp h h0.size (fps (AE4 l is)++[(fps<|AE4 l js).flatten++Adb h0.size h.size ((fps<|AE4 l is).flatten++(fps<|AE4 l js).flatten)]);unfold Sp;rw[be,List.flatten_singleton,<-bt];have hr:∀b∈Adb h0.size h.size ((fps<|AE4 l is).flatten++(fps<|AE4 l js).flatten),(h0.size<=b/\b<h.size)/\b∉(fps<|AE4 l is).flatten++(fps<|AE4 l js).flatten:=λb hb=>by
  unfold Adb at hb;rw[cK,bn,aH,decide_eq_true_iff,Bool.not_eq_true',<-Bool.not_eq_true,List.contains_iff_mem]at hb;exact⟨⟨hb.2.1,hb.1⟩,hb.2.2⟩
 refine⟨cy.2 ⟨s1,List.nodup_range.filter _,λa ha b hb hab=>(hr b hb).2 (hab▸ha)⟩,λb hb=>?_⟩;rcases ar.1 hb with hb|hb;.exact s2 b hb
 .exact(hr b hb).1
theorem un{lo:Nat}{g:Ws}{f:List Nat}(k:Xg h0 h (m++[aW lo g r f])):Xg h0 h (m++r):=by
 obtain⟨x,s,p⟩:=k;refine⟨x,?_,Ac2 (Ahd p).1 (Ahd p).2.1.1⟩;rw[Abn]at s⊢;obtain⟨s1,s2⟩:=s;have e:(fps m++fps [aW lo g r f]).flatten=(fps m++fps r).flatten++Adb lo g.size (f++(fps r).flatten):=by
  rw[be,be,bt];show _++((fps r).flatten++Adb lo g.size (f++(fps r).flatten)++[])=_;rw[List.append_nil]
 rw[e]at s1 s2;exact⟨(cy.1 s1).1,λb hb=>s2 b<|ah _ hb⟩
theorem un2{lo:Nat}{g:Ws}{f:List Nat}{a b:Y6}(k:Xg h0 h [a,b,aW lo g r f]):Xg h0 h (a::b::r):=un (m:=[a,b]) k
theorem un3{lo:Nat}{g:Ws}{f:List Nat}{a b c:Y6}(k:Xg h0 h [a,b,c,aW lo g r f]):Xg h0 h (a::b::c::r):=un (m:=[a,b,c]) k
end Xg
theorem A60:ZeT Tryz.prog 176 (.agg #[.int .i64 0,.slice none 0 0,.slice none 0 0]) 56:=AFy Ww
theorem A61:ZeT Tryz.prog 194 (.agg #[.int .i64 0,.int .i64 0,.slice none 0 0,.slice none 0 0]) 64:=AFy Ww
theorem rf(h:G:=by with_unfolding_all exact Eq.refl _):G:=h
theorem nvl(h:G:=by with_unfolding_all((conv=>lhs;whnf)<;>rfl)):G:=h
theorem Yo(h:G:=by with_reducible assumption):G:=h
theorem dc(h:G:=by decide):G:=h
theorem dk(h:G:=by decide+kernel):G:=h
theorem kr(h:G:=by kernel_rfl):G:=h
theorem AWk{e:Env}:([]:List an).map e.ev=[]:=rfl
theorem ADu{e:Env}{vs:List aa}(h1:e.ev x=v)(h2:xs.map e.ev=vs):(x::xs).map e.ev=v::vs:=by rw[bH,h1,h2]
theorem AZo(h:G:=by first|exact ADu nvl AWk|exact ADu nvl (ADu nvl AWk)|exact ADu nvl (ADu nvl (ADu nvl AWk))|exact ADu nvl (ADu nvl (ADu nvl (ADu nvl AWk)))|exact ADu nvl (ADu nvl (ADu nvl (ADu nvl (ADu nvl AWk))))|exact ADu nvl (ADu nvl (ADu nvl (ADu nvl (ADu nvl (ADu nvl AWk)))))|exact AWk):G:=h
theorem pl(h:G:=by first|apply p0|apply p1|apply p2|apply p3|apply p4|apply p5|apply p6|apply p7|apply p8|apply p9|apply p10|apply p11|apply p12|apply p13|apply p14|apply p15|apply p16):G:=h
theorem slf(h:G:=by first|apply sl_A5L|apply sl_BB|apply BAo|apply Ajs|apply AFz|apply At4|apply BAb|apply A6p|apply A62|apply Anh|apply AEx|apply Am7|apply ABg|apply AA0|apply Ahc):G:=h
theorem naf(h:G:=by first|apply BAp|apply BA0|apply A6o|apply Ana|apply AIk|apply Ajd|apply BAq|apply Ada|apply Aff|apply AB8|apply AJ5|apply Zn|apply AJe|apply AZa|apply Aje):G:=h
theorem agf(h:G:=by first|apply ag_A5|apply A59|apply A6a|apply AWj|apply ag_GridT|apply A58|apply Ani|apply Ac7|apply Ag9|apply Am8|apply Ag4|apply Ye):G:=h
theorem zef(h:G:=by first|apply ze_A5|apply A6c|apply Avb|apply A60|apply Ang|apply Amj|apply BAr|apply A61|apply A6b|apply Ag7|apply BA7|apply Anb|apply Avw|apply A6i|apply A0w|apply AEz|apply Afg|apply Av0|apply Ao7|apply Amk|apply A5t):G:=h
theorem itf(h:G:=by first|apply it_U16|apply AOt|apply At5|apply At6):G:=h
theorem fdf(h:G:=by first|apply A0k|apply A0l|apply A0m|apply A0n|apply A0o|apply A0p|apply A0q|apply A0r|apply A0s|apply A0t|apply A1n|apply A1o|apply A1p|apply A1l|apply A1m|apply AXs|apply fd_GridT0|apply fd_GridT1|apply fd_GridT2|apply A09|apply A1a|apply A1q|apply A1r|apply A1s|apply A1t|apply A0h|apply A0i|apply A0j|apply Ahe|apply Ahf|apply Ahg|apply A1u|apply A07|apply A08|apply ASd|apply AXo|apply Abo|apply Ag8|apply Apw|apply Apx|apply Apu|apply Apv|apply A00|apply A01|apply fd_Spl0|apply fd_Spl1|apply fd_Spl2|apply fd_Spl3|apply fd_Spl4|apply Acw|apply AUd):G:=h
theorem ifS{c:Prop}[Decidable c]{a b:Option α}{r:α}(H:(if c then a else b)=some r):c/\a=some r∨¬c/\b=some r:=by grind
theorem ob2{σ:Type}{o:Option (α×β)}{f:α×β->Option σ}{r:σ}(H:o.bind f=some r):∃a b,o=some (a,b)/\f (a,b)=some r:=by obtain⟨⟨a,b⟩,h1,h2⟩:=Xq H;exact⟨a,b,h1,h2⟩
theorem ob3{γ σ:Type}{o:Option (α×β×γ)}{f:α×β×γ->Option σ}{r:σ}(H:o.bind f=some r):∃a b c,o=some (a,b,c)/\f (a,b,c)=some r:=by obtain⟨⟨a,b,c⟩,h1,h2⟩:=Xq H;exact⟨a,b,c,h1,h2⟩
section
variable{P:aK}{Q:cQ->Env->Ws->Prop}{e:Env}{h:Ws}{K:aa->Ws->Prop}{t u v:Tmp}
theorem BA8{c:an}{x y:cr}{p:Prop}[Decidable p]{a b:Option α}{r:α}(hp:(if p then a else b)=some r)(hc:e.ev c=.bool (decide p))(H1:p->a=some r->W P x Q e h)(H2:¬p->b=some r->W P y Q e h):W P (.cond c x y) Q e h:=⟨_,hc,λh=>H1 (of_decide_eq_true h) (AMb hp h),λh=>H2 (of_decide_eq_false h) (AMc hp h)⟩
theorem BA9{c:an}{x y:cr}{p:Bool}{a b:Option α}{r:α}(hp:(if p=true then a else b)=some r)(hc:e.ev c=.bool p)(H1:p=true->a=some r->W P x Q e h)(H2:p=false->b=some r->W P y Q e h):W P (.cond c x y) Q e h:=⟨_,hc,λh=>H1 h (ifT hp h),λh=>H2 h (Ajp hp h)⟩
theorem BD2{l:List ay}(h1:AJu l.toArray true=true)(h2:AVw l.toArray true=true)(H:Yg [] h h->RL P (λh'=>Yg [] h h') true l.toArray l e h (Q .normal)):W P (.region id l.toArray true) Q e h:=AAr _ (by rw[h1,h2]) (H (Yg.start all_nil))
theorem BD3{l:List ay}(h1:AJu l.toArray true=false)(h2:AVw l.toArray true=true)(H:RL P (λ_=>True) false l.toArray l e h (Q .normal)):W P (.region id l.toArray true) Q e h:=ALo (by rw[h1,h2]) H
theorem e_0(H:K (.tuple #[]) h):APb P [] K .ret e h:=⟨_,Ae2,H⟩
theorem BD4(H:K (.tuple #[]) h):APb P [] K .normal e h:=⟨_,Ae2,H⟩
theorem e_1{a:aa}(h1:e t=a)(H:K a h):APb P [.tmp t] K .ret e h:=by subst h1;exact⟨_,Ya,H⟩
theorem e_2{a b:aa}(h1:e t=a)(h2:e u=b)(H:K (.tuple #[a,b]) h):APb P [.tmp t,.tmp u] K .ret e h:=by subst h1;subst h2;exact⟨_,ALp,H⟩
theorem e_3{a b c:aa}(h1:e t=a)(h2:e u=b)(h3:e v=c)(H:K (.tuple #[a,b,c]) h):APb P [.tmp t,.tmp u,.tmp v] K .ret e h:=by subst h1;subst h2;subst h3;exact⟨_,Ame,H⟩
theorem e_c{ty b:Nat}{l:List aa}(he:e t=.pointer (some ⟨b,0,none⟩))(HB:Yz tb h b l)(ht:AgT P ty s)(hl:l.length=s)(H:K (.agg l.toArray) h):APb P [.cell t ty] K .ret e h:=⟨_,ABy ht hl he HB,H⟩
theorem BD5{ty b:Nat}{l:List aa}{a:aa}(he:e t=.pointer (some ⟨b,0,none⟩))(HB:Yz tb h b l)(ht:AgT P ty s)(hl:l.length=s)(h2:e u=a)(H:K (.tuple #[.agg l.toArray,a]) h):APb P [.cell t ty,.tmp u] K .ret e h:=by subst h2;exact⟨_,Abe ht hl he HB,H⟩
theorem BBa{ty b:Nat}{l:List aa}{x y:aa}(h1:e t=x)(h2:e v=y)(he:e u=.pointer (some ⟨b,0,none⟩))(HB:Yz tb h b l)(ht:AgT P ty s)(hl:l.length=s)(H:K (.tuple #[x,.agg l.toArray,y]) h):APb P [.tmp t,.cell u ty,.tmp v] K .ret e h:=by subst h1;subst h2;exact⟨_,Au9 ht hl he HB,H⟩
theorem BD6{b:Nat}{z:Int}{cs:List aa}{K:aa->Ws->Prop}(he:e t=.pointer (some ⟨b,0,none⟩))(HB:Yz tb h b cs)(hz:cZ.rep h z cs)(H:K (.agg cs.toArray) h):APb Tryz.prog [.cell t 32] K .ret e h:=⟨_,ABy Ye (cZ.klen hz) he HB,H⟩
theorem BBb{b:Nat}{z:Int}{cs:List aa}{a:aa}{K:aa->Ws->Prop}(he:e t=.pointer (some ⟨b,0,none⟩))(HB:Yz tb h b cs)(hz:cZ.rep h z cs)(h2:e u=a)(H:K (.tuple #[.agg cs.toArray,a]) h):APb Tryz.prog [.cell t 32,.tmp u] K .ret e h:=by subst h2;exact⟨_,Abe Ye (cZ.klen hz) he HB,H⟩
theorem A4u{n:Nat}:Sp h n [[]]:=⟨W4,λb hb=>by simp at hb⟩
theorem zzO{z:Int}{cs:List aa}(H:cZ.rep h z cs):ZZ h (.agg cs.toArray) z:=H.2
end
section
variable{P:aK}{B:Ws->Prop}{st:Bool}{ops:Array ay}{rest:List ay}{e:Env}{h h0 a0:Ws}{C:Env->Ws->Prop}{l l':List Y6}{d d2:Nat}{ty ty2:aG}{pos pos2:String}{af af2:Array Edge}
theorem d_R{o:ay}(H:RL P B st ops (o::rest) e h C):RL P B st ops (o::rest) e h C:=H
theorem d_g{op:Op}{w:Bool}(H:RL P B st ops (⟨dst,op,ty,pos,af,some (j,w)⟩::rest) e h C):RL P B st ops (⟨dst,op,ty,pos,af,some (j,w)⟩::rest) e h C:=H
theorem d_b{op:BinOp}{t t2:aG}(H:RL P B st ops (⟨some d,.binOp op t x y t2,ty,pos,af,none⟩::rest) e h C):RL P B st ops (⟨some d,.binOp op t x y t2,ty,pos,af,none⟩::rest) e h C:=H
theorem d_B{a:Ws}{o:ay}(H:RL P (λh'=>Yg [] a h') st ops (o::rest) e h C):RL P (λh'=>Yg [] a h') st ops (o::rest) e h C:=H
theorem d_i{t:aG}{i:an}{w:aa}(hx:e.ev x=v)(hi:e.ev i=w)(H:e.ev x=v->e.ev i=w->RL P B st ops (⟨some d,.indexAddr t x i,ty,pos,af,none⟩::rest) e h C):RL P B st ops (⟨some d,.indexAddr t x i,ty,pos,af,none⟩::rest) e h C:=H hx hi
theorem d_l{t:aG}(hx:e.ev x=v)(H:e.ev x=v->RL P B st ops (⟨some d,.load t x,ty,pos,af,none⟩::rest) e h C):RL P B st ops (⟨some d,.load t x,ty,pos,af,none⟩::rest) e h C:=H hx
theorem d_s{t:aG}{w:aa}(hx:e.ev x=v)(hy:e.ev y=w)(H:e.ev x=v->e.ev y=w->RL P B st ops (⟨none,.store t x y,ty,pos,af,none⟩::rest) e h C):RL P B st ops (⟨none,.store t x y,ty,pos,af,none⟩::rest) e h C:=H hx hy
theorem obg{L:List α}{n:Int}{f:α->Option β}{r:β}(H:(gI L n).bind f=some r):∃x,gI L n=some x/\f x=some r:=Xq H
theorem d_c{f:bL}(H:RL P B st ops (⟨some d,.call ⟨.value (.func f),xs.toArray,ts⟩,ty,pos,af,none⟩::rest) e h C):RL P B st ops (⟨some d,.call ⟨.value (.func f),xs.toArray,ts⟩,ty,pos,af,none⟩::rest) e h C:=H
theorem d_p{t:aG}{n:Nat}{ps:Array (Nat×an)}(H:RL P B st ops (⟨some d,.buildSlice t n ps,ty,pos,af,none⟩::rest) e h C):RL P B st ops (⟨some d,.buildSlice t n ps,ty,pos,af,none⟩::rest) e h C:=H
theorem d_X{p:X->Prop}(H:∃x,p x):∃x,p x:=H
theorem g_t{op:Op}(ht:ops[j]?.bind (·.dst)=some t)(hv:e t=.bool want)(H:RL P B st ops (⟨dst,op,ty,pos,af,none⟩::rest) e h C):RL P B st ops (⟨dst,op,ty,pos,af,some (j,want)⟩::rest) e h C:=Yh t want ht hv (beq_self_eq_true _) H
theorem g_f{op:Op}(ht:ops[j]?.bind (·.dst)=some t)(hv:e t=.bool !want)(H:RL P B st ops rest (e.put dst undef) h C):RL P B st ops (⟨dst,op,ty,pos,af,some (j,want)⟩::rest) e h C:=X8 t _ ht hv (by cases want<;>rfl) H
theorem g_u{op:Op}(ht:ops[j]?.bind (·.dst)=some t)(hv:e t=undef)(H:RL P B st ops rest (e.put dst undef) h C):RL P B st ops (⟨dst,op,ty,pos,af,some (j,want)⟩::rest) e h C:=Azw t ht hv H
theorem Anj{M:List (List Int)}{L:List Int}{m n:Int}(hG:Gs[m.toNat]?=some [g])(HO:Yv (cI κ) er el h F Gs rs v M)(hL:gI M m=some L)(ha:gI L n=some a):Yt h ⟨g,n.toNat*1,none⟩=some (.int κ a):=by obtain⟨cs,h1,h2⟩:=HO.cells hG hL ha;obtain rfl:=h1;exact h2 0 _ rfl
theorem A4v{b:Nat}{c:List aa}{u:aa}(HB:Yz tb h b c)(hc:c[i]?=some u):Yt h ⟨b,i,none⟩=some u:=HB.cell hc
theorem l_S{t:aG}{a:Addr}(hx:e.ev x=.pointer (some a))(hc:Yt h a=some v)(ht:NaT P t)(H:RL P B false ops rest (e.set d v) h C):RL P B false ops (⟨some d,.load t x,ty,pos,af,none⟩::rest) e h C:=Yf ht hx hc H
theorem l_B{t:aG}{a:Addr}(hx:e.ev x=.pointer (some a))(hc:Yt a0 a=some v)(ht:NaT P t)(U:Yg [] a0 h)(H:RL P (λh'=>Yg [] a0 h') true ops rest (e.set d v) h C):RL P (λh'=>Yg [] a0 h') true ops (⟨some d,.load t x,ty,pos,af,none⟩::rest) e h C:=AAm (B:=λh'=>Yg [] a0 h') ht hx U (λh' hb=>Yq hc hb.ext) H
theorem i_O{c:Zx α}{i:an}{L:List α}{n:Int}{a:α}(hx:e.ev x=v)(HO:OwC c el a0 F v L)(hT:SlT P t el0 s)(hs:c.k=s)(hi:e.ev i=.int κ n)(ha:gI L n=some a)(H:∀g,F=[g]->RL P B st ops rest (e.set d (.pointer (some ⟨g,n.toNat*s,none⟩))) h C):RL P B st ops (⟨some d,.indexAddr t x i,ty,pos,af,none⟩::rest) e h C:=by subst hs;exact AIz hT hx HO hi ha H
theorem Av6{c:Zx α}{i:an}{r:aa}{M:List (List α)}{m n:Int}{L:List α}{a:α}(hx:e.ev x=r)(hr:rs[m.toNat]?=some r)(HO:Yv c er el a0 F Gs rs v M)(hT:SlT P t el0 s)(hs:c.k=s)(hi:e.ev i=.int κ n)(hL:gI M m=some L)(ha:gI L n=some a)(H:∀g,Gs[m.toNat]?=some [g]->RL P B st ops rest (e.set d (.pointer (some ⟨g,n.toNat*s,none⟩))) h C):RL P B st ops (⟨some d,.indexAddr t x i,ty,pos,af,none⟩::rest) e h C:=by subst hs;exact Agw hT hx HO hr hL hi ha H
theorem A63{c:Zx α}{i:an}{M:List (List α)}{n:Int}{L:List α}(hx:e.ev x=v)(HO:Yv c er el a0 F Gs rs v M)(hT:SlT P t el0 1)(hi:e.ev i=.int κ n)(ha:gI M n=some L)(H:∀b r,F=b::Gs.flatten->rs[n.toNat]?=some r->Yt a0 ⟨b,n.toNat,none⟩=some r->RL P B st ops rest (e.set d (.pointer (some ⟨b,n.toNat,none⟩))) h C):RL P B st ops (⟨some d,.indexAddr t x i,ty,pos,af,none⟩::rest) e h C:=AT8 hT hx HO hi ha H
theorem i_C{κ':bV}{i:an}{L:List Int}{n:Int}(hx:e.ev x=v)(HS:SlC (cI κ') h0 v L)(hT:SlT P t el 1)(hi:e.ev i=.int κ n)(ha:gI L n=some a)(H:∀b o,Yt h0 ⟨b,o,none⟩=some (.int κ' a)->RL P B st ops rest (e.set d (.pointer (some ⟨b,o,none⟩))) h C):RL P B st ops (⟨some d,.indexAddr t x i,ty,pos,af,none⟩::rest) e h C:=ALw (c:=cI κ') hT hx HS hi ha λb o cs hr hc=>by obtain rfl:=hr;exact H b o (hc 0 _ rfl)
theorem A1v{c:Zx α}{i:an}{L:List α}{n:Int}{a:α}(hx:e.ev x=v)(HS:SlC c h0 v L)(hT:SlT P t el s)(hs:c.k=s)(hi:e.ev i=.int κ n)(ha:gI L n=some a)(H:∀b o cs,c.rep h0 a cs->(∀j u,cs[j]?=some u->Yt h0 ⟨b,o+j,none⟩=some u)->RL P B st ops rest (e.set d (.pointer (some ⟨b,o,none⟩))) h C):RL P B st ops (⟨some d,.indexAddr t x i,ty,pos,af,none⟩::rest) e h C:=by subst hs;exact ALw hT hx HS hi ha H
theorem i_R{c:Zx α}{i:an}{M:List (List α)}{n:Int}{L:List α}(hx:e.ev x=v)(HS:Zv c h0 v M)(hT:SlT P t el 1)(hi:e.ev i=.int κ n)(ha:gI M n=some L)(H:∀b o r,Yt h0 ⟨b,o,none⟩=some r->SlC c h0 r L->RL P B st ops rest (e.set d (.pointer (some ⟨b,o,none⟩))) h C):RL P B st ops (⟨some d,.indexAddr t x i,ty,pos,af,none⟩::rest) e h C:=ARd hT hx HS hi ha H
theorem BBc{c:Zx α}{i:an}{M:List (List α)}{n:Int}{L:List α}(hx:e.ev x=v)(HO:Yv c er el a0 F Gs rs v M)(hT:SlT P t el0 1)(hi:e.ev i=.int κ n)(ha:gI M n=some L)(H:∀b r,F=b::Gs.flatten->rs[n.toNat]?=some r->Yt a0 ⟨b,n.toNat,none⟩=some r->RL P (λh'=>Yg [] a0 h') st ops rest (e.set d (.pointer (some ⟨b,n.toNat,none⟩))) h C):RL P (λh'=>Yg [] a0 h') st ops (⟨some d,.indexAddr t x i,ty,pos,af,none⟩::rest) e h C:=A63 hx HO hT hi ha H
theorem A1w{c:Zx α}{i:an}{r:aa}{M:List (List α)}{m n:Int}{L:List α}{a:α}(hx:e.ev x=r)(hr:rs[m.toNat]?=some r)(HO:Yv c er el a0 F Gs rs v M)(hT:SlT P t el0 s)(hs:c.k=s)(hi:e.ev i=.int κ n)(hL:gI M m=some L)(ha:gI L n=some a)(H:∀g,Gs[m.toNat]?=some [g]->RL P (λh'=>Yg [] a0 h') st ops rest (e.set d (.pointer (some ⟨g,n.toNat*s,none⟩))) h C):RL P (λh'=>Yg [] a0 h') st ops (⟨some d,.indexAddr t x i,ty,pos,af,none⟩::rest) e h C:=Av6 hx hr HO hT hs hi hL ha H
theorem BD9{b:Nat}{z:Int}{cs:List aa}(hx:e.ev x=.pointer (some ⟨b,0,none⟩))(HB:Yz tb h b cs)(zff:cZ.rep h z cs)(H:RL Tryz.prog B false ops rest (e.set d (.agg cs.toArray)) h C):RL Tryz.prog B false ops (⟨some d,.load 32 x,ty,pos,af,none⟩::rest) e h C:=AQ7 cs Ye (cZ.klen zff) hx HB.agg H
theorem BBd{b:Nat}{z:Int}{cs:List aa}(hx:e.ev x=.pointer (some ⟨b,0,none⟩))(HB:Yz tb a0 b cs)(zff:cZ.rep h z cs)(U:Yg [] a0 h)(H:RL Tryz.prog (λh'=>Yg [] a0 h') true ops rest (e.set d (.agg cs.toArray)) h C):RL Tryz.prog (λh'=>Yg [] a0 h') true ops (⟨some d,.load 32 x,ty,pos,af,none⟩::rest) e h C:=AXm zff U HB H hx
theorem A64{b o:Nat}{z:Int}{cs:List aa}(hx:e.ev x=.pointer (some ⟨b,o,none⟩))(hc:∀j u,cs[j]?=some u->Yt h0 ⟨b,o+j,none⟩=some u)(hz:cZ.rep h0 z cs)(E:Ext h0 h)(H:RL Tryz.prog B false ops rest (e.set d (.agg cs.toArray)) h C):RL Tryz.prog B false ops (⟨some d,.load 32 x,ty,pos,af,none⟩::rest) e h C:=AK5 (c:=cZ) Ye hx (cZ.upT hz E.upT) (λj u hu=>Yq (hc j u hu) E) H
theorem Av7{b o:Nat}{z:Int}{cs:List aa}(hx:e.ev x=.pointer (some ⟨b,o,none⟩))(hc:∀j u,cs[j]?=some u->Yt h0 ⟨b,o+j,none⟩=some u)(hz:cZ.rep h0 z cs)(E:Ext h0 a0)(U:Yg [] a0 h)(H:RL Tryz.prog (λh'=>Yg [] a0 h') true ops rest (e.set d (.agg cs.toArray)) h C):RL Tryz.prog (λh'=>Yg [] a0 h') true ops (⟨some d,.load 32 x,ty,pos,af,none⟩::rest) e h C:=AWd (c:=cZ) (B:=λh'=>Yg [] a0 h') Ye hx hz U (λh' hb j u hu=>Yq (hc j u hu) (E.trans hb.ext)) H
theorem cZO{L:List Int}{n:Int}(hF:F=[g])(HO:OwC cZ el h F v L)(ha:gI L n=some a):∃cs,cZ.rep h a cs/\∀j u,cs[j]?=some u->Yt h ⟨g,n.toNat*2+j,none⟩=some u:=HO.cells hF ha
theorem BBe{M:List (List Int)}{L:List Int}{m n:Int}(hG:Gs[m.toNat]?=some [g])(HO:Yv cZ er el h F Gs rs v M)(hL:gI M m=some L)(ha:gI L n=some a):∃cs,cZ.rep h a cs/\∀j u,cs[j]?=some u->Yt h ⟨g,n.toNat*2+j,none⟩=some u:=HO.cells hG hL ha
theorem z1X{L:List Int}{n:Int}(_:e.ev x=.pointer (some ⟨g,n.toNat*2,none⟩))(hF:F=[g])(HO:OwC cZ el h F v L)(ha:gI L n=some a):∃cs,cZ.rep h a cs/\∀j u,cs[j]?=some u->Yt h ⟨g,n.toNat*2+j,none⟩=some u:=cZO hF HO ha
theorem z2X{M:List (List Int)}{L:List Int}{m n:Int}(_:e.ev x=.pointer (some ⟨g,n.toNat*2,none⟩))(hG:Gs[m.toNat]?=some [g])(HO:Yv cZ er el h F Gs rs v M)(hL:gI M m=some L)(ha:gI L n=some a):∃cs,cZ.rep h a cs/\∀j u,cs[j]?=some u->Yt h ⟨g,n.toNat*2+j,none⟩=some u:=BBe hG HO hL ha
theorem z2B{M:List (List Int)}{L:List Int}{m n:Int}(_:Yg [] h h')(_:e.ev x=.pointer (some ⟨g,n.toNat*2,none⟩))(hG:Gs[m.toNat]?=some [g])(HO:Yv cZ er el h F Gs rs v M)(hL:gI M m=some L)(ha:gI L n=some a):∃cs,cZ.rep h a cs/\∀j u,cs[j]?=some u->Yt h ⟨g,n.toNat*2+j,none⟩=some u:=BBe hG HO hL ha
theorem l_A{b:Nat}{c:List aa}(hx:e.ev x=.pointer (some ⟨b,0,none⟩))(HB:Yz tb h b c)(ht:AgT P t s)(hl:c.length=s)(H:RL P B false ops rest (e.set d (.agg c.toArray)) h C):RL P B false ops (⟨some d,.load t x,ty,pos,af,none⟩::rest) e h C:=AQ7 c ht hl hx HB.agg H
theorem BEa{b:Nat}{c:List aa}(hx:e.ev x=.pointer (some ⟨b,0,none⟩))(HB:Yz tb a0 b c)(ht:AgT P t s)(hl:c.length=s)(U:Yg [] a0 h)(H:RL P (λh'=>Yg [] a0 h') true ops rest (e.set d (.agg c.toArray)) h C):RL P (λh'=>Yg [] a0 h') true ops (⟨some d,.load t x,ty,pos,af,none⟩::rest) e h C:=AEa (B:=λh'=>Yg [] a0 h') c ht hl hx U (λh' hb=>(HB.ext hb.ext).agg) H
theorem f_1{off ft b o:Nat}(hx:e.ev x=.pointer (some ⟨b,o,none⟩))(hf:FdT P t f off ft)(hs:(P.info? ft).map (·.size)=some 1)(H:RL P B st ops rest (e.set d (.pointer (some ⟨b,o+off,none⟩))) h C):RL P B st ops (⟨some d,.fieldAddr t x f,ty,pos,af,none⟩::rest) e h C:=AA8 hf hs Wr hx H
theorem n_C{c:Zx α}{L:List α}(hx:e.ev x=v)(HI:SlC c h0 v L)(hT:SlT P t el s)(H:RL P B st ops rest (e.set d (.int .i64 (L.length:Int))) h C):RL P B st ops (⟨some d,.call ⟨.builtin .len,#[x],#[t]⟩,ty,pos,af,none⟩::rest) e h C:=AQh hT hx HI H
theorem n_R{c:Zx α}{M:List (List α)}(hx:e.ev x=v)(HI:Zv c h0 v M)(hT:SlT P t el s)(H:RL P B st ops rest (e.set d (.int .i64 (M.length:Int))) h C):RL P B st ops (⟨some d,.call ⟨.builtin .len,#[x],#[t]⟩,ty,pos,af,none⟩::rest) e h C:=AWe hT hx HI H
theorem x20{a b:aa}(hx:e.ev x=.tuple #[a,b])(H:RL P B st ops rest (e.set d a) h C):RL P B st ops (⟨some d,.extract x 0,ty,pos,af,none⟩::rest) e h C:=ABx hx rfl H
theorem x21{a b:aa}(hx:e.ev x=.tuple #[a,b])(H:RL P B st ops rest (e.set d b) h C):RL P B st ops (⟨some d,.extract x 1,ty,pos,af,none⟩::rest) e h C:=ABx hx rfl H
theorem x30{a b c:aa}(hx:e.ev x=.tuple #[a,b,c])(H:RL P B st ops rest (e.set d a) h C):RL P B st ops (⟨some d,.extract x 0,ty,pos,af,none⟩::rest) e h C:=ABx hx rfl H
theorem x31{a b c:aa}(hx:e.ev x=.tuple #[a,b,c])(H:RL P B st ops rest (e.set d b) h C):RL P B st ops (⟨some d,.extract x 1,ty,pos,af,none⟩::rest) e h C:=ABx hx rfl H
theorem x32{a b c:aa}(hx:e.ev x=.tuple #[a,b,c])(H:RL P B st ops rest (e.set d c) h C):RL P B st ops (⟨some d,.extract x 2,ty,pos,af,none⟩::rest) e h C:=ABx hx rfl H
theorem c_S{f:bL}{l:List aa}{K':aa->Ws->Prop}(hxs:xs.map e.ev=l)(HC:W6 P f l.toArray h λx h'=>Ext h h'/\K' x h')(H:∀v h',Ext h h'->K' v h'->RL P (λ_=>True) st ops rest (e.set d v) h' C):RL P (λ_=>True) st ops (⟨some d,.call ⟨.value (.func f),xs.toArray,ts⟩,ty,pos,af,none⟩::rest) e h C:=ADs trivial (λ_ _=>trivial) hxs HC H
theorem c_B{f:bL}{l:List aa}{K':aa->Ws->Prop}(hxs:xs.map e.ev=l)(HC:W6 P f l.toArray h λx h'=>Ext h h'/\K' x h')(U:Yg [] a0 h)(H:∀v h',Ext h h'->K' v h'->Yg [] a0 h'->RL P (λh'=>Yg [] a0 h') st ops rest (e.set d v) h' C):RL P (λh'=>Yg [] a0 h') st ops (⟨some d,.call ⟨.value (.func f),xs.toArray,ts⟩,ty,pos,af,none⟩::rest) e h C:=ADs (B:=λh'=>Yg [] a0 h') U (λ_ E=>U.thenE E) hxs HC λv h' E k=>H v h' E k (U.thenE E)
theorem A1x{i:an}{L:List Xe}{n:Int}{a:Xe}(hx:e.ev x=v)(HS:SlC Ajn h0 v L)(hT:SlT P t el 5)(hi:e.ev i=.int κ n)(ha:gI L n=some a)(H:∀b o,(∀j u,([.int .i64 a.1,.int .i64 a.2.1,.int .i64 a.2.2.1,.int .i64 a.2.2.2.1,.int .i64 a.2.2.2.2]:List aa)[j]?=some u->Yt h0 ⟨b,o+j,none⟩=some u)->RL P B st ops rest (e.set d (.pointer (some ⟨b,o,none⟩))) h C):RL P B st ops (⟨some d,.indexAddr t x i,ty,pos,af,none⟩::rest) e h C:=ALw (c:=Ajn) hT hx HS hi ha λb o cs hr hc=>by obtain rfl:=hr;exact H b o hc
theorem A1y{i:an}{L:List Xm}{n:Int}{a:Xm}(hx:e.ev x=v)(HS:SlC AJw h0 v L)(hT:SlT P t el 5)(hi:e.ev i=.int κ n)(ha:gI L n=some a)(H:∀b o,(∀j u,([.int .i64 a.1,.int .i64 a.2.1,.int .i64 a.2.2.1,.bool a.2.2.2.1,.int .i64 a.2.2.2.2]:List aa)[j]?=some u->Yt h0 ⟨b,o+j,none⟩=some u)->RL P B st ops rest (e.set d (.pointer (some ⟨b,o,none⟩))) h C):RL P B st ops (⟨some d,.indexAddr t x i,ty,pos,af,none⟩::rest) e h C:=ALw (c:=AJw) hT hx HS hi ha λb o cs hr hc=>by obtain rfl:=hr;exact H b o hc
theorem cOK{L:List Xm}{n:Int}{a:Xm}(hF:F=[g])(HO:OwC AJw el h F v L)(ha:gI L n=some a):∀j u,([.int .i64 a.1,.int .i64 a.2.1,.int .i64 a.2.2.1,.bool a.2.2.2.1,.int .i64 a.2.2.2.2]:List aa)[j]?=some u->Yt h ⟨g,n.toNat*5+j,none⟩=some u:=by obtain⟨cs,h1,h2⟩:=HO.cells hF ha;obtain rfl:=h1;exact h2
theorem Aap{b o:Nat}{cs:List aa}{u:aa}(hc:∀j u,cs[j]?=some u->Yt h ⟨b,o+j,none⟩=some u)(hu:cs[j]?=some u):Yt h ⟨b,o+j,none⟩=some u:=hc j u hu
theorem l_L{b o:Nat}{cs:List aa}(hx:e.ev x=.pointer (some ⟨b,o,none⟩))(hc:∀j u,cs[j]?=some u->Yt h0 ⟨b,o+j,none⟩=some u)(E:Ext h0 h)(ht:AgT P t s)(hl:cs.length=s)(H:RL P B false ops rest (e.set d (.agg cs.toArray)) h C):RL P B false ops (⟨some d,.load t x,ty,pos,af,none⟩::rest) e h C:=AQ7 cs ht hl hx (λi u hu=>by rw[Zu];exact Yq (hc i u hu) E) H
theorem A65{b o:Nat}{cs:List aa}(hx:e.ev x=.pointer (some ⟨b,o,none⟩))(hc:∀j u,cs[j]?=some u->Yt h0 ⟨b,o+j,none⟩=some u)(E:Ext h0 a0)(ht:AgT P t s)(hl:cs.length=s)(U:Yg [] a0 h)(H:RL P (λh'=>Yg [] a0 h') true ops rest (e.set d (.agg cs.toArray)) h C):RL P (λh'=>Yg [] a0 h') true ops (⟨some d,.load t x,ty,pos,af,none⟩::rest) e h C:=AEa (B:=λh'=>Yg [] a0 h') cs ht hl hx U (λh' hb i u hu=>by rw[Zu];exact Yq (hc i u hu) (E.trans hb.ext)) H
def KB(h0 h:Ws)(l:List Y6):Prop:=Xg h0 h l
theorem kB(k:KB h0 h l):Xg h0 h l:=k
def BG(_ _:Nat):Prop:=True
theorem bg(a b:Nat):BG a b:=trivial
section
variable{Q:cQ->Env->Ws->Prop}{id j k n:Nat}{q:List ay}{o1:ay}{a b:Y6}{G F:List Nat}{x:an}{t s tb bb o:Nat}{c:List aa}{u v:aa}
theorem BBg{cc:Zx α}{M:List (List α)}(hs:BG n j/\q=o1::rest/\o1.dst=some n)(K:Xg h0 h l)(p:Rep j l (aO2 cc er el F Gs rs v M) (aO2 cc er el F Gs rs v M) l')(h1:AJu q.toArray true=true)(h2:AVw q.toArray true=true)(H:KB h0 h l->Yg F h h->RL P (λh'=>Yg F h h') true q.toArray q e h (Q .normal)):W P (.region id q.toArray true) Q e h:=AAr _ (by rw[h1,h2]) (H K (Yg.start (K.o2 p).notD))
theorem BBh(hs:BG n j/\q=o1::rest/\o1.dst=some n)(K:Xg h0 h l)(p:Rep j l (aB tb bb c) (aB tb bb c) l')(hb:aq tb 96=false)(h1:AJu q.toArray true=true)(h2:AVw q.toArray true=true)(H:KB h0 h l->Yg [bb] h h->RL P (λh'=>Yg [bb] h h') true q.toArray q e h (Q .normal)):W P (.region id q.toArray true) Q e h:=AAr _ (by rw[h1,h2]) (H K (Yg.start (AJg (K.b p) hb)))
theorem BEc(kb:KB h0 a0 l)(U:Yg F a0 h)(hx:e.ev x=.pointer (some ⟨bb,o,none⟩))(p:Rep j l (aB tb bb c) (aB tb bb c) l')(p2:∃k,(∃a l2,Rep k l a a l2/\a.F=F)/\j≠k)(hc:c[o]?=some u)(ht:NaT P t)(H:RL P (λh'=>Yg F a0 h') true ops rest (e.set d u) h C):RL P (λh'=>Yg F a0 h') true ops (⟨some d,.load t x,ty,pos,af,none⟩::rest) e h C:=by obtain⟨k,⟨a,l2,p2,rfl⟩,hk⟩:=p2;exact AAm (B:=λh'=>Yg a.F a0 h') ht hx U (λh' hb=>((Xg.b kb p).upT hb (Xg.dj kb p p2 hk)).cell hc) H
theorem BEd{cc:Zx α}{F2:List Nat}{M:List (List α)}(kb:KB h0 a0 l)(U:Yg F a0 h)(hx:e.ev x=.pointer (some ⟨bb,o,none⟩))(hF:F2=bb::Gs.flatten)(hc:Yt a0 ⟨bb,o,none⟩=some u)(p:Rep j l (aO2 cc er el F2 Gs rs v M) (aO2 cc er el F2 Gs rs v M) l')(p2:∃k,(∃a l2,Rep k l a a l2/\a.F=F)/\j≠k)(ht:NaT P t)(H:RL P (λh'=>Yg F a0 h') true ops rest (e.set d u) h C):RL P (λh'=>Yg F a0 h') true ops (⟨some d,.load t x,ty,pos,af,none⟩::rest) e h C:=by obtain⟨k,⟨a,l2,p2,rfl⟩,hk⟩:=p2;exact AAm (B:=λh'=>Yg a.F a0 h') ht hx U (λh' hb=>AU7 hc hb ((Xg.dj kb p p2 hk) _ (by subst hF;simp[aO2]))) H
theorem BEe{F2:List Nat}{M:List (List Int)}{L:List Int}{m n z:Int}(kb:KB h0 a0 l)(U:Yg F a0 h)(hx:e.ev x=.pointer (some ⟨g,n.toNat*1,none⟩))(hG:Gs[m.toNat]?=some [g])(p:Rep j l (aO2 (cI κ) er el F2 Gs rs v M) (aO2 (cI κ) er el F2 Gs rs v M) l')(hL:gI M m=some L)(ha:gI L n=some z)(p2:∃k,(∃a l2,Rep k l a a l2/\a.F=F)/\j≠k)(ht:NaT P t)(H:RL P (λh'=>Yg F a0 h') true ops rest (e.set d (.int κ z)) h C):RL P (λh'=>Yg F a0 h') true ops (⟨some d,.load t x,ty,pos,af,none⟩::rest) e h C:=by obtain⟨k,⟨a,l2,p2,rfl⟩,hk⟩:=p2;obtain⟨G',h1,h2,_⟩:=(Xg.o2 kb p).rowG hL;obtain rfl:G'=[g]:=bI (h1.symm.trans hG);exact AAm (B:=λh'=>Yg a.F a0 h') ht hx U (λh' hb=>AU7 (Anj hG (Xg.o2 kb p) hL ha) hb ((Xg.dj kb p p2 hk) _ (h2 _ W4))) H
theorem BEf{n:Int}(k:Xg h0 h l)(U:Yg F a0 h)(hx:e.ev x=.int .i64 n)(hy:e.ev y=.int .i64 n)(hT:SlT P t el 1)(hz:ZeT P el (.int κ 0) bytes)(hel:aq el 96=false)(hby:aA bytes 1000=true)(hn:0<=n/\n<=100000000)(H:∀b v h',Xg h0 h' (aO (cI κ) el [b] v (ab n.toNat (0:Int))::l)->Yg F a0 h'->RL P (λh'=>Yg F a0 h') st ops rest (e.set d v) h' C):RL P (λh'=>Yg F a0 h') st ops (⟨some d,.makeSlice t x y,ty,pos,af,none⟩::rest) e h C:=AZe (c:=cI κ) (a:=0) (B:=λh'=>Yg F a0 h') hT hz rfl rfl (λ_=>rfl) hel U (λ_ E=>U.thenE E) hx hy (am hby) hn λb v h' O E l1 l2=>H b v h' (k.no E (AFj l1 l2) O) (U.thenE E)
theorem BEg{cc:Zx α}{sx:an}{j:Nat}{pos':String}{af':Array Edge}{z v r:aa}{F1:List Nat}{M:List (List α)}{L:List α}{l1:List Y6}{l2:List Nat->aa->List Y6}(k:Xg h0 h l)(U:Yg F1 a0 h)(hs:∀p,(e.set d p).ev sx=v)(hy:e.ev y=r)(p1:Rep j l (aO cc el F0 r L) (aC True) l1)(p2:∀F' v',Rep i l1 (aO2 cc er el F1 Gs rs v M) (aO2 cc er el F' (Gs++[F0]) (rs++[r]) v' (M++[L])) (l2 F' v'))(hij:aq i j=false)(hT:SlT P t er 1)(hz:ZeT P er z bytes)(hzk:z.cells.size=1)(hel:aq er 96=false)(hby:aA bytes 1000=true)(hl:M.length<=100000000)(H:∀p F' v' h',Xg h0 h' (l2 F' v')->Yg F1 a0 h'->RL P (λh'=>Yg F1 a0 h') st ops rest ((e.set d p).set d' v') h' C):RL P (λh'=>Yg F1 a0 h') st ops (⟨some d,.buildSlice t 1 #[(0,y)],ty,pos,af,none⟩::⟨some d',.call ⟨.builtin .append,#[sx,.tmp d],#[t,t]⟩,ty',pos',af',none⟩::rest) e h C:=by
 have hij:i≠j:=λh=>by subst h;simp at hij
 have e2:l[i]?=some (aO2 cc er el F1 Gs rs v M):=by have h1:=(p2 [] v).1;rw[p1.2,bD λh=>hij h.symm]at h1;exact h1
 exact Apf (B:=λh'=>Yg F1 a0 h') hT hz hzk hel U (λ_ U'=>U.then U' λx hx=>.inl hx) hs hy (k.o (i:=j) ⟨p1.1,rfl⟩) (k.o2 (i:=i) ⟨e2,rfl⟩) (k.dj (i:=j) (j:=i) (l':=l.set j (aO cc el F0 r L)) (l2:=l.set i (aO2 cc er el F1 Gs rs v M)) ⟨p1.1,rfl⟩ ⟨e2,rfl⟩ λh=>hij h.symm) (am hby) hl λq F' v' h' O U' hs'=>H q F' v' h' (k.m2 p1 (p2 F' v') hij U' O hs') (U.then U' λx hx=>.inl hx)
end
def FL(_ _ _ _:Nat):Prop:=True
theorem fl(a b c d:Nat):FL a b c d:=trivial
def FK(_:Nat):Prop:=True
section
variable{Q:cQ->Env->Ws->Prop}{id m k t t' bytes bytes':Nat}{q:List ay}{z z':List aa}{posa posb:String}{afa afb:Array Edge}{tya tyb:aG}{d':Nat}
theorem BEh(hf:FL d m 1 k/\q.toArray[m]?=some ⟨some d,.alloc t,tya,posa,afa,none⟩)(K:Xg h0 h l)(hz:ZeT P t (.agg z.toArray) bytes)(hok:Avm q.toArray m [d]=true)(H:FK k->KB h0 h l->Yg [] h h->HRf P (λh'=>Yg [] h h') q.toArray (q.take m) e h (λ_=>True) (KA [⟨d,t,z⟩] h λbl e' h'=>RL P (λh'=>Yg [] h h') true q.toArray (q.drop (m+1)) (setO [⟨d,t,z⟩] (bl.map some) e') h' (Q .normal))):W P (.region id q.toArray true) Q e h:=Abl (B:=λh'=>Yg [] h h') m [⟨d,t,z⟩] (λ_ _ U E=>U.thenE E) hok (Yg.start all_nil) (Avl hf.2 hz rfl λ_ _ U E=>U.thenE E) (H trivial K (Yg.start all_nil))
theorem BEi(hf:FL d m 2 k/\q.toArray[m]?=some ⟨some d,.alloc t,tya,posa,afa,none⟩)(K:Xg h0 h l)(ho':q.toArray[m+1]?=some ⟨some d',.alloc t',tyb,posb,afb,none⟩)(hz:ZeT P t (.agg z.toArray) bytes)(hz':ZeT P t' (.agg z'.toArray) bytes')(hok:Avm q.toArray m [d,d']=true)(H:FK k->KB h0 h l->Yg [] h h->HRf P (λh'=>Yg [] h h') q.toArray (q.take m) e h (λ_=>True) (KA [⟨d,t,z⟩,⟨d',t',z'⟩] h λbl e' h'=>RL P (λh'=>Yg [] h h') true q.toArray (q.drop (m+2)) (setO [⟨d,t,z⟩,⟨d',t',z'⟩] (bl.map some) e') h' (Q .normal))):W P (.region id q.toArray true) Q e h:=Abl (B:=λh'=>Yg [] h h') m [⟨d,t,z⟩,⟨d',t',z'⟩] (λ_ _ U E=>U.thenE E) hok (Yg.start all_nil) (Ac1 hf.2 ho' hz rfl hz' rfl λ_ _ U E=>U.thenE E) (H trivial K (Yg.start all_nil))
theorem BEj(hf:FL d m 3 k/\q.toArray[m]?=some ⟨some d,.alloc t,tya,posa,afa,none⟩)(K:Xg h0 h l)(ho':q.toArray[m+1]?=some ⟨some d',.alloc t',tyb,posb,afb,none⟩)(hz:ZeT P t (.agg z.toArray) bytes)(hz':ZeT P t' (.agg z'.toArray) bytes')(hok:A4q q.toArray m [d,d']=true)(H:FK k->KB h0 h l->Yg [] h h->HRf P (λh'=>Yg [] h h') q.toArray (q.take m) e h (λ_=>True) (KA [⟨d,t,z⟩,⟨d',t',z'⟩] h λbl e' h'=>RLB P (λh'=>Yg [] h h') q.toArray (q.drop (m+2)) (setO [⟨d,t,z⟩,⟨d',t',z'⟩] (bl.map some) e') h' (Q .normal))):W P (.region id q.toArray true) Q e h:=AXj (B:=λh'=>Yg [] h h') m [⟨d,t,z⟩,⟨d',t',z'⟩] (λ_ _ U E=>U.thenE E) hok (Yg.start all_nil) (Ac1 hf.2 ho' hz rfl hz' rfl λ_ _ U E=>U.thenE E) (H trivial K (Yg.start all_nil))
theorem ka1{g:Ws}{G:List Nat->Env->Ws->Prop}(kb:KB h0 g l)(U:Yg [] g h)(H:∀b,Xg h0 h (aB t b z::l)->g.size<=b->G [b] e h):KA [⟨d,t,z⟩] g G e h N:=BAs λb V lo _=>H b (Xg.nb kb U.ext (AFj lo V.lt) V) lo
theorem ka2{g:Ws}{G:List Nat->Env->Ws->Prop}(kb:KB h0 g l)(U:Yg [] g h)(H:∀b b',Xg h0 h (aB t b z::aB t' b' z'::l)->g.size<=b->g.size<=b'->G [b,b'] e h):KA [⟨d,t,z⟩,⟨d',t',z'⟩] g G e h N:=A0z λb b' V V' hne lo lo' _ _=>H b b' (Xg.nb2 kb U.ext (AZk lo lo' V.lt V'.lt hne) V V') lo lo'
theorem d_E{a b:Ws}(E:Ext a b)(H:G):Ext a b/\G:=⟨E,H⟩
theorem BEk{b:Nat}{c:List aa}(K:Xg h0 h l)(hx:e.ev x=.pointer (some ⟨b,0,none⟩))(hy:e.ev y=.agg c'.toArray)(p:Rep j l (aB tb b c) (aB tb b c') l')(ht:AgT P t s)(hl:c.length=s)(hl':c'.length=s)(h1:∀u∈c',isOne u=true)(hb:aq tb 96=false)(U:Yg [] a0 h)(lo:a0.size<=b)(H:∀h',Xg h0 h' l'->Yg [] a0 h'->RLB P (λh'=>Yg [] a0 h') ops rest e h' C):RLB P (λh'=>Yg [] a0 h') ops (⟨none,.store t x y,ty,pos,af,none⟩::rest) e h C:=b_w (AAn c' ht hl' hl hx hy h1 (K.b ⟨p.1,rfl⟩) λh' I U'=>W0 (have U2:=U.then (I.stA U' (AJg (K.b (i:=j) (l':=l.set j (aB tb b c)) ⟨p.1,rfl⟩) hb) hb) λx hx=>.inr (by rw[aM.1 hx];exact lo);⟨U2,H h' (K.sb p U' I hb) U2⟩))
end
end
section
variable{h0 h:Ws}{l l':List Y6}{c1 c2 c3 cq4:List aa}{z1 z2 z3 z4:Int}
theorem fz0(_:FK 0)(_:Xg h0 h l)(k:Xg h0 h l'):Xg h0 h l':=k
theorem fz2(_:FK 2)(q:Xg h0 h (aZ c1 z1::aZ c2 z2::l))(k:Xg h0 h l'):Xg h0 h (aZ c1 z1::aZ c2 z2::l'):=(k.az (q.z p1)).az (q.z p0)
theorem fz4(_:FK 4)(q:Xg h0 h (aZ c1 z1::aZ c2 z2::aZ c3 z3::aZ cq4 z4::l))(k:Xg h0 h l'):Xg h0 h (aZ c1 z1::aZ c2 z2::aZ c3 z3::aZ cq4 z4::l'):=(((k.az (q.z p3)).az (q.z p2)).az (q.z p1)).az (q.z p0)
theorem fz5{c1 c2 c3 cq4:List aa}{z1 z2 z3 z4:Int}(_:FK 5)(q:Xg h0 h (aZ c1 z1::aZ c2 z2::aZ c3 z3::aZ cq4 z4::aZ c5 z5::l))(k:Xg h0 h l'):Xg h0 h (aZ c1 z1::aZ c2 z2::aZ c3 z3::aZ cq4 z4::aZ c5 z5::l'):=((((k.az (q.z p4)).az (q.z p3)).az (q.z p2)).az (q.z p1)).az (q.z p0)
theorem fz6{c1 c2 c3 cq4 c6:List aa}{z1 z2 z3 z4 z6:Int}(_:FK 6)(q:Xg h0 h (aZ c1 z1::aZ c2 z2::aZ c3 z3::aZ cq4 z4::aZ c5 z5::aZ c6 z6::l))(k:Xg h0 h l'):Xg h0 h (aZ c1 z1::aZ c2 z2::aZ c3 z3::aZ cq4 z4::aZ c5 z5::aZ c6 z6::l'):=(((((k.az (q.z p5)).az (q.z p4)).az (q.z p3)).az (q.z p2)).az (q.z p1)).az (q.z p0)
theorem fz7{c1 c2 c3 cq4 c6 c7:List aa}{z1 z2 z3 z4 z6 z7:Int}(_:FK 7)(q:Xg h0 h (aZ c1 z1::aZ c2 z2::aZ c3 z3::aZ cq4 z4::aZ c5 z5::aZ c6 z6::aZ c7 z7::l))(k:Xg h0 h l'):Xg h0 h (aZ c1 z1::aZ c2 z2::aZ c3 z3::aZ cq4 z4::aZ c5 z5::aZ c6 z6::aZ c7 z7::l'):=((((((k.az (q.z p6)).az (q.z p5)).az (q.z p4)).az (q.z p3)).az (q.z p2)).az (q.z p1)).az (q.z p0)
end
section
variable{P:aK}{B:Ws->Prop}{st:Bool}{ops:Array ay}{rest:List ay}{e:Env}{h h0 a0:Ws}{C:Env->Ws->Prop}{l l':List Y6}{d d2:Nat}{ty ty2:aG}{pos pos2:String}{af af2:Array Edge}
theorem BEl{n:Int}(k:Xg h0 h l)(hx:e.ev x=.int .i64 n)(hy:e.ev y=.int .i64 n)(hT:SlT P t el 1)(hz:ZeT P el (.int κ 0) bytes)(hel:aq el 96=false)(hby:aA bytes 1000=true)(hn:0<=n/\n<=100000000)(H:∀b v h',Ext h h'->Xg h0 h' (aO (cI κ) el [b] v (ab n.toNat (0:Int))::l)->RL P (λ_=>True) st ops rest (e.set d v) h' C):RL P (λ_=>True) st ops (⟨some d,.makeSlice t x y,ty,pos,af,none⟩::rest) e h C:=AZe (c:=cI κ) (a:=0) hT hz rfl rfl (λ_=>rfl) hel trivial (λ_ _=>trivial) hx hy (am hby) hn λb v h' O E l1 l2=>H b v h' E (k.no E (AFj l1 l2) O)
theorem BEm{n:Int}(k:Xg h0 h l)(hx:e.ev x=.int .i64 n)(hy:e.ev y=.int .i64 n)(hT:SlT P t el 2)(hz:ZeT P el (.agg #[.bool false,.slice none 0 0]) bytes)(hel:aq el 96=false)(hby:aA bytes 1000=true)(hn:0<=n/\n<=100000000)(H:∀b v h',Ext h h'->Xg h0 h' (aO cZ el [b] v (ab n.toNat (0:Int))::l)->RL P (λ_=>True) st ops rest (e.set d v) h' C):RL P (λ_=>True) st ops (⟨some d,.makeSlice t x y,ty,pos,af,none⟩::rest) e h C:=AZf hT hz hel trivial (λ_ _=>trivial) hx hy (am hby) hn λb v h' O E l1 l2=>H b v h' E (k.no E (AFj l1 l2) O)
theorem BBi(c:Zx α)(el:Nat){n:Int}(k:Xg h0 h l)(hx:e.ev x=.int .i64 n)(hy:e.ev y=.int .i64 n)(hT:SlT P t er 1)(hr:SlT P er el s)(hks:c.k=s)(hz:ZeT P er (.slice none 0 0) bytes)(hel:aq er 96=false)(hby:aA bytes 1000=true)(hn:0<=n/\n<=100000000)(H:∀F Gs rs v h',Ext h h'->Xg h0 h' (aO2 c er el F Gs rs v (ab n.toNat ([]:List α))::l)->RL P (λ_=>True) st ops rest (e.set d v) h' C):RL P (λ_=>True) st ops (⟨some d,.makeSlice t x y,ty,pos,af,none⟩::rest) e h C:=by subst hks;exact Au1 c el hT hz hel trivial (λ_ _=>trivial) hx hy (am hby) hn λF Gs rs v h' O E S=>H F Gs rs v h' E (k.no2 E S O)
theorem p_g{c:Zx α}{s:an}{pos':String}{af':Array Edge}{z:aa}{L:List α}{a:α}{cs:List aa}{l2:List Nat->aa->List Y6}(k:Xg h0 h l)(hs:∀p,(e.set d p).ev s=v)(p:∀F' v',Rep j l (aO c el F v L) (aO c el F' v' (L++[a])) (l2 F' v'))(hrep:c.rep h a cs)(hy:e.ev y=c.val cs)(hT:SlT P t el sz)(hsz:c.k=sz)(hz:ZeT P el z bytes)(hzk:z.cells.size=c.k)(hel:aq el 96=false)(hby:aA bytes 1000=true)(hl:L.length<=100000000)(H:∀p F' v' h',Xg h0 h' (l2 F' v')->RL P (λ_=>True) st ops rest ((e.set d p).set d' v') h' C):RL P (λ_=>True) st ops (⟨some d,.buildSlice t 1 #[(0,y)],ty,pos,af,none⟩::⟨some d',.call ⟨.builtin .append,#[s,.tmp d],#[t,t]⟩,ty',pos',af',none⟩::rest) e h C:=by subst hsz;exact Agx hT hz hzk hel trivial (λ_ _=>trivial) hs hy hrep (k.o ⟨(p [] v).1,rfl⟩) (am hby) hl λq F' v' h' O U hs'=>H q F' v' h' (k.uo (p F' v') U O hs')
theorem A4w:(cI κ).rep h a [.int κ a]:=rfl
theorem BBk{b c g:Int}{f:Bool}:AJw.rep h (a,b,c,f,g) [.int .i64 a,.int .i64 b,.int .i64 c,.bool f,.int .i64 g]:=rfl
theorem BBl{b:Int}:A06.rep h (a,b) [.int .i64 a,.int .i64 b]:=rfl
theorem BBm{b c f g:Int}:Ajn.rep h (a,b,c,f,g) [.int .i64 a,.int .i64 b,.int .i64 c,.int .i64 f,.int .i64 g]:=rfl
theorem p_R{c:Zx α}{s:an}{pos':String}{af':Array Edge}{z r:aa}{M:List (List α)}{L:List α}{l1:List Y6}{l2:List Nat->aa->List Y6}(k:Xg h0 h l)(hs:∀p,(e.set d p).ev s=v)(hy:e.ev y=r)(p1:Rep j l (aO c el F0 r L) (aC True) l1)(p2:∀F' v',Rep i l1 (aO2 c er el F Gs rs v M) (aO2 c er el F' (Gs++[F0]) (rs++[r]) v' (M++[L])) (l2 F' v'))(hij:aq i j=false)(hT:SlT P t er 1)(hz:ZeT P er z bytes)(hzk:z.cells.size=1)(hel:aq er 96=false)(hby:aA bytes 1000=true)(hl:M.length<=100000000)(H:∀p F' v' h',Xg h0 h' (l2 F' v')->RL P (λ_=>True) st ops rest ((e.set d p).set d' v') h' C):RL P (λ_=>True) st ops (⟨some d,.buildSlice t 1 #[(0,y)],ty,pos,af,none⟩::⟨some d',.call ⟨.builtin .append,#[s,.tmp d],#[t,t]⟩,ty',pos',af',none⟩::rest) e h C:=by
 have hij:i≠j:=λh=>by subst h;simp at hij
 have e2:l[i]?=some (aO2 c er el F Gs rs v M):=by have h1:=(p2 [] v).1;rw[p1.2,bD λh=>hij h.symm]at h1;exact h1
 exact Apf hT hz hzk hel trivial (λ_ _=>trivial) hs hy (k.o (i:=j) ⟨p1.1,rfl⟩) (k.o2 (i:=i) ⟨e2,rfl⟩) (k.dj (i:=j) (j:=i) (l':=l.set j (aO c el F0 r L)) (l2:=l.set i (aO2 c er el F Gs rs v M)) ⟨p1.1,rfl⟩ ⟨e2,rfl⟩ λh=>hij h.symm) (am hby) hl λq F' v' h' O U hs'=>H q F' v' h' (k.m2 p1 (p2 F' v') hij U O hs')
theorem s_R{c:Zx α}{b:Nat}{r':aa}{M:List (List α)}{n:Int}{L L':List α}{l1:List Y6}(k:Xg h0 h l)(hx:e.ev x=.pointer (some ⟨b,n.toNat,none⟩))(hy:e.ev y=r')(hF:F=b::Gs.flatten)(p1:Rep j l (aO c el F' r' L') (aC True) l1)(p2:Rep i l1 (aO2 c er el F Gs rs v M) (aO2 c er el (b::(Gs.set n.toNat F').flatten) (Gs.set n.toNat F') (rs.set n.toNat r') v (sI M n L')) l')(hij:aq i j=false)(ht:NaT P t)(hL:gI M n=some L)(H:∀h',Xg h0 h' l'->RL P B st ops rest e h' C):RL P B st ops (⟨none,.store t x y,ty,pos,af,none⟩::rest) e h C:=by
 have hij:i≠j:=λh=>by subst h;simp at hij
 have e2:l[i]?=some (aO2 c er el F Gs rs v M):=by have h1:=p2.1;rw[p1.2,bD λh=>hij h.symm]at h1;exact h1
 exact Au0 ht (k.o2 (i:=i) ⟨e2,rfl⟩) hL hF hx hy (k.o (i:=j) ⟨p1.1,rfl⟩) (k.dj (i:=j) (j:=i) (l':=l.set j (aO c el F' r' L')) (l2:=l.set i (aO2 c er el F Gs rs v M)) ⟨p1.1,rfl⟩ ⟨e2,rfl⟩ λh=>hij h.symm) λh' O U hz=>H h' (k.m2 p1 p2 hij U O λz hz'=>.inl (hz z hz'))
theorem BEn{z:aa}{c:List aa}(k:Xg h0 h l)(hz:ZeT P t z bytes)(hl:z.cells=c.toArray)(H:∀b h',Ext h h'->Xg h0 h' (aB t b c::l)->RL P (λ_=>True) st ops rest (e.set d (.pointer (some ⟨b,0,none⟩))) h' C):RL P (λ_=>True) st ops (⟨some d,.alloc t,ty,pos,af,none⟩::rest) e h C:=AK8 k c hz H hl
theorem BEo{c:List aa}(k:Xg h0 h l)(hx:e.ev x=v)(hl:v.cells=c.toArray)(H:∀b h',Ext h h'->Xg h0 h' (aB t b c::l)->RL P (λ_=>True) st ops rest (e.set d (.pointer (some ⟨b,0,none⟩))) h' C):RL P (λ_=>True) st ops (⟨some d,.box t x,ty,pos,af,none⟩::rest) e h C:=Aan k c H hx hl
theorem s_f{b:Nat}{u:aa}{c:List aa}(k:Xg h0 h l)(hx:e.ev x=.pointer (some ⟨b,i,none⟩))(hy:e.ev y=u)(p:Rep j l (aB tb b c) (aB tb b c') l')(ht:NaT P t)(h1:isOne u=true)(hl:c.set i u=c')(hi:aA (i+1) c.length=true)(hb:aq tb 96=false)(H:∀h',Xg h0 h' l'->RL P B st ops rest e h' C):RL P B st ops (⟨none,.store t x y,ty,pos,af,none⟩::rest) e h C:=ARc c' ht hx hy h1 (k.b ⟨p.1,rfl⟩) (am hi) hl λh' I U=>H h' (k.sb p U I hb)
theorem s_A{b:Nat}{c:List aa}(k:Xg h0 h l)(hx:e.ev x=.pointer (some ⟨b,0,none⟩))(hy:e.ev y=.agg c'.toArray)(p:Rep j l (aB tb b c) (aB tb b c') l')(ht:AgT P t s)(hl:c.length=s)(hl':c'.length=s)(h1:∀u∈c',isOne u=true)(hb:aq tb 96=false)(H:∀h',Xg h0 h' l'->RL P B st ops rest e h' C):RL P B st ops (⟨none,.store t x y,ty,pos,af,none⟩::rest) e h C:=AAn c' ht hl' hl hx hy h1 (k.b ⟨p.1,rfl⟩) λh' I U=>H h' (k.sb p U I hb)
theorem s_Z{b:Nat}{z z':Int}{c:List aa}(k:Xg h0 h l)(hx:e.ev x=.pointer (some ⟨b,0,none⟩))(hy:e.ev y=.agg c'.toArray)(p:Rep i l (aB tb b c) (aB tb b c') l')(zo:cZ.rep h z c)(zn:cZ.rep h z' c')(hb:aq tb 96=false)(H:∀h',Xg h0 h' l'->RL Tryz.prog B st ops rest e h' C):RL Tryz.prog B st ops (⟨none,.store 32 x y,ty,pos,af,none⟩::rest) e h C:=AMd k p zo zn H hx hy hb
theorem A1z{M:List (List Int)}{L:List Int}{m n b:Int}(k:Xg h0 h l)(hx:e.ev x=.pointer (some ⟨g,n.toNat*1,none⟩))(hy:e.ev y=.int κ b)(hG:Gs[m.toNat]?=some [g])(p:Rep j l (aO2 (cI κ) er el F Gs rs v M) (aO2 (cI κ) er el F Gs rs v (sI M m (sI L n b))) l')(ht:NaT P t)(hL:gI M m=some L)(ha:gI L n=some a)(H:∀h',Xg h0 h' l'->RL P B st ops rest e h' C):RL P B st ops (⟨none,.store t x y,ty,pos,af,none⟩::rest) e h C:=Ams (c:=cI κ) (AM2 ht hx hy rfl) (k.o2 (c:=cI κ) ⟨p.1,rfl⟩) hG hL ha (show(cI κ).rep h b [.int κ b]from rfl) λh' I U=>H h' (k.uO2 p U I)
theorem Ap2{M:List (List Int)}{L:List Int}{m n b:Int}{c:List aa}(k:Xg h0 h l)(hx:e.ev x=.pointer (some ⟨g,n.toNat*2,none⟩))(hy:e.ev y=.agg c.toArray)(hG:Gs[m.toNat]?=some [g])(p:Rep j l (aO2 cZ er el F Gs rs v M) (aO2 cZ er el F Gs rs v (sI M m (sI L n b))) l')(zn:cZ.rep h b c)(hL:gI M m=some L)(ha:gI L n=some a)(H:∀h',Xg h0 h' l'->RL Tryz.prog B st ops rest e h' C):RL Tryz.prog B st ops (⟨none,.store 32 x y,ty,pos,af,none⟩::rest) e h C:=Ams (c:=cZ) (APp Ye (cZ.klen zn) hx hy (cZ.one zn)) (k.o2 (c:=cZ) ⟨p.1,rfl⟩) hG hL ha zn λh' I U=>H h' (k.uO2 p U I)
end
theorem spS{Fs:List (List Nat)}(k:Xg h0 h l)(is:List Nat)(hn:is.Nodup)(he:(is.map λi=>(fps l)[i]?.getD [])=Fs):Sp h h0.size Fs:=he▸k.s.sel is hn
section
variable{P:aK}{B:Ws->Prop}{st:Bool}{ops:Array ay}{rest:List ay}{e:Env}{h h0 a0:Ws}{C:Env->Ws->Prop}{l l':List Y6}{d d2:Nat}{ty ty2:aG}{pos pos2:String}{af af2:Array Edge}
theorem BEp{f:bL}{m bd cl a:List aa}(hc:e.ev (.tmp t)=.func (.func f) bd.toArray cl.toArray)(hxs:xs.map e.ev=m)(ha:bd++m++cl=a)(H:RL P B st ops (⟨some d,.call ⟨.value (.func f),(a.map Operand.const).toArray,ts⟩,ty,pos,af,none⟩::rest) e h C):RL P B st ops (⟨some d,.call ⟨.value (.tmp t),xs.toArray,ts⟩,ty,pos,af,none⟩::rest) e h C:=by
 have E:execOp e.ev ⟨some d,.call ⟨.value (.tmp t),xs.toArray,ts⟩,ty,pos,af,none⟩=execOp e.ev ⟨some d,.call ⟨.value (.func f),(a.map Operand.const).toArray,ts⟩,ty,pos,af,none⟩:=by
  have hm:(a.map Operand.const).map e.ev=a:=by rw[List.map_map];exact List.map_id' a
  subst ha;have h1:e.ev (.func f)=.func (.func f) #[] #[]:=rfl;simp only[execOp,resolve,List.map_toArray,hxs,hc,hm,h1,Deferred.ofValue,pure,bind,Sem.bind,invoke,Array.append_empty,List.append_toArray,bU]
 have H:GOp P B st ops _ e h _:=H;unfold GOp at H;rw[if_pos (by simp[Region.wanted])]at H;unfold SOp at H;obtain⟨hb,H⟩:=H;exact AJc rfl rfl hb λw hw=>by rw[E];exact H w hw
theorem BEr{u:aa}(hx:e.ev x=u)(hy:e.ev y=v)(hr:∀w,(bC t #[(0,u),(1,v)]).run P w=.ok (.agg #[u,v]) w)(H:RL P B st ops rest (e.set d (.agg #[u,v])) h C):RL P B st ops (⟨some d,.build t #[(0,x),(1,y)],ty,pos,af,none⟩::rest) e h C:=AE8 (λw=>by show(bC _ #[(0,e.ev x),(1,e.ev y)]).run _ w=_;rw[hx,hy];exact hr w) H
theorem Aka{pl:Nat->Option (Nat×Nat)}:∀(vs:List (Nat×aa))(z:List aa),(∀p∈vs,isOne p.2=true/\pl p.1=some (p.1,1)/\p.1<z.length)->ct pl z.toArray vs=some (vs.foldl (λc p=>c.set p.1 p.2) z).toArray
 |[],z,_=>rfl|(i,v)::vs,z,H=>by
  obtain⟨h1,h2,h3⟩:=H _ (ap ..);have ih:=Aka vs (z.set i v) λp hp=>by have:=H p (ao _ hp);rwa[List.length_set]
  simp only[ct,h2,AK6 h1];rw[if_neg (by simp;exact h3)];simpa using ih
theorem BEs{fs:Array Field}{z l:List aa}{parts:List (Nat×an)}(hz:ZeT P t (.agg z.toArray) bytes)(hu:P.underlying t=some (.struct fs))(hm:∀w,(fs.mapM λf=>do pure (f.offset,<-sizeOf f.type):Sem (Array (Nat×Nat))).run P w=.ok ((cj z.length).map λk=>(k,1)) w)(hv:parts.map (λp=>(p.1,e.ev p.2))=vs)(h1:∀p∈vs,isOne p.2=true/\p.1<z.length)(hl:vs.foldl (λc p=>c.set p.1 p.2) z=l)(H:RL P B st ops rest (e.set d (.agg l.toArray)) h C):RL P B st ops (⟨some d,.build t parts.toArray,ty,pos,af,none⟩::rest) e h C:=by obtain⟨i,hi,hzz,-⟩:=hz;refine AE8 (λw=>?_) H;have hf:=Aka (pl:=(((cj z.length).map λk=>(k,1))[·]?)) vs z λp hp=>⟨(h1 p hp).1,by simp[(h1 p hp).2],(h1 p hp).2⟩;subst hv hl;simp only[bC,Sem.run_bind,Result.andThen,AGk hu,Ai7 hi hzz,hm,Value.cells];rw[hf];rfl
theorem Adc{e:Env}:([]:List (Nat×an)).map (λp=>(p.1,e.ev p.2))=[]:=rfl
theorem ALy{e:Env}{xs:List (Nat×an)}(h1:e.ev x=v)(h2:xs.map (λp=>(p.1,e.ev p.2))=vs):((i,x)::xs).map (λp=>(p.1,e.ev p.2))=(i,v)::vs:=by rw[bH,h1,h2]
theorem pvl(h:G:=by first|exact ALy nvl Adc|exact ALy nvl (ALy nvl Adc)|exact ALy nvl (ALy nvl (ALy nvl Adc))|exact ALy nvl (ALy nvl (ALy nvl (ALy nvl (ALy nvl Adc))))|exact Adc):G:=h
theorem A66{n:Nat}:∀p∈([]:List (Nat×aa)),isOne p.2=true/\p.1<n:=λ_ h=>nomatch h
theorem A10{n:Nat}(h1:isOne v=true)(h2:Nat.blt i n=true)(h3:∀p∈vs,isOne p.2=true/\p.1<n):∀p∈(i,v)::vs,isOne p.2=true/\p.1<n:=λp hp=>(ba.1 hp).elim (λe=>by subst e;exact⟨h1,am h2⟩) (h3 p)
theorem fll(h:G:=by first|(dsimp only[List.foldl,List.set];done)|exact Eq.refl _):G:=h
theorem BEu{z:Int}{cs:List aa}(H:cZ.rep h0 z cs)(E:Ext h0 h):cZ.rep h z cs:=cZ.upT H E.upT
theorem A4x{b:Nat}{c:List aa}{u:aa}(x:Ext h0 h)(HB:Yz tb h0 b c)(hc:c[i]?=some u):Yt h ⟨b,i,none⟩=some u:=Yq (HB.cell hc) x
theorem BBn{b:Nat}{c:List aa}(x:Ext h0 h)(HB:Yz tb h0 b c):Yz tb h b c:=HB.ext x
theorem BBo(hr:∀w,(bC t #[]).run P w=.ok v w)(H:RL P B st ops rest (e.set d v) h C):RL P B st ops (⟨some d,.build t #[],ty,pos,af,none⟩::rest) e h C:=AE8 (parts:=[]) hr H
theorem BEv{c:Zx α}{ty2:aG}{pos' pos3:String}{af' af3:Array Edge}{x1 x2 y1 y2 i1 i2:an}{r1 r2:aa}{κ1 κ2:bV}{n1 n2:Int}{M:List (List α)}{L1 L2:List α}{l2:List Nat->List (List Nat)->List aa->List Y6}(hx1:e.ev x1=v)(hi1:e.ev i1=.int κ1 n1)(k:Xg h0 h l)(p:∀F' Gs' rs',Rep j l (aO2 c er el F Gs rs v M) (aO2 c er el F' Gs' rs' v (sI (sI M n1 L2) n2 L1)) (l2 F' Gs' rs'))(hy1:∀p,(e.set d p).ev y1=r2)(hx2:∀p,(e.set d p).ev x2=v)(hi2:∀p,(e.set d p).ev i2=.int κ2 n2)(hy2:∀p q,((e.set d p).set d' q).ev y2=r1)(hTr:SlT P tr er0 1)(htl:NaT P tl)(hr1:rs[n1.toNat]?=some r1)(hr2:rs[n2.toNat]?=some r2)(hL1:gI M n1=some L1)(hL2:gI M n2=some L2)(H:∀p q F' Gs' rs' h',Xg h0 h' (l2 F' Gs' rs')->RL P B st ops rest ((e.set d p).set d' q) h' C):RL P B st ops (⟨some d,.indexAddr tr x1 i1,ty,pos,af,none⟩::⟨none,.store tl (.tmp d) y1,ty',pos',af',none⟩::⟨some d',.indexAddr tr x2 i2,ty2,pos2,af2,none⟩::⟨none,.store tl (.tmp d') y2,ty3,pos3,af3,none⟩::rest) e h C:=Amt hTr htl (k.o2 (i:=j) (l':=l.set j (aO2 c er el F Gs rs v M)) ⟨(p [] [] []).1,rfl⟩) hr1 hr2 hL1 hL2 hx1 hi1 hy1 hx2 hi2 hy2 λp' q F' Gs' rs' h' I U hs=>H p' q F' Gs' rs' h' (k.uo2 (p F' Gs' rs') U I hs)
def Ank(a:Xm):Nat->aa->Xm|0,.int _ x=>(x,a.2.1,a.2.2.1,a.2.2.2.1,a.2.2.2.2)|1,.int _ x=>(a.1,x,a.2.2.1,a.2.2.2.1,a.2.2.2.2)|2,.int _ x=>(a.1,a.2.1,x,a.2.2.2.1,a.2.2.2.2)|3,.bool x=>(a.1,a.2.1,a.2.2.1,x,a.2.2.2.2)|4,.int _ x=>(a.1,a.2.1,a.2.2.1,a.2.2.2.1,x)|_,_=>a
def A4y:Nat->aa->Bool|0,.int .i64 _=>true|1,.int .i64 _=>true|2,.int .i64 _=>true|3,.bool _=>true|4,.int .i64 _=>true|_,_=>false
theorem sC1{a:Xm}{κ:bV}{x:Int}:Ank a 1 (.int κ x)=(a.1,x,a.2.2.1,a.2.2.2.1,a.2.2.2.2):=rfl
theorem sC2{a:Xm}{κ:bV}{x:Int}:Ank a 2 (.int κ x)=(a.1,a.2.1,x,a.2.2.2.1,a.2.2.2.2):=rfl
theorem sC3{a:Xm}{x:Bool}:Ank a 3 (.bool x)=(a.1,a.2.1,a.2.2.1,x,a.2.2.2.2):=rfl
theorem sC4{a:Xm}{κ:bV}{x:Int}:Ank a 4 (.int κ x)=(a.1,a.2.1,a.2.2.1,a.2.2.2.1,x):=rfl
theorem BId{u:aa}{L:List Xm}{n:Int}{a:Xm}(k:Xg h0 h l)(hx:e.ev x=.pointer (some ⟨g,n.toNat*5+j,none⟩))(hy:e.ev y=u)(hF:F=[g])(p:Rep i l (aO AJw el F v L) (aO AJw el F v (sI L n (Ank a j u))) l')(ht:NaT P t)(hok:A4y j u=true)(ha:gI L n=some a)(H:∀h',Xg h0 h' l'->RL P B st ops rest e h' C):RL P B st ops (⟨none,.store t x y,ty,pos,af,none⟩::rest) e h C:=by
 have hc:isOne u=true/\j<5/\∀cs,AJw.rep h a cs->AJw.rep h (Ank a j u) (cs.set j u):=by unfold A4y at hok;split at hok<;>first|(cases hok;done)|exact⟨rfl,Wr,λcs q=>by cases q;rfl⟩
 exact A54 (c:=AJw) (a':=Ank a j u) ht hx hy hc.1 hc.2.1 (k.o ⟨p.1,rfl⟩) hF ha hc.2.2 λh' I U=>H h' (k.uO p U I)
def Anl:List (Nat×aa)->List Int|(_,.int _ a)::l=>a::Anl l|_=>[]
theorem BBp{n:Nat}{parts:List (Nat×an)}(k:Xg h0 h l)(hT:SlT P t el 1)(hz:ZeT P el (.int .i64 0) bytes)(hel:aq el 96=false)(hv:parts.map (λp=>(p.1,e.ev p.2))=vs)(hq:vs=partsOf 0 ((Anl vs).map (.int .i64)))(hn:(Anl vs).length=n)(hn2:aA n 16777216=true)(hpos:aA 1 n=true)(hb:B h)(hBE:∀h',Ext h h'->B h')(H:∀b v h',Ext h h'->Xg h0 h' (aO (cI .i64) el [b] v (Anl vs)::l)->B h'->RL P B st ops rest (e.set d v) h' C):RL P B st ops (⟨some d,.buildSlice t n parts.toArray,ty,pos,af,none⟩::rest) e h C:=A57 (κ:=.i64) (Anl vs) hT hz rfl hel hb hBE hn hn2 hpos (by rw[<-hq];exact hv) λb v h' O E l1 l2=>H b v h' E (k.no E (AFj l1 l2) O) (hBE h' E)
theorem BEw{c:Zx α}(k:Xg h0 h l){M:List (List α)}(e:Rep i l (aO2 c er el F Gs rs v M) (aO2 c er el F Gs rs v M) l'){q:Int}{r:aa}{L:List α}(hr:rs[q.toNat]?=some r)(hL:gI M q=some L):Ext h0 h/\∃(x0:aa)(F0:List Nat),r=x0/\OwC c el h F0 x0 L/\Sp h h0.size [F0]:=by obtain⟨G,h1,h2⟩:=k.rowS e hr hL;exact⟨k.x,_,_,rfl,h1,h2⟩
theorem BBq{c:Zx α}{c':Zx β}:Yv c er el h [] [] [] (.slice none 0 0) []/\Yv c' er' el' h [] [] [] (.slice none 0 0) []/\Sp h h0.size [[],[]]:=⟨AT7 _ _ _ _,AT7 _ _ _ _,⟨W4,λb hb=>by simp at hb⟩⟩
theorem BEx{c:Zx α}{pos':String}{af':Array Edge}{s:an}{z r:aa}{n m:Int}{M:List (List α)}{L:List α}(k:Xg h0 h l)(hx:e.ev x=r)(hy:e.ev y=.int κ n)(hs:∀q,(e.set d q).ev s=.slice none 0 0)(p:Rep j l (aO2 c er el F Gs rs v M) (aO2 c er el F Gs rs v M) l')(hr:rs[m.toNat]?=some r)(hL:gI M m=some L)(hT:SlT P t el sz)(hsz:c.k=sz)(hz:ZeT P el z bytes)(hzk:z.cells.size=sz)(hel:aq el 96=false)(hby:aA bytes 1000=true)(h1:0<=n/\n<=L.length)(h2:(L.drop n.toNat).length<=100000000)(H:∀q F' v' h',Ext h h'->Xg h0 h' (aO c el F' v' (L.drop n.toNat)::l)->RL P (λ_=>True) st ops rest ((e.set d q).set d' v') h' C):RL P (λ_=>True) st ops (⟨some d,.slice t x (some y) none none,ty,pos,af,none⟩::⟨some d',.call ⟨.builtin .append,#[s,.tmp d],#[t,t]⟩,ty',pos',af',none⟩::rest) e h C:=by subst hsz;refine Afl hT hx ((k.o2 p).rowI hr hL) ((k.o2 p).rowCap hr hL) hy h1 λv' hv hc=>?_;exact Au7 hT hz hzk hel trivial (λ_ _=>trivial) (hs v') (Env.set_same e d v') (hv ((k.o2 p).rowI hr hL)) (am hby) h2 λF' v2 h' O E S=>H v' F' v2 h' E (k.no E S O)
theorem d_v{t:aG}{a b c:Option an}(H:RL P B st ops (⟨some d,.slice t x a b c,ty,pos,af,none⟩::rest) e h C):RL P B st ops (⟨some d,.slice t x a b c,ty,pos,af,none⟩::rest) e h C:=H
theorem BEy{c:Zx α}{r xv:aa}{M:List (List α)}{m:Int}{L L':List α}{g:Ws}(k:Xg h0 h l)(hx:e.ev x=r)(hy:e.ev y=xv)(p:Rep j l (aO2 c er el F Gs rs v M) (aO2 c er el F Gs rs v (sI M m L')) l')(hr:rs[m.toNat]?=some r)(hL:gI M m=some L)(HX:SlC c g xv L')(E:Ext g h)(hT:SlT P t el sz)(hsz:c.k=sz)(hn:L'.length=L.length/\0<L.length)(H:∀h',Xg h0 h' l'->RL P (λ_=>True) st ops rest (e.set d (.int .i64 (.ofNat L.length))) h' C):RL P (λ_=>True) st ops (⟨some d,.call ⟨.builtin .copy,#[x,y],#[t,t]⟩,ty,pos,af,none⟩::rest) e h C:=by subst hsz;exact Ava hT trivial hx hy (k.o2 (i:=j) (l':=l.set j (aO2 c er el F Gs rs v M)) ⟨p.1,rfl⟩) hr hL (HX.ext E) hn λh' I U=>⟨trivial,H h' (k.uO2 p U I)⟩
theorem BEz{c:Zx α}{c':Zx β}:Yv c er el h [] [] [] (.slice none 0 0) []/\OwC c' el' h [] (.slice none 0 0) []/\Sp h h0.size [[],[]]:=⟨AT7 _ _ _ _,AU6 _ _ _,⟨W4,λb hb=>by simp at hb⟩⟩
theorem rJ{c:Zx α}{c':Zx β}{x:List (List α)}{x':List β}{l2:List Y6}(k:Xg h0 h l)(e:Rep i l (aO2 c er el F Gs rs v x) (aO2 c er el F Gs rs v x) l')(e':Rep j l (aO c' el' F' v' x') (aO c' el' F' v' x') l2)(hn:[i,j].Nodup):Yv c er el h F Gs rs v x/\OwC c' el' h F' v' x'/\Sp h h0.size [F,F']:=⟨k.o2 e,k.o e',spS k [i,j] hn (by simp[ACr e.1,ACr e'.1,aO2,aO])⟩
theorem n_X{c:Zx (α×aa)}{fz:List Nat->aa->β->Y6}{ws:List aa}{L:List (α×β)}{g:Ws}(hx:e.ev x=v)(HO:OwX c fz el g F ws v L)(hT:SlT P t el0 s)(H:RL P B st ops rest (e.set d (.int .i64 (L.length:Int))) h C):RL P B st ops (⟨some d,.call ⟨.builtin .len,#[x],#[t]⟩,ty,pos,af,none⟩::rest) e h C:=A6s hT hx HO H
theorem BE0{d2:Nat}{ty2:aG}{pos2 pos3:String}{af2 af3:Array Edge}{s i:an}{tn:Nat}{r:aa}{κ' kn κz:bV}{n m:Int}{M:List (List Int)}{L:List Int}{l2:List Nat->List (List Nat)->List aa->List Y6}(hs:e.ev s=r)(hy:e.ev y=.int κ' m)(hx:∀w,(e.set d' w).ev x=v)(hi:∀w,(e.set d' w).ev i=.int κ n)(k:Xg h0 h l)(p:∀F' Gs' rs',Rep j l (aO2 (cI κz) er el F Gs rs v M) (aO2 (cI κz) er el F' Gs' rs' v (sI M n (L++ab m.toNat 0))) (l2 F' Gs' rs'))(hr:rs[n.toNat]?=some r)(hL:gI M n=some L)(hT:SlT P t el 1)(hN:ATi P tn kn)(hz:ZeT P el (.int κz 0) bytes)(hTr:SlT P tr er0 1)(htl:NaT P tl)(hdd:aq d' d2=false)(hby:aA bytes 1000=true)(hk:0<L.length/\L.length<=100000/\0<m/\m<=100000)(H:∀q F' Gs' rs' v' h',Xg h0 h' (l2 F' Gs' rs')->RL P (λ_=>True) st ops rest ((e.set d' v').set d2 q) h' C):RL P (λ_=>True) st ops (⟨some d',.call ⟨.builtin .append,#[s,y],#[t,tn]⟩,ty,pos,af,none⟩::⟨some d2,.indexAddr tr x i,ty2,pos2,af2,none⟩::⟨none,.store tl (.tmp d2) (.tmp d'),ty3,pos3,af3,none⟩::rest) e h C:=A04 hT hN hz hTr htl (k.o2 (i:=j) (l':=l.set j (aO2 (cI κz) er el F Gs rs v M)) ⟨(p [] [] []).1,rfl⟩) hr hL trivial (λ_ _=>trivial) hs hy hx hi hdd (am hby) hk λq F' Gs' rs' v' h' I U hs'=>H q F' Gs' rs' v' h' (k.uo2 (p F' Gs' rs') U I hs')
theorem BE1{z:aa}{cs:List aa}(k:Xg h0 h l)(hy:e.ev y=.agg cs.toArray)(hr:cZ.rep h a cs)(hT:SlT Tryz.prog t el 2)(hz:ZeT Tryz.prog el z bytes)(hel:aq el 96=false)(H:∀b v h',Ext h h'->Xg h0 h' (aO cZ el [b] v [a]::l)->RL Tryz.prog (λ_=>True) st ops rest (e.set d v) h' C):RL Tryz.prog (λ_=>True) st ops (⟨some d,.buildSlice t 1 #[(0,y)],ty,pos,af,none⟩::rest) e h C:=A56 hT hz hel trivial (λ_ _=>trivial) hr hy λb v h' I E l1 l2=>H b v h' E (k.no E (AFj l1 l2) I)
section
variable{g:Ws}{x i:an}{t el0 el:Nat}{F:List Nat}{ws:List aa}{v:aa}{κ:bV}{n:Int}
theorem A11{L:List (Unit×List (List Int))}{a:Unit×List (List Int)}(hx:e.ev x=v)(HO:OwX cHM fzM el g F ws v L)(hT:SlT P t el0 1)(hi:e.ev i=.int κ n)(ha:gI L n=some a)(H:∀b o w,Yt g ⟨b,o,none⟩=some w->Zv cZ g w a.2->RL P B st ops rest (e.set d (.pointer (some ⟨b,o,none⟩))) h C):RL P B st ops (⟨some d,.indexAddr t x i,ty,pos,af,none⟩::rest) e h C:=Apy hT hx HO hi ha λb o w cs h1 h2 h3 h4=>by obtain⟨rfl,_⟩:=h3;exact H b o w (h4 0 _ rfl) (AQj HO h1 h2)
theorem A12{L:List (Int×List Xm)}{a:Int×List Xm}(hx:e.ev x=v)(HO:OwX cHP fzC el g F ws v L)(hT:SlT P t el0 2)(hi:e.ev i=.int κ n)(ha:gI L n=some a)(H:∀b o w,(∀j u,([.int .i64 a.1,w]:List aa)[j]?=some u->Yt g ⟨b,o+j,none⟩=some u)->SlC AJw g w a.2->RL P B st ops rest (e.set d (.pointer (some ⟨b,o,none⟩))) h C):RL P B st ops (⟨some d,.indexAddr t x i,ty,pos,af,none⟩::rest) e h C:=Apy hT hx HO hi ha λb o w cs h1 h2 h3 h4=>by obtain⟨rfl,_⟩:=h3;exact H b o w h4 (A6r HO h1 h2)
end
theorem BBr{c:Zx α}{d2:Nat}{ty2:aG}{pos' pos2 pos3:String}{af' af2 af3:Array Edge}{s i:an}{z r:aa}{n:Int}{M:List (List α)}{L:List α}{a:α}{cs:List aa}{l2:List Nat->List (List Nat)->List aa->List Y6}(hs:∀p,(e.set d p).ev s=r)(hx:∀p w,((e.set d p).set d' w).ev x=v)(hi:∀p w,((e.set d p).set d' w).ev i=.int κ n)(K:Xg h0 h l)(p:∀F' Gs' rs',Rep j l (aO2 c er el F Gs rs v M) (aO2 c er el F' Gs' rs' v (sI M n (L++[a]))) (l2 F' Gs' rs'))(hrep:c.rep h a cs)(hy:e.ev y=c.val cs)(hr:rs[n.toNat]?=some r)(hL:gI M n=some L)(hT:SlT P t el k)(hk:c.k=k)(hz:ZeT P el z bytes)(hzk:z.cells.size=k)(hel:aq el 96=false)(hTr:SlT P tr er0 1)(htl:NaT P tl)(hdd:aq d' d2=false)(hby:aA bytes 1000=true)(hl:L.length<=100000000)(H:∀p q F' Gs' rs' v' h',Xg h0 h' (l2 F' Gs' rs')->RL P (λ_=>True) st ops rest (((e.set d p).set d' v').set d2 q) h' C):RL P (λ_=>True) st ops (⟨some d,.buildSlice t 1 #[(0,y)],ty,pos,af,none⟩::⟨some d',.call ⟨.builtin .append,#[s,.tmp d],#[t,t]⟩,ty',pos',af',none⟩::⟨some d2,.indexAddr tr x i,ty2,pos2,af2,none⟩::⟨none,.store tl (.tmp d2) (.tmp d'),ty3,pos3,af3,none⟩::rest) e h C:=by subst hk;have HO:=K.o2 (i:=j) (l':=l.set j (aO2 c er el F Gs rs v M)) ⟨(p [] [] []).1,rfl⟩;obtain⟨G,hG,_⟩:=HO.rowG hL;exact Afe hT hz hzk hel hTr htl HO hr hL hG trivial (λ_ _=>trivial) hs hy hrep hx hi hdd (am hby) hl λp' q F' Gs' rs' v' h' I U hs'=>H p' q F' Gs' rs' v' h' (K.uo2 (p F' Gs' rs') U I hs')
theorem BE2{z u:aa}(k:Xg h0 h l)(hx:e.ev x=u)(hy:e.ev y=v)(hT:SlT P t er 1)(hz:ZeT P er z bytes)(h1:isOne z=true)(hu:isOne u=true)(hv:isOne v=true)(H:∀b h',Ext h h'->Xg h0 h' (aB er b [u,v]::l)->RL P (λ_=>True) st ops rest (e.set d (.slice (some ⟨b,0,none⟩) 2 2)) h' C):RL P (λ_=>True) st ops (⟨some d,.buildSlice t 2 #[(0,x),(1,y)],ty,pos,af,none⟩::rest) e h C:=A6k (parts:=[(0,x),(1,y)]) hT hz h1 trivial (λ_ _=>trivial) (by rw[<-hx,<-hy];rfl) hu hv λb h' V E S=>H b h' E (k.nb E S V)
theorem x3{i:an}{b:Nat}{n:Int}{A A':Option α}{r:α}(hx:e.ev x=.slice (some ⟨b,0,none⟩) 2 2)(hi:e.ev i=.int κ n)(hp:(if n=0 then A else if n=1 then A' else none)=some r)(hT:SlT P t er 1)(H0:n=0->A=some r->RL P B st ops rest (e.set d (.pointer (some ⟨b,0,none⟩))) h C)(H1:n=1->A'=some r->RL P B st ops rest (e.set d (.pointer (some ⟨b,1,none⟩))) h C):RL P B st ops (⟨some d,.indexAddr t x i,ty,pos,af,none⟩::rest) e h C:=by
 by_cases h:n=0;.rw[if_pos h]at hp;exact A4r 0 hT hx hi h Wr (H0 h hp)
 .rw[if_neg h]at hp;obtain⟨h,hp⟩:=ifN hp;exact A4r 1 hT hx hi h Wr (H1 h hp)
theorem BBs{c:Zx α}{z r:aa}{L:List α}{l1:List Y6}(k:Xg h0 h l)(hy:e.ev y=r)(p1:Rep j l (aO c el F0 r L) (aC True) l1)(hT:SlT P t er 1)(hz:ZeT P er z bytes)(h1:isOne z=true)(hel:aq er 96=false)(hb:B h)(hBE:∀h',Ext h h'->B h')(H:∀F v h',Ext h h'->Xg h0 h' (aO2 c er el F [F0] [r] v [L]::l1)->B h'->RL P B st ops rest (e.set d v) h' C):RL P B st ops (⟨some d,.buildSlice t 1 #[(0,y)],ty,pos,af,none⟩::rest) e h C:=by have HO:=k.o (i:=j) (l':=l.set j (aO c el F0 r L)) ⟨p1.1,rfl⟩;exact Asa (parts:=[(0,y)]) (c:=c) (el:=el) [F0] [r] [L] hT hz h1 hel hb hBE rfl rfl rfl (by rw[<-hy];rfl) (ALx HO.isOne AXl) ⟨HO,trivial⟩ (by simpa using HO.nodup) λb v h' I E hs=>H _ v h' E ((k.a0.grab p1).lit E I (by simpa using hs)) (hBE h' E)
theorem BBt{f:bL}{a:Array aa}{D:X->S}{ex:S}{V:X->aa}{A1 A2:X->Y6}{r:List Y6}{lo:Nat}{g:Ws}{q:List Nat}(H:W6 P f a h λv h'=>∃x,D x=ex/\v=V x/\Xg h0 h' [A1 x,A2 x,aW lo g r q])(is:List Nat)(hn:is.Nodup):W6 P f a h λv h'=>∃x,D x=ex/\v=V x/\Xg h0 h' (AE4 (A1 x::A2 x::r) is):=H.mono λ_ _⟨x,e1,e2,k⟩=>⟨x,e1,e2,(Xg.un2 k).sel is hn⟩
theorem Ade{f:bL}{a:Array aa}{D:X->S}{ex:S}{V:X->aa}{A1 A2 A3:X->Y6}{r:List Y6}{lo:Nat}{g:Ws}{q:List Nat}(H:W6 P f a h λv h'=>∃x,D x=ex/\v=V x/\Xg h0 h' [A1 x,A2 x,A3 x,aW lo g r q])(is:List Nat)(hn:is.Nodup):W6 P f a h λv h'=>∃x,D x=ex/\v=V x/\Xg h0 h' (AE4 (A1 x::A2 x::A3 x::r) is):=H.mono λ_ _⟨x,e1,e2,k⟩=>⟨x,e1,e2,(Xg.un3 k).sel is hn⟩
theorem BBu{u:aa}(hx:e.ev x=v)(hr:∀w,(Instr.field t v f).run P w=.ok u w)(H:RL P B st ops rest (e.set d u) h C):RL P B st ops (⟨some d,.field t x f,ty,pos,af,none⟩::rest) e h C:=A5q (λw=>by rw[hx];exact hr w) H
theorem BE3(k:Xg h0 h l)(hx:e.ev x=v)(h1:isOne v=true)(H:∀b h',Ext h h'->Xg h0 h' (aB t b [v]::l)->RL P (λ_=>True) st ops rest (e.set d (.pointer (some ⟨b,0,none⟩))) h' C):RL P (λ_=>True) st ops (⟨some d,.box t x,ty,pos,af,none⟩::rest) e h C:=Aan k [v] H hx (AK6 h1)
theorem f_2{off ft b o:Nat}(hx:e.ev x=.pointer (some ⟨b,o,none⟩))(hf:FdT P t f off ft)(hs:(P.info? ft).map (·.size)=some 2)(H:RL P B st ops rest (e.set d (.pointer (some ⟨b,o+off,none⟩))) h C):RL P B st ops (⟨some d,.fieldAddr t x f,ty,pos,af,none⟩::rest) e h C:=AA8 hf hs Wr hx H
section
variable{x y:an}{tb b:Nat}{n m n' m':Int}{c1 c2 c3:List aa}
theorem A67(hv:v=.agg (c1++c2).toArray)(z1:cZ.rep h n c1)(z2:cZ.rep h m c2):AWg h v n m:=⟨_,_,hv,z1,z2⟩
theorem BBv:AWg h (.agg #[.bool false,.slice none 0 0,.bool false,.slice none 0 0]) 0 0:=A67 rfl (X3 h) (X3 h)
theorem BE4(H:AWg h v n m):∃c1 c2,v=.agg (c1++c2).toArray/\cZ.rep h n c1/\cZ.rep h m c2:=H
theorem l_Q(hx:e.ev x=.pointer (some ⟨b,0,none⟩))(HB:Yz tb h b (c1++c2))(z1:cZ.rep h n c1)(z2:cZ.rep h m c2)(H:RL Tryz.prog B false ops rest (e.set d (.agg (c1++c2).toArray)) h C):RL Tryz.prog B false ops (⟨some d,.load 128 x,ty,pos,af,none⟩::rest) e h C:=AQ7 _ Ag4 (Abm z1 z2) hx HB.agg H
theorem BE5(hx:e.ev x=.pointer (some ⟨b,0,none⟩))(HB:Yz tb a0 b (c1++c2))(z1:cZ.rep h n c1)(z2:cZ.rep h m c2)(U:Yg [] a0 h)(H:RL Tryz.prog (λh'=>Yg [] a0 h') true ops rest (e.set d (.agg (c1++c2).toArray)) h C):RL Tryz.prog (λh'=>Yg [] a0 h') true ops (⟨some d,.load 128 x,ty,pos,af,none⟩::rest) e h C:=AEa (B:=λh'=>Yg [] a0 h') _ Ag4 (Abm z1 z2) hx U (λh' hb=>(HB.ext hb.ext).agg) H
theorem BE6(hx:e.ev x=.pointer (some ⟨b,0,none⟩))(HB:Yz tb h b (c1++c2))(z1:cZ.rep h n c1)(H:RL Tryz.prog B false ops rest (e.set d (.agg c1.toArray)) h C):RL Tryz.prog B false ops (⟨some d,.load 32 x,ty,pos,af,none⟩::rest) e h C:=AQ7 c1 Ye (cZ.klen z1) hx HB.aggL H
theorem BE7(hx:e.ev x=.pointer (some ⟨b,2,none⟩))(HB:Yz tb h b (c1++c2))(z1:cZ.rep h n c1)(z2:cZ.rep h m c2)(H:RL Tryz.prog B false ops rest (e.set d (.agg c2.toArray)) h C):RL Tryz.prog B false ops (⟨some d,.load 32 x,ty,pos,af,none⟩::rest) e h C:=AQ7 c2 Ye (cZ.klen z2) hx (HB.aggR (cZ.klen z1)) H
theorem BBw(hx:e.ev x=.pointer (some ⟨b,0,none⟩))(HB:Yz tb a0 b (c1++c2))(z1:cZ.rep h n c1)(U:Yg [] a0 h)(H:RL Tryz.prog (λh'=>Yg [] a0 h') true ops rest (e.set d (.agg c1.toArray)) h C):RL Tryz.prog (λh'=>Yg [] a0 h') true ops (⟨some d,.load 32 x,ty,pos,af,none⟩::rest) e h C:=AEa (B:=λh'=>Yg [] a0 h') c1 Ye (cZ.klen z1) hx U (λh' hb=>(HB.ext hb.ext).aggL) H
theorem BBx(hx:e.ev x=.pointer (some ⟨b,2,none⟩))(HB:Yz tb a0 b (c1++c2))(z1:cZ.rep h n c1)(z2:cZ.rep h m c2)(U:Yg [] a0 h)(H:RL Tryz.prog (λh'=>Yg [] a0 h') true ops rest (e.set d (.agg c2.toArray)) h C):RL Tryz.prog (λh'=>Yg [] a0 h') true ops (⟨some d,.load 32 x,ty,pos,af,none⟩::rest) e h C:=AEa (B:=λh'=>Yg [] a0 h') c2 Ye (cZ.klen z2) hx U (λh' hb=>(HB.ext hb.ext).aggR (cZ.klen z1)) H
theorem s_Q(k:Xg h0 h l)(hx:e.ev x=.pointer (some ⟨b,0,none⟩))(hy:e.ev y=.agg (c1++c2).toArray)(p:Rep i l (aB tb b c3) (aB tb b (c1++c2)) l')(hl:c3.length=4)(z1:cZ.rep h n c1)(z2:cZ.rep h m c2)(hb:aq tb 96=false)(H:∀h',Xg h0 h' l'->RL Tryz.prog B st ops rest e h' C):RL Tryz.prog B st ops (⟨none,.store 128 x y,ty,pos,af,none⟩::rest) e h C:=s_A k hx hy p Ag4 hl (Abm z1 z2) (Apt z1 z2) hb H
theorem BE8(hx:e.ev x=.agg c1.toArray)(hy:e.ev y=.agg c2.toArray)(z1:cZ.rep h n c1)(z2:cZ.rep h m c2)(H:RL Tryz.prog B st ops rest (e.set d (.agg (c1++c2).toArray)) h C):RL Tryz.prog B st ops (⟨some d,.build 128 #[(0,x),(1,y)],ty,pos,af,none⟩::rest) e h C:=AE8 (λw=>by subst_vars;show(bC _ #[(0,e.ev x),(1,e.ev y)]).run _ w=_;rw[hx,hy];exact Ar9 z1 z2 w) H
end
end
theorem agl(h:G:=by with_unfolding_all((repeat refine⟨rfl,?_⟩);exact trivial)):G:=h
theorem xq{p:α×β->Prop}{a:α}(H:∃b,p (a,b)):∃x,p x:=let⟨b,h⟩:=H;⟨(a,b),h⟩
theorem BBy{c:Zx α}{r:aa}{M:List (List α)}{L:List α}{n:Int}(hL:gI M n=some L)(hr:rs[n.toNat]?=some r)(HO:Yv c er el h F Gs rs v M):SlC c h r L:=HO.rowI hr hL
theorem nA0{a:Y6}:AG9 (a::l) 0=a:=rfl
theorem nA1{a:Y6}:AG9 (x0::a::l) 1=a:=rfl
theorem nA2{a:Y6}:AG9 (x0::x1::a::l) 2=a:=rfl
theorem nA3{x2 a:Y6}:AG9 (x0::x1::x2::a::l) 3=a:=rfl
theorem nA4{x2 x3 a:Y6}:AG9 (x0::x1::x2::x3::a::l) 4=a:=rfl
theorem nA5{x2 x3 x4 a:Y6}:AG9 (x0::x1::x2::x3::x4::a::l) 5=a:=rfl
theorem nA6{x2 x3 x4 x5 a:Y6}:AG9 (x0::x1::x2::x3::x4::x5::a::l) 6=a:=rfl
theorem nA7{x2 x3 x4 x5 x6 a:Y6}:AG9 (x0::x1::x2::x3::x4::x5::x6::a::l) 7=a:=rfl
theorem nA8{x2 x3 x4 x5 x6 x7 a:Y6}:AG9 (x0::x1::x2::x3::x4::x5::x6::x7::a::l) 8=a:=rfl
theorem nA9{x2 x3 x4 x5 x6 x7 x8 a:Y6}:AG9 (x0::x1::x2::x3::x4::x5::x6::x7::x8::a::l) 9=a:=rfl
theorem BE9{x2 x3 x4 x5 x6 x7 x8 x9 a:Y6}:AG9 (x0::x1::x2::x3::x4::x5::x6::x7::x8::x9::a::l) 10=a:=rfl
theorem BFa{x2 x3 x4 x5 x6 x7 x8 x9 x10 a:Y6}:AG9 (x0::x1::x2::x3::x4::x5::x6::x7::x8::x9::x10::a::l) 11=a:=rfl
theorem BFb{x2 x3 x4 x5 x6 x7 x8 x9 x10 x11 a:Y6}:AG9 (x0::x1::x2::x3::x4::x5::x6::x7::x8::x9::x10::x11::a::l) 12=a:=rfl
theorem BFc{x2 x3 x4 x5 x6 x7 x8 x9 x10 x11 x12 a:Y6}:AG9 (x0::x1::x2::x3::x4::x5::x6::x7::x8::x9::x10::x11::x12::a::l) 13=a:=rfl
theorem BFd{x2 x3 x4 x5 x6 x7 x8 x9 x10 x11 x12 x13 a:Y6}:AG9 (x0::x1::x2::x3::x4::x5::x6::x7::x8::x9::x10::x11::x12::x13::a::l) 14=a:=rfl
theorem nAl(h:G:=by first|apply nA0|apply nA1|apply nA2|apply nA3|apply nA4|apply nA5|apply nA6|apply nA7|apply nA8|apply nA9|apply BE9|apply BFa|apply BFb|apply BFc|apply BFd):G:=h
theorem A68:AE4 l []=[]:=rfl
theorem A13{a:Y6}{m:List Y6}(h1:AG9 l i=a)(h2:AE4 l is=m):AE4 l (i::is)=a::m:=by rw[<-h1,<-h2];rfl
theorem scl(h:G:=by(repeat' first|exact A68|(apply A13;exact nAl));done):G:=h
theorem Anm{l':List Y6}(k:Xg h0 h l)(he:AE4 l is=l')(hn:is.Nodup):Xg h0 h l':=he▸k.sel is hn
theorem kcl(h:G:=by(try dsimp only[Xg.L,List.set,AE4,AG9]);first|exact K|exact Anm K scl dc|exact Xg.az K zff|exact Xg.az (Xg.az K zff) zff):G:=h
theorem utl(h:G:=by exact Yo):G:=h
theorem xx(h:G:=by first|exact K.x|exact Ext.refl _|exact Ext.trans (Xg.x (kB Yo)) K.x):G:=h
theorem xxB(h:G:=by first|exact Xg.x Yo|exact Ext.refl _|exact Ext.trans (Xg.x (kB Yo)) (Xg.x Yo)):G:=h
theorem zff(h:G:=by first|exact K.z pl|exact BEu Yo xx|exact Xg.zx K (Xg.z (kB Yo) pl)|exact X3 _):G:=h
theorem Zr(h:G:=by first|exact zzO (K.z pl)|exact Zv.ext Yo xx|exact SlC.ext Yo xx|exact Zv.ext (Xg.o2 (kB Yo) pl).rd K.x|exact SlC.ext (Xg.o (kB Yo) pl).rd K.x|exact(K.o pl).rd|exact(K.o2 pl).rd|exact AOd.ext Yo xx|exact zzO zff|exact zzO (X3 _)|exact A67 rf zff zff|exact BBv|exact K.ox pl|exact OwX.ext Yo xx|exact AOd.ext Yo xx|exact BBy Yo Yo (K.o2 pl)):G:=h
theorem cf(h:G:=by first|exact Yo|exact A4v (K.b pl) rf|exact A4x K.x (Xg.b (kB Yo) pl) rf|exact Yq Yo xx|exact cellO (K.o pl) Yo Yo|exact Anj Yo (K.o2 pl) Yo Yo|exact Aap Yo rf|exact Yq (Aap Yo rf) xx|exact Aap (cOB Yo (K.o pl) Yo) rf|exact Aap (cOK Yo (K.o pl) Yo) rf):G:=h
theorem cfB(h:G:=by first|exact Yo|exact A4v (Xg.b Yo pl) rf|exact A4x (Xg.x Yo) (Xg.b (kB Yo) pl) rf|exact Yq Yo xxB|exact Anj Yo (Xg.o2 Yo pl) Yo Yo|exact Aap Yo rf|exact Yq (Aap Yo rf) xxB|exact Aap (cOK Yo (Xg.o Yo pl) Yo) rf):G:=h
theorem sf(h:G:=by first|exact Yo|exact(K.o pl).rd|exact BBy Yo Yo (K.o2 pl)):G:=h
theorem sf2(h:G:=by first|exact Yo|exact(K.o2 pl).rd):G:=h
theorem oxf(h:G:=by first|exact K.ox pl|exact Yo):G:=h
theorem bf(h:G:=by first|exact K.b pl|exact BBn K.x (Xg.b (kB Yo) pl)):G:=h
theorem bfB(h:G:=by first|exact Xg.b Yo pl|exact BBn (Xg.x Yo) (Xg.b (kB Yo) pl)):G:=h
theorem ee(h:G:=by first|(with_reducible exact(Option.some.inj hp).symm)|(dsimp only;with_reducible exact(Option.some.inj hp).symm)):G:=h
theorem oi(h:G:=by first|(with_reducible exact Option.some.inj hp)|(dsimp only;with_reducible exact Option.some.inj hp)):G:=h
theorem zl2{z:Int}{cs:List aa}(H:cZ.rep h z cs):cs.length=2:=cZ.klen H
theorem cz(h:G:=by first|exact rf|exact zl2 zff):G:=h
theorem cq4(h:G:=by first|exact rf|exact Abm zff zff):G:=h
theorem io1(h:G:=by first|exact rf|exact(K.o2 pl).isOne|exact(K.o pl).isOne|exact Zv.isOne Yo|exact SlC.isOne Yo|exact(K.ox pl).isOneX|exact OwX.isOneX Yo):G:=h
theorem opl(h:G:=by(repeat' first|exact A66|(apply A10;exact io1;exact rf));done):G:=h
theorem BFe(h:G:=by first|exact BB1|exact cZ.one zff|exact Apt zff zff):G:=h
theorem hnu(h:G:=by with_unfolding_all exact hn):G:=h
theorem nn{y:α}(h:none=some y):G:=nomatch h
theorem gp(h:G:=by first|exact⟨_,⟨_,_,p0,rf⟩,dc⟩|exact⟨_,⟨_,_,p1,rf⟩,dc⟩|exact⟨_,⟨_,_,p2,rf⟩,dc⟩|exact⟨_,⟨_,_,p3,rf⟩,dc⟩|exact⟨_,⟨_,_,p4,rf⟩,dc⟩|exact⟨_,⟨_,_,p5,rf⟩,dc⟩|exact⟨_,⟨_,_,p6,rf⟩,dc⟩|exact⟨_,⟨_,_,p7,rf⟩,dc⟩):G:=h
theorem io(h:G:=by first|exact Zv.isOne Yo|exact SlC.isOne Yo|exact(K.o2 pl).isOne|exact(K.o pl).isOne|exact(K.ox pl).isOneX|exact OwX.isOneX Yo):G:=h
theorem BB1(h:G:=by(repeat' first|exact AXl|(apply ALx;exact io1));done):G:=h
theorem e_g{rs:List cR}{K:aa->Ws->Prop}{e:Env}(H:APb P rs K .ret e h):APb P rs K .ret e h:=H
theorem rO{c:Zx α}{l':List Y6}{x:List α}(k:Xg h0 h l)(e:Rep i l (aO c el F v x) (aO c el F v x) l'):OwC c el h F v x/\Sp h h0.size [F]:=⟨k.o e,spS k [i] W4 (by simp[ACr e.1,aO])⟩
theorem rO2{c:Zx α}{l':List Y6}{x:List (List α)}(k:Xg h0 h l)(e:Rep i l (aO2 c er el F Gs rs v x) (aO2 c er el F Gs rs v x) l'):Yv c er el h F Gs rs v x/\Sp h h0.size [F]:=⟨k.o2 e,spS k [i] W4 (by simp[ACr e.1,aO2])⟩
theorem BFf{c:Zx α}{c':Zx β}{l' l2:List Y6}{Gs':List (List Nat)}{rs':List aa}{x:List (List α)}{x':List (List β)}(k:Xg h0 h l)(e:Rep i l (aO2 c er el F Gs rs v x) (aO2 c er el F Gs rs v x) l')(e':Rep j l (aO2 c' er' el' F' Gs' rs' v' x') (aO2 c' er' el' F' Gs' rs' v' x') l2)(hn:[i,j].Nodup):Yv c er el h F Gs rs v x/\Yv c' er' el' h F' Gs' rs' v' x'/\Sp h h0.size [F,F']:=⟨k.o2 e,k.o2 e',spS k [i,j] hn (by simp[ACr e.1,ACr e'.1,aO2])⟩
theorem noJ{c:Zx α}{c':Zx β}{x:List (List α)}{x':List β}(k:Xg h0 h l)(E:Ext h h')(S:Sp h' h.size [F,F'])(V:Yv c er el h' F Gs rs v x)(V':OwC c' el' h' F' v' x'):Xg h0 h' (aO2 c er el F Gs rs v x::aO c' el' F' v' x'::l):=k.n E [aO2 c er el F Gs rs v x,aO c' el' F' v' x'] S ⟨V,V',trivial⟩
theorem noX{c:Zx (α×aa)}{f:List Nat->aa->β->Y6}{ws:List aa}{x:List (α×β)}(k:Xg h0 h l)(E:Ext h h')(S:Sp h' h.size [F])(V:OwX c f el h' F ws v x):Xg h0 h' (aX c f el F ws v x::l):=k.n E [aX c f el F ws v x] S ⟨V,trivial⟩
theorem BFg{c:Zx α}{c':Zx β}{Gs':List (List Nat)}{rs':List aa}{x:List (List α)}{x':List (List β)}(k:Xg h0 h l)(E:Ext h h')(S:Sp h' h.size [F,F'])(V:Yv c er el h' F Gs rs v x)(V':Yv c' er' el' h' F' Gs' rs' v' x'):Xg h0 h' (aO2 c er el F Gs rs v x::aO2 c' er' el' F' Gs' rs' v' x'::l):=k.n E [aO2 c er el F Gs rs v x,aO2 c' er' el' F' Gs' rs' v' x'] S ⟨V,V',trivial⟩
theorem rez(h:G:=by first|exact⟨K.x,rf⟩|exact⟨K.x,_,rf,Zr⟩|exact⟨K.x,_,_,rf,Zr,Zr⟩|exact⟨K.x,_,_,_,_,rf,rO2 K pl⟩|exact⟨K.x,_,_,rf,rO K pl⟩|exact⟨K.x,_,_,_,_,rf,AT7 _ _ _ _,A4u⟩|exact⟨K.x,_,_,rf,AU6 _ _ _,A4u⟩|exact⟨K.x,_,rf,A67 rf zff zff⟩|exact BEw K pl Yo Yo|exact⟨K.x,_,_,_,_,_,_,rf,BEz⟩|exact⟨K.x,_,_,_,_,_,_,rf,rJ K pl pl dc⟩|exact⟨K.x,_,_,_,_,_,_,_,_,rf,BBq⟩|exact⟨K.x,_,rf,sf2⟩|exact⟨K.x,_,rf,sf⟩|exact⟨K.x,_,_,_,_,_,_,_,_,rf,BFf K pl pl dc⟩):G:=h
inductive Lc where|i(s:Nat)|k(s:Nat)(κ:bV)|b(s:Nat)|m(j:Nat)|f(j:Nat)|w(j:Nat)|o(j:Nat)|g(j:Nat)|p(j:Nat)|n(j i:Nat)|z(j q:Nat)|W(j q i:Nat)|O(j q i:Nat)|s(is:List Nat)|V(j s:Nat)|q(c er el s:Nat)|Q(c el s:Nat)|Y|N(c el:Nat)|M(c er el:Nat)|P(j s:Nat)|a(s:Nat)|Z(j q:Nat)|u(j i k:Nat)|c(f t s:Nat)|x(j q i k:Nat)|v(j i:Nat)
def wrM:cr->Nat|.region _ ops _=>ops.toList.foldl (λm o=>match o.dst with|some d=>m|||1<<<d|none=>m) 0|.seq a b=>wrM a|||wrM b|.cond _ a b=>wrM a|||wrM b|.block _ c=>wrM c|.loop c=>wrM c|.scope c=>wrM c|_=>0
def LZ(_ _:Nat)(_:List Lc):Prop:=True
theorem lz(t m:Nat)(cs:List Lc):LZ t m cs:=trivial
theorem ia{a b:Prop}(h:a)(g:b):a/\b:=⟨h,g⟩
def Lh(_:Nat)(c:cr)(m:Nat)(_:List Lc):Prop:=ATx m c=true
theorem lh{m:Nat}{c:cr}{cs:List Lc}(_:LZ t m cs)(h:(ATx m c&&wrM c==m)=true):Lh t c m cs:=by rw[aH]at h;exact h.1
def Bld{S X:Type}(_:List Lc)(_:List Y6)(_:X->S)(_:X->List (Nat×aa))(_:X->List Y6):Prop:=True
section
variable{l l':List Y6}{c1:Lc}{cs:List Lc}{S X:Type}{D:X->S}{live:X->List (Nat×aa)}{A:X->List Y6}{α:Type}{c:Zx α}{er el:Nat}{F:List Nat}{Gs:List (List Nat)}{rs:List aa}{v:aa}{M:List (List α)}{L:List α}{t b:Nat}{κ:bV}{a:Int}{B:List aa}
theorem bu:Bld [] l (λx:Unit=>x) (λ_=>[]) λ_=>l:=trivial
theorem bs(_:AE4 l is=l')(_:Bld cs l' D live A):Bld (.s is::cs) l D live A:=trivial
theorem bN0{el:Nat}(_:Bld cs (aO (cI .i64) el [] (.slice none 0 0) []::l) D live A):Bld (.N 0 el::cs) l D live A:=trivial
theorem bN1{el:Nat}(_:Bld cs (aO cZ el [] (.slice none 0 0) []::l) D live A):Bld (.N 1 el::cs) l D live A:=trivial
theorem bN2{el:Nat}(_:Bld cs (aO AJw el [] (.slice none 0 0) []::l) D live A):Bld (.N 2 el::cs) l D live A:=trivial
theorem bN3{el:Nat}(_:Bld cs (aO Ajn el [] (.slice none 0 0) []::l) D live A):Bld (.N 3 el::cs) l D live A:=trivial
theorem bN4{el:Nat}(_:Bld cs (aO A06 el [] (.slice none 0 0) []::l) D live A):Bld (.N 4 el::cs) l D live A:=trivial
theorem bM0{er el:Nat}(_:Bld cs (aO2 (cI .i64) er el [] [] [] (.slice none 0 0) []::l) D live A):Bld (.M 0 er el::cs) l D live A:=trivial
theorem bM1{er el:Nat}(_:Bld cs (aO2 cZ er el [] [] [] (.slice none 0 0) []::l) D live A):Bld (.M 1 er el::cs) l D live A:=trivial
theorem bY(_:Bld cs (aZ [.bool false,.slice none 0 0] 0::l) D live A):Bld (.Y::cs) l D live A:=trivial
theorem ei:Bld [.i s] l (λx:Int=>x) (λx=>[(s,.int .i64 x)]) λ_=>l:=trivial
theorem ki(_:Bld (c1::cs) l D live A):Bld (.i s::c1::cs) l (λx:Int×X=>(x.1,D x.2)) (λx=>(s,.int .i64 x.1)::live x.2) λx=>A x.2:=trivial
theorem eb:Bld [.b s] l (λx:Bool=>x) (λx=>[(s,.bool x)]) λ_=>l:=trivial
theorem kb(_:Bld (c1::cs) l D live A):Bld (.b s::c1::cs) l (λx:Bool×X=>(x.1,D x.2)) (λx=>(s,.bool x.1)::live x.2) λx=>A x.2:=trivial
theorem em(_:Rep j l (aO2 c er el F Gs rs v M) (aO2 c er el F Gs rs v M) l'):Bld [.m j] l (λx:List (List α)×List Nat×List (List Nat)×List aa=>x.1) (λ_=>[]) λx=>l.set j (aO2 c er el x.2.1 x.2.2.1 x.2.2.2 v x.1):=trivial
theorem km(_:Rep j l (aO2 c er el F Gs rs v M) (aO2 c er el F Gs rs v M) l')(_:Bld (c1::cs) l D live A):Bld (.m j::c1::cs) l (λx:List (List α)×List Nat×List (List Nat)×List aa×X=>(x.1,D x.2.2.2.2)) (λx=>live x.2.2.2.2) λx=>(A x.2.2.2.2).set j (aO2 c er el x.2.1 x.2.2.1 x.2.2.2.1 v x.1):=trivial
theorem ef(_:Rep j l (aO2 c er el F Gs rs v M) (aO2 c er el F Gs rs v M) l'):Bld [.f j] l (λx:List (List α)=>x) (λ_=>[]) λx=>l.set j (aO2 c er el F Gs rs v x):=trivial
theorem kf(_:Rep j l (aO2 c er el F Gs rs v M) (aO2 c er el F Gs rs v M) l')(_:Bld (c1::cs) l D live A):Bld (.f j::c1::cs) l (λx:List (List α)×X=>(x.1,D x.2)) (λx=>live x.2) λx=>(A x.2).set j (aO2 c er el F Gs rs v x.1):=trivial
theorem eW{l2:List Y6}(_:Rep j l (aO2 c er el F Gs rs v M) (aO2 c er el F Gs rs v M) l')(_:Rep q l (aB t b B) (aB t b B) l2):Bld [.W j q i] l (λx:List (List α)×aa×List Nat×List (List Nat)×List aa=>x.1) (λ_=>[]) λx=>(l.set j (aO2 c er el x.2.2.1 x.2.2.2.1 x.2.2.2.2 x.2.1 x.1)).set q (aB t b (B.set i x.2.1)):=trivial
theorem eV(_:Rep j l (aO2 c er el F Gs rs v M) (aO2 c er el F Gs rs v M) l'):Bld [.V j s] l (λx:List (List α)×aa×List Nat×List (List Nat)×List aa=>x.1) (λx=>[(s,x.2.1)]) λx=>l.set j (aO2 c er el x.2.2.1 x.2.2.2.1 x.2.2.2.2 x.2.1 x.1):=trivial
theorem kV(_:Rep j l (aO2 c er el F Gs rs v M) (aO2 c er el F Gs rs v M) l')(_:Bld (c1::cs) l D live A):Bld (.V j s::c1::cs) l (λx:List (List α)×aa×List Nat×List (List Nat)×List aa×X=>(x.1,D x.2.2.2.2.2)) (λx=>(s,x.2.1)::live x.2.2.2.2.2) λx=>(A x.2.2.2.2.2).set j (aO2 c er el x.2.2.1 x.2.2.2.1 x.2.2.2.2.1 x.2.1 x.1):=trivial
theorem eP(_:Rep j l (aO c el F v L) (aO c el F v L) l'):Bld [.P j s] l (λx:List α×aa×List Nat=>x.1) (λx=>[(s,x.2.1)]) λx=>l.set j (aO c el x.2.2 x.2.1 x.1):=trivial
theorem kP(_:Rep j l (aO c el F v L) (aO c el F v L) l')(_:Bld (c1::cs) l D live A):Bld (.P j s::c1::cs) l (λx:List α×aa×List Nat×X=>(x.1,D x.2.2.2)) (λx=>(s,x.2.1)::live x.2.2.2) λx=>(A x.2.2.2).set j (aO c el x.2.2.1 x.2.1 x.1):=trivial
theorem eq0{er el:Nat}:Bld [.q 0 er el s] l (λx:List (List Int)×aa×List Nat×List (List Nat)×List aa=>x.1) (λx=>[(s,x.2.1)]) λx=>aO2 (cI .i64) er el x.2.2.1 x.2.2.2.1 x.2.2.2.2 x.2.1 x.1::l:=trivial
theorem kq0{er el:Nat}(_:Bld (c1::cs) l D live A):Bld (.q 0 er el s::c1::cs) l (λx:List (List Int)×aa×List Nat×List (List Nat)×List aa×X=>(x.1,D x.2.2.2.2.2)) (λx=>(s,x.2.1)::live x.2.2.2.2.2) λx=>aO2 (cI .i64) er el x.2.2.1 x.2.2.2.1 x.2.2.2.2.1 x.2.1 x.1::A x.2.2.2.2.2:=trivial
theorem eq1{er el:Nat}:Bld [.q 1 er el s] l (λx:List (List Int)×aa×List Nat×List (List Nat)×List aa=>x.1) (λx=>[(s,x.2.1)]) λx=>aO2 cZ er el x.2.2.1 x.2.2.2.1 x.2.2.2.2 x.2.1 x.1::l:=trivial
theorem eo(_:Rep j l (aO c el F v L) (aO c el F v L) l'):Bld [.o j] l (λx:List α×List Nat=>x.1) (λ_=>[]) λx=>l.set j (aO c el x.2 v x.1):=trivial
theorem eg(_:Rep j l (aO c el F v L) (aO c el F v L) l'):Bld [.g j] l (λx:List α=>x) (λ_=>[]) λx=>l.set j (aO c el F v x):=trivial
theorem eO{l2:List Y6}(_:Rep j l (aO c el F v L) (aO c el F v L) l')(_:Rep q l (aB t b B) (aB t b B) l2):Bld [.O j q i] l (λx:List α×aa×List Nat=>x.1) (λ_=>[]) λx=>(l.set j (aO c el x.2.2 x.2.1 x.1)).set q (aB t b (B.set i x.2.1)):=trivial
theorem en(_:Rep j l (aB t b B) (aB t b B) l'):Bld [.n j i] l (λx:Int=>x) (λ_=>[]) λx=>l.set j (aB t b (B.set i (.int .i64 x))):=trivial
theorem kn(_:Rep j l (aB t b B) (aB t b B) l')(_:Bld (c1::cs) l D live A):Bld (.n j i::c1::cs) l (λx:Int×X=>(x.1,D x.2)) (λx=>live x.2) λx=>(A x.2).set j (aB t b (B.set i (.int .i64 x.1))):=trivial
theorem ez{l2:List Y6}(_:Rep j l (aZ B a) (aZ B a) l')(_:Rep q l (aB t b B) (aB t b B) l2):Bld [.z j q] l (λx:Int×List aa=>x.1) (λ_=>[]) λx=>(l.set j (aZ x.2 x.1)).set q (aB t b x.2):=trivial
theorem kz{l2:List Y6}(_:Rep j l (aZ B a) (aZ B a) l')(_:Rep q l (aB t b B) (aB t b B) l2)(_:Bld (c1::cs) l D live A):Bld (.z j q::c1::cs) l (λx:Int×List aa×X=>(x.1,D x.2.2)) (λx=>live x.2.2) λx=>((A x.2.2).set j (aZ x.2.1 x.1)).set q (aB t b x.2.1):=trivial
theorem eZ(_:Rep j l (aB t b B) (aB t b B) l'):Bld [.Z j q] l (λx:Int×List aa=>x.1) (λ_=>[]) λx=>aZ x.2 x.1::l.set q (aB t b x.2):=trivial
theorem kZ(_:Rep j l (aB t b B) (aB t b B) l')(_:Bld (c1::cs) l D live A):Bld (.Z j q::c1::cs) l (λx:Int×List aa×X=>(x.1,D x.2.2)) (λx=>live x.2.2) λx=>aZ x.2.1 x.1::(A x.2.2).set q (aB t b x.2.1):=trivial
theorem eu(_:Rep j l (aB t b B) (aB t b B) l'):Bld [.u j i k] l (λx:Int×Int=>(x.1,x.2)) (λ_=>[]) λx=>l.set j (aB t b ((B.set i (.int .i64 x.1)).set k (.int .i64 x.2))):=trivial
theorem ev(_:Rep j l (aB t b B) (aB t b B) l'):Bld [.v j i] l (λx:Bool=>x) (λ_=>[]) λx=>l.set j (aB t b (B.set i (.bool x))):=trivial
theorem ec{t:Nat}:Bld [.c f t s] l (λx:Nat×Int=>x.2) (λx=>[(s,.func (.func f) #[] #[.pointer (some ⟨x.1,0,none⟩)])]) λx=>aB t x.1 [.int .i64 x.2]::l:=trivial
theorem ex{l2:List Y6}(_:Rep j l (aO c el F v L) (aO c el F v L) l')(_:Rep q l (aB t b B) (aB t b B) l2):Bld [.x j q i k] l (λx:Int×List α×aa×List Nat=>(x.1,x.2.1)) (λ_=>[]) λx=>(l.set j (aO c el x.2.2.2 x.2.2.1 x.2.1)).set q (aB t b ((B.set k (.int .i64 x.1)).set i x.2.2.1)):=trivial
end
def Jsh{T:Type}(_:Option T):Prop:=True
theorem jsi{T:Type}{c:Prop}[Decidable c]{x y:Option T}:Jsh (if c then x else y):=trivial
theorem jsb{T U:Type}{x:Option U}{g:U->Option T}:Jsh (x.bind g):=trivial
theorem jsh(h:G:=by first|apply jsi|apply jsb):G:=h
theorem A41(h:G:=by constructor;(repeat(first|(apply ss.1;constructor;exact rf;exact rf)|replace ss:=ss.2|fail));first|done|fail):G:=h
theorem BB3(h:G:=by first|exact c1|exact c2|exact c3|exact c4|exact c5|exact c6|exact c7|exact c8|exact c9):G:=h
theorem Av8(h:G:=by constructor;(repeat(first|(apply ss.1;exact rf)|replace ss:=ss.2|fail));first|done|fail):G:=h
theorem BB4(h:G:=by(repeat(first|apply ss.1|replace ss:=ss.2|fail));first|done|fail):G:=h
theorem BB5(h:G:=by constructor;(repeat(first|(apply lh;apply ss.1;exact dk;constructor;exact bld;exact BB6)|replace ss:=ss.2|fail));first|done|fail):G:=h
theorem hint(h:G:=by constructor;(repeat(first|(apply lh;apply ss.1;exact dk;exact bld)|replace ss:=ss.2|fail));first|done|fail):G:=h
theorem Av9(h:G:=by constructor;(repeat(first|(apply ss.1;exact bld)|replace ss:=ss.2|fail));first|done|fail):G:=h
theorem bld(h:G:=by(repeat' with_reducible first|apply ei|apply em|apply ef|apply ek|apply eb|apply ew|apply eo|apply eg|apply ep|apply en|apply eV|apply eP|apply ez|apply eW|apply eO|apply eq0|apply eq1|apply ea|apply eZ|apply eu|apply ec|apply ex|apply ev|apply bu|apply ki|apply km|apply kf|apply kk|apply kb|apply kw|apply ko|apply kg|apply kp|apply kn|apply kV|apply kP|apply kz|apply kW|apply kO|apply kq0|apply kq1|apply ka|apply kZ|apply kx|apply ku|apply kv|apply bs|apply bN0|apply bN1|apply bN2|apply bN3|apply bN4|apply bM0|apply bM1|apply bY|exact pl|(dsimp only[AE4,AG9]<;>rfl));done):G:=h
theorem hxR{R:Type}{v:E}{y:S⊕E}{f:E->Option R}{r:R}(hp:some (ae v)=some y)(ho:∀z,y=.inr z->f z=some r):f v=some r:=ho v (bI hp).symm
theorem rr(h:G:=by first|(with_reducible exact Eq.refl _)|(dsimp only;done)|(dsimp only;with_reducible exact Eq.refl _)):G:=h
theorem kci(h:G:=by(try dsimp only[List.set]);first|exact K|exact Anm K scl dc|exact Xg.anil _ _ K|exact Anm (Xg.anil _ _ K) scl dc|exact Xg.anil2 _ _ _ K|exact Anm (Xg.anil2 _ _ _ K) scl dc|exact Xg.anil _ _ (Xg.anil _ _ K)|exact Anm (Xg.anil _ _ (Xg.anil _ _ K)) scl dc|exact Xg.anil2 _ _ _ (Xg.anil2 _ _ _ K)|exact Anm (Xg.anil2 _ _ _ (Xg.anil2 _ _ _ K)) scl dc|exact Xg.az K (X3 _)|exact Anm (Xg.az K (X3 _)) scl dc):G:=h
theorem BB6(h:G:=by((repeat apply xq);first|exact⟨_,rr,kci,agl⟩|exact⟨(),rr,kci,agl⟩)):G:=h
theorem lpR{e:Env}{c:cr}{R:Type}{body:S->Option (S⊕E)}{f:E->Option R}{r:R}{m:Nat}{cs:List Lc}{D:X->S}{live:X->List (Nat×aa)}{A:X->List Y6}{s0:S}(hp:(iter body fuel s0).bind f=some r)(k:Xg h0 h l)(hx:Lh 0 c m cs/\Bld cs l D live A/\∃x0,D x0=s0/\Xg h0 h (A x0)/\AMf (live x0) e)(H:∀x s h' y,Xg h0 h' (A x)->body (D x)=some y->(∀z,y=.inr z->f z=some r)->W P c (AEw (λe' h''=>∃x',y=.inl (D x')/\Xg h0 h'' (A x')/\AMf (live x') e') Q) (setL (live x) (mix m s e)) h'):W P (.loop c) Q e h:=by obtain⟨hh,_,x0,rfl,k0,hl⟩:=hx;exact Ac4 m D x0 hp live A k0 hl H hh
section
variable{P:aK}{Q:cQ->Env->Ws->Prop}{e:Env}{h0 h:Ws}{a b:cr}{X S T R:Type}{o:Option T}{f:T->Option R}{r:R}{m t:Nat}{cs:List Lc}{D:X->S}{live:X->List (Nat×aa)}{A:X->List Y6}{l:List Y6}
theorem jnG(w:S->T)(hp:o.bind f=some r)(hh:Lh t a m cs)(k:Xg h0 h l)(_:Bld cs l D live A)(H1:∀ex,o=some ex->f ex=some r->W P a (AEw (λe' h'=>∃x,(w (D x)=ex/\Xg h0 h' (A x))/\AMf (live x) e') Q) e h)(H2:∀x s h',Xg h0 h' (A x)->f (w (D x))=some r->W P b Q (setL (live x) (mix m s e)) h'):W P (.seq a b) Q e h:=by obtain⟨ex,h1,h2⟩:=Xq hp;exact A05 m live (λx h'=>w (D x)=ex/\Xg h0 h' (A x)) (H1 ex h1 h2) (λx s h' hj=>H2 x s h' hj.2 (hj.1▸h2)) hh
end
section
variable{P:aK}{Q:cQ->Env->Ws->Prop}{e:Env}{h0 h:Ws}{a b:cr}{X S E R:Type}{r:R}{m:Nat}{cs:List Lc}{D:X->S}{live:X->List (Nat×aa)}{A:X->List Y6}{l:List Y6}
theorem jn1{o:Option S}{f:S->Option R}(hp:o.bind f=some r)(_:Jsh o)(k:Xg h0 h l)(hx:Lh 1 a m cs/\Bld cs l D live A)(H1:∀ex,o=some ex->f ex=some r->W P a (AEw (λe' h'=>∃x,(D x=ex/\Xg h0 h' (A x))/\AMf (live x) e') Q) e h)(H2:∀x s h',Xg h0 h' (A x)->f (D x)=some r->W P b Q (setL (live x) (mix m s e)) h'):W P (.seq a b) Q e h:=jnG id hp hx.1 k hx.2 H1 H2
theorem jn2{o:Option (E⊕S)}{f:E⊕S->Option R}(hp:o.bind f=some r)(_:Jsh o)(k:Xg h0 h l)(hx:Lh 2 a m cs/\Bld cs l D live A)(H1:∀ex,o=some ex->f ex=some r->W P a (AEw (λe' h'=>∃x,(.inr (D x)=ex/\Xg h0 h' (A x))/\AMf (live x) e') Q) e h)(H2:∀x s h',Xg h0 h' (A x)->f (.inr (D x))=some r->W P b Q (setL (live x) (mix m s e)) h'):W P (.seq a b) Q e h:=jnG .inr hp hx.1 k hx.2 H1 H2
theorem jn3{o:Option (S⊕E)}{f:S⊕E->Option R}(hp:o.bind f=some r)(_:Jsh o)(k:Xg h0 h l)(hx:Lh 3 a m cs/\Bld cs l D live A)(H1:∀ex,o=some ex->f ex=some r->W P a (AEw (λe' h'=>∃x,(.inl (D x)=ex/\Xg h0 h' (A x))/\AMf (live x) e') Q) e h)(H2:∀x s h',Xg h0 h' (A x)->f (.inl (D x))=some r->W P b Q (setL (live x) (mix m s e)) h'):W P (.seq a b) Q e h:=jnG .inl hp hx.1 k hx.2 H1 H2
end
def FS(P:aK)(f:bL)(F:Func)(_:Nat)(_:List Lc):Prop:=P.funcs[f]?=some F
theorem fs{f:bL}{F:Func}(h:P.funcs[f]?=some F)(t:Nat)(cs:List Lc):FS P f F t cs:=h
def res:List (Nat×aa)->aa|[]=>.tuple #[]|[(_,v)]=>v|(_,v)::(_,w)::l=>.tuple (v::w::l.map (·.2)).toArray
def Asi(l:List (Nat×aa)):aa:=.agg (l.map (·.2)).toArray
section
variable{P:aK}{B:Ws->Prop}{st:Bool}{ops:Array ay}{rest:List ay}{e:Env}{h h0 g:Ws}{C:Env->Ws->Prop}{d:Nat}{ty:aG}{pos:String}{af:Array Edge}{f:bL}{xs:List an}{ts:Array aG}{a:List aa}{X S R:Type}{o:Option S}{u:S->Option R}{r:R}{n:Nat}{F:Func}{c:cr}{rs:List cR}{cs:List Lc}{D:X->S}{live:X->List (Nat×aa)}{A:X->List Y6}{l:List Y6}{G:List Nat}{t:Nat}(Z:List (Nat×aa)->aa)
theorem clG(hm:P.follows .mixedOrders=true)(hp:o.bind u=some r)(k:Xg h0 h l)(hx:FS P f F t cs/\Bld cs l D live A)(hxs:xs.map e.ev=a)(hn:(F.name== "runtime.NumGoroutine")=false)(hb:F.body=some c)(hr:F.results=rs.toArray)(hnt:F.ntmps=n)(hl:aA a.length n=true)(hok:okC n c=true)(H1:∀ex,o=some ex->W P c (APb P rs λv h'=>∃x,D x=ex/\v=Z (live x)/\Xg h0 h' (A x)) (AVo a) h)(H2:∀x h',Xg h0 h' (A x)->u (D x)=some r->RL P (λ_=>True) st ops rest (e.set d (Z (live x))) h' C):RL P (λ_=>True) st ops (⟨some d,.call ⟨.value (.func f),xs.toArray,ts⟩,ty,pos,af,none⟩::rest) e h C:=by obtain⟨ex,h1,h2⟩:=Xq hp;refine Xf trivial hxs (Xn hm hx.1 hn hb hr hnt hl hok (H1 ex h1)) λv h' hk=>⟨trivial,?_⟩;obtain⟨x,rfl,rfl,K⟩:=hk;exact H2 x h' K h2
theorem clV(hB:B h)(hB2:∀h',Yg G g h'->B h')(hm:P.follows .mixedOrders=true)(hp:o.bind u=some r)(k:Xg h0 h l)(hx:FS P f F t cs/\Bld cs l D live A)(hxs:xs.map e.ev=a)(U:Yg G g h)(hn:(F.name== "runtime.NumGoroutine")=false)(hb:F.body=some c)(hr:F.results=rs.toArray)(hnt:F.ntmps=n)(hl:aA a.length n=true)(hok:okC n c=true)(H1:∀ex,o=some ex->W P c (APb P rs λv h'=>∃x,D x=ex/\v=Z (live x)/\Xg h0 h' (A x)/\Yg G g h') (AVo a) h)(H2:∀x h',Xg h0 h' (A x)->u (D x)=some r->Yg G g h'->RL P B st ops rest (e.set d (Z (live x))) h' C):RL P B st ops (⟨some d,.call ⟨.value (.func f),xs.toArray,ts⟩,ty,pos,af,none⟩::rest) e h C:=by obtain⟨ex,h1,h2⟩:=Xq hp;refine Xf hB hxs (Xn hm hx.1 hn hb hr hnt hl hok (H1 ex h1)) λv h' hk=>?_;obtain⟨x,rfl,rfl,K,U'⟩:=hk;exact⟨hB2 h' U',H2 x h' K h2 U'⟩
end
section
variable{ops:Array ay}{rest:List ay}{e:Env}{h h0 g:Ws}{C:Env->Ws->Prop}{st:Bool}{d:Nat}{ty:aG}{pos:String}{af:Array Edge}{f:bL}{xs:List an}{ts:Array aG}{a:List aa}{X S R:Type}{o:Option S}{u:S->Option R}{r:R}{n:Nat}{F:Func}{c:cr}{rs:List cR}{cs:List Lc}{D:X->S}{live:X->List (Nat×aa)}{A:X->List Y6}{l:List Y6}{G:List Nat}
theorem cl4(hp:o.bind u=some r)(k:Xg h0 h l)(hx:FS Tryz.prog f F 4 cs/\Bld cs l D live A)(hxs:xs.map e.ev=a)(hn:(F.name== "runtime.NumGoroutine")=false)(hb:F.body=some c)(hr:F.results=rs.toArray)(hnt:F.ntmps=n)(hl:aA a.length n=true)(hok:okC n c=true)(H1:∀ex,o=some ex->W Tryz.prog c (APb Tryz.prog rs λv h'=>∃x,D x=ex/\v=res (live x)/\Xg h0 h' (A x)) (AVo a) h)(H2:∀x h',Xg h0 h' (A x)->u (D x)=some r->RL Tryz.prog (λ_=>True) st ops rest (e.set d (res (live x))) h' C):RL Tryz.prog (λ_=>True) st ops (⟨some d,.call ⟨.value (.func f),xs.toArray,ts⟩,ty,pos,af,none⟩::rest) e h C:=clG res mx hp k hx hxs hn hb hr hnt hl hok H1 H2
theorem cl5(hp:o.bind u=some r)(k:Xg h0 h l)(hx:FS Tryz.prog f F 5 cs/\Bld cs l D live A)(hxs:xs.map e.ev=a)(hn:(F.name== "runtime.NumGoroutine")=false)(hb:F.body=some c)(hr:F.results=rs.toArray)(hnt:F.ntmps=n)(hl:aA a.length n=true)(hok:okC n c=true)(H1:∀ex,o=some ex->W Tryz.prog c (APb Tryz.prog rs λv h'=>∃x,D x=ex/\v=Asi (live x)/\Xg h0 h' (A x)) (AVo a) h)(H2:∀x h',Xg h0 h' (A x)->u (D x)=some r->RL Tryz.prog (λ_=>True) st ops rest (e.set d (Asi (live x))) h' C):RL Tryz.prog (λ_=>True) st ops (⟨some d,.call ⟨.value (.func f),xs.toArray,ts⟩,ty,pos,af,none⟩::rest) e h C:=clG Asi mx hp k hx hxs hn hb hr hnt hl hok H1 H2
theorem cl8(hp:o.bind u=some r)(k:Xg h0 h l)(hx:FS Tryz.prog f F 8 cs/\Bld cs l D live A)(hxs:xs.map e.ev=a)(U:Yg G g h)(hn:(F.name== "runtime.NumGoroutine")=false)(hb:F.body=some c)(hr:F.results=rs.toArray)(hnt:F.ntmps=n)(hl:aA a.length n=true)(hok:okC n c=true)(H1:∀ex,o=some ex->W Tryz.prog c (APb Tryz.prog rs λv h'=>∃x,D x=ex/\v=res (live x)/\Xg h0 h' (A x)/\Yg G g h') (AVo a) h)(H2:∀x h',Xg h0 h' (A x)->u (D x)=some r->Yg G g h'->RL Tryz.prog (λh'=>Yg G g h') st ops rest (e.set d (res (live x))) h' C):RL Tryz.prog (λh'=>Yg G g h') st ops (⟨some d,.call ⟨.value (.func f),xs.toArray,ts⟩,ty,pos,af,none⟩::rest) e h C:=clV (B:=λh'=>Yg G g h') res U (λ_ U=>U) mx hp k hx hxs U hn hb hr hnt hl hok H1 H2
theorem BFl{o:Option Int}{u:Int->Option R}(hp:o.bind u=some r)(k:Xg h0 h l)(hx:FS Tryz.prog f F 10 cs)(hxs:xs.map e.ev=a)(U:Yg [] g h)(hn:(F.name== "runtime.NumGoroutine")=false)(hb:F.body=some c)(hr:F.results=rs.toArray)(hnt:F.ntmps=n)(hl:aA a.length n=true)(hok:okC n c=true)(H1:∀ex,o=some ex->KB h0 h l->Xg h h []->W Tryz.prog c (APb Tryz.prog rs λv h'=>Ext h h'/\∃x0,v=x0/\ZZ h' x0 ex) (AVo a) h)(H2:∀z cs h',Xg h0 h' (aZ cs z::l)->u z=some r->Yg [] g h'->RL Tryz.prog (λh'=>Yg [] g h') st ops rest (e.set d (.agg cs.toArray)) h' C):RL Tryz.prog (λh'=>Yg [] g h') st ops (⟨some d,.call ⟨.value (.func f),xs.toArray,ts⟩,ty,pos,af,none⟩::rest) e h C:=by obtain⟨ex,h1,h2⟩:=Xq hp;refine c_B hxs (Xn mx hx hn hb hr hnt hl hok (H1 ex h1 k (Xg.k0 h))) U λv h' E hk U'=>?_;obtain⟨x0,rfl,Z⟩:=hk;obtain⟨cs,rfl,Z2⟩:=Z.cs;exact H2 ex cs h' ((k.e E).az Z2) h2 U'
end
theorem zy{Pk Ph Po:Prop}(K:Pk)(hp:Ph)(ho:Po)(h:Pk->Ph->Po->G:=by
 intro K hp ho;(try dsimp only[Xg.L,List.set,AE4,AG9]at K hp ho);repeat' with_reducible first|exact nn hp|refine Wu ?_|refine W0 ?_|refine X4 ?_|(refine d_R ?_;first|(refine d_g ?_;first|(apply g_f;exact rf;exact rf)|(apply g_t;exact rf;exact rf)|(apply g_u;exact rf;exact rf))|(refine d_b ?_;first|(apply AF5;exact rf;exact rf)|(apply AFo;exact rf;exact rf)|(apply Ac6;exact rf;exact rf)|(apply Avv;exact rf;exact rf)|(apply AOr;exact rf;exact rf)|(apply Avt;exact rf;exact rf)|(apply Avu;exact rf;exact rf)|(apply A6n;exact rf;exact rf)|(apply AMg;exact rf;exact rf)|(apply Ao5;exact rf;exact rf;exact dc)|(apply Ae3;exact rf;exact rf;exact dc)|(have q:=ifN hp;clear hp;obtain⟨hn,hp⟩:=q;first|(apply Ao5;exact rf;exact rf;exact hn)|(apply Ae3;exact rf;exact rf;exact hn)|(apply Au5;exact rf;exact rf;exact hnu)|(apply Au6;exact rf;exact rf;exact hnu))|(apply A53;exact rf;exact rf;exact dc)|(apply Au5;exact rf;exact rf;exact dc)|(apply Au6;exact rf;exact rf;exact dc)|(apply Acm;exact Tryz.underlying4;exact rf;exact rf))|(apply x20;exact rf)|(apply x21;exact rf)|(apply x30;exact rf)|(apply x31;exact rf)|(apply x32;exact rf)|(apply ABx;exact rf;exact rf)|(apply AOc;exact rf)|(apply Arr;exact AZo)|(refine d_p ?_;have q:=ifN hp;clear hp;obtain⟨hn,hp⟩:=q;first|refine BBr (λ_=>nvl) (λ_ _=>nvl) (λ_ _=>rf) K (λ_ _ _=>pl) A4w rf Yo Yo slf rf zef rf rf slf naf rf rf hn λp q F Gs rs v hn K=>?_|(apply BBr;exactλ_=>nvl;exactλ_ _=>nvl;exactλ_ _=>rf;exact K;exactλ_ _ _=>pl;exact zff;exact rf;exact Yo;exact Yo;exact slf;exact rf;exact zef;exact rf;exact rf;exact slf;exact naf;exact rf;exact rf;exact hn;intro p q F Gs rs v hn K))|(have q:=ifN hp;clear hp;obtain⟨hn,hp⟩:=q;(apply BE0;exact nvl;exact rf;exactλ_=>nvl;exactλ_=>rf;exact K;exactλ_ _ _=>pl;exact Yo;exact Yo;exact slf;exact itf;exact zef;exact slf;exact naf;exact rf;exact rf;exact hn;intro q F Gs rs v hn K))|(apply BEv;exact nvl;exact rf;exact K;exactλ_ _ _=>pl;exactλ_=>rf;exactλ_=>rf;exactλ_=>rf;exactλ_ _=>rf;exact slf;exact naf;exact Yo;exact Yo;exact Yo;exact Yo;intro p q F Gs rs hn K)|((apply d_i;exact nvl;exact nvl;intro hX hI);(first|(apply x3;exact hX;exact hI;exact hp;exact slf;all_goals(intro hc hp))|(refine d_B ?_;first|(have q:=obg hp;clear hp;obtain⟨y,hx,hp⟩:=q;first|(apply BBc;exact hX;exact Xg.o2 Yo pl;exact slf;exact hI;exact hx;intro b r hF hr hc)|(apply A1w;exact hX;exact Yo;exact Xg.o2 Yo pl;exact slf;exact rf;exact hI;exact Yo;exact hx;intro g hG)|(apply i_R;exact hX;exact Yo;exact slf;exact hI;exact hx;intro b o r hc hs)|(apply i_C;exact hX;exact Yo;exact slf;exact hI;exact hx;intro b o hc)|(apply A1x;exact hX;exact Yo;exact slf;exact hI;exact hx;intro b o hc)|(apply A1y;exact hX;exact Yo;exact slf;exact hI;exact hx;intro b o hc)|(apply A11;exact hX;exact oxf;exact slf;exact hI;exact hx;intro b o w hc hs)|(apply A12;exact hX;exact oxf;exact slf;exact hI;exact hx;intro b o w hc hs)|(apply A1v;exact hX;exact Yo;exact slf;exact rf;exact hI;exact hx;intro b o cs hr hc))|(apply BBc;exact hX;exact Xg.o2 Yo pl;exact slf;exact hI;exact Yo;intro b r hF hr hc)|(apply A1w;exact hX;exact Yo;exact Xg.o2 Yo pl;exact slf;exact rf;exact hI;exact Yo;exact Yo;intro g hG)|(apply i_R;exact hX;exact Yo;exact slf;exact hI;exact Yo;intro b o r hc hs)|(apply i_C;exact hX;exact Yo;exact slf;exact hI;exact Yo;intro b o hc)|(apply A1x;exact hX;exact Yo;exact slf;exact hI;exact Yo;intro b o hc)|(apply A1y;exact hX;exact Yo;exact slf;exact hI;exact Yo;intro b o hc)|(apply A11;exact hX;exact oxf;exact slf;exact hI;exact Yo;intro b o w hc hs)|(apply A12;exact hX;exact oxf;exact slf;exact hI;exact Yo;intro b o w hc hs)|(apply A1v;exact hX;exact Yo;exact slf;exact rf;exact hI;exact Yo;intro b o cs hr hc)|(have q:=obg hp;clear hp;obtain⟨L,hL,hp⟩:=q;first|(have q:=obg hp;clear hp;obtain⟨y,hx,hp⟩:=q;(apply A1w;exact hX;exact Yo;exact Xg.o2 Yo pl;exact slf;exact rf;exact hI;exact hL;exact hx;intro g hG))|(apply A1w;exact hX;exact Yo;exact Xg.o2 Yo pl;exact slf;exact rf;exact hI;exact hL;exact Yo;intro g hG)))|(have q:=obg hp;clear hp;obtain⟨y,hx,hp⟩:=q;first|(apply A63;exact hX;exact K.o2 pl;exact slf;exact hI;exact hx;intro b r hF hr hc)|(apply i_O;exact hX;exact K.o pl;exact slf;exact rf;exact hI;exact hx;intro g hF)|(apply Av6;exact hX;exact Yo;exact K.o2 pl;exact slf;exact rf;exact hI;exact Yo;exact hx;intro g hG)|(apply i_R;exact hX;exact Yo;exact slf;exact hI;exact hx;intro b o r hc hs)|(apply i_C;exact hX;exact Yo;exact slf;exact hI;exact hx;intro b o hc)|(apply A1x;exact hX;exact Yo;exact slf;exact hI;exact hx;intro b o hc)|(apply A1y;exact hX;exact Yo;exact slf;exact hI;exact hx;intro b o hc)|(apply A11;exact hX;exact oxf;exact slf;exact hI;exact hx;intro b o w hc hs)|(apply A12;exact hX;exact oxf;exact slf;exact hI;exact hx;intro b o w hc hs)|(apply A1v;exact hX;exact Yo;exact slf;exact rf;exact hI;exact hx;intro b o cs hr hc))|(apply A63;exact hX;exact K.o2 pl;exact slf;exact hI;exact Yo;intro b r hF hr hc)|(apply i_O;exact hX;exact K.o pl;exact slf;exact rf;exact hI;exact Yo;intro g hF)|(apply Av6;exact hX;exact Yo;exact K.o2 pl;exact slf;exact rf;exact hI;exact Yo;exact Yo;intro g hG)|(apply i_R;exact hX;exact Yo;exact slf;exact hI;exact Yo;intro b o r hc hs)|(apply i_C;exact hX;exact Yo;exact slf;exact hI;exact Yo;intro b o hc)|(apply A1x;exact hX;exact Yo;exact slf;exact hI;exact Yo;intro b o hc)|(apply A1y;exact hX;exact Yo;exact slf;exact hI;exact Yo;intro b o hc)|(apply A11;exact hX;exact oxf;exact slf;exact hI;exact Yo;intro b o w hc hs)|(apply A12;exact hX;exact oxf;exact slf;exact hI;exact Yo;intro b o w hc hs)|(apply A1v;exact hX;exact Yo;exact slf;exact rf;exact hI;exact Yo;intro b o cs hr hc)|(have q:=obg hp;clear hp;obtain⟨L,hL,hp⟩:=q;first|(have q:=obg hp;clear hp;obtain⟨y,hx,hp⟩:=q;(apply Av6;exact hX;exact Yo;exact K.o2 pl;exact slf;exact rf;exact hI;exact hL;exact hx;intro g hG))|(apply Av6;exact hX;exact Yo;exact K.o2 pl;exact slf;exact rf;exact hI;exact hL;exact Yo;intro g hG)))<;>clear hX hI)|((apply d_l;exact nvl;intro hX);(first|(refine d_B ?_;first|(apply l_B;exact hX;exact cfB;exact naf;exact Yo)|(apply BBd;exact hX;exact bfB;exact zff;exact Yo)|(apply BE5;exact hX;exact bfB;exact zff;exact zff;exact Yo)|(apply BBw;exact hX;exact bfB;exact zff;exact Yo)|(apply BBx;exact hX;exact bfB;exact zff;exact zff;exact Yo)|(apply Av7;exact hX;exact Yo;exact Yo;exact Ext.refl _;exact Yo)|(apply Av7;exact hX;exact Yo;exact Yo;exact xxB;exact Yo)|(obtain⟨cs,hr,hc⟩:=z2B Yo hX Yo (Xg.o2 Yo pl) Yo Yo;have K:=K.az (cZ.upT hr Yo);(apply Av7;exact hX;exact hc;exact hr;exact Ext.refl _;exact Yo))|(apply BEa;exact hX;exact bfB;exact agf;exact rf;exact Yo)|(apply A65;exact hX;exact Yo;exact Ext.refl _;exact agf;exact rf;exact Yo)|(apply A65;exact hX;exact Yo;exact xxB;exact agf;exact rf;exact Yo)|(apply A65;exact hX;exact cOK Yo (Xg.o Yo pl) Yo;exact Ext.refl _;exact agf;exact rf;exact Yo))|(apply BEc;exact Yo;exact Yo;exact hX;exact pl;exact gp;exact rf;exact naf)|(apply BEd;exact Yo;exact Yo;exact hX;exact Yo;exact Yo;exact pl;exact gp;exact naf)|(apply BEe;exact Yo;exact Yo;exact hX;exact Yo;exact pl;exact Yo;exact Yo;exact gp;exact naf)|(apply l_S;exact hX;exact cf;exact naf)|(apply BD9;exact hX;exact bf;exact zff)|(apply l_Q;exact hX;exact bf;exact zff;exact zff)|(apply BE6;exact hX;exact bf;exact zff)|(apply BE7;exact hX;exact bf;exact zff;exact zff)|(apply A64;exact hX;exact Yo;exact Yo;exact xx)|(obtain⟨cs,hr,hc⟩:=z1X hX Yo (K.o pl) Yo;have K:=K.az hr;(apply A64;exact hX;exact hc;exact hr;exact Ext.refl _))|(obtain⟨cs,hr,hc⟩:=z2X hX Yo (K.o2 pl) Yo Yo;have K:=K.az hr;(apply A64;exact hX;exact hc;exact hr;exact Ext.refl _))|(apply l_A;exact hX;exact bf;exact agf;exact rf)|(apply l_L;exact hX;exact Yo;exact xx;exact agf;exact rf)|(apply l_L;exact hX;exact cOK Yo (K.o pl) Yo;exact Ext.refl _;exact agf;exact rf)|(have q:=obg hp;clear hp;obtain⟨y,hx,hp⟩:=q;(apply l_S;exact hX;exact Aap (cOK Yo (K.o pl) Yo) rf;exact naf)));clear hX)|(apply f_1;exact rf;exact fdf;exact dk)|(apply f_2;exact rf;exact fdf;exact dk)|(apply BE8;exact rf;exact rf;exact zff;exact zff)|((apply BEp;exact rf;exact AZo;exact rf);(try dsimp only[List.map,List.append,List.nil_append,List.cons_append,List.append_nil]))|(refine d_c ?_;first|((apply cl4;exact hp;exact K;exact Av9;exact AZo;exact rf;exact rf;exact rf;exact rf;exact rf;exact kr);(try have ho3:=ho2);(try have ho2:=ho);(have ho:=trivial);intro ex q;clear hp;have hp:=q;clear q;rotate_left;clear hp K;intro x hn K hp;(try dsimp only[res,Asi,List.map,List.set,AE4,AG9]at K hp⊢))|((apply cl5;exact hp;exact K;exact Av9;exact AZo;exact rf;exact rf;exact rf;exact rf;exact rf;exact kr);(try have ho3:=ho2);(try have ho2:=ho);(have ho:=trivial);intro ex q;clear hp;have hp:=q;clear q;rotate_left;clear hp K;intro x hn K hp;(try dsimp only[res,Asi,List.map,List.set,AE4,AG9]at K hp⊢))|((apply cl8;exact hp;exact K;exact Av9;exact AZo;exact Yo;exact rf;exact rf;exact rf;exact rf;exact rf;exact kr);(try have ho3:=ho2);(try have ho2:=ho);(have ho:=trivial);intro ex q;clear hp;have hp:=q;clear q;rotate_left;clear hp K;intro x hn K hp hB;(try dsimp only[res,Asi,List.map,List.set,AE4,AG9]at K hp⊢))|((apply BFl;exact hp;exact K;exact BB4;exact AZo;exact Yo;exact rf;exact rf;exact rf;exact rf;exact rf;exact kr);(try have ho3:=ho2);(try have ho2:=ho);(have ho:=trivial);intro ex q kb Kn;clear hp;have hp:=q;clear q;rotate_left;clear hp K;intro x cs hn K hp hB;rotate_left;have K:=Kn;clear Kn))|(refine d_c ?_;have q:=Xq hp;clear hp;obtain⟨ex,hj,hp⟩:=q;apply Xf;(first|exact trivial|exact Yo);exact AZo;exact BB3;intro v hn hk;first|(obtain⟨x,q1,rfl,Kn,Un⟩:=hk;refine⟨Un,?_⟩;clear K;have K:=Kn;clear Kn;subst q1;(try dsimp only[AE4,AG9,List.set]at K hp))|(refine⟨trivial,?_⟩;obtain⟨x,q1,rfl,Kn⟩:=hk;clear K;have K:=Kn;clear Kn;subst q1;(try dsimp only[AE4,AG9,List.set]at K hp)))|(refine d_c ?_;(first|(have q:=ob3 hp;clear hp;obtain⟨x1,x2,x3,hx,hp⟩:=q;dsimp only at hp;first|(apply c_S;exact AZo;exact cc;intro v hn E hk)|(apply c_B;exact AZo;exact cc;exact Yo;intro v hn E hk hB))|(have q:=ob2 hp;clear hp;obtain⟨x1,x2,hx,hp⟩:=q;dsimp only at hp;first|(apply c_S;exact AZo;exact cc;intro v hn E hk)|(apply c_B;exact AZo;exact cc;exact Yo;intro v hn E hk hB))|(have q:=Xq hp;clear hp;obtain⟨x1,hx,hp⟩:=q;first|(apply c_S;exact AZo;exact cc;intro v hn E hk)|(apply c_B;exact AZo;exact cc;exact Yo;intro v hn E hk hB)));first|(obtain⟨x0,rfl,Z⟩:=hk;obtain⟨cs,rfl,Z2⟩:=Z.cs;have K:=(K.e E).az Z2)|(obtain⟨x0,rfl,Z⟩:=hk;obtain⟨c1,c2,rfl,Z2,Z3⟩:=BE4 Z;have K:=((K.e E).az Z2).az Z3)|(obtain⟨x0,x9,rfl,Z,Y⟩:=hk;obtain⟨cs,rfl,Z2⟩:=Z.cs;obtain⟨cs,rfl,Y2⟩:=Y.cs;have K:=((K.e E).az Z2).az Y2)|(obtain⟨x0,F0,Gs,rs,x9,F9,Gs9,rs9,rfl,I,I9,S⟩:=hk;have K:=BFg K E S I I9)|(obtain⟨x0,F0,Gs,rs,rfl,I,S⟩:=hk;have K:=K.no2 E S I)|(obtain⟨x0,F0,rfl,I,S⟩:=hk;have K:=K.no E S I)|(obtain⟨xT,xB,FT,GT,rT,FB,rfl,I,I9,S⟩:=hk;have K:=noJ K E S I I9)|(obtain⟨x0,F0,ws,rfl,I,S⟩:=hk;have K:=noX K E S I)|(subst hk;have K:=K.e E))|(apply n_C;exact nvl;exact sf;exact slf)|(apply n_X;exact nvl;exact oxf;exact slf)|(apply n_R;exact nvl;exact sf2;exact slf)|(apply Ab8;exact slf;exact rf)|(apply AM6;exact rf)|(apply Ai8;exact rf)|(apply AQd;exact itf;exact itf;exact rf)|(apply Zk;exact rf)|(apply AAs;exact rf)|(apply BEn;exact K;exact zef;exact rf;intro b hn E K)|(apply BE3;exact K;exact nvl;exact io;intro b hn E K)|(apply BEo;exact K;exact nvl;exact rf;intro b hn E K)|((apply d_s;exact nvl;exact nvl;intro hX hY);(first|((apply s_f;exact K;exact hX;exact hY;exact pl;exact naf;exact io1;exact rf;exact rf;exact rf;intro hn K);(try dsimp only[List.set]at K))|(apply s_Z;exact K;exact hX;exact hY;exact pl;exact zff;exact zff;exact rf;intro hn K)|(apply s_Q;exact K;exact hX;exact hY;exact pl;exact cq4;exact zff;exact zff;exact rf;intro hn K)|(apply s_A;exact K;exact hX;exact hY;exact pl;exact agf;exact rf;exact rf;exact BB1;exact rf;intro hn K)|(have q:=obg hp;clear hp;obtain⟨y,hx,hp⟩:=q;first|((apply BId;exact K;exact hX;exact hY;exact Yo;exact pl;exact naf;exact rf;exact hx;intro hn K);(try dsimp only[sC1,sC2,sC3,sC4]at K))|(apply A1z;exact K;exact hX;exact hY;exact Yo;exact pl;exact naf;exact Yo;exact hx;intro hn K)|(apply Ap2;exact K;exact hX;exact hY;exact Yo;exact pl;exact zff;exact Yo;exact hx;intro hn K)|(apply s_R;exact K;exact hX;exact hY;exact Yo;exact pl;exact pl;exact rf;exact naf;exact hx;intro hn K))|((apply BId;exact K;exact hX;exact hY;exact Yo;exact pl;exact naf;exact rf;exact Yo;intro hn K);(try dsimp only[sC1,sC2,sC3,sC4]at K))|(apply A1z;exact K;exact hX;exact hY;exact Yo;exact pl;exact naf;exact Yo;exact Yo;intro hn K)|(apply Ap2;exact K;exact hX;exact hY;exact Yo;exact pl;exact zff;exact Yo;exact Yo;intro hn K)|(apply s_R;exact K;exact hX;exact hY;exact Yo;exact pl;exact pl;exact rf;exact naf;exact Yo;intro hn K)|(have q:=obg hp;clear hp;obtain⟨L,hL,hp⟩:=q;first|(have q:=obg hp;clear hp;obtain⟨y,hx,hp⟩:=q;(apply A1z;exact K;exact hX;exact hY;exact Yo;exact pl;exact naf;exact hL;exact hx;intro hn K))|(apply A1z;exact K;exact hX;exact hY;exact Yo;exact pl;exact naf;exact hL;exact Yo;intro hn K))|(have q:=obg hp;clear hp;obtain⟨L,hL,hp⟩:=q;first|(have q:=obg hp;clear hp;obtain⟨y,hx,hp⟩:=q;(apply Ap2;exact K;exact hX;exact hY;exact Yo;exact pl;exact zff;exact hL;exact hx;intro hn K))|(apply Ap2;exact K;exact hX;exact hY;exact Yo;exact pl;exact zff;exact hL;exact Yo;intro hn K)));clear hX hY)|(apply BBo;exact AUb)|(apply BBo;exact Am5)|(have q:=ifN hp;clear hp;obtain⟨hn,hp⟩:=q;first|(apply BEl;exact K;exact rf;exact rf;exact slf;exact zef;exact rf;exact rf;exact hn;intro b v hn E K)|(apply BBi (cI .i64) 2;exact K;exact rf;exact rf;exact slf;exact AFz;exact rf;exact zef;exact rf;exact rf;exact hn;intro F Gs rs v hn E K)|(apply BEm;exact K;exact rf;exact rf;exact slf;exact zef;exact rf;exact rf;exact hn;intro b v hn E K)|(apply BBi cZ 32;exact K;exact rf;exact rf;exact slf;exact ABg;exact rf;exact zef;exact rf;exact rf;exact hn;intro F Gs rs v hn E K)|(apply BEf;exact K;exact Yo;exact rf;exact rf;exact slf;exact zef;exact rf;exact rf;exact hn;intro b v hn K hB))|(refine d_p ?_;have q:=ifN hp;clear hp;obtain⟨hn,hp⟩:=q;first|refine p_g (cs:=_) K (λ_=>nvl) (λ_ _=>pl) A4w rf slf rf zef rf rf rf hn λq F v hn K=>?_|refine p_g (cs:=_) K (λ_=>nvl) (λ_ _=>pl) BBk rf slf rf zef rf rf rf hn λq F v hn K=>?_|refine p_g (cs:=_) K (λ_=>nvl) (λ_ _=>pl) BBm rf slf rf zef rf rf rf hn λq F v hn K=>?_|refine p_g (cs:=_) K (λ_=>nvl) (λ_ _=>pl) BBl rf slf rf zef rf rf rf hn λq F v hn K=>?_|(apply p_g;exact K;exactλ_=>nvl;exactλ_ _=>pl;exact zff;exact rf;exact slf;exact rf;exact zef;exact rf;exact rf;exact rf;exact hn;intro q F v hn K)|(apply BEg;exact K;exact Yo;exactλ_=>nvl;exact nvl;exact pl;exactλ_ _=>pl;exact rf;exact slf;exact zef;exact rf;exact rf;exact rf;exact hn;intro q F v hn K hB)|(apply p_R;exact K;exactλ_=>nvl;exact nvl;exact pl;exactλ_ _=>pl;exact rf;exact slf;exact zef;exact rf;exact rf;exact rf;exact hn;intro q F v hn K))|(apply BEs;exact zef;exact rf;exactλ_=>kr;exact pvl;exact opl;exact fll)|(apply BEr;exact nvl;exact nvl;exactλ_=>rf)|(apply BE2;exact K;exact nvl;exact nvl;exact slf;exact zef;exact rf;exact io1;exact io1;intro b hn E K)|(apply BBs;exact K;exact nvl;exact pl;exact slf;exact zef;exact rf;exact rf;exact trivial;exactλ_ _=>trivial;intro F v hn E K _)|(apply BBs;exact K;exact nvl;exact pl;exact slf;exact zef;exact rf;exact rf;exact Yo;exactλ_ E=>Yg.thenE Yo E;intro F v hn E K hB)|(apply BBu;exact nvl;exactλ_=>rf)|(have q:=ifN hp;clear hp;obtain⟨hn,hp⟩:=q;(apply BEy;exact K;exact nvl;exact nvl;exact pl;exact Yo;exact Yo;exact Yo;exact xx;exact slf;exact rf;exact hn;intro hn K))|(refine d_v ?_;have q:=ifN hp;clear hp;obtain⟨hk,hp⟩:=q;have q:=ifN hp;clear hp;obtain⟨hn,hp⟩:=q;(apply BEx;exact K;exact nvl;exact rf;exactλ_=>rf;exact pl;exact Yo;exact Yo;exact slf;exact rf;exact zef;exact rf;exact rf;exact rf;exact hk;exact hn;intro q F v hn E K))|(apply BE1;exact K;exact nvl;exact zff;exact slf;exact zef;exact rf;intro b v hn E K)|((apply BBp;exact K;exact slf;exact zef;exact rf;exact pvl;exact rf;exact rf;exact rf;exact rf;exact trivial;exactλ_ _=>trivial;intro b v hn E K _);(try dsimp only[Anl]at K))|((apply BBp;exact K;exact slf;exact zef;exact rf;exact pvl;exact rf;exact rf;exact rf;exact rf;exact Yo;exactλ_ E=>Yg.thenE Yo E;intro b v hn E K hB);(try dsimp only[Anl]at K)))|(have q:=hxR hp Yo;clear hp;have hp:=q;clear q;(try dsimp only at hp))|((apply lpR;exact hp;exact K;exact BB5);clear hp K;intro x s hn y K hp hl;(try dsimp only[List.set]at K hp))|((apply jn1;exact hp;exact jsh;exact K;exact hint);(try have ho3:=ho2);(try have ho2:=ho);intro ex q ho;clear hp;have hp:=q;clear q;rotate_left;clear hp K;intro x s hn K hp;(try dsimp only[List.set,AE4,AG9]at K hp))|((apply jn2;exact hp;exact jsh;exact K;exact hint);(try have ho3:=ho2);(try have ho2:=ho);intro ex q ho;clear hp;have hp:=q;clear q;rotate_left;clear hp K;intro x s hn K hp;(try dsimp only[List.set,AE4,AG9]at K hp))|((apply jn3;exact hp;exact jsh;exact K;exact hint);(try have ho3:=ho2);(try have ho2:=ho);intro ex q ho;clear hp;have hp:=q;clear q;rotate_left;clear hp K;intro x s hn K hp;(try dsimp only[List.set,AE4,AG9]at K hp))|((apply BEh;exact Av8;exact K;exact zef;exact kr);intro fk kb hB;(try simp only[List.take_succ_cons,List.take_zero,List.drop_succ_cons,List.drop_zero,List.map_cons,List.map_nil,setO,Nat.reduceAdd]))|((apply BEi;exact Av8;exact K;exact rf;exact zef;exact zef;exact kr);intro fk kb hB;(try simp only[List.take_succ_cons,List.take_zero,List.drop_succ_cons,List.drop_zero,List.map_cons,List.map_nil,setO,Nat.reduceAdd]))|((apply BEj;exact Av8;exact K;exact rf;exact zef;exact zef;exact kr);intro fk kb hB;(try simp only[List.take_succ_cons,List.take_zero,List.drop_succ_cons,List.drop_zero,List.map_cons,List.map_nil,setO,Nat.reduceAdd]))|((apply h_l;exact rf))|(apply h_e;exact rf;intro h1 E;have hB:=Yg.thenE hB E;have K:=K.e E)|(apply Afi;intro h1 E;have hB:=Yg.thenE hB E;have K:=K.e E)|(apply ka1;exact kb;exact hB;have Ko:=K;clear K;intro b K lo;(first|have K:=fz0 Yo Ko K|have K:=fz2 Yo Ko K|have K:=fz4 Yo Ko K|have K:=fz5 Yo Ko K|have K:=fz6 Yo Ko K|have K:=fz7 Yo Ko K);clear Ko fk kb)|(apply ka2;exact kb;exact hB;have Ko:=K;clear K;intro b b2 K lo lo2;(first|have K:=fz0 Yo Ko K|have K:=fz2 Yo Ko K|have K:=fz4 Yo Ko K|have K:=fz5 Yo Ko K|have K:=fz6 Yo Ko K|have K:=fz7 Yo Ko K);clear Ko fk kb)|(apply d_E;exact Yo)|(apply BEk;exact K;exact nvl;exact nvl;exact pl;exact agf;exact cq4;exact cq4;exact BFe;exact rf;exact hB;exact Yo;intro hn K hB)|refine b_w ?_|refine Aps ?_|(apply BBg;exact A41;exact K;exact pl;exact dk;exact kr;intro kb hB)|(apply BBh;exact A41;exact K;exact pl;exact rf;exact dk;exact kr;intro kb hB)|refine Wx ?_|refine W5 ?_|refine Xr ?_|(apply X0;exact rf)|(apply Xi;exact rf)|(apply BA8 hp;exact rf;all_goals(intro hc hp))|(apply BA9 hp;exact rf;all_goals(intro hc hp))|refine Xt ?_|refine Xj ?_|refine W8 ?_|refine q_b ?_|refine Ze ?_|refine ADr ?_|refine Zj ?_|refine AEo ?_|refine Y9 ?_|(apply Aav;exact dc)|refine Abb ?_|refine Ai5 ?_|refine Abc ?_|(apply BD3;exact dk;exact kr)|(apply BD2;exact dk;exact kr;intro hB)|((first|(apply e_1;exact nvl)|(apply e_2;exact nvl;exact nvl)|(apply e_3;exact nvl;exact nvl;exact nvl)|(apply BD6;exact rf;exact K.b pl;exact zff)|(apply BBb;exact rf;exact K.b pl;exact zff;exact nvl)|(apply e_c;exact rf;exact K.b pl;exact agf;exact cq4)|(apply BD5;exact rf;exact K.b pl;exact agf;exact cq4;exact nvl)|(apply BBa;exact nvl;exact nvl;exact rf;exact K.b pl;exact agf;exact cz)|refine e_0 ?_|refine BD4 ?_);first|((obtain rfl:=Option.some.inj hp);first|exact rez|((obtain rfl:=Option.some.inj ho);first|exact rez|((obtain rfl:=Option.some.inj ho2);exact rez)))|((repeat apply xq);first|exact⟨_,oi,rf,kcl⟩|exact⟨(),oi,rf,kcl⟩|exact⟨_,oi,rf,kcl,utl⟩|exact⟨(),oi,rf,kcl,utl⟩))|(have q:=ifS hp;clear hp;rcases q with⟨hc,hp⟩|⟨hc,hp⟩<;>first|rw[decide_eq_true hc]|rw[decide_eq_false hc]|(rw[hc];(try rw[hc]at K))|(rw[Bool.eq_false_iff.2 hc];(try rw[Bool.eq_false_iff.2 hc]at K)))|((repeat apply xq);first|exact⟨_,ee,kcl,agl⟩|exact⟨(),ee,kcl,agl⟩)|((repeat apply xq);first|exact⟨_,⟨oi,kcl⟩,agl⟩|exact⟨(),⟨oi,kcl⟩,agl⟩)|(refine e_g ?_;(obtain rfl:=Option.some.inj hp);have q:=ho;clear ho;have hp:=q;clear q;(try(have ho:=ho2;clear ho2));dsimp only at hp)|(have q:=hxR hp Yo;clear hp;have hp:=q;clear q;(try dsimp only at hp))|(refine d_X ?_;(obtain rfl:=Option.some.inj hp);have q:=ho;clear ho;have hp:=q;clear q;(try(have ho:=ho2;clear ho2));dsimp only at hp)|fail):G:=h K hp ho
theorem zz{Pk Ph:Prop}(K:Pk)(hp:Ph)(h:Pk->Ph->G:=by intro K hp;exact zy K hp trivial):G:=h K hp
theorem cc(h:G:=by first|exact ATk Zr hx|exact AXu Zr hx|exact AN8 Zr hx|exact AKz Zr Zr Zr Zr Zr hx|exact AN9 Zr hx|exact ASf hx|exact AUf hx|exact Aa0 Zr hx|exact AUg hx|exact AWl hx|exact AQk Zr Zr hx|exact ATl Zr Zr hx|exact ASg hx|exact AWm Zr Zr hx|exact AZp Zr Zr hx|exact Aey Zr Zr hx|exact Aa1 Zr Zr Zr hx|exact AV1 Zr hx|exact AVs Zr Zr hx|exact AWn Zr hx|exact Ann Zr Zr hx|exact Ano Zr Zr hx|exact Afp Zr Zr hx|exact Adf Zr hx|exact Adg Zr Zr hx|exact A7a Zr hx|exact AXv Zr hx|exact Ahh Zr hx|exact ALz hx|exact A7b Zr Zr hx|exact AQl Zr Zr Zr hx|exact ATm Zr Zr hx|exact ATn Zr Zr hx|exact AXw hx|exact Akb Zr hx|exact AXx hx|exact ATo Zr Zr hx|exact Adh Zr hx|exact Aa2 Zr hx|exact ATc Zr hx|exact AM9 Zr hx|exact ANa hx|exact Aa3 Zr Zr hx|exact APs Zr hx|exact AWo Zr hx|exact AMi Zr hx|exact ARg Zr hx|exact AJ7 Zr hx|exact ARh Zr hx|exact AUh Zr hx|exact ATp Zr hx|exact APd hx|exact ARi hx|exact ATq Zr hx|exact AWp Zr hx|exact AWq Zr hx|exact APt Zr hx|exact Asj Zr hx|exact AUi hx|exact AUj Zr Zr hx|exact AXy hx|exact A15 Zr hx|exact AWr hx|exact AGo Zr Zr hx|exact AMp Zr Zr hx|exact AF9 Zr Zr hx|exact ANb Zr Zr hx|exact ANv Zr hx|exact ARj hx|exact ASh Zr hx|exact A7c Zr hx|exact A6d Zr Zr hx|exact A7d Zr Zr hx|exact Asl Zr Zr hx|exact ASi Zr Zr hx|exact Avg Zr hx|exact A6f Zr Zr hx|exact A6g Zr hx|exact AXi Zr hx|exact ASj Zr Zr hx|exact ASk Zr Zr hx|exact A0x Zr hx|exact Avf hx|exact A6e Zr Zr hx|exact ASl Zr Zr hx|exact AQm Zr hx|exact ARk hx|exact AO2 Zr hx|exact ASm Zr Zr hx|exact ANw Zr hx|exact AOe Zr Zr hx|exact AQn hx|exact AQo Zr hx|exact ARl Zr hx|exact AMq Zr hx|exact ASn Zr Zr hx|exact AOf Zr hx|exact AOg hx|exact ASo Zr Zr hx|exact ATr Zr hx|exact AO3 Zr Zr hx|exact APe Zr Zr Zr hx|exact AQp Zr hx|exact APf Zr hx|exact AQq Zr Zr hx|exact APg Zr hx|exact ANx Zr hx|exact ARm hx|exact AOh Zr hx|exact AO4 Zr hx|exact ANy Zr hx|exact AQr hx|exact ANz Zr Zr hx|exact AOi Zr hx|exact APh Zr hx|exact APi Zr Zr hx|exact APj Zr hx|exact AQs Zr Zr hx|exact AQt Zr hx|exact AQu Zr hx|exact ARn Zr hx|exact AJk Zr Zr Zr Zr Zr hx|exact AWi Zr hx|exact ANc Zr hx|exact AO5 Zr hx|exact AVt Zr Zr hx|exact AUk Zr Zr hx|exact AQv hx|exact AUl Zr hx|exact Aa4 Zr hx|exact AZq hx|exact AV2 Zr Zr hx|exact AZr Zr hx|exact ASp Zr hx|exact ARo Zr hx|exact Aa5 Zr Zr hx|exact AXz Zr hx|exact AX0 Zr hx|exact Aa6 Zr hx):G:=h
end Go.Proofs.YtgmdhndbcohgiaaGreatDoor
namespace Go.QF
section
variable{P:aK}{ops:Array ay}
structure Akc(n:Nat)(ops:Array ay)(f:Nat):Prop where spec:∀{j:Nat}{oj:ay},ops[j]?=some oj->(∀d,oj.dst=some d->d<n)/\ACk oj=true/\(∀ed∈oj.after,bJ .any ed=true->ed.on<j)/\∀i oi,i<j->i≠f->j≠f->ops[i]?=some oi->(∃n,reach ops n i j=true)∨indep (AJu ops true) ops oi oj=true 
structure Lst(ops:Array ay)(R:List Nat)(listed:Array Bool):Prop where
 pw:cO (·<·) R
 size:listed.size=ops.size
 mem:∀j,j∈R↔j<ops.size/\listed.getD j true=false
 cl:∀j oj,listed.getD j false=true->ops[j]?=some oj->∀ed∈oj.after,bJ .any ed=true->listed.getD ed.on false=true
theorem Lst.step{R1 R2:List Nat}{listed:Array Bool}{oi:ay}(L:Lst ops (R1++i::R2) listed)(hoi:ops[i]?=some oi)(hall:∀ed∈oi.after,bJ .any ed=true->listed.getD ed.on false=true):Lst ops (R1++R2) (listed.setIfInBounds i true):=by
 have hpw':=av.1 L.pw;have his:i<ops.size:=(ak.1 hoi).1;have his':i<listed.size:=by rw[L.size];exact his
 refine⟨av.2 ⟨hpw'.1,(aL.1 hpw'.2.1).2,λx hx y hy=>hpw'.2.2 x hx y<|ao _ hy⟩,by simp[L.size],λj=>?_,?_⟩
 .have hm:=L.mem j;constructor
  .intro hj;have hj':j∈R1++i::R2:=by
    rcases ar.1 hj with h|h;.exact ah _ h
    .exact au _<|ao _ h
   obtain⟨h1,h2⟩:=hm.1 hj';have hne:i≠j:=by
    intro he;subst he;rcases ar.1 hj with h|h;.have:=hpw'.2.2 i h i<|ap ..;omega
    .have:=(aL.1 hpw'.2.1).1 i h;omega
   exact⟨h1,by rw[getD_set_ne true hne];exact h2⟩
  .rintro⟨h1,h2⟩;have hne:i≠j:=by
    intro he;subst he;simp[his']at h2
   rw[getD_set_ne true hne]at h2;have:=hm.2 ⟨h1,h2⟩;rcases ar.1 this with h|h;.exact ah _ h
   .rcases ba.1 h with h|h;.exact absurd h.symm hne
    .exact au _ h
 .intro j oj hj hoj ed hed hbd;by_cases hij:i=j;.subst hij;rw[hoi]at hoj;injection hoj with hoj;subst hoj;exact getD_set_true<|hall ed hed hbd
  .rw[getD_set_ne false hij]at hj;exact getD_set_true<|L.cl j oj hj hoj ed hed hbd
theorem Lst.notListed{listed:Array Bool}(L:Lst ops R listed)(hk:k∈R):listed.getD k false=false:=by
 obtain⟨h1,h2⟩:=(L.mem k).1 hk;have h3:k<listed.size:=by rw[L.size];exact h1
 simp[h3]at h2⊢;exact h2
theorem Lst.ready{n f:Nat}{R:List Nat}{listed:Array Bool}(hok:Akc n ops f)(L:Lst ops R listed)(hR:R≠[]):cL .any ops listed≠[]:=by
 intro hr;cases R with
 |nil=>exact hR rfl|cons j R=>
   obtain⟨hjs,hjl⟩:=(L.mem j).1 (ap ..);obtain⟨oj,hoj⟩:∃oj,ops[j]?=some oj:=⟨ops[j],bo hjs⟩;have:j∈cL .any ops listed:=mem_ready.2 ⟨hjl,oj,hoj,λed hed hbd=>by
    obtain⟨_,_,hd⟩:=hok.spec hoj;have hlt:=hd.1 ed hed hbd;cases hl:listed.getD ed.on false with
    |true=>rfl|false=>
      exfalso;have hs:ed.on<ops.size:=cW hlt hjs;have hm:ed.on∈j::R:=(L.mem ed.on).2 ⟨hs,by
       have h':ed.on<listed.size:=by rw[L.size];exact hs
       simp[h']at hl⊢;exact hl⟩;rcases ba.1 hm with he|he;.omega
      .have:=(aL.1 L.pw).1 _ he;omega⟩;rw[hr]at this;cases this
theorem Lst.indep{n f:Nat}{R1 R2:List Nat}{i:Nat}{listed:Array Bool}{oi:ay}(hok:Akc n ops f)(L:Lst ops (R1++i::R2) listed)(hoi:ops[i]?=some oi)(hall:∀ed∈oi.after,bJ .any ed=true->listed.getD ed.on false=true)(hfi:i≠f){k:Nat}(hk:k∈R1)(hfk:k≠f):∃ok,ops[k]?=some ok/\ACk ok=true/\indep (AJu ops true) ops ok oi=true:=by
 have hpw':=av.1 L.pw;have his:i<ops.size:=(ak.1 hoi).1;have hki:k<i:=hpw'.2.2 k hk i<|ap ..;have hks:k<ops.size:=cW hki his;obtain⟨ok,hok'⟩:∃ok,ops[k]?=some ok:=⟨ops[k],bo hks⟩;refine⟨ok,hok',(hok.spec hok').2.1,?_⟩;rcases(hok.spec hoi).2.2.2 k ok hki hfk hfi hok' with⟨nre,hre⟩|h;.exfalso;have h1:listed.getD k false=true:=AFn (L:=λj=>listed.getD j false=true) L.cl nre k i oi hoi hall hre;rw[L.notListed<|ah _ hk]at h1;cases h1
 .exact h
theorem Ahi{n:Nat}{Q:cQ->Act->di->Prop}(hok:Akc n ops f):∀(fuel:Nat)(R:List Nat)(listed:Array Bool)(e:Env)(a:Act)(w:di)(K:Env->Ws->Prop),f∉R->R.length=fuel->Lst ops R listed->Rep n e a->LI P B (AJu ops true) ops R e w.heap K->(∀e' a' w',Rep n e' a'->Same w w'->K e' w'.heap->Q .normal a' w')->wpAny P .any ops Q fuel listed a w:=by
 intro fuel;induction fuel with
 |zero=>
   intro R listed e a w K hfR hlen L r H hK;obtain rfl:R=[]:=cg.1 hlen;refine⟨?_,hK _ _ _ r (.refl w) H⟩;refine List.eq_nil_iff_forall_not_mem.2 λj hj=>?_;obtain⟨hjl,oj,hoj,_⟩:=mem_ready.1 hj;have:=(L.mem j).2 ⟨(ak.1 hoj).1,hjl⟩;cases this|succ fuel ih=>
   intro R listed e a w K hfR hlen L r H hK;refine⟨λhr=>absurd hr<|L.ready hok λh0=>by subst h0;simp at hlen,λi hi=>?_⟩;obtain⟨hil,oi,hoi,hall⟩:=mem_ready.1 hi;have his:i<ops.size:=(ak.1 hoi).1;obtain⟨R1,R2,rfl⟩:=bK<|(L.mem i).2 ⟨his,hil⟩;obtain⟨hdi,hsi,_⟩:=hok.spec hoi;have hb:LI P B (AJu ops true) ops (i::(R1++R2)) e w.heap K:=LI.bubble hoi hsi R1 (λk hk=>L.indep hok hoi hall (λhe=>hfR<|he▸au _ (ap ..)) hk λhe=>hfR<|he▸ah _ hk) H;simp only[LI,hoi]at hb;refine AEv hoi hdi r hb λe' a' w' r' hs hk=>?_;exact ih (R1++R2) _ e' a' w' K (λhf=>hfR (by rcases ar.1 hf with h|h;exact ah _ h;exact au _<|ao _ h)) (by simp at hlen⊢;omega) (L.step hoi hall) r' hk λe2 a2 w2 r2 s2 k2=>hK _ _ _ r2 (hs.trans s2) k2 
def LF(P:aK)(B:Ws->Prop)(st:Bool)(ops:Array ay)(f:Nat)(T:List Nat):List Nat->Env->Ws->(Env->Ws->Prop)->Prop|[],e,h,K=>LI P B st ops (f::T) e h K|i::R,e,h,K=>LI P B st ops (f::i::(R++T)) e h K/\match ops[i]? with|none=>LF P B st ops f T R e h K|some o=>GOp P B st ops o e h λe' h'=>LF P B st ops f T R e' h' K
theorem LF.now{e:Env}(H:LF P B st ops f T R e h K):LI P B st ops (f::(R++T)) e h K:=by cases R with|nil=>exact H|cons i R=>exact H.1
theorem SOp.and{o:ay}{e:Env}{K1 K2:Env->Ws->Prop}(hk:kindOf o.op=.pure∨kindOf o.op=.read)(H1:SOp P B st o e h K1)(H2:SOp P B st o e h K2):SOp P B st o e h λe' h'=>K1 e' h'/\K2 e' h':=by
 have un:∀{u u2:aa}{w:di},(execOp e.ev o).run P w=.ok (.value u) w->(execOp e.ev o).run P w=.ok (.value u2) w->u2=u:=by
  intro u u2 w a1 a2;rw[a1]at a2;injection a2 with a2 _;injection a2 with a2;exact a2.symm
 unfold SOp at H1 H2⊢;rcases hk with hk|hk;.simp only[hk]at H1 H2⊢;obtain⟨v,hv,h1⟩:=H1;obtain⟨v2,Ad,h2⟩:=H2;cases un (hv<|ALn h) (Ad<|ALn h);exact⟨v,hv,h1,h2⟩
 .cases st with
  |false=>
    simp only[hk]at H1 H2⊢;obtain⟨v,hv,h1⟩:=H1;obtain⟨v2,Ad,h2⟩:=H2;cases un (hv (ALn h) rfl) (Ad (ALn h) rfl);exact⟨v,hv,h1,h2⟩|true=>
    simp only[hk]at H1 H2⊢;obtain⟨v,hb,hv,h1⟩:=H1;obtain⟨v2,_,Ad,h2⟩:=H2;cases un (hv (ALn h) hb) (Ad (ALn h) hb);exact⟨v,hb,hv,h1,h2⟩
theorem GOp.and{B:Ws->Prop}{st:Bool}{o:ay}{e:Env}{h:Ws}{K1 K2:Env->Ws->Prop}(hk:kindOf o.op=.pure∨kindOf o.op=.read)(H1:GOp P B st ops o e h K1)(H2:GOp P B st ops o e h K2):GOp P B st ops o e h λe' h'=>K1 e' h'/\K2 e' h':=by
 unfold GOp at*;split;.rename_i hw;rw[if_pos hw]at H1 H2;exact H1.and hk H2
 .rename_i hw;rw[if_neg hw]at H1 H2;exact⟨H1,H2⟩
theorem LF.bubbleA{of oi:ay}(hf:ops[f]?=some of)(hsf:ACk of=true)(hi:ops[i]?=some oi)(hsi:ACk oi=true)(hk:kindOf oi.op=.pure∨kindOf oi.op=.read)(hfi:indep st ops of oi=true)(R1:List Nat):∀{R2:List Nat}{e:Env}{h:Ws}{K:Env->Ws->Prop},(∀k∈R1,∃ok,ops[k]?=some ok/\ACk ok=true/\indep st ops ok oi=true)->LF P B st ops f T (R1++i::R2) e h K->GOp P B st ops oi e h λe' h'=>LF P B st ops f T (R1++R2) e' h' K:=by induction R1 with
 |nil=>intro R2 e h K _ H;have:=H.2;simp only[hi]at this;exact this|cons k R1 ih=>
   intro R2 e h K hind H;obtain⟨ok,hok,hsk,hik⟩:=hind k<|ap ..;have h1:=H.1;have h2:=H.2;simp only[hok]at h2;have h3:GOp P B st ops ok e h λe' h'=>GOp P B st ops oi e' h' λe2 h2=>LF P B st ops f T (R1++R2) e2 h2 K:=h2.mono λv h' hh=>ih (λk' hk'=>hind k'<|ao _ hk') hh;have h4:=GOp.swap hsk hsi hik h3;have h5:LI P B st ops (f::k::R1++i::(R2++T)) e h K:=by simpa using h1
   have h6:=LI.bubble hi hsi (f::k::R1) (λj hj=>by
    rcases ba.1 hj with rfl|hj;.exact⟨of,hf,hsf,hfi⟩
    .exact hind j hj) h5;simp only[LI,hi]at h6;refine(GOp.and hk h6 h4).mono λv h' hh=>⟨?_,?_⟩;.have:=hh.1;simpa[LI]using this
   .simp only[hok];exact hh.2
theorem LF.bubbleB{of oi:ay}(hf:ops[f]?=some of)(hsf:ACk of=true)(hi:ops[i]?=some oi)(hsi:ACk oi=true)(R1:List Nat):∀{R2:List Nat}{e:Env}{h:Ws}{K:Env->Ws->Prop},(∀k∈R1,∃ok,ops[k]?=some ok/\ACk ok=true/\indep st ops ok oi=true/\indep st ops ok of=true)->LF P B st ops f T (R1++i::R2) e h K->GOp P B st ops oi e h λe' h'=>LF P B st ops f T (R1++R2) e' h' K:=by induction R1 with
 |nil=>intro R2 e h K _ H;have:=H.2;simp only[hi]at this;exact this|cons k R1 ih=>
   intro R2 e h K hind H;obtain⟨ok,hok,hsk,hik,hfk⟩:=hind k<|ap ..;have h2:=H.2;simp only[hok]at h2;have h3:GOp P B st ops ok e h λe' h'=>GOp P B st ops oi e' h' λe2 h2=>LF P B st ops f T (R1++R2) e2 h2 K:=h2.mono λv h' hh=>ih (λk' hk'=>hind k'<|ao _ hk') hh;refine(GOp.swap hsk hsi hik h3).mono λv h' hh=>⟨?_,?_⟩
   .have h5:LI P B st ops ([k]++f::(R1++R2++T)) (e.put oi.dst v) h' K:=by simp only[bS,bU,LI,hok];exact hh.mono λv2 h2 hl=>by have:=hl.now;simpa[LI]using this
    have:=LI.bubble hf hsf [k] (λj hj=>by rw[aM.1 hj];exact⟨ok,hok,hsk,hfk⟩) h5;simpa using this
   .simp only[hok];exact hh
theorem LF.lift{of ok:ay}(hf:ops[f]?=some of)(hsf:ACk of=true)(hok:ops[k]?=some ok)(hsk:ACk ok=true)(hfk:indep st ops ok of=true){e:Env}(H:GOp P B st ops ok e h λe' h'=>LF P B st ops f T R e' h' K):LF P B st ops f T (k::R) e h K:=by
 refine⟨?_,by simp only[hok];exact H⟩;have h5:LI P B st ops ([k]++f::(R++T)) e h K:=by
  simp only[bS,bU,LI,hok];exact H.mono λv2 h2 hl=>by have:=hl.now;simpa[LI]using this
 have:=LI.bubble hf hsf [k] (λj hj=>by rw[aM.1 hj];exact⟨ok,hok,hsk,hfk⟩) h5;simpa using this
theorem Adi{x y:ay}(h:indep st ops x y=true):indep st ops y x=true:=by
 unfold indep at h⊢;rw[aH]at h⊢;refine⟨?_,?_⟩;.have:=Oper.apart_spec h.1;have h1:=h.1;unfold Oper.apart at h1⊢;simp only[aH]at h1⊢;revert h1;cases hx:x.dst<;>cases hy:y.dst<;>simp<;>intros<;>simp_all<;>(try exactλhh=>by simp_all)
 .cases hx:kindOf x.op<;>cases hy:kindOf y.op<;>simp_all
end
section
variable{P:aK}{ops:Array ay}
theorem Asn(ops:Array ay):Lst ops (aw ops.size) (cJ ops.size false):=by
 refine⟨List.pairwise_lt_range,W4,λj=>?_,λj oj hj _=>?_⟩
 .simp only[bn];constructor;.intro h;exact⟨h,by simp[h]⟩
  .exactλh=>h.1
 .exfalso;rcases bP j ops.size with h'|h';.simp[h']at hj
  .simp[h']at hj
theorem range_split{n:Nat}(h:f<n):aw n=aw f++f::cm (f+1) (n-f-1):=by
 rw[cn,cn];have h1:n=f+(1+(n-f-1)):=by omega
 conv=>lhs;rw[h1]
 rw[<-List.range'_append_1];congr 1;rw[bN,Nat.add_comm 1,List.range'_succ]
end
section
variable{P:aK}{ops:Array ay}
theorem Afq{X1 X2:List Nat}(h:i∉X1):(X1++i::X2).erase i=X1++X2:=by rw[bx _ h,List.erase_cons_head]
theorem Ahj{n:Nat}{of:ay}{Q:cQ->Act->di->Prop}(hof:ops[f]?=some of)(S:Akc n ops f)(R0 T:List Nat)(hT:∀j∈T,∃n,reach ops n f j=true)(hdn:∀j∈R0,∀oj,ops[j]?=some oj->kindOf oj.op=.pure∨kindOf oj.op=.read->indep (AJu ops true) ops of oj=true):∀(fuel:Nat)(R Ra Rb:List Nat)(listed:Array Bool)(e:Env)(a:Act)(w:di)(K:Env->Ws->Prop),(∀j∈R,j∈R0)->Ra++Rb=R++T->f∉R++T->(Ra++f::Rb).length=fuel->Lst ops (Ra++f::Rb) listed->Rep n e a->LF P B (AJu ops true) ops f T R e w.heap K->(∀e' a' w',Rep n e' a'->Same w w'->K e' w'.heap->Q .normal a' w')->wpAny P .any ops Q fuel listed a w:=by
 intro fuel;have hsf:=(S.spec hof).2.1;induction fuel with
 |zero=>intro R Ra Rb listed e a w K _ _ _ hlen;simp at hlen|succ fuel ih=>
   intro R Ra Rb listed e a w K Ah hRT hfR hlen L r H hK;refine⟨λhr=>absurd hr<|L.ready S W4,λi hi=>?_⟩;obtain⟨hil,oi,hoi,hall⟩:=mem_ready.1 hi;have his:i<ops.size:=(ak.1 hoi).1;have hfL:f∈Ra++f::Rb:=au _<|ap ..;have hpw:=av.1 L.pw;have hpc:=aL.1 hpw.2.1;by_cases hif:i=f
   .subst hif;rw[hof]at hoi;cases hoi;have h1:=H.now;simp only[LI,hof]at h1;refine AEv hof (S.spec hof).1 r h1 λe' a' w' r' hs hk=>?_;refine Ahi S fuel (R++T) _ e' a' w' K hfR (by rw[<-hRT];simp at hlen⊢;omega) (by rw[<-hRT];exact L.step hof hall) r' hk λe2 a2 w2 r2 s2 k2=>hK _ _ _ r2 (hs.trans s2) k2
   .have hmem:∀j,j≠f->(j∈Ra++f::Rb↔j∈R++T):=by
     intro j hj;rw[<-hRT];simp only[ar,ba];constructor
     .rintro(h|h|h);.exact .inl h
      .exact absurd h hj
      .exact .inr h
     .rintro(h|h);.exact .inl h
      .exact .inr<|.inr h
    have hiL:=(L.mem i).2 ⟨his,hil⟩;have hiR:i∈R:=by
     rcases ar.1 ((hmem i hif).1 hiL)with h|h;.exact h
     .exfalso;obtain⟨nre,hre⟩:=hT i h;have h1:listed.getD f false=true:=AFn (L:=λj=>listed.getD j false=true) L.cl nre f i oi hoi hall hre;rw[L.notListed hfL]at h1;cases h1
    obtain⟨R1,R2,rfl⟩:=bK hiR;have hpwRT:cO (·<·) (R1++i::R2++T):=by
     rw[<-hRT];exact av.2 ⟨hpw.1,hpc.2,λx hx y hy=>hpw.2.2 x hx y<|ao _ hy⟩
    have hpR:=av.1 (av.1 hpwRT).1;have Am:∀k∈R1,k<i:=λk hk=>hpR.2.2 k hk i<|ap ..;obtain⟨hdi,hsi,_⟩:=S.spec hoi;obtain⟨X1,X2,hX⟩:=bK hiL;have LX:Lst ops (X1++i::X2) listed:=by rw[<-hX];exact L
    have hpX:=av.1 LX.pw;have Au:i∉X1:=λh=>by have:=hpX.2.2 i h i<|ap ..;omega
    have Av:∀k∈R1,k∈X1:=λk hk=>by
     have hkf:k≠f:=λhe=>hfR<|he▸(ah _<|ah _ hk);have:k∈X1++i::X2:=by rw[<-hX];exact(hmem k hkf).2 (ah _<|ah _ hk)
     have hlt:=Am k hk;rcases ar.1 this with h|h;.exact h
     .rcases ba.1 h with h|h;.omega
      .have:=(aL.1 hpX.2.1).1 k h;omega
    have hind:∀k∈R1,∃ok,ops[k]?=some ok/\ACk ok=true/\indep (AJu ops true) ops ok oi=true:=λk hk=>LX.indep S hoi hall hif (Av k hk) λhe=>hfR<|he▸(ah _<|ah _ hk);have hg:GOp P B (AJu ops true) ops oi e w.heap λe' h'=>LF P B (AJu ops true) ops f T (R1++R2) e' h' K:=by
     by_cases hk:kindOf oi.op=.pure∨kindOf oi.op=.read;.exact LF.bubbleA hof hsf hoi hsi hk (hdn i (Ah i hiR) oi hoi hk) R1 hind H
     .refine LF.bubbleB hof hsf hoi hsi R1 (λk hk'=>?_) H;obtain⟨ok,h1,h2,h3⟩:=hind k hk';refine⟨ok,h1,h2,h3,Adi<|hdn k (Ah k<|ah _ hk') ok h1 ?_⟩;unfold indep at h3;rw[aH]at h3;have h4:=h3.2;cases hx:kindOf ok.op with
      |pure=>exact .inl rfl|read=>exact .inr rfl|eff=>
        rw[hx]at h4;cases hy:kindOf oi.op with
        |pure=>exact absurd (Or.inl hy) hk|read=>exact absurd (Or.inr hy) hk|eff=>rw[hy]at h4;cases h4|wr=>rw[hy]at h4;cases h4
      |wr=>
        rw[hx]at h4;cases hy:kindOf oi.op with
        |pure=>exact absurd (Or.inl hy) hk|read=>exact absurd (Or.inr hy) hk|eff=>rw[hy]at h4;cases h4|wr=>rw[hy]at h4;cases h4
    refine AEv hoi hdi r hg λe' a' w' r' hs hk=>?_;have LS:=LX.step hoi hall;have hiRT:i∉R1:=λh=>by have:=Am i h;omega
    have herase:(Ra++Rb).erase i=R1++R2++T:=by rw[hRT,bt,bS,Afq hiRT,<-bt]
    have hlen':X1.length+X2.length=fuel:=by
     have:=congrArg List.length hX;simp at this hlen;omega
    have fin:∀Ra' Rb',X1++X2=Ra'++f::Rb'->Ra'++Rb'=R1++R2++T->wpAny P .any ops Q fuel (listed.setIfInBounds i true) a' w':=by
     intro Ra' Rb' Ao Ax;refine ih (R1++R2) Ra' Rb' _ e' a' w' K (λj hj=>Ah j ?_) Ax (λhf=>hfR ?_) (by rw[<-Ao,List.length_append];exact hlen') (by rw[<-Ao];exact LS) r' hk λe2 a2 w2 r2 s2 k2=>hK _ _ _ r2 (hs.trans s2) k2
     .rcases ar.1 hj with h|h;.exact ah _ h
      .exact au _<|ao _ h
     .rcases ar.1 hf with h|h
      .refine ah _ ?_;rcases ar.1 h with h|h;.exact ah _ h
       .exact au _<|ao _ h
      .exact au _ h
    have hXe:X1++X2=(Ra++f::Rb).erase i:=by rw[hX,Afq Au]
    by_cases hia:i∈Ra;.refine fin (Ra.erase i) Rb (by rw[hXe,ci _ hia]) ?_;rw[<-herase,ci _ hia]
    .refine fin Ra (Rb.erase i) (by rw[hXe,bx _ hia,List.erase_cons_tail (by simpa usingλhe:f=i=>hif he.symm)]) ?_;rw[<-herase,bx _ hia]
def Awa(n:Nat)(ops:Array ay)(pre:List Nat)(f k:Nat)(T:List Nat):Bool:=match ops[f]?,ops[k]? with
 |some of,some ok=>of.after.all (λed=>!Region.binds .any ed)&&(match kindOf ok.op with|.eff=>true|.wr=>true|_=>false)&&(aw ops.size).filter (λj=>!Nat.beq j f)==pre++k::T&&T.all (λj=>ahead ops f j)&&pre.all (λj=>match ops[j]? with|some oj=>indep (AJu ops true) ops oj of|none=>false)&&(aw ops.size).all λj=>match ops[j]? with|none=>false|some oj=>(match oj.dst with|some d=>decide (d<n)|none=>true)&&ACk oj&&oj.after.all (λed=>!Region.binds .any ed||decide (ed.on<j))&&(aq j f||(aw j).all λi=>match ops[i]? with
       |none=>false|some oi=>aq i f||ahead ops i j||indep (AJu ops true) ops oi oj)|_,_=>false
theorem A7e{of:ay}(hof:ops[f]?=some of)(hsf:ACk of=true):∀(pre:List Nat)(L:List ay),pre.map (λi=>ops[i]?)=L.map some->(∀j∈pre,∀oj,ops[j]?=some oj->ACk oj=true/\indep st ops oj of=true)->∀e h,RL P B st ops L e h (λe' h'=>LF P B st ops f T R e' h' K)->LF P B st ops f T (pre++R) e h K:=by
 intro pre;induction pre with
 |nil=>intro L hL _ e h H;cases L with|nil=>exact H|cons o L=>cases hL
 |cons k pre ih=>
   intro L hL hp e h H;cases L with
   |nil=>cases hL|cons o L=>
     simp only[bH,List.cons.injEq]at hL;obtain⟨h1,h2⟩:=hp k (ap ..) o hL.1;refine LF.lift hof hsf hL.1 h1 h2<|GOp.mono (λv h' hh=>?_) H;exact ih L hL.2 (λj hj=>hp j<|ao _ hj) _ _ hh
inductive Adj(ops:Array ay):List Nat->List ay->Prop|nil:Adj ops [] []|cons{i:Nat}{o:ay}{I:List Nat}{L:List ay}(h:ops[i]?=some o)(t:Adj ops I L):Adj ops (i::I) (o::L)
theorem Adj.map{I:List Nat}{L:List ay}(h:Adj ops I L):I.map (λi=>ops[i]?)=L.map some:=by induction h with|nil=>rfl|cons h t ih=>simp only[bH,h,ih]
theorem Ahk{n:Nat}(st:Bool)(pre:List Nat)(f k:Nat)(T:List Nat){Lp Lt:List ay}{of ok:ay}{e:Env}(hmx:P.follows .mixedOrders=true)(hok:Awa n ops pre f k T=true)(hst:AJu ops true=st)(hf:ops[f]?=some of)(hk:ops[k]?=some ok)(hLp':Adj ops pre Lp)(hLt':Adj ops T Lt)(H:RL P B st ops Lp e h λe' h'=>RL P B st ops (of::ok::Lt) e' h' (Q .normal)/\RL P B st ops (ok::of::Lt) e' h' (Q .normal)):W2 P n (.region id ops true) Q e h:=by
 intro a w Q' r hw hQ;subst hw;subst hst;have hLp:=hLp'.map;have hLt:=hLt'.map;unfold Awa at hok;simp only[hf,hk,aH]at hok;obtain⟨⟨⟨⟨⟨h0,hkk⟩,hrg⟩,hT⟩,hpre⟩,H2⟩:=hok;have key:∀{j:Nat}{oj:ay},ops[j]?=some oj->(((match oj.dst with|some d=>decide (d<n)|none=>true)=true/\ACk oj=true)/\oj.after.all (λed=>!Region.binds .any ed||decide (ed.on<j))=true)/\(aq j f||(aw j).all λi=>match ops[i]? with|none=>false|some oi=>aq i f||ahead ops i j||indep (AJu ops true) ops oi oj)=true:=by intro j oj hj;have hlt:j<ops.size:=(ak.1 hj).1;have H:=aY.1 H2 j<|bn.2 hlt;simp only[hj,aH]at H;exact H
 have S:Akc n ops f:=⟨λ{j oj}hj=>by
  obtain⟨⟨⟨h1,h2⟩,h3⟩,h4⟩:=key hj;refine⟨λd hd=>by simpa[hd]using h1,h2,λed hed hbd=>?_,λi oi hij hif hjf hoi=>?_⟩;.have:=Array.all_eq_true_iff_forall_mem.1 h3 ed hed;simpa[hbd]using this
  .rw[Agy hjf,cP]at h4;have:=aY.1 h4 i<|bn.2 hij;simp only[hoi,Agy hif,cP,Bool.or_eq_true]at this;rcases this with h|h;.exact .inl<|AK1 h
   .exact .inr h⟩;have hrg2:(aw ops.size).filter (λj=>!Nat.beq j f)=pre++k::T:=by simpa using hrg
 have hfl:f<ops.size:=(ak.1 hf).1;have hsp:=range_split hfl;have hfil:(aw ops.size).filter (λj=>!Nat.beq j f)=aw f++cm (f+1) (ops.size-f-1):=by
  rw[hsp,List.filter_append,List.filter_cons];have hff:aq f f=true:=Nat.beq_eq.mpr rfl;simp only[hff,Bool.not_true,Bool.false_eq_true,if_false];rw[cv.2,cv.2];.intro j hj;have:=List.mem_range'_1.1 hj;rw[Agy Wq];rfl
  .intro j hj;have:=bn.1 hj;rw[Agy Wq];rfl
 have hsf:=(S.spec hf).2.1;refine wp_region_draw λt=>?_;simp only[Region.schedule,hmx,Bool.true_or,if_true];refine wpAny_sound ops.size t _ a _ (Ahj (B:=B) (K:=Q .normal) hf S (pre++[k]) T (λj hj=>AK1<|aY.1 hT j hj) ?_ ops.size (pre++[k]) (aw f) (cm (f+1)<|ops.size-f-1) (cJ ops.size false) e a {w with drawn:=w.drawn+1} (λj hj=>hj) (by rw[<-hfil,hrg2];simp) ?_ (by rw[<-hsp];simp) (by rw[<-hsp];exact Asn ops) r ?_ λe' a' w' r' hs hk=>hQ .normal e' a' w' r' ⟨hs.os,hs.tape,hs.output⟩ hk)
 .intro j hj oj hoj hkj;rcases ar.1 hj with h|h;.have:=aY.1 hpre j h;simp only[hoj]at this;exact Adi this
  .rw[aM.1 h,hk]at hoj;cases hoj;rcases hkj with hkj|hkj<;>(rw[hkj]at hkk;cases hkk)
 .have:f∉(aw ops.size).filter λj=>!Nat.beq j f:=by intro hm;have:=(cK.1 hm).2;have hff:aq f f=true:=Nat.beq_eq.mpr rfl;rw[hff]at this;cases this
  rw[hrg2]at this;simpa using this
 .refine A7e hf hsf pre Lp hLp (λj hj oj hoj=>⟨(S.spec hoj).2.1,?_⟩) _ _<|RL.mono (λe' h' hh=>?_) H;.have:=aY.1 hpre j hj;simp only[hoj]at this;exact this
  .refine⟨?_,?_⟩;.exact AZi (f::k::([]++T)) (of::ok::Lt) (by simp[hf,hk,hLt]) _ _ hh.1
   .simp only[hk];refine GOp.mono (λv h2 hl=>?_) hh.2;exact AZi (f::T) (of::Lt) (by simp[hf,hLt]) _ _ hl
theorem Ap3{n:Nat}{c:an}{x y:cr}{e:Env}(hc:e.ev c=.bool true)(H:W2 P n x Q e h):W2 P n (.cond c x y) Q e h:=by intro a w Q' r hw hQ;exact wp_cond_split (t:=true) (by rw[r.eval];exact hc) (λ_=>H a w Q' r hw hQ) λhh=>by cases hh 
theorem Akd{n:Nat}{c:an}{x y:cr}{e:Env}(hc:e.ev c=.bool false)(H:W2 P n y Q e h):W2 P n (.cond c x y) Q e h:=by intro a w Q' r hw hQ;exact wp_cond_split (t:=false) (by rw[r.eval];exact hc) (λhh=>by cases hh) λ_=>H a w Q' r hw hQ
end
end Go.QF
namespace Go.Proofs.YtgmdhndbcohgiaaGreatDoor
theorem AIg{b q r:Int}(hb:b≠0)(h:a=b*q+r)(h0:0<=r)(h1:r<b.natAbs):a/b=q/\a%b=r:=by
 have hr:r%b=r:=by
  rcases AQ8 0 b with hp|hn;.exact bw h0 Wq
  .rw[<-Int.emod_neg];exact bw h0 Wq
 have hm:a%b=r:=by simp_all
 refine⟨?_,hm⟩;have h2:=co a b;rw[hm]at h2;have h3:b*(a/b)=b*q:=by omega
 exact ca hb h3
theorem Ahl{z:Int}:sigZ z<0↔z<0:=by unfold sigZ;omega
theorem A7f{nb:Bool}{A B:Nat}(hB:B≠0)(h:¬sgn na (A%B)<0):sgn na A/sgn nb B=sgn (! na==nb) (A/B)/\sgn na A%sgn nb B=sgn na (A%B):=by
 have h1:=bZ A B;have hl:=b8 A<|bM hB;obtain⟨q,hq⟩:∃q,A/B=q:=⟨_,rfl⟩;obtain⟨r,hr⟩:∃r,A%B=r:=⟨_,rfl⟩;rw[hq,hr]at h1;rw[hr]at hl h;rw[hq,hr];have h2:(A:Int)=(B:Int)*q+r:=by omega
 refine AIg (by cases nb<;>simp[sgn]<;>omega) ?_ Wq (by cases na<;>cases nb<;>simp only[sgn]at h⊢<;>simp at h⊢<;>omega);cases na<;>cases nb<;>simp[sgn]at h⊢<;>grind
theorem A7g{nb:Bool}{A B:Nat}(hB:B≠0)(h:sgn na (A%B)<0):sgn na A%sgn nb B=sgn na (A%B)+B/\(sgn nb B<0->sgn na A/sgn nb B=sgn (! na==nb) (A/B)+1)/\(¬sgn nb B<0->sgn na A/sgn nb B=sgn (! na==nb) (A/B)-1):=by
 have h1:=bZ A B;have hl:=b8 A<|bM hB;obtain⟨q,hq⟩:∃q,A/B=q:=⟨_,rfl⟩;obtain⟨r,hr⟩:∃r,A%B=r:=⟨_,rfl⟩;rw[hq,hr]at h1;rw[hr]at hl h;rw[hq,hr];have h2:(A:Int)=(B:Int)*q+r:=by omega
 cases na;.simp[sgn]at h;omega
 have key:∀q':Int,sgn true A=sgn nb B*q'+(sgn true r+B)->sgn true A/sgn nb B=q'/\sgn true A%sgn nb B=sgn true r+B:=λq' hq'=>AIg (by cases nb<;>simp[sgn]<;>omega) hq' (by simp[sgn]at h⊢;omega) (by cases nb<;>simp only[sgn]at h⊢<;>simp at h⊢<;>omega);cases nb;.have:=key (sgn true q-1) (by simp[sgn];grind);exact⟨this.2,λhh=>by simp[sgn]at hh;omega,λ_=>this.1⟩
 .have:=key (sgn false q+1) (by simp[sgn];grind);exact⟨this.2,λ_=>this.1,λhh=>by simp[sgn]at hh;omega⟩
theorem A7h{lo:Nat}{s:aa}{L:List Nat}(H:DS h lo s L)(ht:TL L)(hl:L.length<=100):cZ.rep h (nv L:Int) [.bool false,s]:=⟨rfl,⟨false,s,L,rfl,H.mono<|Nat.zero_le _,ht,hl,rfl⟩⟩
theorem A16{s:aa}{n:Int}(H:cZ.rep h n [.bool false,s]):∃L,DS h 0 s L/\TL L/\L.length<=100/\(nv L:Int)=n:=by obtain⟨n',s',L,h1,h2,h3,h4,h5⟩:=ZV.out H.2;injection h1 with h1;have:=congrArg Array.toList h1;simp at this;obtain⟨rfl,rfl⟩:=this;exact⟨L,h2,h3,h4,h5.symm⟩
def AX1(fuel:Nat)(a b:Int):Option (Int×Int×Bool):=if a.natAbs<Zm/\b.natAbs<Zm/\b≠0 then some (a/b,a%b,true)else none
set_option maxHeartbeats 40000000 in theorem Asl{u:aa}{b:Int}{r:Int×Int×Bool}(H1:ZZ h u a)(H2:ZZ h v b)(hp:AX1 fuel a b=some r):W6 Tryz.prog 167 #[u,v] h λx h'=>Ext h h'/\∃(x0:aa)(x1:aa),x=.tuple #[x0,x1,.bool r.2.2]/\ZZ h' x0 r.1/\ZZ h' x1 r.2.1:=by
 obtain⟨⟨hba,hbb,hb0⟩,hp⟩:=ifN hp;cases hp;have HA:=H1;have HB:=H2;obtain⟨na,sa,LA,rfl,HDa,htla,hla,hza⟩:=HA.out;obtain⟨nb,sb,LB,rfl,HDb,htlb,hlb,hzb⟩:=HB.out;have haa:=AA1 hza;have hab:=AA1 hzb;have hBz:nv LB≠0:=λh0=>hb0 (by rw[hzb,h0];cases nb<;>rfl);have hp99:(4294967296:Nat)^99<4294967296^100:=Nat.pow_lt_pow_right Wr Wr;have hbz:Zm=4294967296^99:=rfl;rw[hbz]at hba hbb;have Zb:cZ.rep h b [.bool nb,sb]:=⟨rfl,H2⟩;refine Ajx (l:=[_,_]) Tryz.func167 rfl rfl rfl rfl rfl ?_;refine AMo ?_;refine AN7 mx Ww ?_;refine W5 ?_;have K0:=Xg.k0 h;refine Aan K0 [.bool na,sa] λb1 h1 E1 K1=>?_;refine Aan K1 [.bool nb,sb] λb2 h2 E2 K2=>?_;refine AK8 K2 [.bool false,.slice none 0 0] AEz λb3 h3 E3 K3=>?_;refine AK8 K3 [.bool false,.slice none 0 0] AEz λb4 h4 E4 K4=>?_;refine Xu ?_;refine AMo ?_;refine AN7 mx Ww ?_;refine AAr (λh'=>Ext h4 h') Ww ?_;refine AA8 (fs:=1) AFg Ww Wr rfl (AAm ACj rfl (Ext.refl h4) (λh' hb=>((K4.b p3).ext hb).cell (i:=1) rfl) (ADs (Ext.refl h4) (λ_ E=>E) rfl (AE3 (HDa.ext K4.x) Wq) λx5 h5 E5 hk=>?_));obtain⟨L1,HD1,htl1,hv1,hl1⟩:=hk;have K5:=K4.e E5;refine AA8 (fs:=1) AFg Ww Wr rfl (AAm ACj rfl E5 (λh' hb=>((K4.b p2).ext hb).cell (i:=1) rfl) (ADs E5 (λ_ E=>E5.trans E) rfl (AE3 (HDb.ext K5.x) Wq) λx6 h6 E6 hk=>?_));refine X4<|Xu ?_;obtain⟨L2,HD2,htl2,hv2,hl2⟩:=hk;have K6:=(K5.e E6).az (A7h HD2 htl2 Wq);have hLB:L2≠[]:=λh0=>hBz (by rw[<-hv2,h0];rfl);have hLp:=cu.2 hLB;refine AMo ?_;refine AN7 mx Ww ?_;refine Wx ?_;refine W5 ?_;refine Wu<|Yk W7 rfl HD2 ?_;refine AS8 rfl rfl (λhc=>absurd hc Wq) λ_=>?_;refine Xl ?_;refine Xi rfl ?_;refine Xj<|Xr ?_;refine AMo ?_;refine AN7 mx Ww ?_;refine W5 ?_;refine Wu<|Wu<|ADs trivial (λ_ _=>trivial) rfl (Amw (HD1.ext E6) HD2 htl2 (by rw[hv2];exact hBz) Wq Wq) λx7 h7 E7 hk=>?_;obtain⟨qv,rv,rfl,LQ,LR,HQ,HR,hvq,hvr,hlq,hlr⟩:=hk;have K7:=K6.e E7;rw[hv1,hv2]at hvq hvr;have hqA:nv LQ<=nv LA:=by rw[hvq];exact Nat.div_le_self _ _
 have hrA:nv LR<nv LB:=by rw[hvr];exact b8 _<|bM hBz
 refine Wu<|ABx rfl rfl (ABx rfl rfl (X4<|Xu ?_));have U7:Yg [] h7 h7:=Yg.start all_nil;refine AMo ?_;refine AN7 mx Ww ?_;refine Abl (B:=λh'=>Yg [] h7 h') 11 [⟨11,32,[.bool false,.slice none 0 0]⟩,⟨12,32,[.bool false,.slice none 0 0]⟩] (λ_ _ U E=>U.thenE E) Ww U7 (Ac1 rfl rfl AEz rfl AEz rfl λ_ _ U E=>U.thenE E) ?_;refine h_l rfl (AA8 (fs:=1) AFf Ww Wr rfl (W0 ?_));refine h_l rfl (AAm Zn rfl U7 (λh' hb=>((K7.b p4).ext hb.ext).cell (i:=0) rfl) (W0 ?_));refine h_l rfl (AA8 (fs:=1) AFf Ww Wr rfl (W0 ?_));refine h_l rfl (AAm Zn rfl U7 (λh' hb=>((K7.b p3).ext hb.ext).cell (i:=0) rfl) (W0 ?_));refine h_l rfl (Acn AXd rfl rfl (W0 ?_));refine h_l rfl (Wu<|W0 ?_);refine h_e rfl λh8 E8=>?_;refine ADs (U7.thenE E8) (λ_ E=>(U7.thenE E8).thenE E) rfl (AJh (! na==nb) (HQ.ext E8) Wq Wq) λx9 h9 E9 Z9=>?_;obtain⟨c9,rfl,W9⟩:=Z9.zz.cs;have U9:=(U7.thenE E8).thenE E9;refine W0 ⟨E9,?_⟩;refine h_l rfl (AA8 (fs:=1) AFf Ww Wr rfl (W0 ?_));refine h_l rfl (AAm Zn rfl U9 (λh' hb=>((K7.b p4).ext hb.ext).cell (i:=0) rfl) (W0 ?_));refine h_l rfl (Wu<|W0 ?_);refine h_e rfl λh10 E10=>?_;refine ADs (U9.thenE E10) (λ_ E=>(U9.thenE E10).thenE E) rfl (AJh na (HR.ext (U9.thenE E10).ext) Wq Wq) λx11 h11 E11 Z11=>?_;obtain⟨c11,rfl,W11⟩:=Z11.zz.cs;have U11:=(U9.thenE E10).thenE E11;refine W0 ⟨E11,?_⟩;refine Afi λh12 E12=>?_;refine A0z λbq br Vq Vr hne loq lor nbq nbr=>?_;have K14:=((K7.nb2 (U11.thenE E12).ext (AZk loq lor Vq.lt Vr.lt hne) Vq Vr).az (cZ.upT W9 ((E10.trans E11).trans E12).upT)).az (cZ.upT W11 E12.upT);refine AMd K14 p2 (X3 _) (K14.z p1) λh13 K15=>?_;refine AMd K15 p3 (X3 _) (K15.z p0) λh14 K16=>?_;refine Xl ?_;refine AMo ?_;refine AMo ?_;refine AN7 mx Ww ?_;refine W5 ?_;refine Ac3 (K16.z p0) (K16.b p3) ?_;refine Ag6 K16 (AUc (K16.z p0).2) λh15 E15 K17=>?_;refine ABa rfl rfl (λhc1=>Xl ?_) λhc1=>Xl ?_
 .have hk:=A7g (na:=na) (nb:=nb) (A:=nv LA) hBz (by rw[<-hvr];exact Ahl.1 hc1);have hsg:sgn nb (nv LB)<0↔sigZ b<0:=by rw[<-hzb];exact Ahl.symm
  obtain⟨Ln,HDn,htln,hln,hzn⟩:=A16<|K17.z p4;have hnn:nv Ln=nv LB:=by omega
  refine Ap3 rfl ?_;refine AMo ?_;refine AN7 mx Ww ?_;refine AAr (λh'=>Ext h15 h') Ww ?_;refine AEa c11 Ye (cZ.klen<|K17.z p0) rfl (Ext.refl h15) (λh' hb=>((K17.b p3).ext hb).agg) ?_;refine Wu<|ADs (Ext.refl h15) (λ_ E=>E) rfl (AJh false HDn Wq Wq) λx h16 E16 Z=>?_;obtain⟨c16,rfl,Y⟩:=Z.zz.cs;have K18:=(K17.e E16).az Y;refine ADs E16 (λ_ E=>E16.trans E) rfl (Abk (K18.z p1).2 (K18.z p0).2 (by rw[show(sgn na<|nv LR).natAbs=nv LR from AA1 rfl];omega) (by rw[show(sgn false<|nv Ln).natAbs=nv Ln from AA1 rfl];omega)) λx h17 E17 Z=>?_;obtain⟨c17,rfl,Y⟩:=Z.zz.cs;have K19:=(K18.e E17).az Y;have hr9:sgn na (nv LR)+sgn false (nv Ln)=a%b:=by rw[hza,hzb,hk.1,hvr,hnn];rfl
  rw[hr9]at K19;refine AMd K19 p5 (K19.z p2) (K19.z p0) λh18 K20=>?_;refine Xl ?_;refine AMo ?_;refine AMo ?_;refine AN7 mx Ww ?_;refine W5 ?_;refine Ac3 (K20.zx Zb) (K20.b p9) ?_;refine Ag6 K20 (AUc (K20.zx Zb).2) λh19 E19 K21=>?_;refine ABa rfl rfl (λhc2=>Xl ?_) λhc2=>Xl ?_
  .refine Ap3 rfl ?_;refine AMo ?_;refine Ahk (B:=λh'=>Yz 32 h' bq c9/\Yz 32 h' br c17) true [0,1,2] 3 4 [5,6] mx Ww Ww rfl rfl (.cons rfl (.cons rfl (.cons rfl .nil))) (.cons rfl (.cons rfl .nil)) ?_;refine AEa c9 Ye (cZ.klen<|K21.z p3) rfl ⟨K21.b p4,K21.b p5⟩ (λh' hb=>hb.1.agg) ?_;refine ADs ⟨K21.b p4,K21.b p5⟩ (λ_ E=>⟨(K21.b p4).ext E,(K21.b p5).ext E⟩) rfl (AZg (n:=1) Wq _) λx h20 E20 Z=>?_;obtain⟨c20,rfl,Y⟩:=Z.zz.cs;have K22:=(K21.e E20).az Y;refine ADs ⟨K22.b p5,K22.b p6⟩ (λ_ E=>⟨(K22.b p5).ext E,(K22.b p6).ext E⟩) rfl (Abk (K22.z p4).2 (K22.z p0).2 (by rw[show(sgn ! na==nb<|nv LQ).natAbs=nv LQ from AA1 rfl];omega) Wr) λx h21 E21 Z=>?_;obtain⟨c21,rfl,Y⟩:=Z.zz.cs;have K23:=(K22.e E21).az Y;have hq9:sgn (! na==nb) (nv LQ)+1=a/b:=by rw[hza,hzb,hk.2.1<|hsg.2 hc2,hvq]
   rw[hq9]at K23;refine W0 ⟨?_,?_⟩;.refine AEa c17 Ye (cZ.klen<|K23.z p2) rfl ⟨K23.b p6,K23.b p7⟩ (λh' hb=>hb.2.agg) ?_;refine AMd K23 p10 (X3 _) (K23.z p0) λh22 K24=>?_;refine AMd K24 p9 (X3 _) (K24.z p2) λh23 K25=>?_;refine Xu ?_;refine AN7 mx Ww<|Xt<|Ze<|Ze ?_;exact⟨_,ALt Ye (cZ.klen<|K25.z p0) rfl (K25.b p10) Ye (cZ.klen<|K25.z p2) rfl (K25.b p9),K25.x,_,_,rfl,(K25.z p0).2,(K25.z p2).2⟩
   .refine AMd K23 p10 (X3 _) (K23.z p0) λh22 K24=>?_;refine AEa c17 Ye (cZ.klen<|K24.z p2) rfl ⟨K24.b p6,K24.b p7⟩ (λh' hb=>hb.2.agg) ?_;refine AMd K24 p9 (X3 _) (K24.z p2) λh23 K25=>?_;refine Xu ?_;refine AN7 mx Ww<|Xt<|Ze<|Ze ?_;exact⟨_,ALt Ye (cZ.klen<|K25.z p0) rfl (K25.b p10) Ye (cZ.klen<|K25.z p2) rfl (K25.b p9),K25.x,_,_,rfl,(K25.z p0).2,(K25.z p2).2⟩
  .refine Akd rfl ?_;refine AN7 mx Ww ?_;refine Xj<|Xr ?_;refine AMo ?_;refine Ahk (B:=λh'=>Yz 32 h' bq c9/\Yz 32 h' br c17) true [0,1,2] 3 4 [5,6] mx Ww Ww rfl rfl (.cons rfl (.cons rfl (.cons rfl .nil))) (.cons rfl (.cons rfl .nil)) ?_;refine AEa c9 Ye (cZ.klen<|K21.z p3) rfl ⟨K21.b p4,K21.b p5⟩ (λh' hb=>hb.1.agg) ?_;refine ADs ⟨K21.b p4,K21.b p5⟩ (λ_ E=>⟨(K21.b p4).ext E,(K21.b p5).ext E⟩) rfl (AZg (n:=1) Wq _) λx h20 E20 Z=>?_;obtain⟨c20,rfl,Y⟩:=Z.zz.cs;have K22:=(K21.e E20).az Y;refine ADs ⟨K22.b p5,K22.b p6⟩ (λ_ E=>⟨(K22.b p5).ext E,(K22.b p6).ext E⟩) rfl (Apj (K22.z p4).2 (K22.z p0).2 (by rw[show(sgn ! na==nb<|nv LQ).natAbs=nv LQ from AA1 rfl];omega) Wr) λx h21 E21 Z=>?_;obtain⟨c21,rfl,Y⟩:=Z.zz.cs;have K23:=(K22.e E21).az Y;have hq9:sgn (! na==nb) (nv LQ)-1=a/b:=by rw[hza,hzb,hk.2.2 λh=>by have:=hsg.1 h;omega,hvq]
   rw[hq9]at K23;refine W0 ⟨?_,?_⟩;.refine AEa c17 Ye (cZ.klen<|K23.z p2) rfl ⟨K23.b p6,K23.b p7⟩ (λh' hb=>hb.2.agg) ?_;refine AMd K23 p10 (X3 _) (K23.z p0) λh22 K24=>?_;refine AMd K24 p9 (X3 _) (K24.z p2) λh23 K25=>?_;refine Xu ?_;refine AN7 mx Ww<|Xt<|Ze ?_;exact⟨_,ALt Ye (cZ.klen<|K25.z p0) rfl (K25.b p10) Ye (cZ.klen<|K25.z p2) rfl (K25.b p9),K25.x,_,_,rfl,(K25.z p0).2,(K25.z p2).2⟩
   .refine AMd K23 p10 (X3 _) (K23.z p0) λh22 K24=>?_;refine AEa c17 Ye (cZ.klen<|K24.z p2) rfl ⟨K24.b p6,K24.b p7⟩ (λh' hb=>hb.2.agg) ?_;refine AMd K24 p9 (X3 _) (K24.z p2) λh23 K25=>?_;refine Xu ?_;refine AN7 mx Ww<|Xt<|Ze ?_;exact⟨_,ALt Ye (cZ.klen<|K25.z p0) rfl (K25.b p10) Ye (cZ.klen<|K25.z p2) rfl (K25.b p9),K25.x,_,_,rfl,(K25.z p0).2,(K25.z p2).2⟩
 .have hk:=A7f (na:=na) (nb:=nb) (A:=nv LA) hBz (λhh=>by have:=Ahl (z:=sgn na<|nv LR).2 (by rw[hvr];exact hh);omega);have hq9:sgn (! na==nb) (nv LQ)=a/b:=by rw[hza,hzb,hk.1,hvq]
  have hr9:sgn na (nv LR)=a%b:=by rw[hza,hzb,hk.2,hvr]
  rw[hq9,hr9]at K17;refine Akd rfl ?_;refine AN7 mx Ww ?_;refine Xj<|Xr ?_;refine AMo ?_;refine Ahk (B:=λ_=>True) false [0] 1 2 [3,4] mx Ww Ww rfl rfl (.cons rfl .nil) (.cons rfl (.cons rfl .nil)) ?_;refine Ac3 (K17.z p1) (K17.b p2) ?_;refine W0 ⟨?_,?_⟩;.refine Ac3 (K17.z p0) (K17.b p3) ?_;refine AMd K17 p6 (X3 _) (K17.z p1) λh22 K24=>?_;refine AMd K24 p5 (X3 _) (K24.z p0) λh23 K25=>?_;refine Xu ?_;refine AN7 mx Ww<|Xt ?_;exact⟨_,ALt Ye (cZ.klen<|K25.z p1) rfl (K25.b p6) Ye (cZ.klen<|K25.z p0) rfl (K25.b p5),K25.x,_,_,rfl,(K25.z p1).2,(K25.z p0).2⟩
  .refine AMd K17 p6 (X3 _) (K17.z p1) λh22 K24=>?_;refine Ac3 (K24.z p0) (K24.b p3) ?_;refine AMd K24 p5 (X3 _) (K24.z p0) λh23 K25=>?_;refine Xu ?_;refine AN7 mx Ww<|Xt ?_;exact⟨_,ALt Ye (cZ.klen<|K25.z p1) rfl (K25.b p6) Ye (cZ.klen<|K25.z p0) rfl (K25.b p5),K25.x,_,_,rfl,(K25.z p1).2,(K25.z p0).2⟩
abbrev LnN:=List<|List Nat
abbrev LnA:=List Nat
abbrev LvA:=List aa
abbrev W1:=List<|List Int
abbrev Ys:=List Int
theorem AA2{α:Type _}{a b:α}(h:some a=some b):a=b:=bI h
theorem tt2{α:Sort _}{β:α->Sort _}:∀x,β x->True:=λ_ _=>trivial
def Zw(fuel:Nat)(a1 a5:Int):Option Int:=(AX1 fuel a1 a5).bind λ(x30,x31,x32)=>some x30
theorem ASj{r:Int}(H3:ZZ h Aa a1)(H7:ZZ h Ac a5)(hp:Zw fuel a1 a5=some r):W6 Tryz.prog 130 #[Aa,Ac] h λx h'=>Ext h h'/\∃(x0:aa),x=x0/\ZZ h' x0 r:=by unfold Zw at hp;obtain⟨Ah,rfl,Ai⟩:=H3.cs;obtain⟨Aj,rfl,Ak⟩:=H7.cs;refine cwf (l:=[_,_]) Tryz.func130 rfl rfl ?_;exact zz (Xg.k0 h) hp
def AEh(fuel:Nat)(a1 a5:Int):Option Int:=(AX1 fuel a1 a5).bind λ(x30,x31,x32)=>some x31
theorem ASk{r:Int}(H3:ZZ h Aa a1)(H7:ZZ h Ac a5)(hp:AEh fuel a1 a5=some r):W6 Tryz.prog 221 #[Aa,Ac] h λx h'=>Ext h h'/\∃(x0:aa),x=x0/\ZZ h' x0 r:=by unfold AEh at hp;obtain⟨Ah,rfl,Ai⟩:=H3.cs;obtain⟨Aj,rfl,Ak⟩:=H7.cs;refine cwf (l:=[_,_]) Tryz.func221 rfl rfl ?_;exact zz (Xg.k0 h) hp
abbrev ALa(fuel:Nat)(a1:Int)(a2:Int)(Aa:Int)(Ac:W1):Option (Int×W1⊕W1):=if Aa<((ab (ax a1) ([]:List Int)).length:Int)then if 0<=a2/\a2<=100000000 then(gI Ac Aa).bind λAe=>some<|ai (W3<|Aa+1,sI Ac Aa<|ab (ax a2) (0:Int))else none else some<|ae<|Ac 
def AAc(fuel:Nat)(a1 a2:Int):Option W1:=if 0<=a1/\a1<=100000000 then(iter (λs=>ALa fuel a1 a2 s.1 s.2) fuel (0,ab (ax a1) ([]:List Int))).bind λ(Ac:W1)=>some Ac else none
theorem ARm{a2:Int}{r:W1}(hp:AAc fuel a1 a2=some r):W6 Tryz.prog 72 #[.int .i64 a1,.int .i64 a2] h λx h'=>Ext h h'/\∃(x0:aa)(F0:List Nat)(Ae:List LnA)(Af:List aa),x=x0/\Yv cZ 56 32 h' F0 Ae Af x0 r/\Sp h' h.size [F0]:=by unfold AAc at hp;refine cwf (l:=[_,_]) Tryz.func72 rfl rfl ?_;have ss:=ia (lz 0 1046592 [.i 11,.m 0])<|trivial;exact zz (Xg.k0 h) hp
abbrev AI2(fuel:Nat)(a3:W1)(Ab:Int)(Af:Ys)(Aa:Int)(Ac:W1):Option (Int×W1⊕W1):=if Aa<(Af.length:Int)then(gI Ac Ab).bind λAd=>(gI a3 Ab).bind λAg=>(gI Ag Aa).bind λAh=>(AGc fuel Ah).bind λAi=>(gI Ad Aa).bind λAj=>some<|ai (W3<|Aa+1,sI Ac Ab<|sI Ad Aa Ai)else some<|ae<|Ac 
abbrev AI3(fuel:Nat)(a3:W1)(Aa:Int)(Ac:W1):Option (Int×W1⊕W1):=if Aa<(a3.length:Int)then(gI a3 Aa).bind λAd=>(iter (λs=>AI2 fuel a3 Aa Ad s.1 s.2) fuel (0,Ac)).bind λ(Ae:W1)=>some<|ai (W3<|Aa+1,Ae)else some<|ae<|Ac 
abbrev AI4(fuel:Nat)(a3:W1)(Ab:Int):Option (Int⊕W1×Bool⊕Unit):=if Ab<(a3.length:Int)then(gI a3 Ab).bind λAc=>if(Ac.length:Int)<1 then some<|ae<|ai<|([],false)else if 16<(Ac.length:Int)then some<|ae<|ai<|([],false)else(gI a3 0).bind λAd=>if¬(Ac.length:Int)=(Ad.length:Int)then some<|ae<|ai<|([],false)else some<|ai<|W3<|Ab+1 else some<|ae<|ae<|()
def Zf(fuel:Nat)(a3:W1):Option (W1×Bool):=(if(a3.length:Int)<1 then some (.inl ([],false))else if 16<(a3.length:Int)then some (.inl ([],false))else some<|.inr ():Option (W1×Bool⊕Unit)).bind λex=>match ex with|.inl Ab=>some Ab|.inr _=>(iter (λs=>AI4 fuel a3 s) fuel 0).bind λex=>match ex with|.inl Ac=>some Ac|.inr _=>(gI a3 0).bind λAd=>(AAc fuel (a3.length:Int) (Ad.length:Int)).bind λAe=>(iter (λs=>AI3 fuel a3 s.1 s.2) fuel (0,Ae)).bind λ(Af:W1)=>some (Af,true)
theorem AOf{a3:W1}{r:W1×Bool}(H2:Zv (cI .i64) h Aa a3)(hp:Zf fuel a3=some r):W6 Tryz.prog 27 #[Aa] h λx h'=>Ext h h'/\∃(x0:aa)(F0:List Nat)(Ae:List LnA)(Af:List aa),x=.tuple #[x0,.bool r.2]/\Yv cZ 56 32 h' F0 Ae Af x0 r.1/\Sp h' h.size [F0]:=by unfold Zf at hp;refine cwf (l:=[_]) Tryz.func27 rfl rfl ?_;have ss:=ia (lz 2 130572 [])<|ia (lz 0 2199022731308 [.i 19])<|ia (lz 0 151115726325928739996032 [.i 50,.m 0])<|ia (lz 0 75557575495538171707648 [.i 58,.m 0])<|trivial;exact zz (Xg.k0 h) hp
def Yw(fuel:Nat)(a3:W1):Option W1:=(Zf fuel a3).bind λ(x5,x6)=>some x5
theorem ATr{a3 r:W1}(H2:Zv (cI .i64) h Aa a3)(hp:Yw fuel a3=some r):W6 Tryz.prog 10 #[Aa] h λx h'=>Ext h h'/\∃(x0:aa)(F0:List Nat)(Ae:List LnA)(Af:List aa),x=x0/\Yv cZ 56 32 h' F0 Ae Af x0 r/\Sp h' h.size [F0]:=by unfold Yw at hp;refine cwf (l:=[_]) Tryz.func10 rfl rfl ?_;exact zz (Xg.k0 h) hp
abbrev AF6(fuel:Nat)(a3:W1)(Ab:Int):Option (Int⊕Int×Int×Bool⊕Unit):=if Ab<(a3.length:Int)then(gI a3 Ab).bind λAc=>if(Ac.length:Int)<1 then some<|ae<|ai<|(0,0,false)else if 16<(Ac.length:Int)then some<|ae<|ai<|(0,0,false)else(gI a3 0).bind λAd=>if¬(Ac.length:Int)=(Ad.length:Int)then some<|ae<|ai<|(0,0,false)else some<|ai<|W3<|Ab+1 else some<|ae<|ae<|()
def Zl(fuel:Nat)(a3:W1):Option (Int×Int×Bool):=(if(a3.length:Int)<1 then some (.inl (0,0,false))else if 16<(a3.length:Int)then some (.inl (0,0,false))else some<|.inr ():Option (Int×Int×Bool⊕Unit)).bind λex=>match ex with|.inl Ab=>some Ab|.inr _=>(iter (λs=>AF6 fuel a3 s) fuel 0).bind λex=>match ex with|.inl Ac=>some Ac|.inr _=>(gI a3 0).bind λAd=>some ((a3.length:Int),(Ad.length:Int),true)
theorem AQp{a3:W1}{r:Int×Int×Bool}(H2:Zv cZ h Aa a3)(hp:Zl fuel a3=some r):W6 Tryz.prog 86 #[Aa] h λx h'=>Ext h h'/\x=.tuple #[.int .i64 r.1,.int .i64 r.2.1,.bool r.2.2]:=by unfold Zl at hp;refine cwf (l:=[_]) Tryz.func86 rfl rfl ?_;have ss:=ia (lz 2 32668 [])<|ia (lz 0 549755682908 [.i 17])<|trivial;exact zz (Xg.k0 h) hp
def ABi(fuel:Nat)(a3:W1):Option (Int×Bool):=(Zl fuel a3).bind λ(x5,x6,x7)=>if(!x7)=true then some (0,false)else if¬x5=x6 then some (0,false)else some (x5,true)
theorem APf{a3:W1}{r:Int×Bool}(H2:Zv cZ h Aa a3)(hp:ABi fuel a3=some r):W6 Tryz.prog 73 #[Aa] h λx h'=>Ext h h'/\x=.tuple #[.int .i64 r.1,.bool r.2]:=by unfold ABi at hp;refine cwf (l:=[_]) Tryz.func73 rfl rfl ?_;exact zz (Xg.k0 h) hp
abbrev AA5(fuel:Nat)(Ac:Int)(Ad:Ys)(Aa:Int)(Ab:W1):Option (Int×W1⊕W1):=if Aa<(Ad.length:Int)then(gI Ad Aa).bind λAf=>(gI Ab Ac).bind λAe=>(AJi fuel Af).bind λAg=>if Ae.length<=100000000 then some<|ai (W3<|Aa+1,sI Ab Ac<|Ae++[Ag])else none else some<|ae<|Ab 
abbrev AA6(fuel:Nat)(a3:W1)(Aa:Int)(Ac:W1):Option (Int×W1⊕W1):=if Aa<(a3.length:Int)then(gI a3 Aa).bind λAd=>(iter (λs=>AA5 fuel Aa Ad s.1 s.2) fuel (0,Ac)).bind λ(Ae:W1)=>some<|ai (W3<|Aa+1,Ae)else some<|ae<|Ac 
def Zg(fuel:Nat)(a3:W1):Option W1:=if 0<=(a3.length:Int)/\(a3.length:Int)<=100000000 then(iter (λs=>AA6 fuel a3 s.1 s.2) fuel (0,ab (ax (a3.length:Int)) ([]:List Int))).bind λ(Ab:W1)=>some Ab else none
theorem ARl{Aq:aa}{a3 r:W1}(H2:Zv cZ h Aq a3)(hp:Zg fuel a3=some r):W6 Tryz.prog 25 #[Aq] h λx h'=>Ext h h'/\∃(x0:aa)(F0:List Nat)(A5:List LnA)(A6:List aa),x=x0/\Yv cZ 56 32 h' F0 A5 A6 x0 r/\Sp h' h.size [F0]:=by
 unfold Zg at hp;refine cwf (l:=[_]) Tryz.func25 rfl rfl (Xd<|ADt<|Wu<|AWe AA0 rfl H2 ?_);obtain⟨A7,A8⟩:=ifN hp;refine Au1 cZ 32 AA0 Afg rfl trivial tt2 rfl rfl Wr A7 λA9 Ba Bb v11 h9 Bc E7 S8=>Xu<|Wx<|Xd<|Wu<|AWe AA0 rfl H2 (Wu<|Xl<|W8 ?_);have Av:=(Xg.k0 h).no2 E7 S8 Bc;refine Ac4 137438949456 (λx:Int×W1×LnA×LnN×LvA=>(x.1,x.2.1)) ((0,ab (ax (a3.length:Int)) ([]:List Int),A9,Ba,Bb):Int×W1×LnA×LnN×LvA) A8 (λx=>[(12,.int .i64 x.1)]) (λx=>Av.L.set 0<|aO2 cZ 56 32 x.2.2.1 x.2.2.2.1 x.2.2.2.2 v11 x.2.1) Av ⟨rfl,trivial⟩ ?_;rintro⟨Ch,Bg,Bh,Bi,Bj⟩Ci Cj Ck Ac Ah Bl;unfold AA6 at Ah;refine Xd<|AF5 rfl rfl (Xl<|Wx<|⟨_,rfl,λAi=>?_,λAi=>?_⟩)
 .refine Xj<|Xr<|Wx<|W8<|Xd<|Wu<|ADt<|Wu<|Wu ?_;obtain⟨Cm,Bm,Bn⟩:=Xq<|AMb Ah Ai;refine BAv AA0 AB8 H2 Ac.x Bm λ_ Cn Aw=>AQh ABg rfl Aw (Wu<|Xl<|W8<|Ac4 68718428224 (λx:Int×W1×LnA×LnN×LvA=>(x.1,x.2.1)) ((0,Bg,Bh,Bi,Bj):Int×W1×LnA×LnN×LvA) Bn (λx=>[(20,.int .i64 x.1)]) (λx=>Ac.L.set 0<|aO2 cZ 56 32 x.2.2.1 x.2.2.2.1 x.2.2.2.2 v11 x.2.1) Ac ⟨rfl,trivial⟩ ?_);rintro⟨Co,Cp,Cq,Cr,Ct⟩Cu Cv Cw Ad Aj Bo;unfold AA5 at Aj;refine Xd<|AF5 rfl rfl (Xl<|Wx<|⟨_,rfl,λAk=>?_,λAk=>?_⟩);.refine Xj<|Xr<|Wx<|W8<|Xd ?_;obtain⟨Cx,Bp,Bq⟩:=Xq<|AMb Aj Ak;refine ALw (c:=cZ) ABg rfl Aw rfl Bp λCy Cz Br Ae Bt=>AK5 (c:=cZ) Ye rfl (Ad.zx Ae) (λj u hu=>Yq (Bt j u hu) Ad.x) (AK8 Ad [.bool false,.slice none 0 0] AEz λC0 Bu C1 Ax=>AMd Ax p0 (X3 Bu) (Ax.zx Ae) λAm Aa=>Xl ?_);obtain⟨C4,Ao,Bv⟩:=Xq Bq;obtain⟨Ay,Bw,Bx,By,Bz⟩:=(Aa.o2 p1).rowG Ao;refine AAr (λh'=>Yg (Ay++[]) Am h') Ww ?_;have Ab:Yg (Ay++[]) Am Am:=Yg.start<|Abh By all_nil;refine Wu<|Wu<|Wu<|Wu<|AT8 AA0 rfl (Aa.o2 p1) rfl Ao λC5 C6 B2 B3 B4=>AAm AB8 rfl Ab (λh' hb=>AU7 B4 hb<|Au2 (Bz _ B2) Au3) (AEa Br Ye (cZ.klen<|Aa.zx Ae) rfl Ab (λh' hb=>((Aa.b p0).upT hb (Amq (λb hb hg=>(Aa.dj p0 p1 Wr) b hb (Bx b hg)) Amr)).agg) ?_);obtain⟨C7,B5,B6⟩:=Xq Bv;refine ADs Ab (λ_ E=>Ab.thenE E) rfl (AXi (Aa.zx Ae).2 B5) λC8 C9 Az B7=>?_;obtain⟨Da,rfl,B8⟩:=B7;have A4:=Ab.thenE Az;obtain⟨Db,rfl,B9⟩:=B8.cs;have Ap:=(Aa.e Az).az B9;obtain⟨Ca,Cb⟩:=ifN B6;refine Afe ABg AEz rfl rfl AA0 AB8 (Ap.o2 p2) B3 Ao Bw A4 (λ_ U=>A4.then U<|Apd rfl) (λ_=>rfl) rfl (Ap.z p0) (λ_ _=>rfl) (λ_ _=>rfl) rfl Wr Ca λDc Dd De Df Dg Dh Di Cd Ce Cf=>?_;exact zz (Ap.uo2 p2 Ce Cd Cf) Cb
  .exact zz Ad<|Bo _ (AA2<|AMc Aj Ak).symm
 .exact zz Ac<|Bl _ (AA2<|AMc Ah Ai).symm
abbrev AJ8(fuel:Nat)(a3:W1)(Ac:Ys)(Ae:Int)(Aa:Ys)(Ab:Int):Option (Ys×Int⊕Ys):=if Ab<(Ac.length:Int)then(gI Ac Ab).bind λAf=>(gI a3 Ae).bind λAg=>(gI Ag Af).bind λAh=>if Aa.length<=100000000 then some<|ai (Aa++[Ah],W3<|Ab+1)else none else some<|ae<|Aa 
abbrev AJ9(fuel:Nat)(a3:W1)(a7:Ys)(Ae:Ys)(Aa:W1)(Ab:Int):Option (W1×Int⊕W1):=if Ab<(a7.length:Int)then(gI a7 Ab).bind λAf=>(iter (λs=>AJ8 fuel a3 Ae Af s.1 s.2) fuel ([],0)).bind λ(Ag:Ys)=>if Aa.length<=100000000 then some<|ai (Aa++[Ag],W3<|Ab+1)else none else some<|ae<|Aa 
def ABj(fuel:Nat)(a3:W1)(a7 Ac:Ys):Option W1:=(iter (λs=>AJ9 fuel a3 a7 Ac s.1 s.2) fuel ([],0)).bind λ(Ad:W1)=>some Ad 
theorem APe{a3:W1}{a7:Ys}{Ae:aa}{Af:Ys}{r:W1}(H2:Zv cZ h Aa a3)(H6:SlC (cI .i64) h Ac a7)(Ao:SlC (cI .i64) h Ae Af)(hp:ABj fuel a3 a7 Af=some r):W6 Tryz.prog 132 #[Aa,Ac,Ae] h λx h'=>Ext h h'/\∃(x0:aa)(F0:List Nat)(Ai:List LnA)(Aj:List aa),x=x0/\Yv cZ 56 32 h' F0 Ai Aj x0 r/\Sp h' h.size [F0]:=by unfold ABj at hp;refine cwf (l:=[_,_,_]) Tryz.func132 rfl rfl ?_;have ss:=ia (lz 0 2199023228544 [.M 1 56 32,.V 0 7,.i 15])<|ia (lz 0 68717384704 [.N 1 32,.P 0 10,.i 21])<|trivial;exact zz (Xg.k0 h) hp
abbrev AGp(fuel:Nat)(Ab:W1)(Ac:Int)(Ad:W1)(Aa:Int):Option (Int⊕Int):=(if Aa<(Ab.length:Int)then(gI Ad Aa).bind λAe=>(gI Ae Ac).bind λAf=>(AZh fuel Af).bind λAg=>if Ag=0 then some<|ai<|()else some<|ae<|()else some<|ae<|():Option (Unit⊕Unit)).bind λex=>match ex with|ai _=>some<|ai<|W3<|Aa+1|ae _=>some<|ae<|Aa 
abbrev AGq(fuel:Nat)(Ag:W1)(Ac:Int)(Ah:Int)(Ae:Int)(Aa:Int)(Ab:W1):Option (Int×W1⊕W1):=if Aa<(Ag.length:Int)then(gI Ab Ae).bind λAd=>(gI Ab Ac).bind λAf=>(gI Af Ac).bind λAi=>(gI Ad Aa).bind λAj=>(AN6 fuel Ai Aj).bind λAk=>(gI Ad Ac).bind λAm=>(gI Af Aa).bind λAo=>(AN6 fuel Am Ao).bind λAp=>(A4n fuel Ak Ap).bind λAq=>(Zw fuel Aq Ah).bind λAr=>some<|ai (W3<|Aa+1,sI Ab Ae<|sI Ad Aa Ar)else some<|ae<|Ab 
abbrev AGr(fuel:Nat)(Ab:W1)(Ac:Int)(Ae:Int)(Aa:Int)(Ad:W1):Option (Int×W1⊕W1):=if Aa<(Ab.length:Int)then(iter (λs=>AGq fuel Ab Ac Ae Aa s.1 s.2) fuel (W3<|Ac+1,Ad)).bind λ(Af:W1)=>some<|ai (W3<|Aa+1,Af)else some<|ae<|Ad 
abbrev AGs(fuel:Nat)(Ac:W1)(Ae:Bool)(Aa:Int)(Ab:W1)(Af:Int):Option (Bool×Int×W1×Int⊕Int⊕Bool×Int):=if Aa<(Ac.length:Int)then(((iter (λs=>AGp fuel Ac Aa Ab s) fuel Aa).bind λ(Ah:Int)=>some<|Ah:Option Int).bind λ(Ad:Int)=>if Ad=(Ac.length:Int)then some<|ai<|0 else(if Aa<Ad then(gI Ab Aa).bind λAi=>(gI Ab Ad).bind λAj=>some<|(!Ae,sI (sI Ab Ad Ai) Aa Aj)else some<|(Ae,Ab):Option (Bool×W1)).bind λ((Ak,Am):Bool×W1)=>(iter (λs=>AGr fuel Ac Aa Af s.1 s.2) fuel (W3<|Aa+1,Am)).bind λ(Ag:W1)=>(gI Ag Aa).bind λAo=>(gI Ao Aa).bind λAp=>some<|ae<|(Ak,Ag,Ap):Option (Int⊕Bool×W1×Int)).bind λex=>match ex with|ai Aq=>some<|ae<|ai<|Aq|ae (Ar,Au,Av)=>some<|ai (Ar,W3<|Aa+1,Au,Av)else some<|ae<|ae<|(Ae,Af)
def Yj(fuel:Nat)(a3:W1):Option Int:=(Zg fuel a3).bind λAa=>(AGc fuel 1).bind λAd=>(iter (λs=>AGs fuel Aa s.1 s.2.1 s.2.2.1 s.2.2.2) fuel (false,0,Aa,Ad)).bind λex=>match ex with|.inl Ae=>some Ae|.inr (Af,Ab)=>if Af=true then(Aju fuel Ab).bind λAg=>some Ag else some Ab 
theorem AMq{a3:W1}{r:Int}(H2:Zv cZ h Aa a3)(hp:Yj fuel a3=some r):W6 Tryz.prog 77 #[Aa] h λx h'=>Ext h h'/\∃(x0:aa),x=x0/\ZZ h' x0 r:=by unfold Yj at hp;refine cwf (l:=[_]) Tryz.func77 rfl rfl ?_;have ss:=ia (lz 0 2658455991569831745807614120560625600 [.b 6,.i 7,.m 2,.z 1 0])<|ia (lz 2 2658455991569831745807614120558593856 [.b 6,.m 2,.z 1 0])<|ia (lz 1 274873712896 [.i 8])<|ia (lz 0 274873712896 [.i 8])<|ia (lz 3 68715282432 [])<|ia (lz 1 2305838611167182912 [.b 6,.m 2])<|ia (lz 0 20769187434139301290749948462106112 [.i 9,.m 2])<|ia (lz 0 20769187434138129922501267905577984 [.i 10,.m 2])<|trivial;exact zz (Xg.k0 h) hp
end Go.Proofs.YtgmdhndbcohgiaaGreatDoor
variable{a3:Go.Proofs.YtgmdhndbcohgiaaGreatDoor.W1}
namespace Go.Proofs.YtgmdhndbcohgiaaGreatDoor
theorem Awc{m:Nat}{z:Int}(h:z=sgn na m):sigZ z=1->z=m:=by
 cases na;.intro _;rw[h];rfl
 .intro h1;rw[h]at h1⊢;unfold sigZ sgn at h1;unfold sgn;simp at h1⊢;split at h1<;>(try split at h1)<;>omega
theorem Awd{m:Nat}{z:Int}(h:z=sgn na m):sigZ z=-1->z=-(m:Int):=by
 cases na;.intro h1;rw[h]at h1⊢;unfold sigZ sgn at h1;unfold sgn;simp at h1⊢;split at h1<;>(try split at h1)<;>omega
 .intro _;rw[h];rfl
def cmpZ(a b:Int):Int:=if a<b then-1 else if a=b then 0 else 1
theorem Anp{b:Int}(h:sigZ a≠sigZ b)(h2:sigZ a<sigZ b):cmpZ a b=-1:=by
 unfold sigZ at h h2;unfold cmpZ;repeat' split at h2
 all_goals(rw[if_pos Wq])
theorem Anq{b:Int}(h:sigZ a≠sigZ b)(h2:¬sigZ a<sigZ b):cmpZ a b=1:=by
 unfold sigZ at h h2;unfold cmpZ;rw[if_neg (by
  repeat' split at h2
  all_goals(repeat' split at h)
  all_goals omega),if_neg (by
   repeat' split at h2
   all_goals(repeat' split at h)
   all_goals omega)]
theorem Ahm{nb:Bool}{m:Nat}{b:Int}(ha:a=sgn na m)(hb:b=sgn nb k)(h:sigZ a=sigZ b):sigZ a*AG3 m k=cmpZ a b:=by
 have h3:sigZ a=-1∨sigZ a=0∨sigZ a=1:=by unfold sigZ;split;exact .inl rfl;split;exact .inr<|.inl rfl;exact .inr<|.inr rfl
 rcases h3 with h1|h1|h1
 .have e1:=Awd ha h1;have e2:=Awd hb<|h▸h1;rw[h1];unfold AG3 cmpZ;repeat' split
  all_goals omega
 .have z:∀x:Int,sigZ x=0->x=0:=λx hx=>by unfold sigZ at hx;repeat' split at hx;all_goals omega
  have e1:=z a h1;have e2:=z b<|h▸h1;rw[h1,e1,e2];simp[cmpZ]
 .have e1:=Awc ha h1;have e2:=Awc hb<|h▸h1;rw[h1];unfold AG3 cmpZ;repeat' split
  all_goals omega
theorem A17(a b:Nat):-1<=AG3 a b/\AG3 a b<=1:=by unfold AG3;repeat' split;all_goals omega
theorem A18(a:Int):-1<=sigZ a/\sigZ a<=1:=by unfold sigZ;repeat' split;all_goals omega
theorem A19{x y:Int}(hx:-1<=x/\x<=1)(hy:-1<=y/\y<=1):IntKind.i64.wrap (x*y)=x*y:=by
 obtain⟨x1,x2⟩:=hx;obtain⟨y1,y2⟩:=hy;have Aa:x=-1∨x=0∨x=1:=by omega
 have Ab:y=-1∨y=0∨y=1:=by omega
 rcases Aa with rfl|rfl|rfl<;>rcases Ab with rfl|rfl|rfl<;>decide
theorem A2a{lo:Nat}{va:aa}{z:Int}(HA:ZV h lo va z):W6 Tryz.prog 134 #[va] h λx h'=>Ext h h'/\ZV h' (bz h) x (z.natAbs:Int):=by
 obtain⟨na,sa,LA,rfl,HDa,htla,hla,hza⟩:=HA.out;have hna:LA.length<=1000000:=by omega
 have hba:nv LA<4294967296^100:=Nat.lt_of_lt_of_le (AJ4 HDa.dig)<|Nat.pow_le_pow_right Wr hla;refine Xn (l:=[_]) mx Tryz.func134 rfl rfl rfl rfl rfl Ww (Xd<|ADj [.bool na,sa] (λ_=>trivial) rfl rfl λAg h2 V3 E4 Am Be=>?_);have Bf:bz h<=Ag:=Am;have Bg:=E4.1;have Z8:=(Ext.refl h).trans E4;refine ACp [.bool false,.slice none 0 0] AEz rfl (λ_=>trivial) λAa Bh Ap Ab Aq Bi=>?_;have Bj:bz h<=Aa:=aF E4.1 Aq;have nebq1bq9:Ag≠Aa:=by have:=V3.lt;omega
 have Bl:=Ab.1;have Ar:=Z8.trans Ab;have Ai:=E4.trans Ab;have Au:=E4.trans Ab;refine ATj<|AA8 (fs:=1) AFg Ww Wr rfl (Yf ACj rfl ((V3.ext Ab).cell (i:=1) rfl) (Xf trivial rfl (AJh false (HDa.ext Ai) hna hba) λx20 Bm hk=>?_));obtain⟨Ac,Av⟩:=hk;refine⟨trivial,?_⟩;have Bn:=Ac.1;have Aw:=Ar.trans Ac;have Ax:=Ai.trans Ac;have Ay:=Au.trans Ac;have Az:=Ap.ext Ac;have A4:=Ab.trans Ac;obtain⟨Aj,s3,L3,rfl,Ak,A6,A7,A8⟩:=Av.out;refine AAn [.bool Aj,s3] Ye rfl rfl rfl rfl (AE1 Ak.cap) Az λBo A9 Ad=>?_;have Ba:=Ax.thenUpd Ad (λk hk=>by have Af:k=Aa:=hk;omega);have Bp:=Ad.1;have Bq:=Aw.thenUpd Ad (λk hk=>by have Af:k=Aa:=hk;omega);have Br:=A4.thenUpd Ad (λk hk=>by have Af:k=Aa:=hk;omega);have Bt:=Ay.thenUpd Ad (λk hk=>by have Af:k=Aa:=hk;omega);have Bb:=Ak.updLo Ad Wq;refine Xl<|Xt<|⟨_,ABy Ye rfl rfl A9,?_⟩;exact⟨Ba,⟨Aj,s3,L3,rfl,Bb.mono Wq,A6,A7,by rw[<-A8,AA1 hza];rfl⟩⟩
theorem A2b{la lb:Nat}{va vb:aa}{b:Int}(HA:ZV h la va a)(HB:ZV h lb vb b):W6 Tryz.prog 76 #[va,vb] h λx h'=>Ext h h'/\x=.int .i64 (cmpZ a b):=by
 obtain⟨na,sa,LA,rfl,HDa,htla,hla,hza⟩:=HA.out;obtain⟨nb,sb,LB,rfl,HDb,htlb,hlb,hzb⟩:=HB.out;refine Xn (l:=[_,_]) mx Tryz.func76 rfl rfl rfl rfl rfl Ww (Xd<|ADj [.bool na,sa] (λ_=>trivial) rfl rfl λAq h2 V3 E4 A8 B5=>?_);have B6:bz h<=Aq:=A8;have B7:=E4.1;have Z8:=(Ext.refl h).trans E4;refine ADj [.bool nb,sb] (λ_=>trivial) rfl rfl λAu Av Aw Ag Ba B8=>?_;have B9:bz h<=Au:=aF E4.1 Ba;have nebq1bq9:Aq≠Au:=by have:=V3.lt;omega
 have Ca:=Ag.1;have Bb:=Z8.trans Ag;have Ax:=E4.trans Ag;have Ay:=V3.ext Ag;have Bc:=E4.trans Ag;refine Xu<|Wx<|AAr (λh'=>Ext Av h') Ww ?_;have Af:=Ext.refl Av;refine AEa [.bool na,sa] Ye rfl rfl Af (λh' hb=>(Ay.ext hb).agg) (Xf Af rfl (AUc<|HA.ext Ax) λx20 Cb hk=>?_);obtain⟨Ab,rfl⟩:=hk;have Ai:=Af.trans Ab;refine⟨Ai,?_⟩;have Cd:=Ab.1;have Be:=Bb.trans Ab;have Az:=Ax.trans Ab;have Bf:=Ay.ext Ab;have Bg:=Bc.trans Ab;have Bh:=Aw.ext Ab;have Bi:=Ag.trans Ab;refine AEa [.bool nb,sb] Ye rfl rfl Ai (λh' hb=>(Aw.ext hb).agg) (Xf Ai rfl (AUc<|HB.ext Az) λx31 A4 hk=>?_);obtain⟨Ac,rfl⟩:=hk;have Bj:=Ai.trans Ac;refine⟨Bj,?_⟩;have Ce:=Ac.1;have Bl:=Be.trans Ac;have Ad:=Az.trans Ac;have A5:=Bf.ext Ac;have Bm:=Bg.trans Ac;have A6:=Bh.ext Ac;have Bn:=Bi.trans Ac;refine X4<|Xu<|Wx<|Xd<|Wu<|Wu<|Ajb rfl rfl (λBo=>?_) λBo=>?_
 .refine Xl<|X0 rfl (Wx<|Xd<|Wu<|Wu<|ABa rfl rfl (λBp=>?_) λBp=>?_);.refine Xl<|X0 rfl (Xd<|Xu<|Xt<|Ze<|Ze<|⟨_,Ya,?_⟩);first|exact⟨Ad,congrArg (aU .i64) (by rw[Ak,Am];exact Ahm hza hzb Wq)⟩|exact⟨Ad,congrArg (aU .i64) (Anp (by assumption)<|by assumption).symm⟩|exact⟨Ad,congrArg (aU .i64) (Anq (by assumption) Wq).symm⟩
  .refine Xl<|Xi rfl (Xj<|Xr<|Xd<|Xu<|Xt<|Ze<|⟨_,Ya,?_⟩);first|exact⟨Ad,congrArg (aU .i64) (by rw[Ak,Am];exact Ahm hza hzb Wq)⟩|exact⟨Ad,congrArg (aU .i64) (Anp (by assumption)<|by assumption).symm⟩|exact⟨Ad,congrArg (aU .i64) (Anq (by assumption) Wq).symm⟩
 .refine Xl<|Xi rfl (Xj<|Xr<|Wx<|AAr (λh'=>Ext A4 h') Ww ?_);have Af:=Ext.refl A4;refine Wu<|AA8 (fs:=1) AFg Ww Wr rfl (AAm ACj rfl Af (λh' hb=>(A5.ext hb).cell (i:=1) rfl) (Xf Af rfl (AE3 (DS.ext HDa Ad) Wq) λCf Cg hk=>?_));obtain⟨Ae,L1,Bq,Br,Ak,Ci⟩:=hk;have Aj:=Af.trans Ae;refine⟨Aj,?_⟩;have Cj:=Ae.1;have Bt:=Bl.trans Ae;have A7:=Ad.trans Ae;have Bu:=A5.ext Ae;have Bv:=Bm.trans Ae;have Bw:=A6.ext Ae;have Bx:=Bn.trans Ae;refine AA8 (fs:=1) AFg Ww Wr rfl (AAm ACj rfl Aj (λh' hb=>(A6.ext hb).cell (i:=1) rfl) (Xf Aj rfl (AE3 (DS.ext HDb A7) Wq) λCk By hk=>?_));obtain⟨Aa,L2,Bz,B2,Am,Cn⟩:=hk;have Ao:=Aj.trans Aa;refine⟨Ao,?_⟩;have Co:=Aa.1;have Cp:=Bt.trans Aa;have Ap:=A7.trans Aa;have Cq:=Bu.ext Aa;have Cr:=Bv.trans Aa;have Ct:=Bw.ext Aa;have Cu:=Bx.trans Aa;have B3:=Bq.ext Aa;refine Xf Ao rfl (Abj B3 Bz Br B2 Wq Wq) λCv By hk=>?_;obtain⟨rfl,rfl⟩:=hk;refine⟨Ao,?_⟩;refine AMg rfl rfl ?_;rw[A19 (A18 _)<|A17 _ _];refine Xu<|Xt<|⟨_,Ya,?_⟩;first|exact⟨Ap,congrArg (aU .i64) (by rw[Ak,Am];exact Ahm hza hzb Wq)⟩|exact⟨Ap,congrArg (aU .i64) (Anp (by assumption)<|by assumption).symm⟩|exact⟨Ap,congrArg (aU .i64) (Anq (by assumption) Wq).symm⟩
def Ap4(fuel:Nat)(a:Int):Option Int:=some (a.natAbs:Int)
def Afr(fuel:Nat)(a b:Int):Option Int:=some<|cmpZ a b
theorem A7c{u:aa}{r:Int}(H1:ZZ h u a)(hp:Ap4 fuel a=some r):W6 Tryz.prog 134 #[u] h λx h'=>Ext h h'/\∃(x0:aa),x=x0/\ZZ h' x0 r:=by cases hp;exact(A2a H1).mono λx h' hk=>⟨hk.1,x,rfl,hk.2.zz⟩
theorem A7d{u:aa}{b r:Int}(H1:ZZ h u a)(H2:ZZ h v b)(hp:Afr fuel a b=some r):W6 Tryz.prog 76 #[u,v] h λx h'=>Ext h h'/\x=.int .i64 r:=by cases hp;exact A2b H1 H2
abbrev AKa(fuel:Nat)(a3:W1)(Ab:Int)(Af:Ys)(Aa:Int)(Ac:W1):Option (Int×W1⊕W1×Bool⊕W1):=if Aa<(Af.length:Int)then(gI a3 Ab).bind λAg=>(gI Ag Aa).bind λAh=>(Ag1 fuel Ah).bind λ(Ai,Aj)=>if(!Aj)=true then some<|ae<|ai<|([],false)else(gI Ac Ab).bind λAd=>(gI Ad Aa).bind λAk=>some<|ai (W3<|Aa+1,sI Ac Ab<|sI Ad Aa Ai)else some<|ae<|ae<|Ac 
abbrev AKb(fuel:Nat)(a3:W1)(x5:Int)(x6:Int)(Aa:Int)(Ac:W1):Option (Int×W1⊕W1×Bool⊕W1):=if Aa<((ab (ax x5) ([]:List Int)).length:Int)then if 0<=x6/\x6<=100000000 then(gI Ac Aa).bind λAi=>(gI (sI Ac Aa<|ab (ax x6) (0:Int)) Aa).bind λAf=>(iter (λs=>AKa fuel a3 Aa Af s.1 s.2) fuel (0,sI Ac Aa<|ab (ax x6) (0:Int))).bind λex=>match ex with|ai Ag=>some<|ae<|ai<|Ag|ae Ah=>some<|ai (W3<|Aa+1,Ah)else none else some<|ae<|ae<|Ac 
def ACs(fuel:Nat)(a3:W1):Option (W1×Bool):=(Zl fuel a3).bind λ(x5,x6,x7)=>if(!x7)=true then some ([],false)else if 0<=x5/\x5<=100000000 then(iter (λs=>AKb fuel a3 x5 x6 s.1 s.2) fuel (0,ab (ax x5) ([]:List Int))).bind λex=>match ex with|.inl Ae=>some Ae|.inr Af=>some (Af,true)else none
theorem APg{r:W1×Bool}(H2:Zv cZ h Aa a3)(hp:ACs fuel a3=some r):W6 Tryz.prog 32 #[Aa] h λx h'=>Ext h h'/\∃(x0:aa)(F0:List Nat)(Ae:List LnA)(Af:List aa),x=.tuple #[x0,.bool r.2]/\Yv (cI .i64) 76 2 h' F0 Ae Af x0 r.1/\Sp h' h.size [F0]:=by unfold ACs at hp;refine cwf (l:=[_]) Tryz.func32 rfl rfl ?_;have ss:=ia (lz 0 4611686018410614540 [.i 24,.m 0])<|ia (lz 0 2305842871774744076 [.s [1],.i 37,.m 0])<|trivial;exact zz (Xg.k0 h) hp
abbrev AI5(fuel:Nat)(Ad:W1)(Aa:Int)(Ab:W1):Option (Int×W1⊕W1):=if Aa<(Ad.length:Int)then(gI Ab Aa).bind λAc=>(AGc fuel 1).bind λAe=>(gI Ac Aa).bind λAf=>some<|ai (W3<|Aa+1,sI Ab Aa<|sI Ac Aa Ae)else some<|ae<|Ab 
def AAt(fuel:Nat)(a1:Int):Option (W1×Bool):=(if a1<1 then some (.inl ([],false))else if 16<a1 then some (.inl ([],false))else some<|.inr ():Option (W1×Bool⊕Unit)).bind λex=>match ex with|.inl Ac=>some Ac|.inr _=>(AAc fuel a1 a1).bind λAb=>(iter (λs=>AI5 fuel Ab s.1 s.2) fuel (0,Ab)).bind λ(Ad:W1)=>some (Ad,true)
theorem AOg{r:W1×Bool}(hp:AAt fuel a1=some r):W6 Tryz.prog 30 #[.int .i64 a1] h λx h'=>Ext h h'/\∃(x0:aa)(F0:List Nat)(Ad:List LnA)(Ae:List aa),x=.tuple #[x0,.bool r.2]/\Yv cZ 56 32 h' F0 Ad Ae x0 r.1/\Sp h' h.size [F0]:=by unfold AAt at hp;refine cwf (l:=[_]) Tryz.func30 rfl rfl ?_;have ss:=ia (lz 2 4044 [])<|ia (lz 0 268304416 [.i 17,.m 0])<|trivial;exact zz (Xg.k0 h) hp
abbrev AH6(fuel:Nat)(a3:W1)(Ab:Int)(Af:Ys)(Aa:Int)(Ac:W1):Option (Int×W1⊕W1):=if Aa<(Af.length:Int)then(gI Ac Aa).bind λAd=>(gI a3 Ab).bind λAg=>(gI Ag Aa).bind λAh=>(AJi fuel Ah).bind λAi=>(gI Ad Ab).bind λAj=>some<|ai (W3<|Aa+1,sI Ac Aa<|sI Ad Ab Ai)else some<|ae<|Ac 
abbrev AH7(fuel:Nat)(a3:W1)(Aa:Int)(Ac:W1):Option (Int×W1⊕W1):=if Aa<(a3.length:Int)then(gI a3 Aa).bind λAd=>(iter (λs=>AH6 fuel a3 Aa Ad s.1 s.2) fuel (0,Ac)).bind λ(Ae:W1)=>some<|ai (W3<|Aa+1,Ae)else some<|ae<|Ac 
def AAf(fuel:Nat)(a3:W1):Option (W1×Bool):=(Zl fuel a3).bind λ(x5,x6,x7)=>if(!x7)=true then some ([],false)else(AAc fuel x6 x5).bind λAe=>(iter (λs=>AH7 fuel a3 s.1 s.2) fuel (0,Ae)).bind λ(Af:W1)=>some (Af,true)
theorem ANx{r:W1×Bool}(H2:Zv cZ h Aa a3)(hp:AAf fuel a3=some r):W6 Tryz.prog 88 #[Aa] h λx h'=>Ext h h'/\∃(x0:aa)(F0:List Nat)(Ae:List LnA)(Af:List aa),x=.tuple #[x0,.bool r.2]/\Yv cZ 56 32 h' F0 Ae Af x0 r.1/\Sp h' h.size [F0]:=by unfold AAf at hp;refine cwf (l:=[_]) Tryz.func88 rfl rfl ?_;have ss:=ia (lz 0 1125899898454784 [.i 23,.m 0])<|ia (lz 0 562947805938176 [.i 31,.m 0])<|trivial;exact zz (Xg.k0 h) hp
abbrev AL0(fuel:Nat)(a3:Ys)(a7:Ys)(Aa:Int)(Ac:Int):Option (Int×Int⊕Int):=if Aa<(a3.length:Int)then(gI a3 Aa).bind λAe=>(gI a7 Aa).bind λAf=>(AN6 fuel Ae Af).bind λAg=>(Apm fuel Ac Ag).bind λAh=>some<|ai (W3<|Aa+1,Ah)else some<|ae<|Ac 
def AEi(fuel:Nat)(a3 a7:Ys):Option Int:=(iter (λs=>AL0 fuel a3 a7 s.1 s.2) fuel (0,0)).bind λ(Ac:Int)=>some Ac 
theorem ASn{a3:Ys}{a7:Ys}{r:Int}(H2:SlC cZ h Aa a3)(H6:SlC cZ h Ac a7)(hp:AEi fuel a3 a7=some r):W6 Tryz.prog 141 #[Aa,Ac] h λx h'=>Ext h h'/\∃(x0:aa),x=x0/\ZZ h' x0 r:=by unfold AEi at hp;refine cwf (l:=[_,_]) Tryz.func141 rfl rfl ?_;have ss:=ia (lz 0 33553472 [.Y,.i 10,.z 0 1])<|trivial;exact zz (Xg.k0 h) hp
abbrev AL1(fuel:Nat)(a3:W1)(Ad:W1)(Ab:Int)(Aa:Int)(Ac:W1):Option (Int×W1⊕W1):=if Aa<(Ad.length:Int)then(gI Ac Ab).bind λAe=>(gI a3 Ab).bind λAg=>(gI Ad Aa).bind λAh=>(AEi fuel Ag Ah).bind λAi=>(gI Ae Aa).bind λAj=>some<|ai (W3<|Aa+1,sI Ac Ab<|sI Ae Aa Ai)else some<|ae<|Ac 
abbrev AL2(fuel:Nat)(a3:W1)(Ad:W1)(Aa:Int)(Ac:W1):Option (Int×W1⊕W1):=if Aa<(a3.length:Int)then(iter (λs=>AL1 fuel a3 Ad Aa s.1 s.2) fuel (0,Ac)).bind λ(Ae:W1)=>some<|ai (W3<|Aa+1,Ae)else some<|ae<|Ac 
def AEj(fuel:Nat)(a3 a7:W1):Option (W1×Bool):=(Zl fuel a3).bind λ(x9,Ad,Ae)=>(AAf fuel a7).bind λ(Ac,x20)=>(if(!Ae)=true then some (.inl ([],false))else if(!x20)=true then some (.inl ([],false))else if¬(a7.length:Int)=Ad then some (.inl ([],false))else some<|.inr ():Option (W1×Bool⊕Unit)).bind λex=>match ex with|.inl Af=>some Af|.inr _=>(AAc fuel (a3.length:Int) (Ac.length:Int)).bind λAg=>(iter (λs=>AL2 fuel a3 Ac s.1 s.2) fuel (0,Ag)).bind λ(Ah:W1)=>some (Ah,true)
theorem ASo{a7:W1}{r:W1×Bool}(H2:Zv cZ h Aa a3)(H6:Zv cZ h Ac a7)(hp:AEj fuel a3 a7=some r):W6 Tryz.prog 89 #[Aa,Ac] h λx h'=>Ext h h'/\∃(x0:aa)(F0:List Nat)(Ag:List LnA)(Ah:List aa),x=.tuple #[x0,.bool r.2]/\Yv cZ 56 32 h' F0 Ag Ah x0 r.1/\Sp h' h.size [F0]:=by unfold AEj at hp;refine cwf (l:=[_,_]) Tryz.func89 rfl rfl ?_;have ss:=ia (lz 2 137405399088 [])<|ia (lz 0 590295792766519619584 [.i 44,.m 0])<|ia (lz 0 295147342229399412736 [.i 49,.m 0])<|trivial;exact zz (Xg.k0 h) hp
def Y3(fuel:Nat)(a3 a7:W1):Option W1:=(AEj fuel a3 a7).bind λ(x9,Ad)=>some x9
theorem AO3{a7 r:W1}(H2:Zv cZ h Aa a3)(H6:Zv cZ h Ac a7)(hp:Y3 fuel a3 a7=some r):W6 Tryz.prog 34 #[Aa,Ac] h λx h'=>Ext h h'/\∃(x0:aa)(F0:List Nat)(Ag:List LnA)(Ah:List aa),x=x0/\Yv cZ 56 32 h' F0 Ag Ah x0 r/\Sp h' h.size [F0]:=by unfold Y3 at hp;refine cwf (l:=[_,_]) Tryz.func34 rfl rfl ?_;exact zz (Xg.k0 h) hp
abbrev AKk(fuel:Nat)(a1:Int)(Aa:Ys)(Ab:Int):Option (Ys×Int⊕Ys):=if Ab<a1 then if Aa.length<=100000000 then some<|ai (Aa++[Ab],W3<|Ab+1)else none else some<|ae<|Aa 
def ABt(fuel:Nat)(a1 a2:Int):Option Ys:=(iter (λs=>AKk fuel a1 s.1 s.2) fuel ([],0)).bind λ(Aa:Ys)=>if Aa.length<=100000000 then some (Aa++[a2])else none 
theorem AQr{a2:Int}{r:Ys}(hp:ABt fuel a1 a2=some r):W6 Tryz.prog 133 #[.int .i64 a1,.int .i64 a2] h λx h'=>Ext h h'/\∃(x0:aa)(F0:List Nat),x=x0/\OwC (cI .i64) 3 h' F0 x0 r/\Sp h' h.size [F0]:=by unfold ABt at hp;refine cwf (l:=[_,_]) Tryz.func133 rfl rfl ?_;have ss:=ia (lz 0 65504 [.N 0 3,.P 0 5,.i 6])<|trivial;exact zz (Xg.k0 h) hp
abbrev AJl(fuel:Nat)(a3:W1)(x5:Int)(Ab:Ys)(Aa:Int):Option (Ys×Int⊕Ys):=if Aa<x5 then(ABt fuel Aa Aa).bind λAe=>(ABt fuel Aa Aa).bind λAf=>(ABj fuel a3 Ae Af).bind λAg=>(Yj fuel Ag).bind λAh=>if Ab.length<=100000000 then some<|ai (Ab++[Ah],W3<|Aa+1)else none else some<|ae<|Ab 
def AA7(fuel:Nat)(a3:W1):Option (Ys×Bool):=(ABi fuel a3).bind λ(x5,x6)=>if(!x6)=true then some ([],false)else(iter (λs=>AJl fuel a3 x5 s.1 s.2) fuel ([],0)).bind λ(Ad:Ys)=>some (Ad,true)
theorem AO4{r:Ys×Bool}(H2:Zv cZ h Aa a3)(hp:AA7 fuel a3=some r):W6 Tryz.prog 78 #[Aa] h λx h'=>Ext h h'/\∃(x0:aa)(F0:List Nat),x=.tuple #[x0,.bool r.2]/\OwC cZ 32 h' F0 x0 r.1/\Sp h' h.size [F0]:=by unfold AA7 at hp;refine cwf (l:=[_]) Tryz.func78 rfl rfl ?_;have ss:=ia (lz 0 4294934720 [.N 1 32,.P 0 6,.i 7])<|trivial;exact zz (Xg.k0 h) hp
abbrev AH8(fuel:Nat)(a3:W1)(Ab:Int)(Aa:Int):Option (Int⊕Bool⊕Unit):=if Aa<Ab then(gI a3 Ab).bind λAd=>(gI Ad Aa).bind λAe=>(gI a3 Aa).bind λAf=>(gI Af Ab).bind λAg=>(Afr fuel Ae Ag).bind λAh=>if¬Ah=0 then some<|ae<|ai<|false else some<|ai<|W3<|Aa+1 else some<|ae<|ae<|()
abbrev AH9(fuel:Nat)(a3:W1)(Aa:Int):Option (Int⊕Bool⊕Unit):=if Aa<(a3.length:Int)then(iter (λs=>AH8 fuel a3 Aa s) fuel 0).bind λex=>match ex with|ai Ac=>some<|ae<|ai<|Ac|ae _=>some<|ai<|W3<|Aa+1 else some<|ae<|ae<|()
def AAg(fuel:Nat)(a3:W1):Option Bool:=(iter (λs=>AH9 fuel a3 s) fuel 0).bind λex=>match ex with|.inl Ab=>some Ab|.inr _=>some true 
theorem ANy{r:Bool}(H2:Zv cZ h Aa a3)(hp:AAg fuel a3=some r):W6 Tryz.prog 74 #[Aa] h λx h'=>Ext h h'/\x=.bool r:=by unfold AAg at hp;refine cwf (l:=[_]) Tryz.func74 rfl rfl ?_;have ss:=ia (lz 0 4294967196 [.i 7])<|ia (lz 0 2147482644 [.i 4])<|trivial;exact zz (Xg.k0 h) hp
abbrev AI6(fuel:Nat)(x5:Ys)(Aa:Int):Option (Int⊕Bool⊕Unit):=if Aa<(x5.length:Int)then(gI x5 Aa).bind λAc=>(AZh fuel Ac).bind λAd=>if Ad<=0 then some<|ae<|ai<|false else some<|ai<|W3<|Aa+1 else some<|ae<|ae<|()
def ABz(fuel:Nat)(a3:W1):Option Bool:=(AA7 fuel a3).bind λ(x5,x6)=>(if(!x6)=true then some (.inl false)else(AAg fuel a3).bind λAd=>if(!Ad)=true then some (.inl false)else some<|.inr ():Option (Bool⊕Unit)).bind λex=>match ex with|.inl Ae=>some Ae|.inr _=>(iter (λs=>AI6 fuel x5 s) fuel 0).bind λex=>match ex with|.inl Af=>some Af|.inr _=>some true 
theorem AOh{r:Bool}(H2:Zv cZ h Aa a3)(hp:ABz fuel a3=some r):W6 Tryz.prog 75 #[Aa] h λx h'=>Ext h h'/\x=.bool r:=by unfold ABz at hp;refine cwf (l:=[_]) Tryz.func75 rfl rfl ?_;have ss:=ia (lz 2 520196 [])<|ia (lz 0 534773828 [.i 21])<|trivial;exact zz (Xg.k0 h) hp
def AAu(fuel:Nat)(a3:W1):Option Int:=(ABi fuel a3).bind λ(x5,x6)=>if(!x6)=true then some 3 else if 8<x5 then some 3 else(AAg fuel a3).bind λAd=>if(!Ad)=true then some 4 else(ABz fuel a3).bind λx30=>if(!x30)=true then some 5 else some 0
theorem AOi{r:Int}(H2:Zv cZ h Aa a3)(hp:AAu fuel a3=some r):W6 Tryz.prog 28 #[Aa] h λx h'=>Ext h h'/\x=.int .i64 r:=by unfold AAu at hp;refine cwf (l:=[_]) Tryz.func28 rfl rfl ?_;exact zz (Xg.k0 h) hp
def Zo(fuel:Nat)(a3 a7:W1):Option W1:=(AAf fuel a7).bind λ(x9,Af)=>(Y3 fuel x9 a3).bind λAd=>(Y3 fuel Ad a7).bind λAe=>some Ae
theorem ANz{a7 r:W1}(H2:Zv cZ h Aa a3)(H6:Zv cZ h Ac a7)(hp:Zo fuel a3 a7=some r):W6 Tryz.prog 33 #[Aa,Ac] h λx h'=>Ext h h'/\∃(x0:aa)(F0:List Nat)(Ag:List LnA)(Ah:List aa),x=x0/\Yv cZ 56 32 h' F0 Ag Ah x0 r/\Sp h' h.size [F0]:=by unfold Zo at hp;refine cwf (l:=[_,_]) Tryz.func33 rfl rfl ?_;exact zz (Xg.k0 h) hp
abbrev AKc(fuel:Nat)(a6:Int)(Ab:Ys)(Ac:Ys)(Aa:Int):Option (Ys×Ys×Int⊕Ys×Ys):=if Aa<a6 then if Ab.length<=100000000 then if Ac.length<=100000000 then some<|ai (Ab++[Aa],Ac++[Aa],W3<|Aa+1)else none else none else some<|ae<|(Ab,Ac)
def AAi(fuel:Nat)(a3:W1)(a5 a6:Int):Option Int:=(iter (λs=>AKc fuel a6 s.1 s.2.1 s.2.2) fuel ([],[],0)).bind λ((Ab,Ac):Ys×Ys)=>if Ab.length<=100000000 then if Ac.length<=100000000 then(ABj fuel a3 (Ab++[a5])<|Ac++[a6]).bind λAf=>(Yj fuel Af).bind λAg=>some Ag else none else none 
theorem APh{a6 r:Int}(H2:Zv cZ h Aa a3)(hp:AAi fuel a3 a5 a6=some r):W6 Tryz.prog 83 #[Aa,.int .i64 a5,.int .i64 a6] h λx h'=>Ext h h'/\∃(x0:aa),x=x0/\ZZ h' x0 r:=by unfold AAi at hp;refine cwf (l:=[_,_,_]) Tryz.func83 rfl rfl ?_;have ss:=ia (lz 0 8388480 [.N 0 3,.N 0 3,.P 1 7,.P 0 8,.i 9])<|trivial;exact zz (Xg.k0 h) hp
def Y4(fuel:Nat)(a3:Ys)(a5:Int):Option Int:=if a5=0 then(AGc fuel 1).bind λAc=>some Ac else(gI a3<|W3<|a5-1).bind λx30=>some x30
theorem AQt{a3:Ys}{r:Int}(H2:SlC cZ h Aa a3)(hp:Y4 fuel a3 a5=some r):W6 Tryz.prog 84 #[Aa,.int .i64 a5] h λx h'=>Ext h h'/\∃(x0:aa),x=x0/\ZZ h' x0 r:=by unfold Y4 at hp;refine cwf (l:=[_,_]) Tryz.func84 rfl rfl ?_;exact zz (Xg.k0 h) hp
def ADg(fuel:Nat)(a3:W1)(a7:Ys)(a9 Aa:Int):Option Bool:=(AGc fuel 2).bind λAe=>(AAi fuel a3 a9 Aa).bind λx20=>(Ap4 fuel x20).bind λAf=>(AN6 fuel Ae Af).bind λAg=>(Y4 fuel a7<|W3<|Aa+1).bind λAh=>(Afr fuel Ag Ah).bind λAi=>some<|decide (Ai<=0)
theorem AQs{a7:Ys}{Af:Int}{r:Bool}(H2:Zv cZ h Aa a3)(H6:SlC cZ h Ac a7)(hp:ADg fuel a3 a7 a9 Af=some r):W6 Tryz.prog 79 #[Aa,Ac,.int .i64 a9,.int .i64 Af] h λx h'=>Ext h h'/\x=.bool r:=by unfold ADg at hp;refine cwf (l:=[_,_,_,_]) Tryz.func79 rfl rfl ?_;exact zz (Xg.k0 h) hp
def ADh(fuel:Nat)(a3:W1):Option Bool:=(Yj fuel a3).bind λx5=>(AGc fuel 10000).bind λAc=>(Afr fuel x5 Ac).bind λAd=>some<|decide (Ad<=0)
theorem AQu{r:Bool}(H2:Zv cZ h Aa a3)(hp:ADh fuel a3=some r):W6 Tryz.prog 29 #[Aa] h λx h'=>Ext h h'/\x=.bool r:=by unfold ADh at hp;refine cwf (l:=[_]) Tryz.func29 rfl rfl ?_;exact zz (Xg.k0 h) hp
abbrev ALb(fuel:Nat)(a1:Int)(a2:Bool)(Aa:Int)(Ac:W1):Option (Int×W1⊕W1):=if Aa<((ab (ax a1) ([]:List Int)).length:Int)then if 0<=a1/\a1<=100000000 then(gI Ac Aa).bind λAi=>(gI (sI Ac Aa<|ab (ax a1) (0:Int)) Aa).bind λAe=>(gI Ae Aa).bind λAj=>(if a2=true then if Aa=(W3<|a1-1)then if 3<a1 then some<|W3<|Aa-2 else some<|W3<|Aa-1 else some<|W3<|Aa-1 else some<|W3<|Aa-1:Option Int).bind λ(Ad:Int)=>if 0<=Ad then(gI (sI (sI Ac Aa<|ab (ax a1) (0:Int)) Aa<|sI Ae Aa 2) Aa).bind λAf=>(gI (sI (sI Ac Aa<|ab (ax a1) (0:Int)) Aa<|sI Ae Aa 2) Ad).bind λAk=>(gI Af Ad).bind λAm=>(gI (sI (sI (sI Ac Aa<|ab (ax a1) (0:Int)) Aa<|sI Ae Aa 2) Aa<|sI Af Ad<|-1) Ad).bind λAg=>(gI Ag Aa).bind λAo=>some<|ai (W3<|Aa+1,sI (sI (sI (sI Ac Aa<|ab (ax a1) (0:Int)) Aa<|sI Ae Aa 2) Aa<|sI Af Ad<|-1) Ad<|sI Ag Aa<|-1)else some<|ai (W3<|Aa+1,sI (sI Ac Aa<|ab (ax a1) (0:Int)) Aa<|sI Ae Aa 2)else none else some<|ae<|Ac 
def AB9(fuel:Nat)(a1:Int)(a2:Bool):Option W1:=if 0<=a1/\a1<=100000000 then(iter (λs=>ALb fuel a1 a2 s.1 s.2) fuel (0,ab (ax a1) ([]:List Int))).bind λ(Ac:W1)=>some Ac else none
theorem ARj{a2:Bool}{r:W1}(hp:AB9 fuel a1 a2=some r):W6 Tryz.prog 36 #[.int .i64 a1,.bool a2] h λx h'=>Ext h h'/\∃(x0:aa)(F0:List Nat)(Ae:List LnA)(Af:List aa),x=x0/\Yv (cI .i64) 76 2 h' F0 Ae Af x0 r/\Sp h' h.size [F0]:=by unfold AB9 at hp;refine cwf (l:=[_,_]) Tryz.func36 rfl rfl ?_;have ss:=ia (lz 0 72057594037924032 [.i 12,.m 0])<|ia (lz 1 2198754820224 [.s [1],.i 7])<|trivial;exact zz (Xg.k0 h) hp
def AEk(fuel:Nat)(a3:W1):Option Bool:=(Yw fuel a3).bind λx5=>(AAu fuel x5).bind λAc=>if Ac=0 then(Yj fuel x5).bind λAd=>(AGc fuel 10000).bind λAe=>(Afr fuel Ad Ae).bind λAf=>some (decide (Af<=0))else some false
theorem ASh{r:Bool}(H2:Zv (cI .i64) h Aa a3)(hp:AEk fuel a3=some r):W6 Tryz.prog 39 #[Aa] h λx h'=>Ext h h'/\x=.bool r:=by unfold AEk at hp;refine cwf (l:=[_]) Tryz.func39 rfl rfl ?_;exact zz (Xg.k0 h) hp
abbrev AL3(fuel:Nat)(Ab:Int)(Aa:Int):Option (Int×Int⊕Int):=(AZh fuel Aa).bind λAc=>if¬Ac=0 then(AEh fuel Ab Aa).bind λAd=>some<|ai (Aa,Ad)else some<|ae<|Ab 
def AEl(fuel:Nat)(a1 a5:Int):Option Int:=(Ap4 fuel a1).bind λAc=>(Ap4 fuel a5).bind λAd=>(iter (λs=>AL3 fuel s.1 s.2) fuel (Ac,Ad)).bind λ(Ae:Int)=>some Ae 
theorem ASi{r:Int}(H3:ZZ h Aa a1)(H7:ZZ h Ac a5)(hp:AEl fuel a1 a5=some r):W6 Tryz.prog 201 #[Aa,Ac] h λx h'=>Ext h h'/\∃(x0:aa),x=x0/\ZZ h' x0 r:=by unfold AEl at hp;obtain⟨Ah,rfl,Ai⟩:=H3.cs;obtain⟨Aj,rfl,Ak⟩:=H7.cs;refine cwf (l:=[_,_]) Tryz.func201 rfl rfl ?_;have ss:=ia (fl 5 4 2 2)<|ia (lz 0 260096 [.s [0,1,2,3,4],.z 1 2,.z 0 3])<|trivial;exact zz (Xg.k0 h) hp
def AC8(fuel:Nat)(a1 a5:Int):Option ((Int×Int)×Bool):=(AZh fuel a5).bind λx30=>if x30=0 then some ((0,0),false)else((AZh fuel a5).bind λAf=>if Af<0 then(Aju fuel a1).bind λAg=>(Aju fuel a5).bind λAh=>some (Ag,Ah)else some (a1,a5):Option (Int×Int)).bind λ((Ac,Ad):Int×Int)=>(AEl fuel Ac Ad).bind λAe=>(Zw fuel Ac Ae).bind λAi=>(Zw fuel Ad Ae).bind λAj=>some ((Ai,Aj),true)
theorem ASm{r:(Int×Int)×Bool}(H3:ZZ h Aa a1)(H7:ZZ h Ac a5)(hp:AC8 fuel a1 a5=some r):W6 Tryz.prog 168 #[Aa,Ac] h λx h'=>Ext h h'/\∃(x0:aa),x=.tuple #[x0,.bool r.2]/\AWg h' x0 r.1.1 r.1.2:=by unfold AC8 at hp;obtain⟨Ah,rfl,Ai⟩:=H3.cs;obtain⟨Aj,rfl,Ak⟩:=H7.cs;refine cwf (l:=[_,_]) Tryz.func168 rfl rfl ?_;have ss:=ia (lz 1 260096 [.Z 2 3,.Z 1 1])<|trivial;exact zz (Xg.k0 h) hp
def AIl(fuel:Nat)(a1:Int):Option (Int×Int):=(AJi fuel a1).bind λAb=>(AGc fuel 1).bind λAc=>some (Ab,Ac)
theorem AQo{r:Int×Int}(H3:ZZ h Aa a1)(hp:AIl fuel a1=some r):W6 Tryz.prog 202 #[Aa] h λx h'=>Ext h h'/\∃(x0:aa),x=x0/\AWg h' x0 r.1 r.2:=by unfold AIl at hp;obtain⟨Ae,rfl,Af⟩:=H3.cs;refine cwf (l:=[_]) Tryz.func202 rfl rfl ?_;exact zz (Xg.k0 h) hp
def AIm(fuel:Nat)(a1:Int):Option (Int×Int):=(AGc fuel a1).bind λx9=>(AIl fuel x9).bind λAa=>some (Aa.1,Aa.2)
theorem AQn{r:Int×Int}(hp:AIm fuel a1=some r):W6 Tryz.prog 169 #[.int .i64 a1] h λx h'=>Ext h h'/\∃(x0:aa),x=x0/\AWg h' x0 r.1 r.2:=by unfold AIm at hp;refine cwf (l:=[_]) Tryz.func169 rfl rfl ?_;exact zz (Xg.k0 h) hp
def Y5(fuel:Nat)(a3 a5:Int):Option (Int×Int):=(AC8 fuel a3 a5).bind λ(x21,Ad)=>if(!Ad)=true then(AIm fuel 0).bind λAa=>some (Aa.1,Aa.2)else some (x21.1,x21.2)
theorem ANw{a3:Int}{r:Int×Int}(H2:AWg h Aa a3 a5)(hp:Y5 fuel a3 a5=some r):W6 Tryz.prog 138 #[Aa] h λx h'=>Ext h h'/\∃(x0:aa),x=x0/\AWg h' x0 r.1 r.2:=by unfold Y5 at hp;obtain⟨Af,Ag,rfl,H2z0,H2z1⟩:=H2;refine cwf (l:=[_]) Tryz.func138 rfl rfl ?_;exact zz (Xg.k0 h) hp
def AB0(fuel:Nat)(a1 a5:Int):Option (Int×Int):=(Y5 fuel a1 a5).bind λx30=>some (x30.1,x30.2)
theorem AOe{r:Int×Int}(H3:ZZ h Aa a1)(H7:ZZ h Ac a5)(hp:AB0 fuel a1 a5=some r):W6 Tryz.prog 82 #[Aa,Ac] h λx h'=>Ext h h'/\∃(x0:aa),x=x0/\AWg h' x0 r.1 r.2:=by unfold AB0 at hp;obtain⟨Ah,rfl,Ai⟩:=H3.cs;obtain⟨Aj,rfl,Ak⟩:=H7.cs;refine cwf (l:=[_,_]) Tryz.func82 rfl rfl ?_;exact zz (Xg.k0 h) hp
def AFq(fuel:Nat):Option (Int×Int):=(AGc fuel 1).bind λx8=>(AGc fuel 2).bind λAb=>some (x8,Ab)
theorem ARk{r:Int×Int}(hp:AFq fuel=some r):W6 Tryz.prog 137 #[] h λx h'=>Ext h h'/\∃(x0:aa),x=x0/\AWg h' x0 r.1 r.2:=by unfold AFq at hp;refine cwf (l:=[]) Tryz.func137 rfl rfl ?_;exact zz (Xg.k0 h) hp
def AGd(fuel:Nat)(a3 a5 a9 Ag:Int):Option (Int×Int):=(Y5 fuel a3 a5).bind λAa=>(Y5 fuel a9 Ag).bind λAb=>(AN6 fuel Aa.1 Ab.2).bind λAh=>(AN6 fuel Ab.1 Aa.2).bind λAi=>(Apm fuel Ah Ai).bind λAj=>(AN6 fuel Aa.2 Ab.2).bind λAk=>(AC8 fuel Aj Ak).bind λ(Ac,Am)=>some (Ac.1,Ac.2)
theorem ASl{a3:Int}{Ad:aa}{Af:Int}{r:Int×Int}(H2:AWg h Aa a3 a5)(H8:AWg h Ad a9 Af)(hp:AGd fuel a3 a5 a9 Af=some r):W6 Tryz.prog 136 #[Aa,Ad] h λx h'=>Ext h h'/\∃(x0:aa),x=x0/\AWg h' x0 r.1 r.2:=by unfold AGd at hp;obtain⟨Aj,Ak,rfl,H2z0,H2z1⟩:=H2;obtain⟨Am,Ao,rfl,H8z0,H8z1⟩:=H8;refine cwf (l:=[_,_]) Tryz.func136 rfl rfl ?_;have ss:=ia (fl 5 4 2 4)<|ia (fl 7 20 1 6)<|trivial;exact zz (Xg.k0 h) hp
def AE9(fuel:Nat)(a3 a5:Int):Option Int:=(Y5 fuel a3 a5).bind λx21=>(Zw fuel x21.1 x21.2).bind λAc=>some Ac
theorem AQm{a3 r:Int}(H2:AWg h Aa a3 a5)(hp:AE9 fuel a3 a5=some r):W6 Tryz.prog 135 #[Aa] h λx h'=>Ext h h'/\∃(x0:aa),x=x0/\ZZ h' x0 r:=by unfold AE9 at hp;obtain⟨Af,Ag,rfl,H2z0,H2z1⟩:=H2;refine cwf (l:=[_]) Tryz.func135 rfl rfl ?_;exact zz (Xg.k0 h) hp
def ACa(fuel:Nat)(a3 a5:Int):Option Int:=(AFq fuel).bind λAa=>(AGd fuel a3 a5 Aa.1 Aa.2).bind λAb=>(AE9 fuel Ab.1 Ab.2).bind λAe=>some Ae
theorem AO2{a3 r:Int}(H2:AWg h Aa a3 a5)(hp:ACa fuel a3 a5=some r):W6 Tryz.prog 81 #[Aa] h λx h'=>Ext h h'/\∃(x0:aa),x=x0/\ZZ h' x0 r:=by unfold ACa at hp;obtain⟨Af,Ag,rfl,H2z0,H2z1⟩:=H2;refine cwf (l:=[_]) Tryz.func81 rfl rfl ?_;exact zz (Xg.k0 h) hp
def ACt(fuel:Nat)(a3:W1)(a7:Ys)(a9:Int):Option Bool:=(AAi fuel a3 a9<|W3<|a9-1).bind λAc=>(AGc fuel 4).bind λAe=>(Y4 fuel a7<|W3<|a9-1).bind λAf=>(Y4 fuel a7<|W3<|a9+1).bind λAg=>(AN6 fuel Af Ag).bind λAh=>(AN6 fuel Ac Ac).bind λAi=>(Apm fuel Ah Ai).bind λAj=>(AN6 fuel Ae Aj).bind λAk=>(AGc fuel 3).bind λAm=>(Y4 fuel a7 a9).bind λAo=>(Y4 fuel a7 a9).bind λAp=>(AN6 fuel Ao Ap).bind λAq=>(AN6 fuel Am Aq).bind λAr=>(Afr fuel Ak Ar).bind λAu=>some<|decide (0<=Au)
theorem APi{a7:Ys}{r:Bool}(H2:Zv cZ h Aa a3)(H6:SlC cZ h Ac a7)(hp:ACt fuel a3 a7 a9=some r):W6 Tryz.prog 85 #[Aa,Ac,.int .i64 a9] h λx h'=>Ext h h'/\x=.bool r:=by unfold ACt at hp;refine cwf (l:=[_,_,_]) Tryz.func85 rfl rfl ?_;have ss:=ia (fl 8 15 1 7)<|trivial;exact zz (Xg.k0 h) hp
abbrev ALc(fuel:Nat)(a3:W1)(x5:Ys)(Ab:Int)(Aa:Int)(Ac:W1):Option (Int×W1⊕W1×Bool⊕W1):=if 0<=Aa then(ADg fuel a3 x5 Ab Aa).bind λAh=>if(!Ah)=true then(gI Ac Aa).bind λAf=>(AAi fuel a3 Ab Aa).bind λAi=>(Y4 fuel x5<|W3<|Aa+1).bind λAj=>(AB0 fuel Ai Aj).bind λAg=>(ACa fuel Ag.1 Ag.2).bind λAk=>(Aju fuel Ak).bind λAm=>(gI Af Ab).bind λAo=>some<|ae<|ai<|(sI Ac Aa<|sI Af Ab Am,true)else some<|ai (W3<|Aa-1,Ac)else some<|ae<|ae<|Ac 
abbrev ALd(fuel:Nat)(a3:W1)(x5:Ys)(Aa:Int)(Ae:W1):Option (Int×W1⊕W1×Bool⊕Unit):=if Aa<(a3.length:Int)then(iter (λs=>ALc fuel a3 x5 Aa s.1 s.2) fuel (W3<|Aa-1,Ae)).bind λex=>match ex with|ai Af=>some<|ae<|ai<|Af|ae Ab=>if 0<Aa then(ACt fuel a3 x5 Aa).bind λAg=>if(!Ag)=true then(gI Ab<|W3<|Aa-1).bind λAh=>(gI Ab Aa).bind λAi=>some<|ae<|ai<|(sI (sI Ab Aa Ah) (W3<|Aa-1) Ai,true)else some<|ai (W3<|Aa+1,Ab)else some<|ai (W3<|Aa+1,Ab)else some<|ae<|ae<|()
def ADx(fuel:Nat)(a3:W1):Option (W1×Bool):=(AA7 fuel a3).bind λ(x5,x6)=>(AAt fuel (a3.length:Int)).bind λ(Ac,x20)=>(iter (λs=>ALd fuel a3 x5 s.1 s.2) fuel (0,Ac)).bind λex=>match ex with|.inl Ad=>some Ad|.inr _=>some ([],false)
theorem ARn{r:W1×Bool}(H2:Zv cZ h Aa a3)(hp:ADx fuel a3=some r):W6 Tryz.prog 31 #[Aa] h λx h'=>Ext h h'/\∃(x0:aa)(F0:List Nat)(Ae:List LnA)(Af:List aa),x=.tuple #[x0,.bool r.2]/\Yv cZ 56 32 h' F0 Ae Af x0 r.1/\Sp h' h.size [F0]:=by unfold ADx at hp;refine cwf (l:=[_]) Tryz.func31 rfl rfl ?_;have ss:=ia (lz 0 9671406556917033389261580 [.i 23,.m 0])<|ia (lz 0 72057593769493004 [.i 9,.m 0])<|trivial;exact zz (Xg.k0 h) hp
abbrev AKd(fuel:Nat)(Aa:W1)(Ab:W1):Option (W1×W1⊕W1×W1×Int):=(ADx fuel Aa).bind λ(Ac,Ad)=>if(!Ad)=true then(ACs fuel Aa).bind λ(Ae,Ah)=>some<|ae<|(Ae,Ab,0)else(Zo fuel Aa Ac).bind λAf=>(Y3 fuel Ab Ac).bind λAg=>some<|ai (Af,Ag)
def ABk(fuel:Nat)(a3:W1):Option (W1×W1×Int):=(AAu fuel a3).bind λx5=>if¬x5=0 then some ([],[],x5)else(ADh fuel a3).bind λAc=>if(!Ac)=true then some ([],[],7)else(Zg fuel a3).bind λx31=>(AAt fuel (a3.length:Int)).bind λ(Ad,Af)=>(iter (λs=>AKd fuel s.1 s.2) fuel (x31,Ad)).bind λ(Ae:W1×W1×Int)=>some Ae 
theorem APj{r:W1×W1×Int}(H2:Zv cZ h Aa a3)(hp:ABk fuel a3=some r):W6 Tryz.prog 11 #[Aa] h λx h'=>Ext h h'/\∃(x0:aa)(F0:List Nat)(Ag:List LnA)(Ah:List aa)(x1:aa)(F1:List Nat)(Ai:List LnA)(Aj:List aa),x=.tuple #[x0,x1,.int .i64 r.2.2]/\Yv (cI .i64) 76 2 h' F0 Ag Ah x0 r.1/\Yv cZ 56 32 h' F1 Ai Aj x1 r.2.1/\Sp h' h.size [F0,F1]:=by unfold ABk at hp;refine cwf (l:=[_]) Tryz.func11 rfl rfl ?_;have ss:=ia (lz 0 562949416558300 [.V 1 6,.V 0 7])<|trivial;exact zz (Xg.k0 h) hp
end Go.Proofs.YtgmdhndbcohgiaaGreatDoor
namespace Go.QF
def Ok{α:Type}(o:Option α)(Q:α->Prop):Prop:=∃r,o=some r/\Q r
theorem Wt{a:α}{Q:α->Prop}(h:Q a):Ok (some a) Q:=⟨a,rfl,h⟩
theorem Wv{o:Option α}{f:α->Option β}{Q:α->Prop}{R:β->Prop}(h:Ok o Q)(k:∀x,Q x->Ok (f x) R):Ok (o.bind f) R:=by obtain⟨x,rfl,hx⟩:=h;exact k x hx
theorem Xa{c:Prop}[Decidable c]{a b:Option α}{R:α->Prop}(ht:c->Ok a R)(hf:¬c->Ok b R):Ok (if c then a else b) R:=by grind
theorem Yi{c:Prop}[Decidable c]{a:Option α}{R:α->Prop}(hc:c)(h:Ok a R):Ok (if c then a else none) R:=by grind
theorem ok_eq{o:Option α}{a:α}(h:Ok o (·=a)):o=some a:=by obtain⟨x,h1,rfl⟩:=h;exact h1
theorem Yc{o:Option α}{a:α}(h:o=some a):Ok o (·=a):=⟨a,h,rfl⟩
theorem Xc{L:List α}{i:Int}{n:Nat}{x:α}{f:α->Option β}{R:β->Prop}(hx:L[n]?=some x)(hi:i=n)(k:Ok (f x) R):Ok ((gI L i).bind f) R:=by subst hi;unfold gI;grind
theorem Xv{body:S->Option (S⊕E)}{s0:S}(I:Nat->S->Prop)(n:Nat){Q:E->Prop}(h0:I 0 s0)(hf:n<fuel)(hs:∀i s,i<=n->I i s->Ok (body s) λr=>match r with|.inl s'=>i<n/\I (i+1) s'|.inr e=>Q e):Ok (iter body fuel s0) Q:=by
 have key:∀k fuel i s,n-i=k->k<fuel->i<=n->I i s->Ok (iter body fuel s) Q:=by intro k;induction k with
  |zero=>intro fuel i s hk hf hi hI;obtain⟨r,hr,hq⟩:=hs i s hi hI;cases fuel with|zero=>omega|succ f=>cases r with|inl s'=>omega|inr e=>exact⟨e,by simp[iter,hr],hq⟩
  |succ k ih=>intro fuel i s hk hf hi hI;obtain⟨r,hr,hq⟩:=hs i s hi hI;cases fuel with
    |zero=>omega|succ f=>cases r with
      |inl s'=>obtain⟨e,he,hQ⟩:=ih f (i+1) s' Wq Wq Wq hq.2;exact⟨e,by simp[iter,hr,he],hQ⟩|inr e=>exact⟨e,by simp[iter,hr],hq⟩
 grind
theorem Zh{x:Int}(h1:-9223372036854775808<=x)(h2:x<=9223372036854775807):W3 x=x:=by show IntKind.i64.wrap x=x;rw[IntKind.wrap_i64];omega
theorem wk{x:Int}(h:-9223372036854775808<=x/\x<=9223372036854775807):W3 x=x:=Zh h.1 h.2
def Yy{α:Type}(m:Nat)(f:Nat->α):List α:=(aw m).map f
theorem X5(m:Nat)(f:Nat->α):(Yy m f).length=m:=by simp[Yy]
theorem Xb{m:Nat}{f:Nat->α}(h:j<m):(Yy m f)[j]?=some (f j):=by simp[Yy,h]
theorem Yd{m:Nat}{f g:Nat->α}(h:∀j,j<m->f j=g j):Yy m f=Yy m g:=by unfold Yy;simp_all
theorem AAd{m:Nat}{f:Nat->α}{x:α}:(Yy m f).set j x=Yy m λc=>if c=j then x else f c:=by
 apply cC;intro i;rw[List.getElem?_set];by_cases h:j=i
 .subst h;simp only[if_true,X5];by_cases hj:j<m;.simp[hj,Xb hj]
  .simp[hj,Yy]
 .rw[if_neg h];by_cases hi:i<m;.rw[Xb hi,Xb hi,if_neg λhe=>h he.symm]
  .simp[Yy,hi]
theorem AMr(m:Nat)(f:Nat->α):Yy m f++[f m]=Yy (m+1) f:=by simp[Yy,List.range_succ]
theorem ACb(m:Nat)(a:α):ab m a=Yy m λ_=>a:=by
 apply cC;intro i;by_cases h:i<m;.rw[Xb h];simp[h]
 .simp[Yy,h]
theorem ANd(r c:Nat)(F:Wz):Xw r c F=Yy r λi=>Yy c (F i):=rfl
theorem Xx{c:Nat}{F:Wz}(h:i<r):(Xw r c F)[i]?=some (Yy c<|F i):=Xb (f:=λi=>Yy c<|F i) h
theorem Awe{c:Nat}{F:Wz}{x:Int}:(Xw r c F).set i (Yy c λq=>if q=j then x else F i q)=Xw r c (Ym F i λq=>if q=j then x else F i q):=AGl
theorem Yl(L:List α)(n:Nat)(x:α):sI L (n:Int) x=L.set n x:=by simp[sI]
theorem AU9(F:Wz)(i:Nat)(f g:Nat->Int):Ym (Ym F i f) i g=Ym F i g:=by
 funext k;by_cases h:k=i;.subst h;rw[Yu,Yu]
 .rw[ACo _ _ h,ACo _ _ h,ACo _ _ h]
theorem AMs(F:Wz)(i:Nat):Ym F i (F i)=F:=by
 funext k;by_cases h:k=i;.subst h;rw[Yu]
 .rw[ACo _ _ h]
theorem AEm(f g:Nat->Int)(n:Nat):psum (λi=>f i+g i) n=psum f n+psum g n:=by induction n with|zero=>rfl|succ n ih=>simp only[psum];rw[ih];omega
theorem Yx(c:Int)(f:Nat->Int)(n:Nat):psum (λi=>c*f i) n=c*psum f n:=by induction n with|zero=>simp[psum]|succ n ih=>simp only[psum];grind
theorem Y8(n:Nat):psum (λ_=>0) n=0:=by induction n with|zero=>rfl|succ n ih=>simp only[psum];rw[ih];rfl
theorem AIh(f:Wz)(n m:Nat):psum (λi=>psum (λj=>f i j) m) n=psum (λj=>psum (λi=>f i j) n) m:=by induction n with
 |zero=>simp only[psum];exact(Y8 m).symm|succ n ih=>
   simp only[psum];rw[ih,<-AEm]
theorem Awf{f g:Nat->Int}{n a:Nat}(ha:a<n)(h:∀i,i≠a->g i=f i):psum g n=psum f n+(g a-f a):=by induction n with|zero=>omega|succ n ih=>
   simp only[psum];by_cases hn:a=n;.subst hn;rw[Wy (f:=g) (g:=f) λk hk=>h k Wq];omega
   grind
theorem ADy{f:Nat->Int}{n a:Nat}(ha:a<n)(h:∀i,i≠a->f i=0):psum f n=f a:=by rw[Awf (f:=λ_=>0) ha h,Y8];omega
def Xp(m a b:Int):Prop:=a%m=b%m
theorem Xp.refl(m a:Int):Xp m a a:=rfl
theorem Xp.of_eq{m b:Int}(h:a=b):Xp m a b:=h▸rfl
theorem Xp.symm{m a b:Int}(h:Xp m a b):Xp m b a:=Eq.symm h
theorem Xp.trans{m a b c:Int}(h:Xp m a b)(k:Xp m b c):Xp m a c:=Eq.trans h k
theorem Xp.add{m b c:Int}(h:Xp m a b)(k:Xp m c d):Xp m (a+c) (b+d):=by unfold Xp at*;rw[df,h,k,<-df]
theorem Xp.sub{m b c:Int}(h:Xp m a b)(k:Xp m c d):Xp m (a-c) (b-d):=by unfold Xp at*;rw[cY,h,k,<-cY]
theorem Xp.mul{m b c:Int}(h:Xp m a b)(k:Xp m c d):Xp m (a*c) (b*d):=by unfold Xp at*;rw[de,h,k,<-de]
theorem Xp.mod(m a:Int):Xp m (a%m) a:=Int.emod_emod_of_dvd a<|Int.dvd_refl m
theorem Xp.psum{m:Int}{f g:Nat->Int}{n:Nat}(h:∀i,i<n->Xp m (f i) (g i)):Xp m (psum f n) (psum g n):=by induction n with|zero=>rfl|succ n ih=>exact(ih λi hi=>h i Wq).add (h n Wq)
theorem Xp.zero{m:Int}(h:Xp m a 0):a%m=0:=by simpa[Xp]using h
theorem Aso{m b:Int}(h:Xp m a b)(ha:0<=a/\a<m)(hb:0<=b/\b<m):a=b:=by unfold Xp at h;rwa[bw ha.1 ha.2,bw hb.1 hb.2]at h
theorem Akf{f:Nat->Int}(hk:k<=r)(h:∀i,k<=i->i<r->f i=0):psum f r=psum f k:=by induction r with
 |zero=>rw[Nat.le_zero.1 hk]|succ r ih=>
   rcases bP k (r+1)with h1|h1
   .simp only[psum];rw[ih Wq λi h2 h3=>h i h2 Wq,h r Wq Wq];omega
   .obtain rfl:k=r+1:=by omega
    rfl
def dl(a b:Nat):Int:=if a=b then 1 else 0
def skp(i a:Nat):Nat:=if a<i then a else a+1
def usk(i r:Nat):Nat:=if r<i then r else r-1
def sg(i:Nat):Int:=if i%2=0 then 1 else-1
theorem Ap5(i:Nat):sg (i+1)=-sg i:=by unfold sg;omega
theorem A7i(i a:Nat):skp i a≠i:=by unfold skp;split<;>omega
theorem Awg{a n:Nat}(ha:a<n):skp i a<n+1:=by unfold skp;split<;>omega
theorem A2c(h:r≠i):skp i (usk i r)=r:=by unfold usk;split<;>(unfold skp;split<;>omega)
theorem A2d{a:Nat}(h:skp i a=r):a=usk i r:=by unfold skp at h;unfold usk;grind
theorem Awh{n:Nat}(h:r≠i)(hi:i<n+1)(hr:r<n+1):usk i r<n:=by unfold usk;split<;>omega
theorem Xk(F:Wz)(a:Nat)(g:Nat->Int)(i j:Nat):Ym F a g i j=if i=a then g j else F i j:=by unfold Ym;split<;>rfl
theorem AJy(F:Wz)(a b i j:Nat):AB7 F a b i j=if i=b then F a j else if i=a then F b j else F i j:=by unfold AB7;rw[Xk,Xk]
def Zp(i:Nat)(F:Wz):Wz:=λa b=>F (skp i a)<|b+1
def det:Nat->Wz->Int|0,_=>1|n+1,F=>psum (λi=>sg i*F i 0*det n (Zp i F))<|n+1
theorem Xo:∀{n:Nat}{F G:Wz},(∀i j,i<n->j<n->F i j=G i j)->det n F=det n G:=by
 intro n;induction n with
 |zero=>intro _ _ _;rfl|succ n ih=>
   intro F G h;refine Wy λi hi=>?_;rw[h i 0 hi Wq,ih (F:=Zp i F) (G:=Zp i G) λa b ha hb=>h _ _ (Awg ha) Wq]
theorem ASq{F:Wz}{g:Nat->Int}(h:r≠i):Zp i (Ym F r g)=Ym (Zp i F) (usk i r) λb=>g<|b+1:=by
 funext a b;unfold Zp Ym;by_cases ha:skp i a=r;.rw[if_pos ha,if_pos<|A2d ha]
 .rw[if_neg ha,if_neg λhe=>ha<|by rw[he,A2c h]]
theorem ATd{F:Wz}{g:Nat->Int}:Zp i (Ym F i g)=Zp i F:=by funext a b;unfold Zp;rw[ACo _ _<|A7i i a]
theorem APu:∀{n:Nat}{F:Wz}{r:Nat}(u v:Nat->Int)(c d:Int),r<n->det n (Ym F r λq=>c*u q+d*v q)=c*det n (Ym F r u)+d*det n (Ym F r v):=by
 intro n;induction n with
 |zero=>omega|succ n ih=>
   intro F r u v c d hr;simp only[det];rw[<-Yx,<-Yx,<-AEm];refine Wy λi hi=>?_;by_cases h:r=i
   .subst h;simp only[ATd,Yu];grind
   .rw[ASq h,ASq h,ASq h,ACo _ _<|bh h,ACo _ _<|bh h,ACo _ _<|bh h,ih (λb=>u<|b+1) (λb=>v<|b+1) c d<|Awh h hi hr];grind
theorem Awi{f:Nat->Int}{n:Nat}(hr:r<n)(hs:s<n)(hrs:r≠s)(h:∀i,i<n->i≠r->i≠s->f i=0):psum f n=f r+f s:=by
 have h1:psum f n=psum (λi=>(if i=r then f r else 0)+if i=s then f s else 0) n:=Wy λi hi=>by grind
 rw[h1,AEm,ADy (f:=λi=>if i=r then f r else 0) hr λi hi=>if_neg hi,ADy (f:=λi=>if i=s then f s else 0) hs λi hi=>if_neg hi,if_pos rfl,if_pos rfl]
theorem Ap6:∀{n:Nat}{F:Wz}{r:Nat},r+1<n->(∀q,q<n->F r q=F (r+1) q)->det n F=0:=by
 intro n;induction n with
 |zero=>omega|succ n ih=>
   intro F r hr h;simp only[det];rw[Awi (r:=r) (s:=r+1) Wq Wq Wq]
   .have:det n (Zp r F)=det n (Zp (r+1) F):=Xo λa b ha hb=>by
     unfold Zp skp;grind
    rw[this,Ap5,h 0 Wq];grind
   .intro i hi h1 h2;rcases bP i r with hlt|hge
    .rw[ih (F:=Zp i F) (r:=r-1) Wq];.simp
     .intro q hq;unfold Zp skp;grind
    .rw[ih (F:=Zp i F) (r:=r) Wq];.simp
     .intro q hq;unfold Zp skp;grind
theorem AOm{F:Wz}{a b:Nat}(h:a≠b)(u v:Nat->Int):Ym (Ym F a u) b v=Ym (Ym F b v) a u:=by funext k;unfold Ym;grind
theorem Akg{n:Nat}{F:Wz}{a b:Nat}(ha:a<n)(hb:b<n)(hab:a≠b)(h0:∀G:Wz,G a=G b->det n G=0):det n (AB7 F a b)=-det n F:=by
 have key:∀u v:Nat->Int,det n (Ym (Ym F a u) b v)=-det n (Ym (Ym F a v) b u):=by intro u v;have h1:=h0 (Ym (Ym F a λq=>1*u q+1*v q) b λq=>1*u q+1*v q) (by rw[Yu,ACo _ _ hab,Yu]);rw[APu u v 1 1 hb,AOm hab,AOm hab,APu u v 1 1 ha,APu u v 1 1 ha,AOm<|bh hab,AOm<|bh hab,AOm<|bh hab,AOm<|bh hab]at h1;have h2:=h0 (Ym (Ym F a u) b u) (by rw[Yu,ACo _ _ hab,Yu]);have h3:=h0 (Ym (Ym F a v) b v) (by rw[Yu,ACo _ _ hab,Yu]);omega
 unfold AB7;rw[key (F b)<|F a,AMs];rw[show Ym F b (F b)=F from AMs F b]
theorem Ap7:∀{d n:Nat}{F:Wz}{a:Nat},a+d+1<n->F a=F (a+d+1)->det n F=0:=by
 intro d;induction d with
 |zero=>intro n F a hn h;exact Ap6 hn λq _=>by rw[h]|succ d ih=>
   intro n F a hn h;have h1:=Akg (n:=n) (F:=F) (a:=a+d+1) (b:=a+d+1+1) Wq Wq Wq λG hG=>Ap6 (r:=a+d+1) Wq λq _=>congrFun hG q;have h2:=ih (n:=n) (F:=AB7 F (a+d+1)<|a+d+1+1) (a:=a) Wq (by rw[AZc,Ack _ Wq Wq,h];rfl);omega
theorem ALe{n:Nat}{F:Wz}{a b:Nat}(ha:a<n)(hb:b<n)(hab:a≠b)(h:F a=F b):det n F=0:=by
 rcases bP a b with hlt|hge;.exact Ap7 (d:=b-a-1) (a:=a) Wq (by grind)
 .exact Ap7 (d:=a-b-1) (a:=b) Wq (by grind)
theorem AO6{n:Nat}{F:Wz}{a b:Nat}(ha:a<n)(hb:b<n)(hab:a≠b):det n (AB7 F a b)=-det n F:=Akg ha hb hab λ_ h=>ALe ha hb hab h
theorem AZs{n:Nat}{F:Wz}(u:Nat->Int)(c:Int)(hr:r<n):det n (Ym F r λq=>c*u q)=c*det n (Ym F r u):=by have:=APu (F:=F) u (λ_=>0) c 0 hr;grind
theorem AL4{n:Nat}{F:Wz}(hr:r<n)(h:∀q,q<n->F r q=0):det n F=0:=by
 have:=AZs (F:=F) (F r) 0 hr;rw[Int.zero_mul]at this;rw[<-this];exact Xo λi j hi hj=>by
  unfold Ym;split;.grind
  .rfl
theorem AJm{n:Nat}{F:Wz}{a b:Nat}(ha:a<n)(hb:b<n)(hab:a≠b)(q:Int):det n (Ym F a λx=>F a x+q*F b x)=det n F:=by have:=APu (F:=F) (F a) (F b) 1 q ha;rw[AMs,ALe (F:=Ym F a<|F b) ha hb hab<|by rw[Yu,ACo _ _<|bh hab]]at this;grind
theorem Adk{n:Nat}{F:Wz}(hr:r<n)(y:Nat->Int)(u:Wz):∀t,det n (Ym F r λq=>psum (λk=>y k*u k q) t)=psum (λk=>y k*det n (Ym F r<|u k)) t:=by
 intro t;induction t with
 |zero=>exact AL4 hr λq _=>by rw[Yu];rfl|succ t ih=>
   have:=APu (F:=F) (λq=>psum (λk=>y k*u k q) t) (u t) 1 (y t) hr;simp only[psum];grind
theorem Awj{n:Nat}{F:Wz}(hr:r<n)(y:Nat->Int):det n (Ym F r λq=>psum (λk=>y k*F k q) n)=y r*det n F:=by
 rw[Adk hr y F n,Wy (g:=λk=>if k=r then y r*det n F else 0),ADy hr λi hi=>if_neg hi,if_pos rfl];intro k hk;by_cases h:k=r;.subst h;rw[if_pos rfl,AMs]
 .rw[if_neg h,ALe (F:=Ym F r<|F k) hr hk (bh h)<|by rw[Yu,ACo _ _ h]];simp
def ABo(f:Nat->Int):Nat->Int|0=>1|n+1=>ABo f n*f n
theorem Aaq(f:Nat->Int)(n:Nat):ABo f (n+1)=f 0*ABo (λi=>f<|i+1) n:=by induction n with|zero=>simp[ABo]|succ n ih=>rw[ABo,ih,ABo];grind
theorem ANe{f g:Nat->Int}{n:Nat}(h:∀i,i<n->f i=g i):ABo f n=ABo g n:=by induction n with|zero=>rfl|succ n ih=>rw[ABo,ABo,ih λi hi=>h i Wq,h n Wq]
theorem ARp:∀{n:Nat}{F:Wz},Zc n F n->det n F=ABo (λi=>F i i) n:=by
 intro n;induction n with
 |zero=>intro _ _;rfl|succ n ih=>
   intro F h;rw[Aaq,det,Wy (g:=λi=>if i=0 then F 0 0*det n (Zp 0 F)else 0),ADy (a:=0) Wq λi hi=>if_neg hi,if_pos rfl]
   .rw[ih (F:=Zp 0 F) λc' i h1 h2 h3=>by unfold Zp skp;rw[if_neg Wq];exact h (c'+1) (i+1) Wq Wq Wq];rfl
   .intro i hi;by_cases h0:i=0;.subst h0;simp[sg]
    .rw[if_neg h0,h 0 i Wq Wq hi];simp
theorem AZt:∀{n:Nat}{F:Wz},(∀i j,i<j->j<n->F i j=0)->det n F=ABo (λi=>F i i) n:=by
 intro n;induction n with
 |zero=>intro _ _;rfl|succ n ih=>
   intro F h;rw[Aaq,det,Wy (g:=λi=>if i=0 then F 0 0*det n (Zp 0 F)else 0),ADy (a:=0) Wq λi hi=>if_neg hi,if_pos rfl]
   .rw[ih (F:=Zp 0 F) λi j h1 h2=>by unfold Zp skp;grind];rfl
   .intro i hi;by_cases h0:i=0;.subst h0;simp[sg]
    .rw[if_neg h0,AL4 (F:=Zp i F) (r:=0) Wq λq hq=>by unfold Zp skp;grind];simp
def AV3(F:Wz)(c i:Nat)(q:Int):Wz:=AB7 (Ym F c λx=>F c x+-q*F i x) c i
theorem Ap8(F:Wz){c:Nat}(q:Int):AV3 F c i q i=λx=>F c x+-q*F i x:=by unfold AV3;rw[Ajl,Yu]
theorem A2e(F:Wz){c:Nat}(h:c≠i)(q:Int):AV3 F c i q c=F i:=by unfold AV3;rw[AZc,ACo _ _<|bh h]
theorem Akh(F:Wz){c:Nat}(hc:k≠c)(hi:k≠i)(q:Int):AV3 F c i q k=F k:=by unfold AV3;rw[Ack _ hc hi,ACo _ _ hc]
theorem Awk{n:Nat}{F:Wz}{c:Nat}{q:Int}(H:Zc n F c)(hci:c<i)(hi:i<n):Zc n (AV3 F c i q) c:=by
 intro c' k h1 h2 h3;by_cases hk:k=i;.subst hk;rw[Ap8];simp[H c' c h1 h1 Wq,H c' k h1 h2 h3]
 .by_cases Ad:k=c;.subst Ad;rw[A2e F hk];exact H c' i h1 Wq hi
  .rw[Akh F Ad hk];exact H c' k h1 h2 h3
theorem Awl{F:Wz}{c:Nat}{q:Int}(H:Zi F c i):Zi (AV3 F c i q) c i:=by intro k h1 h2;rw[Akh F Wq Wq];exact H k h1 h2
theorem Ap9{n:Nat}{P:Wz->Prop}(hadd:∀F a b q,a<n->b<n->a≠b->P (Ym F a λx=>F a x+q*F b x)->P F)(hswap:∀F a b,a<n->b<n->a≠b->P (AB7 F a b)->P F)(htri:∀F,Zc n F n->P F):∀F,P F:=by
 have key:∀d c,c+d=n->∀F,Zc n F c->P F:=by intro d;induction d with|zero=>grind|succ d ih=>
    intro c hc;have inner:∀e i,i+e=n->c<i->∀F,Zc n F c->Zi F c i->P F:=by intro e;induction e with
     |zero=>
        intro i hi hci F hF hz;obtain rfl:i=n:=by omega
        exact ih (c+1) Wq F (Az1 hF hz)|succ e ihe=>
       intro i hi hci;have strong:∀k F,(F i c).natAbs=k->Zc n F c->Zi F c i->P F:=by intro k;induction k using Nat.strongRecOn with|_ k ihk=>
          intro F hk hF hz;by_cases h0:F i c=0;.exact ihe (i+1) Wq Wq F hF<|Az0 hz h0
          .refine hadd F c i (-(F c c/F i c)) Wq Wq Wq<|hswap _ c i Wq Wq Wq ?_;refine ihk ((AV3 F c i<|F c c/F i c) i c).natAbs ?_ (AV3 F c i<|F c c/F i c) rfl (Awk hF hci Wq) (Awl hz);rw[Ap8,<-hk];show(F c c+-(F c c/F i c)*F i c).natAbs<_;have h1:=co (F c c)<|F i c;have h2:F c c+-(F c c/F i c)*F i c=F c c%F i c:=by grind
           rw[h2];have h3:=Int.emod_nonneg (F c c) h0;have h4:=Int.emod_lt (F c c) h0;omega
       grind
    exactλF hF=>inner (n-(c+1)) (c+1) Wq Wq F hF λk h1 h2=>by omega
 exactλF=>key n 0 Wq F λc' i h=>by omega
def Xz(n:Nat)(A B:Wz):Wz:=λi j=>psum (λk=>A i k*B k j) n
theorem Awm{n:Nat}{B:Wz}{a b:Nat}{q:Int}:Xz n (Ym A a λx=>A a x+q*A b x) B=Ym (Xz n A B) a λx=>Xz n A B a x+q*Xz n A B b x:=by
 funext i j;unfold Xz Ym;by_cases h:i=a;.simp only[if_pos h];rw[<-Yx,<-AEm];grind
 simp_all
theorem Aki{n:Nat}{B:Wz}{a:Nat}{u:Nat->Int}:Xz n (Ym A a u) B=Ym (Xz n A B) a λx=>psum (λk=>u k*B k x) n:=by
 funext i j;unfold Xz Ym;by_cases h:i=a;.simp_all
 simp_all
theorem Asp{n:Nat}{B:Wz}{a b:Nat}:Xz n (AB7 A a b) B=AB7 (Xz n A B) a b:=by unfold AB7;rw[Aki,Aki];rfl
theorem ADf{n:Nat}(A B:Wz):det n (Xz n A B)=det n A*det n B:=by
 refine Ap9 (n:=n) (P:=λA=>det n (Xz n A B)=det n A*det n B) (λF a b q ha hb hab h=>?_) (λF a b ha hb hab h=>?_) (λF hF=>?_) A;.rw[Awm,AJm ha hb hab,AJm ha hb hab]at h;exact h
 .rw[Asp,AO6 ha hb hab,AO6 ha hb hab]at h;grind
 .rw[ARp hF];have key:∀j,j<=n->det n (λi=>if i<j then Xz n F B i else B i)=ABo (λi=>F i i) j*det n B:=by
   intro j;induction j with
   |zero=>intro _;simp[ABo]|succ j ih=>
     intro hj;rw[ABo,ce,bA<|F j j,<-ce,<-ih Wq,bA];rw[<-Awj (F:=λi=>if i<j then Xz n F B i else B i) (r:=j) Wq (F j)];refine Xo λi q hi hq=>?_;unfold Ym;by_cases h:i=j
     .subst h;simp only[if_pos<|Nat.lt_succ_self i,if_pos];unfold Xz;refine Wy λk hk=>?_;by_cases hlt:k<i;.rw[hF k i Wq hlt hi];simp
      grind
     grind
  rw[<-key n (bE _)];exact Xo λi j hi hj=>by rw[if_pos hi]
def trF(F:Wz):Wz:=λi j=>F j i
theorem ASr(n:Nat):det n dl=1:=by
 rw[ARp λc' i h1 h2 h3=>by unfold dl;omega];have:∀k,ABo (λi=>dl i i) k=1:=by
  intro k;induction k with|zero=>rfl|succ k ih=>rw[ABo,ih];simp[dl]
 exact this n
theorem Anr{n:Nat}{F:Wz}(hj:j<n):psum (λk=>F i k*dl k j) n=F i j:=by rw[ADy hj λk hk=>by unfold dl;grind];simp[dl]
theorem Ans{n:Nat}{F:Wz}{a:Nat}(y:Nat->Int)(ha:a<n):det n (trF<|Ym F a λx=>psum (λk=>y k*F k x) n)=det n (trF F)*det n (trF<|Ym dl a y):=by
 rw[<-ADf];refine Xo λi j hi hj=>?_;unfold Xz trF Ym;by_cases h:j=a;.simp only[if_pos h];grind
 .simp only[if_neg h];rw[ADy hj λk hk=>by unfold dl;grind];simp[dl]
theorem AEb{n:Nat}(F:Wz):det n (trF F)=det n F:=by
 refine Ap9 (n:=n) (P:=λF=>det n (trF F)=det n F) (λF a b q ha hb hab h=>?_) (λF a b ha hb hab h=>?_) (λF hF=>?_) F
 .rw[AJm ha hb hab]at h;rw[<-h];have h1:=Ans (n:=n) (F:=F) (a:=a) (λk=>dl k a+q*dl k b) ha;have h2:det n (trF<|Ym dl a λk=>dl k a+q*dl k b)=1:=by
   rw[<-ASr n,<-AJm (F:=dl) hb ha (bh hab) q];refine Xo λi j hi hj=>?_;clear h1 h;simp only[trF,Xk,dl];grind
  rw[h2,dh]at h1;rw[<-h1];refine Xo λi j hi hj=>?_;unfold trF Ym;by_cases hja:j=a;.simp only[if_pos hja];rw[Wy (g:=λk=>F k i*dl k a+q*(F k i*dl k b)) λk _=>by grind,AEm,Yx];rw[ADy (a:=a) ha λk hk=>by unfold dl;grind,ADy (a:=b) hb λk hk=>by unfold dl;grind];simp[dl]
  grind
 .rw[AO6 ha hb hab]at h;have h1:det n (trF<|AB7 F a b)=det n (trF F)*det n (AB7 dl a b):=by
   rw[<-ADf];refine Xo λi j hi hj=>?_;unfold Xz trF;have hsym:∀k,AB7 dl a b k j=if j=a then dl k b else if j=b then dl k a else dl k j:=by
    intro k;simp only[AJy,dl];grind
   rw[Wy (g:=λk=>F k i*dl k (if j=a then b else if j=b then a else j)) λk _=>by rw[hsym];grind];rw[ADy (a:=if j=a then b else if j=b then a else j) (by grind) λk hk=>by unfold dl;grind];simp only[dl,if_pos,dh];by_cases h3:j=a;.subst h3;rw[AZc,if_pos rfl]
   .rw[if_neg h3];by_cases h4:j=b;.subst h4;rw[Ajl,if_pos rfl]
    .rw[Ack _ h3 h4,if_neg h4]
  rw[AO6 ha hb hab,ASr]at h1;omega
 .rw[ARp hF,AZt (F:=trF F) λi j h1 h2=>hF i j Wq h1 h2];rfl
def shF(k:Nat)(F:Wz):Wz:=λi j=>F (k+i)<|k+j
theorem Afs{a:Nat}(h:i<k+1):skp i (k+a)=k+1+a:=by unfold skp;grind
theorem AOn:∀{k m:Nat}{T:Wz},(∀i j,k<=i->i<k+m->j<k->T i j=0)->det (k+m) T=det k T*det m (shF k T):=by intro k;induction k with
 |zero=>
   intro m T _;have e:shF 0 T=T:=by funext i j;simp[shF]
   rw[e,bN];simp[det]|succ k ih=>
   intro m T h;rw[show k+1+m=k+m+1 by omega];simp only[det];rw[Akf (k:=k+1) Wq λi h1 h2=>by grind];rw[bA,<-Yx];refine Wy λi hi=>?_;rw[ih (T:=Zp i T) (m:=m) λa b ha ha2 hb=>by obtain⟨c,rfl⟩:∃c,a=k+c:=⟨a-k,Wq⟩;unfold Zp;rw[Afs hi];grind];have e:shF k (Zp i T)=shF (k+1) T:=by funext a b;unfold shF Zp;rw[Afs hi,show k+b+1=k+1+b by omega]
   rw[e];grind
theorem Ahn{n:Nat}{F:Wz}(h:∀i,i<n+1->F i 0=0):det (n+1) F=0:=by simp only[det];rw[Wy (g:=λ_=>0) λi hi=>by grind];exact Y8 _
theorem APv{n:Nat}{F:Wz}{a b:Nat}(ha:a<n)(hb:b<n)(hab:a≠b)(h:∀i,F i a=F i b):det n F=0:=by rw[<-AEb];exact ALe ha hb hab (by funext i;exact h i)
theorem A2f(F:Wz):det 2 F=F 0 0*F 1 1-F 1 0*F 0 1:=by simp[det,psum,Zp,skp,sg];grind
def bro(k i r:Nat):Nat:=if r<k then r else i
def Mn(k:Nat)(A:Wz)(i j:Nat):Int:=det (k+1) λr c=>A (bro k i r)<|bro k j c
theorem AFr(A:Wz)(i j:Nat):Mn 0 A i j=A i j:=by simp[Mn,det,psum,bro,sg]
theorem AFa(k:Nat)(A:Wz):Mn k A k k=det (k+1) A:=by
 refine Xo λr c hr hc=>?_;have e:∀r,r<k+1->bro k k r=r:=λr hr=>by unfold bro;split<;>omega
 grind
theorem A43(A:Wz)(i:Nat)(hj:j<k):Mn k A i j=0:=by refine APv (a:=j) (b:=k) Wq Wq Wq λr=>?_;unfold bro;simp[hj]
def cof(k:Nat)(A:Wz)(i s:Nat):Int:=det (k+1)<|Ym (λc r=>A (bro k i r) c) k<|dl s
theorem AKq{n:Nat}(f:Nat->Int)(hq:q<n):psum (λs=>f s*dl s q) n=f q:=by rw[ADy hq λi hi=>by unfold dl;grind];simp[dl]
theorem A7j(k:Nat)(A:Wz)(i j:Nat):Mn k A i j=psum (λs=>cof k A i s*A s j) k+det k A*A i j:=by
 have h1:Mn k A i j=det (k+1) (Ym (λc r=>A (bro k i r) c) k λq=>psum (λs=>A (bro k i s) j*dl s q)<|k+1):=by
  unfold Mn;rw[<-AEb];refine Xo λc r hc hr=>?_;rw[Xk,AKq _ hr];unfold trF;split;.subst_vars;simp[bro]
  .have:c<k:=by omega
   simp[bro,this]
 rw[h1,Adk Wq];have hk:det (k+1) (Ym (λc r=>A (bro k i r) c) k<|dl k)=det k A:=by
  rw[AOn (k:=k) (m:=1) (T:=Ym (λc r=>A (bro k i r) c) k<|dl k) λa b h1 h2 h3=>by
   obtain rfl:a=k:=by omega
   rw[Xk,if_pos rfl];unfold dl;omega];have e1:det k (Ym (λc r=>A (bro k i r) c) k<|dl k)=det k A:=by
   rw[<-AEb];refine Xo λr c hr hc=>?_;unfold trF;rw[Xk,if_neg Wq];simp[bro,hr]
  have e2:det 1 (shF k<|Ym (λc r=>A (bro k i r) c) k<|dl k)=1:=by simp[det,psum,shF,sg,Xk,dl]
  grind
 show psum (λs=>A (bro k i s) j*det (k+1) (Ym (λc r=>A (bro k i r) c) k<|dl s)) k+A (bro k i k) j*det (k+1) (Ym (λc r=>A (bro k i r) c) k<|dl k)=_;rw[hk];congr 1;.refine Wy λs hs=>?_;show _=cof k A i s*A s j;unfold cof;rw[bA];simp[bro,hs]
 .simp[bro,bA]
theorem APw(f:Nat->Int)(k m:Nat):ABo f (k+m)=ABo f k*ABo (λi=>f<|k+i) m:=by induction m with|zero=>simp[ABo]|succ m ih=>rw[<-cb];simp only[ABo];rw[ih];grind
theorem AVa{f:Nat->Int}:∀{n:Nat},(∀i,i<n->f i=1)->ABo f n=1|0,_=>rfl|n+1,h=>by rw[ABo,AVa λi hi=>h i Wq,h n Wq];rfl
theorem Akj{f:Nat->Int}:∀{n:Nat},(∀i,i<n->f i≠0)->ABo f n≠0|0,_=>by simp[ABo]|n+1,h=>by rw[ABo];exact Int.mul_ne_zero (Akj λi hi=>h i Wq)<|h n Wq
def ATs(k:Nat)(A:Wz)(ρ:Nat->Nat):Wz:=λr s=>if r<k then dl r s else if s<k then cof k A (ρ r) s else if s=r then det k A else 0
theorem Akk{n:Nat}{B:Wz}{ρ γ:Nat->Nat}(hkn:k<=n)(hρ:∀r,r<k->ρ r=r)(hB:∀r c,B r c=A (ρ r) (γ c)){c:Nat}(hr:r<n):Xz n (ATs k A ρ) B r c=if r<k then B r c else Mn k A (ρ r) (γ c):=by
 unfold Xz;by_cases h:r<k;.rw[if_pos h,ADy hr λi hi=>by unfold ATs;rw[if_pos h];unfold dl;grind];unfold ATs;rw[if_pos h];simp[dl]
 .rw[if_neg h,A7j];obtain⟨m,rfl⟩:∃m,n=k+m:=⟨n-k,Wq⟩;have hs:∀t,psum (λs=>ATs k A ρ r s*B s c) (k+t)=psum (λs=>cof k A (ρ r) s*A s (γ c)) k+if r<k+t then det k A*A (ρ r) (γ c)else 0:=by
   intro t;induction t with
   |zero=>
     rw[if_neg Wq,Int.add_zero,cX];refine Wy λs hs=>?_;unfold ATs;grind|succ t ih=>
     show psum (λs=>ATs k A ρ r s*B s c) (k+t)+ATs k A ρ r (k+t)*B (k+t) c=_;rw[ih];have e:ATs k A ρ r (k+t)=if k+t=r then det k A else 0:=by unfold ATs;omega
     grind
  grind
theorem Akl{m:Nat}{ρ:Nat->Nat}:det (k+m) (ATs k A ρ)=ABo (λ_=>det k A) m:=by
 rw[AZt λi j hij hj=>by
  unfold ATs;split;.unfold dl;omega
  omega,APw,AVa,Int.one_mul];.refine ANe λi hi=>?_;unfold ATs;omega
 .intro i hi;unfold ATs;rw[if_pos hi];simp[dl]
theorem AVb(h0:det k A≠0)(i j:Nat):Mn k A k k*Mn k A i j-Mn k A i k*Mn k A k j=det k A*Mn (k+1) A i j:=by
 have h1:=ADf (n:=k+2) (ATs k A<|bro (k+1) i) λr c=>A (bro (k+1) i r)<|bro (k+1) j c;have hm:∀r c,r<k+2->Xz (k+2) (ATs k A<|bro (k+1) i) (λr c=>A (bro (k+1) i r)<|bro (k+1) j c) r c=if r<k then A (bro (k+1) i r) (bro (k+1) j c)else Mn k A (bro (k+1) i r) (bro (k+1) j c):=λr c hr=>Akk (k:=k) (n:=k+2) (A:=A) (B:=λr c=>A (bro (k+1) i r)<|bro (k+1) j c) (ρ:=bro (k+1) i) (γ:=bro (k+1) j) Wq λr hr=>by unfold bro;grind (λr c=>rfl) hr;rw[Akl,AOn (k:=k) (m:=2) λa b ha ha2 hb=>by rw[hm a b ha2,if_neg Wq,show bro (k+1) j b=b by unfold bro;grind];exact A43 _ _ hb]at h1;have e1:det k (Xz (k+2) (ATs k A<|bro (k+1) i) λr c=>A (bro (k+1) i r)<|bro (k+1) j c)=det k A:=by refine Xo λr c hr hc=>?_;rw[hm r c Wq,if_pos hr];simp only[bro];grind
 have b0:∀q,bro (k+1) q (k+0)=k:=λq=>by unfold bro;grind
 have b1:∀q,bro (k+1) q (k+1)=q:=λq=>by unfold bro;grind
 rw[e1,A2f]at h1;simp only[shF]at h1;rw[hm _ _ Wq,hm _ _ Wq,hm _ _ Wq,hm _ _ Wq,if_neg Wq,if_neg Wq,if_neg Wq,if_neg Wq,b0,b0,b1,b1]at h1;have e2:ABo (λ_=>det k A) 2=det k A*det k A:=by simp[ABo]
 have e3:(det (k+2) λr c=>A (bro (k+1) i r)<|bro (k+1) j c)=Mn (k+1) A i j:=rfl;rw[e2,e3,ce]at h1;exact ca h0 h1
theorem Akm{n:Nat}(h0:det k A≠0)(hk:k<n)(hz:∀i,k<=i->i<n->Mn k A i k=0):det n A=0:=by
 obtain⟨m,rfl⟩:∃m,n=k+(m+1):=⟨n-k-1,Wq⟩;have h1:=ADf (n:=k+(m+1)) (ATs k A id) A;have hm:∀r c,r<k+(m+1)->Xz (k+(m+1)) (ATs k A id) A r c=if r<k then A r c else Mn k A r c:=λr c hr=>Akk (k:=k) (n:=k+(m+1)) (A:=A) (B:=A) (ρ:=id) (γ:=id) Wq (λr hr=>rfl) (λr c=>rfl) hr;rw[Akl,AOn (k:=k) (m:=m+1) λa b ha ha2 hb=>by rw[hm a b ha2,if_neg Wq];exact A43 _ _ hb,Ahn (F:=shF k _) λi hi=>by unfold shF;grind,Int.mul_zero]at h1;rcases cM.1 h1.symm with h2|h2;.exact absurd h2<|Akj λi hi=>h0
 .exact h2
def dBd(m:Nat):Nat->Nat|0=>1|n+1=>(n+1)*m*dBd m n
theorem psum_abs{f:Nat->Int}{B:Nat}:∀{n:Nat},(∀i,i<n->(f i).natAbs<=B)->(psum f n).natAbs<=n*B
 |0,_=>by simp[psum]|n+1,h=>by
   have h1:=psum_abs (n:=n) λi hi=>h i Wq;have h2:=h n Wq;have h3:=Int.natAbs_add_le (psum f n)<|f n;show(psum f n+f n).natAbs<=_;grind
theorem Abr{m:Nat}:∀{n:Nat}{F:Wz},(∀i j,(F i j).natAbs<=m)->(det n F).natAbs<=dBd m n
 |0,_,_=>by simp[det,dBd]|n+1,F,h=>by
   have h1:=psum_abs (f:=λi=>sg i*F i 0*det n (Zp i F)) (B:=m*dBd m n) (n:=n+1) λi hi=>by
    have e:=Abr (n:=n) (F:=Zp i F) λa b=>h _ _;have es:(sg i).natAbs=1:=by unfold sg;split<;>rfl
    rw[bG,bG,es,Nat.one_mul];exact aJ (h i 0) e
   rw[dBd,Nat.mul_assoc];exact h1
theorem A2g{n:Nat}(hp:k<p)(hi:k<=i):Mn k (AB7 A p k) i j=Mn k A (if i=k then p else if i=p then k else i) j:=by refine Xo λr c hr hc=>?_;rw[AJy];unfold bro;grind
theorem Aho(hp:k<p):det k (AB7 A p k)=det k A:=by refine Xo λr c hr hc=>?_;rw[AJy,if_neg Wq,if_neg Wq]
def sgB(neg:Bool):Int:=if neg then-1 else 1
def AZu(m:Nat)(A0:Wz)(n k:Nat)(F:Wz)(last:Int)(neg:Bool):Prop:=∃A:Wz,det n A=sgB neg*det n A0/\(∀i j,k<=i->i<n->k<=j->j<n->F i j=Mn k A i j)/\last=det k A/\last≠0/\∀i j,(A i j).natAbs<=m
theorem Ant{m n:Nat}(h:∀i j,(A0 i j).natAbs<=m):AZu m A0 n 0 A0 1 false:=⟨A0,by simp[sgB],λi j _ _ _ _=>(AFr A0 i j).symm,rfl,Wr,h⟩
theorem Asq{m n:Nat}{F:Wz}(H:AZu m A0 n k F last neg)(hkp:k<p)(hp:p<n):AZu m A0 n k (AB7 F p k) last !neg:=by
 obtain⟨A,h1,h2,h3,h4,h5⟩:=H;refine⟨AB7 A p k,?_,λi j hi hin hj hjn=>?_,by rw[Aho hkp];exact h3,h4,λi j=>?_⟩;.rw[AO6 hp Wq Wq,h1];cases neg<;>simp[sgB]
 .rw[A2g (n:=n) hkp hi,AJy];grind
 .rw[AJy];grind
def bQ(k:Nat)(F:Wz)(last:Int)(r c:Nat):Int:=(F k k*F r c-F r k*F k c)/last
def bF(k:Nat)(F:Wz)(last:Int)(i j:Nat):Wz:=λr c=>if k<r/\k<c/\(r<i∨r=i/\c<j)then bQ k F last r c else F r c
theorem Akn(k:Nat)(F:Wz)(last:Int):bF k F last (k+1) (k+1)=F:=by funext r c;unfold bF;omega
theorem Awn(k n:Nat)(F:Wz)(last:Int)(i:Nat){c:Nat}(hc:c<n):bF k F last i n r c=bF k F last (i+1) (k+1) r c:=by unfold bF;omega
theorem Awo(k:Nat)(F:Wz)(last:Int)(hi:k<i)(hj:k<j):(Ym (bF k F last i j) i λc=>if c=j then bQ k F last i j else bF k F last i j i c)=bF k F last i (j+1):=by
 funext r c;rw[Xk];split
 .subst_vars;split;.subst_vars;unfold bF;omega
  .unfold bF;omega
 .unfold bF;omega
theorem Aqa(k:Nat)(F:Wz)(last:Int)(i j c:Nat):bF k F last i j k c=F k c:=by unfold bF;omega
theorem A44(k:Nat)(F:Wz)(last:Int)(i j r:Nat):bF k F last i j r k=F r k:=by unfold bF;omega
theorem A45(k:Nat)(F:Wz)(last:Int)(i j:Nat):bF k F last i j i j=F i j:=by unfold bF;omega
theorem A46{m n:Nat}{F:Wz}(H:AZu m A0 n k F last neg)(hk:k<n):∃A,(∀i j,(A i j).natAbs<=m)/\det n A=sgB neg*det n A0/\F k k=det (k+1) A/\∀i j,k<=i->i<n->k<=j->j<n->F i j=Mn k A i j/\bQ k F last i j=Mn (k+1) A i j:=by obtain⟨A,h1,h2,h3,h4,h5⟩:=H;refine⟨A,h5,h1,by rw[h2 k k Wq hk Wq hk,AFa],λi j hi hin hj hjn=>⟨h2 i j hi hin hj hjn,?_⟩⟩;unfold bQ;rw[h2 k k Wq hk Wq hk,h2 i j hi hin hj hjn,h2 i k hi hin Wq hk,h2 k j Wq hk hj hjn,AVb Wq,<-h3,Int.mul_ediv_cancel_left _ h4]
theorem Ass{m n:Nat}{F:Wz}(H:AZu m A0 n k F last neg)(hk:k<n)(h0:F k k≠0):AZu m A0 n (k+1) (bF k F last n<|k+1) (F k k) neg:=by obtain⟨A,h5,h1,h6,h2⟩:=A46 H hk;refine⟨A,h1,λi j hi hin hj hjn=>?_,h6,h0,h5⟩;unfold bF;grind
theorem Ast{m n:Nat}{F:Wz}(H:AZu m A0 n k F last neg)(hk:k<n)(hz:∀i,k<=i->i<n->F i k=0):det n A0=0:=by
 obtain⟨A,h1,h2,h3,h4,h5⟩:=H;have h:=Akm (A:=A) Wq hk λi hi hin=>by grind
 rw[h1]at h;rcases cM.1 h with h6|h6;.cases neg<;>simp[sgB]at h6
 .exact h6
theorem Awp{m n:Nat}{F:Wz}(H:AZu m A0 n n F last neg):det n A0=if neg then-last else last:=by
 obtain⟨A,h1,h2,h3,h4,h5⟩:=H;rw[<-h3]at h1;rw[h1];cases neg;.simp[sgB]
 .simp[sgB]
theorem Anu{m:Nat}(h:∀i j,(A i j).natAbs<=m)(i j:Nat):(Mn k A i j).natAbs<=dBd m (k+1):=Abr λr c=>h _ _
theorem ANf{m:Nat}(hm:1<=m){a b:Nat}(h:a<=b):dBd m a<=dBd m b:=by induction h with
 |refl=>omega|step h ih=>
   refine aF ih ?_;rw[dBd];exact Nat.le_mul_of_pos_left _<|Nat.mul_pos Wq Wq
theorem Awq{m n:Nat}{F:Wz}(hm:1<=m)(H:AZu m A0 n k F last neg)(hk:k<n)(hi:k<=i)(hin:i<n)(hj:k<=j)(hjn:j<n):(F i j).natAbs<=dBd m n/\(bQ k F last i j).natAbs<=dBd m (n+1):=by obtain⟨A,h5,h1,h6,h2⟩:=A46 H hk;obtain⟨h7,h8⟩:=h2 i j hi hin hj hjn;rw[h7,h8];exact⟨aF (Anu h5 _ _)<|ANf hm Wq,aF (Anu h5 _ _)<|ANf hm Wq⟩
theorem Asu{m n:Nat}{F:Wz}(hm:1<=m)(H:AZu m A0 n k F last neg)(hk:k<=n):last≠0/\last.natAbs<=dBd m n:=by obtain⟨A,h1,h2,h3,h4,h5⟩:=H;exact⟨h4,by rw[h3];exact aF (Abr h5)<|ANf hm hk⟩
end Go.QF
namespace Go.Proofs.YtgmdhndbcohgiaaGreatDoor
theorem A2h{n:Nat}{a b c:α}(h:i<n):(ab i a++ab (n-i) b).set i c=ab i a++c::ab (n-i-1) b:=by rw[aV _ _ W4,ck,bO,show n-i=n-i-1+1 by omega,bc];rfl
theorem Abt{n m:Nat}(hn:n<=100000000)(hm:m<=100000000)(hf:n<fuel):AAc fuel n m=some (ab n<|ab m 0):=by
 apply ok_eq;unfold AAc;refine Yi Wq<|Wv (Xv (λi s=>s=((i:Int),ab i (ab m 0)++ab (n-i) [])) n (Q:=(·=ab n (ab m 0))) W4 hf λi s hi hI=>?_) λx hx=>Wt hx;subst hI;unfold ALa;dsimp only;rw[ck,cG];refine Xa (λh=>Yi Wq<|Xc (n:=i) (x:=[]) ?_ rfl (Wt ⟨Wq,?_⟩)) λh=>Wt ?_;.grind
 .rw[wk Wq,Yl,cG,A2h Wq];congr 1;rw[show n-(i+1)=n-i-1 by omega,List.replicate_succ'];simp
 .obtain rfl:i=n:=by omega
  simp
theorem Ahp{A:List (List α)}{row:List α}(hi:i<A.length):(A.take i++row::ab (A.length-i-1) []).set i=λr=>A.take i++r::ab (A.length-i-1) []:=by funext r;rw[aV _ _ (by simp;omega),bR,bX Wq,bO];rfl
theorem Aqb{A:List (List Int)}(hn:A.length<=100000000)(hm:∀z∈A,z.length<=100000000/\z.length<fuel)(hf:A.length<fuel):Zg fuel A=some A:=by
 apply ok_eq;unfold Zg;refine Yi Wq<|Wv (Xv (λi s=>s=((i:Int),A.take i++ab (A.length-i) [])) A.length (Q:=(·=A)) W4 hf λi s hi hI=>?_) λx hx=>Wt hx;subst hI;unfold AA6;dsimp only;refine Xa (λh=>?_) λh=>Wt ?_
 .have hi':i<A.length:=by omega
  obtain⟨row,hrow⟩:∃row,A[i]?=some row:=⟨A[i],aj hi'⟩;have hr:=hm row<|aI hrow;refine Xc hrow rfl (Wv (Xv (λj s=>s=((j:Int),A.take i++row.take j::ab (A.length-i-1) [])) row.length (Q:=(·=A.take i++row::ab (A.length-i-1) [])) ?_ hr.2 λj s hj hJ=>?_) λx hx=>Wt ⟨hi',?_⟩);.rw[show A.length-i=A.length-i-1+1 by omega,bc];simp
  .subst hJ;unfold AA5;dsimp only;refine Xa (λh2=>?_) λh2=>Wt ?_
   .obtain⟨x,hx⟩:∃x,row[j]?=some x:=⟨row[j]'Wq,aj _⟩;refine Xc hx rfl (Xc (n:=i) (x:=row.take j) ?_ rfl (Wv (Q:=(·=x)) ⟨x,rfl,rfl⟩ λy hy=>Yi ?_<|Wt ⟨Wq,?_⟩));.grind
    .grind
    .subst hy;rw[wk Wq,Yl,Ahp hi',aP,hx];rfl
   grind
  .subst hx;rw[wk Wq,aP,hrow,show A.length-(i+1)=A.length-i-1 by omega];simp
 .obtain rfl:i=A.length:=by omega
  simp
def okM(A:List (List Int)):Bool:=decide (1<=A.length/\A.length<=16/\∀z∈A,1<=z.length/\z.length<=16/\z.length=AM7 A)
theorem Asv{A:List (List Int)}{z:List Int}(h:A[0]?=some z):AM7 A=z.length:=by unfold AM7;rw[h];rfl
theorem Ako{A:List (List Int)}(hr:∀z∈A,∀x∈z,-9223372036854775808<=x/\x<=9223372036854775807)(hf:17<fuel):Zf fuel A=some (if okM A then(A,true)else([],false)):=by
 apply ok_eq;unfold Zf;have key:∀R:List (List Int)×Bool->Prop,(okM A=false->R ([],false))->(okM A=true->R (A,true))->Ok (Zf fuel A) R:=by
  intro R hF hT;unfold Zf;refine Wv (Q:=λex=>match ex with|.inl e=>e=([],false)/\okM A=false|.inr _=>1<=A.length/\A.length<=16) (Xa (λh=>Wt ⟨rfl,by unfold okM;grind⟩) λh=>Xa (λh2=>Wt ⟨rfl,by unfold okM;grind⟩) λh2=>Wt ⟨Wq,Wq⟩) λex hex=>?_;cases ex with
  |inl e=>obtain⟨rfl,h⟩:=hex;exact Wt (hF h)|inr u=>
    dsimp only at hex⊢;obtain⟨z0,Ac⟩:∃z,A[0]?=some z:=⟨A[0]'Wq,aj _⟩;have hc:=Asv Ac;refine Wv (Xv (λi(s:Int)=>s=(i:Int)/\∀z∈A.take i,1<=z.length/\z.length<=16/\z.length=AM7 A) A.length (Q:=λex=>match ex with|.inl e=>e=([],false)/\okM A=false|.inr _=>okM A=true) ⟨rfl,W4⟩ Wq λi s hi hI=>?_) λex Ab=>?_
    .obtain⟨rfl,hI⟩:=hI;unfold AI4;refine Xa (λh=>?_) λh=>Wt ?_
     .have hi':i<A.length:=by omega
      obtain⟨row,hrow⟩:∃row,A[i]?=some row:=⟨A[i],aj hi'⟩;have bad:¬(1<=row.length/\row.length<=16/\row.length=AM7 A)->okM A=false:=λhb=>by unfold okM;grind
      refine Xc hrow rfl (Xa (λh1=>Wt ⟨rfl,bad Wq⟩) λh1=>Xa (λh2=>Wt ⟨rfl,bad Wq⟩) λh2=>Xc Ac rfl (Xa (λh3=>Wt ⟨rfl,bad Wq⟩) λh3=>Wt ⟨hi',wk Wq,?_⟩));rw[aP,hrow];grind
     .obtain rfl:i=A.length:=by omega
      rw[cF]at hI;unfold okM;grind
    .cases ex with
     |inl e=>obtain⟨rfl,h⟩:=Ab;exact Wt (hF h)|inr u=>
       dsimp only at Ab⊢;have hv:=Ab;unfold okM at hv;rw[decide_eq_true_eq]at hv;have hcA:∀z∈A,z.length=AM7 A:=λz hz=>(hv.2.2 z hz).2.2;have Af:1<=AM7 A/\AM7 A<=16:=by grind
       refine Xc Ac rfl (Wv (Yc<|Abt Wq Wq Wq) λO hO=>?_);subst hO;rw[<-hc];refine Wv (Xv (λi s=>s=((i:Int),A.take i++ab (A.length-i) (ab (AM7 A) 0))) A.length (Q:=(·=A)) W4 Wq λi s hi hI=>?_) λx hx=>Wt<|hx▸hT Ab;subst hI;unfold AI3;dsimp only;refine Xa (λh=>?_) λh=>Wt ?_
       .have hi':i<A.length:=by omega
        obtain⟨row,hrow⟩:∃row,A[i]?=some row:=⟨A[i],aj hi'⟩;have hrl:=hcA row<|aI hrow;refine Xc hrow rfl (Wv (Xv (λj s=>s=((j:Int),A.take i++(row.take j++ab (AM7 A-j) 0)::ab (A.length-i-1) (ab (AM7 A) 0))) row.length (Q:=(·=A.take i++row::ab (A.length-i-1) (ab (AM7 A) 0))) ?_ Wq λj s hj hJ=>?_) λx hx=>Wt ⟨hi',?_⟩);.rw[show A.length-i=A.length-i-1+1 by omega,bc];simp
        .subst hJ;unfold AI2;dsimp only;refine Xa (λh2=>?_) λh2=>Wt ?_
         .obtain⟨x,hx⟩:∃x,row[j]?=some x:=⟨row[j]'Wq,aj _⟩;have hxr:=hr row (aI hrow) x<|aI hx;refine Xc (n:=i) (x:=row.take j++ab (AM7 A-j) 0) ?_ rfl (Xc hrow rfl (Xc hx rfl (Wv (Q:=(·=x)) ⟨x,if_pos hxr,rfl⟩ λy hy=>Xc (n:=j) (x:=0) ?_ rfl (Wt ⟨Wq,?_⟩))));.grind
          .grind
          .subst hy;rw[wk Wq,Yl,Yl];congr 1;rw[aV _ _ (by simp;omega),bR,bX Wq,bO,cx];congr 2;rw[aV _ _ (by simp;omega),bR,bX Wq,bO,show AM7 A-j=AM7 A-(j+1)+1 by omega,bc,cx,aP,hx];simp
         .obtain rfl:j=row.length:=by omega
          rw[cF,show AM7 A-row.length=0 by omega];simp
        .subst hx;rw[wk Wq,aP,hrow,show A.length-(i+1)=A.length-i-1 by omega];simp
       .obtain rfl:i=A.length:=by omega
        simp
 have:=key (λr=>r=if okM A then(A,true)else([],false)) λh=>by rw[h];rfl (λh=>by rw[h];rfl);unfold Zf at this;exact this
theorem BB8{A:List (List Int)}(hr:∀z∈A,∀x∈z,-9223372036854775808<=x/\x<=9223372036854775807)(hf:17<fuel):Yw fuel A=some (if okM A then A else[]):=by unfold Yw;rw[Ako hr hf];grind
theorem Akp{z:Int}:sigZ z=0↔z=0:=by unfold sigZ;omega
theorem Adl{c:Nat}{F:Wz}{x:Int}:sI (Xw r c F) (i:Int) (sI (Yy c<|F i) (j:Int) x)=Xw r c (Ym F i λq=>if q=j then x else F i q):=by rw[Yl,Yl,AAd];exact Awe
theorem Aar{a b:Nat}(hG:2*(D*D)<Zm)(ha:a<=D)(hb:b<=D):a*b<Zm:=by have:=aJ ha hb;omega
theorem A2i{a:Nat}(hG:2*(D*D)<Zm)(ha:a<=D):a<Zm:=by
 rcases Nat.eq_zero_or_pos D with h|h;.omega
 .have h2:=aJ h<|bE D;omega
theorem AZv{b:Int}(hG:2*(D*D)<Zm)(ha:a.natAbs<=D)(hb:b.natAbs<=D):AN6 fuel a b=some (a*b):=if_pos<|Aar hG ha hb
theorem Aft{b:Int}(hG:2*(D*D)<Zm)(ha:a.natAbs<=D)(hb:b.natAbs<=D):(a*b).natAbs<Zm:=by rw[bG];exact Aar hG ha hb
theorem Awr{b c:Int}(hG:2*(D*D)<Zm)(ha:a.natAbs<=D)(hb:b.natAbs<=D)(hc:c.natAbs<=D)(hd:d.natAbs<=D):(a*b-c*d).natAbs<Zm:=by have h1:=aJ ha hb;have h2:=aJ hc hd;rw[<-bG]at h1 h2;omega
theorem A2j{n M N:Nat}{F:Wz}(hM:1<=M)(hG:2*(dBd M (N+1)*dBd M (N+1))<Zm)(hnN:n<=N)(hn:n<=16)(hb:∀i j,(F i j).natAbs<=M)(hf:17<fuel):Yj fuel (Xw n n F)=some (det n F):=by
 apply ok_eq;unfold Yj;refine Wv (Yc<|Aqb (by rw[Xh];omega) λz hz=>by rw[AW9 z hz];omega (by rw[Xh];omega)) λA hA=>?_;subst hA;refine Wv (Q:=(·=1)) ⟨1,if_pos Wq,rfl⟩ λone h1=>?_;subst h1;have hD:dBd M n<=dBd M (N+1):=ANf hM Wq;have Ap:dBd M (n+1)<=dBd M (N+1):=ANf hM Wq;refine Wv (Xv (λk s=>∃G last neg,s=(neg,((k:Int),Xw n n G,last))/\AZu M F n k G last neg) n (Q:=λex=>match ex with|.inl e=>e=det n F|.inr (neg,last)=>det n F=if neg then-last else last) ⟨F,1,false,rfl,Ant hb⟩ Wq λk s hk hI=>?_) λex hex=>?_
 .obtain⟨G,last,neg,rfl,hB⟩:=hI;unfold AGs;dsimp only;rw[Xh];refine Xa (λh=>?_) λh=>Wt ?_
  .have hk':k<n:=by omega
   refine Wv (Q:=λex=>match ex with|.inl e=>e=det n F|.inr (neg',a',last')=>∃G',a'=Xw n n G'/\AZu M F n (k+1) G' last' neg') ?_ λex hex=>?_
   .refine Wv (Q:=λ(e:Int)=>∃p:Nat,e=p/\k<=p/\p<=n/\(∀i,k<=i->i<p->G i k=0)/\(p<n->G p k≠0)) (Wv (Xv (λj(s:Int)=>s=((k+j:Nat):Int)/\k+j<=n/\∀i,k<=i->i<k+j->G i k=0) (n-k) (Q:=λ(e:Int)=>∃p:Nat,e=p/\k<=p/\p<=n/\(∀i,k<=i->i<p->G i k=0)/\(p<n->G p k≠0)) ⟨rfl,Wq,λi h1 h2=>by omega⟩ Wq λj s hj hJ=>?_) λe he=>Wt he) λe he=>?_
    .obtain⟨rfl,hjn,hz⟩:=hJ;unfold AGp;rw[Xh];refine Wv (Q:=λex=>match ex with|.inl _=>k+j<n/\G (k+j) k=0|.inr _=>k+j<n->G (k+j) k≠0) (Xa (λh2=>Xc (Xx Wq) rfl (Xc (Xb Wq) rfl (Wv (Yc (a:=sigZ<|G (k+j) k) rfl) λsg hsg=>Xa (λh3=>Wt ⟨Wq,?_⟩) λh3=>Wt λ_=>?_))) λh2=>Wt λh3=>by omega) λex hex=>?_;.subst hsg;exact Akp.1 h3
     .subst hsg;exactλh4=>h3<|Akp.2 h4
     .cases ex with
      |inl u=>exact Wt ⟨Wq,by rw[wk Wq];omega,Wq,λi h1 h2=>by grind⟩|inr u=>exact Wt ⟨k+j,rfl,Wq,hjn,hz,hex⟩
    .obtain⟨p,rfl,hkp,hpn,hz,hp⟩:=he;refine Xa (λh2=>Wt ?_) λh2=>?_
     .obtain rfl:p=n:=by omega
      exact(Ast hB hk' hz).symm
     .have hp':p<n:=by omega
      refine Wv (Q:=λ(r:Bool×List (List Int))=>∃G',r.2=Xw n n G'/\AZu M F n k G' last r.1/\G' k k≠0) (Xa (λh3=>Xc (Xx Wq) rfl (Xc (Xx Wq) rfl (Wt ⟨AB7 G p k,?_,Asq hB Wq hp',?_⟩))) λh3=>Wt ⟨G,rfl,hB,?_⟩) λr hr=>?_;.dsimp only;rw[Yl,Yl];show((Xw n n G).set p (Yy n<|G k)).set k (Yy n<|G p)=_;rw[show Yy n (G k)=(aw n).map (G k)from rfl,show Yy n (G p)=(aw n).map (G p)from rfl,AGl,AGl];rfl
      .rw[AJy,if_pos rfl];exact hp hp'
      .grind
      .obtain⟨Aq,a2⟩:=r;obtain⟨G2,Ag,Af,hne⟩:=hr;dsimp only at Ag Af⊢;subst Ag;have hlast:=Asu hM Af Wq;have habs:∀i j,k<=i->i<n->k<=j->j<n->(G2 i j).natAbs<=dBd M (N+1):=λi j h1 h2 h3 h4=>aF (Awq hM Af hk' h1 h2 h3 h4).1 hD;have hl':last.natAbs<=dBd M (N+1):=aF hlast.2 hD;rw[wk Wq];refine Wv (Xv (λi s=>s=(((k+1+i:Nat):Int),Xw n n<|bF k G2 last (k+1+i)<|k+1)/\k+1+i<=n) (n-(k+1)) (Q:=(·=Xw n n (bF k G2 last n<|k+1))) ⟨by rw[cX,Akn];simp,Wq⟩ Wq λi s hi hI=>?_) λa3 Ah=>?_
       .obtain⟨rfl,hin⟩:=hI;unfold AGr;dsimp only;rw[Xh];obtain⟨q,hq⟩:∃q,k+1+i=q:=⟨_,rfl⟩;rw[hq]at hin⊢;refine Xa (λh3=>?_) λh3=>Wt ?_
        .have hqn:q<n:=by omega
         rw[wk Wq];refine Wv (Xv (λj s=>s=(((k+1+j:Nat):Int),Xw n n<|bF k G2 last q<|k+1+j)/\k+1+j<=n) (n-(k+1)) (Q:=(·=Xw n n (bF k G2 last q n))) ⟨W4,Wq⟩ Wq λj s hj hJ=>?_) λa4 Ai=>Wt ?_
         .obtain⟨rfl,hjn⟩:=hJ;unfold AGq;dsimp only;rw[Xh];obtain⟨c,hc⟩:∃c,k+1+j=c:=⟨_,rfl⟩;rw[hc]at hjn⊢;refine Xa (λh4=>?_) λh4=>Wt ?_
          .have hcn:c<n:=by omega
           refine Xc (Xx hqn) rfl (Xc (Xx hk') rfl (Xc (Xb hk') rfl (Xc (Xb hcn) rfl ?_)));rw[Aqa,A45];refine Wv (Yc<|AZv hG (habs _ _ Wq Wq Wq Wq)<|habs _ _ Wq Wq Wq Wq) λx1 Aj=>Xc (Xb hk') rfl (Xc (Xb hcn) rfl ?_);subst Aj;rw[A44,Aqa];refine Wv (Yc<|AZv hG (habs _ _ Wq Wq Wq Wq)<|habs _ _ Wq Wq Wq Wq) λx2 Ak=>?_;subst Ak;refine Wv (Q:=(·=G2 k k*G2 q c-G2 q k*G2 k c)) ⟨_,if_pos ⟨Aft hG (habs _ _ Wq Wq Wq Wq)<|habs _ _ Wq Wq Wq Wq,Aft hG (habs _ _ Wq Wq Wq Wq)<|habs _ _ Wq Wq Wq Wq⟩,rfl⟩ λx3 Am=>?_
           .subst Am;refine Wv (Q:=(·=bQ k G2 last q c)) ?_ λx4 Ao=>Wt ⟨Wq,?_,Wq⟩;.unfold Zw AX1;rw[if_pos ⟨Awr hG (habs _ _ Wq Wq Wq Wq) (habs _ _ Wq Wq Wq Wq) (habs _ _ Wq Wq Wq Wq)<|habs _ _ Wq Wq Wq Wq,A2i hG hl',hlast.1⟩];exact⟨_,rfl,rfl⟩
            .subst Ao;rw[wk Wq,Adl,Awo k G2 last Wq Wq];grind
          grind
         .subst Ai;refine⟨Wq,?_,Wq⟩;rw[wk Wq];congr 1;.omega
          .refine AJv λr c hr hc=>?_;rw[Awn k n G2 last q hc,<-cb,hq]
        grind
       .subst Ah;refine Xc (Xx hk') rfl (Xc (Xb hk') rfl (Wt ⟨_,rfl,?_⟩));rw[Aqa];exact Ass Af hk' hne
   .match ex,hex with
    |.inl e,hex=>exact Wt hex|.inr (neg',a',last'),hex=>
      obtain⟨G',rfl,hB'⟩:=hex;exact Wt ⟨hk',G',last',neg',by rw[wk Wq];rfl,hB'⟩
  .obtain rfl:k=n:=by omega
   exact Awp hB
 .match ex,hex with
  |.inl e,hex=>exact Wt hex|.inr (neg,last),hex=>
    dsimp only at hex⊢;rw[hex];refine Xa (λh=>Wv (Yc (a:=-last) rfl) λx hx=>Wt ?_) λh=>Wt ?_;.rw[hx,h];rfl
    .rw[if_neg h]
def mN(n:Nat):Nat:=if n<=6 then 2^194 else 2^100
def gN(n:Nat):Nat:=if n<=6 then dBd (2^194) 7 else dBd (2^100) 9
theorem Akq(n:Nat):2^100<=mN n:=by unfold mN;split<;>decide
theorem Aws(n:Nat):64*(gN n*gN n)<Zm:=by unfold gN;split<;>decide
theorem Awt(n:Nat):3<=gN n:=by unfold gN;split<;>decide
theorem BB9(n:Nat):24*(gN n*mN n)<=(2^158)^10:=by unfold gN mN;split<;>decide
theorem Awu{n:Nat}(hn:n<=8)(hk:k<=n+1):dBd (mN n) k<=gN n:=by
 unfold mN gN;split;.exact ANf Wr Wq
 .exact ANf Wr Wq
theorem Awv(n:Nat):2*(gN n*gN n)<Zm:=by have:=Aws n;omega
theorem AX2{n N:Nat}{F:Wz}(hN:N<=8)(hn:n<=N)(hb:∀i j,i<n->j<n->(F i j).natAbs<=mN N)(hf:17<fuel):Yj fuel (Xw n n F)=some (det n F):=by
 have e1:Xw n n F=Xw n n λi j=>if i<n/\j<n then F i j else 0:=by
  rw[ANd,ANd];exact Yd λi hi=>Yd λj hj=>by omega
 have e2:det n F=det n λi j=>if i<n/\j<n then F i j else 0:=Xo λi j hi hj=>by omega
 have hg:=Awu hN<|bE<|N+1;have h1:=Akq N;rw[e1,e2];refine A2j (M:=mN N) (aF Wr h1) (Nat.lt_of_le_of_lt (Nat.mul_le_mul_left 2<|aJ hg hg)<|Awv N) hn Wq (λi j=>?_) hf;grind
theorem Ahe:FdT Tryz.prog 24 0 0 5:=⟨_,_,Tryz.underlying24,rfl,rfl,rfl⟩
theorem Ahf:FdT Tryz.prog 24 1 1 5:=⟨_,_,Tryz.underlying24,rfl,rfl,rfl⟩
theorem Ahg:FdT Tryz.prog 24 2 2 22:=⟨_,_,Tryz.underlying24,rfl,rfl,rfl⟩
theorem A1u:FdT Tryz.prog 24 3 3 22:=⟨_,_,Tryz.underlying24,rfl,rfl,rfl⟩
theorem Ani:AgT Tryz.prog 24 4:=AOs Tryz.underlying24 rfl Ww
end Go.Proofs.YtgmdhndbcohgiaaGreatDoor
