/-
  Texts of a proof, joined. Conditions stand in each statement.
-/
import Derived.RangeFuncRecord
import Derived.OrdersIn
import Derived.Test.YtgmdhndbcohgiaaGreatDoorMTopGenera1
set_option linter.unusedVariables false
set_option linter.unusedSimpArgs false
open List renaming getElem?_eq_getElem->aa,mem_append_left->ae,mem_append->ah,mem_of_getElem?->ai,mem_cons_of_mem->aj,mem_cons_self->ak,mem_append_right->ap,getElem?_eq_some_iff->ar,getElem?_eq_none->av,length_eq_zero_iff->ay,pairwise_append->aG,pairwise_cons->aH,length_map->aI,ext_getElem?->aJ,range->aK,getElem?_set_ne->aL,mem_cons->aM,all_eq_true->aP,mem_range->aV,getElem?_map->aY,replicate->bc,range'->bx,range_eq_range'->bz,take_length->bD,length_take->bE,getElem?_replicate->bG,nodup_append->bK,length_nil->bN,mem_singleton->bO,getElem?_drop->bP,append_of_mem->bR,getElem?_set_self->bS,eq_nil_iff_forall_not_mem->bW,length->b9,getElem?_of_mem->ca,flatten_append->cg,length_append->ci,getElem?_append_left->ck,cons_append->cq,mem_map->ct,take_of_length_le->cu,nodup_cons->cv,range'_append_1->cy,map_cons->cE,mem_replicate->cF,size_toArray->cM,mem_range'_1->cO,mem_flatten->cW,pairwise_iff_getElem->de,map_map->dr,pairwise_lt_range->du,length_zipWith->dF,getElem?_take->dJ,range'_succ->dL,not_mem_nil->dM,map_toArray->dN,length_cons->dO,append_nil->dV,nodup_nil->dW,map_take->dZ,Pairwise->d7
open Go renaming Value->ab,Oper->au,Program->aA,World->bt,TypeId->bw,Operand->bC,Exit->bX,Code->cj,IntKind->dq,FuncId->dx,ResultVar->dI
open Bool renaming and_eq_true->am,or_eq_true->ce,not_true->d8,false_or->d9
open Go.Value renaming int->an,tuple->cT,func->ej
open Array renaming getElem?_eq_some_iff->ao,size->aq,getElem?_eq_getElem->ax,getD_eq_getD_getElem?->bn,getElem?_setIfInBounds_ne->bU,all_eq_true_iff_forall_mem->cL,replicate->cX,getElem?_replicate->df,getElem?_push_lt->dp,getElem?_append->dw,length_toList->dz,append_empty->dH
open Nat renaming le_of_ble_eq_true->aw,lt_of_lt_of_le->aF,le_refl->aU,lt_trans->ba,pow_le_pow_right->be,le_trans->bo,blt->bA,zero_le->bI,mod_lt->bJ,ble_eq_true_of_le->bV,ble->bZ,beq->b8,mul_add->cb,add_assoc->cn,div_le_self->cx,lt_of_le_of_lt->cJ,pow_zero->cP,lt_or_ge->cQ,add_zero->cR,div_one->cY,mul_assoc->di,pow_succ->dy,mul_one->dC,pow_lt_pow_right->dD,div_lt_of_lt_mul->dE,pos_of_ne_zero->dK,mod_eq_of_lt->dQ,div_eq_of_lt->dR,mul_le_mul->dY,zero_mod->eB,zero_div->eC,zero_add->eD,mul_zero->eE,one_mul->eH,add_mul->eI
open Go.Region renaming wanted->bh,binds->bH,ready->co
open Go.Instr renaming build->bL
open BitVec renaming ofInt->bM,toNat_ofInt->cC
open Int renaming toNat_natCast->bT,emod_eq_of_lt->dP
open Go.IntKind renaming wrap_i64->cm
open Go.Fence renaming wide->cr
open Go.Deferred renaming ofValue->cG
open List.cons renaming injEq->cK
set_option maxRecDepth 100000
open Go Go.QF
variable{ts:Array bw}{st want:Bool}{assign body:cj}{Q:bX->Act->bt->Prop}{f:dx}{K:Go.QF.Env->Go.QF.Ws->Prop}{h h0 h1 h':Go.QF.Ws}{B:Go.QF.Ws->Prop}{r d:Int}{κ k:dq}{Gs Fs Gs':List (List Nat)}{parts:List (Nat×bC)}{F LA LB R G F':List Nat}{xs:List bC}{rs c1 c2 c' rs' ws:List ab}{s tb t el bytes er i la lb j fuel id g tl el0:Nat}{y x:bC}{P:aA}{α β:Type}{ty t2:bw}{v va vb v' w:ab}
namespace Go.QF
theorem Au9{e:Env}{t u q:Tmp}{ty b:Nat}{l:List ab}(ht:AgT P ty s)(hl:l.length=s)(he:e t=.pointer (some ⟨b,0,none⟩))(HB:Yz tb h b l):AY6 P [.tmp u,.cell t ty,.tmp q] e h (.tuple #[e u,.agg l.toArray,e q]):=λfn tmps w hr hg hw=>by
  have h1:tmps[t]?.getD undef=.pointer (some ⟨b,0,none⟩):=by simp_all
  have h2:=ALs ht hl w (a:=⟨b,0,none⟩) (by rw[hw];exact HB.agg);rw[<-hg u,<-hg q];simp only[results,hr];simp[h1,asAddr,h2]
theorem AK6(h:isOne v=true):v.cells=[v].toArray:=by cases v<;>first|rfl|cases h
section
variable{P:aA}{B:Ws->Prop}{st:Bool}{ops:Array au}{rest:List au}{e:Env}{h:Ws}{K:Env->Ws->Prop}{d:Nat}{ty:bw}{pos:String}{af:Array Edge}
theorem A56{z:ab}{a:Int}{cs:List ab}(hT:SlT P t el 2)(hz:ZeT P el z bytes)(hel:b8 el 96=false)(hb:B h)(hBE:∀h',Ext h h'->B h')(hr:cZ.rep h a cs)(hy:e.ev y=.agg cs.toArray)(H:∀b v h',OwC cZ el h' [b] v [a]->Ext h h'->h.size<=b->b<h'.size->RL P B st ops rest (e.set d v) h' K):RL P B st ops (⟨some d,.buildSlice t 1 #[(0,y)],ty,pos,af,none⟩::rest) e h K:=by
 have hl:=cZ.klen hr;have E:Ext h (h.push<|.cells cs.toArray el (0,0)):=Zt _ _;refine BAg cs hT hz hb hy hl Wr Wr ⟨hBE _ E,H h.size _ _ (.inr ⟨h.size,[cs],rfl,⟨1,cs.toArray,rfl,W4,W4,Wr,by simp[hl],λr hr=>by rw[bO.1 hr];exact hl,?_⟩,⟨rfl,λi cs' a' h1 h2=>?_⟩,hel⟩) E (aU _) W4⟩;.have h2:cs.length=cZ.k:=hl;simp[<-h2]
 .cases i with|zero=>simp at h1 h2;subst h1;subst h2;exact cZ.upT hr E.upT|succ i=>simp at h1
theorem A57{n:Nat}{z:ab}(L:List Int)(hT:SlT P t el 1)(hz:ZeT P el z bytes)(h1:isOne z=true)(hel:b8 el 96=false)(hb:B h)(hBE:∀h',Ext h h'->B h')(hn:L.length=n)(Ab:bZ n 16777216=true)(hpos:bZ 1 n=true)(hp:(parts.map λ(i,x)=>(i,e.ev x))=partsOf 0 (L.map<|.int κ))(H:∀b v h',OwC (cI κ) el h' [b] v L->Ext h h'->h.size<=b->b<h'.size->RL P B st ops rest (e.set d v) h' K):RL P B st ops (⟨some d,.buildSlice t n parts.toArray,ty,pos,af,none⟩::rest) e h K:=by
 have Ab:=aw Ab;have E:Ext h (h.push<|.cells (L.map<|an κ).toArray el (0,0)):=Zt _ _;refine At2 (L.map<|.int κ) hT hz h1 hb (by rw[aI];exact hn) Ab (aw hpos) hp (λu hu=>?_) ⟨hBE _ E,H h.size _ _ (.inr ⟨h.size,L.map λa=>[.int κ a],rfl,⟨n,(L.map<|an κ).toArray,by rw[aI,hn],W4,by simp[hn],by unfold maxLen;omega,by show _=n*1;simp[hn],λr hr=>?_,?_⟩,⟨W4,λi cs a h1 h2=>?_⟩,hel⟩) E (aU _) W4⟩;.obtain⟨a,_,rfl⟩:=ct.1 hu;rfl
 .obtain⟨a,_,rfl⟩:=ct.1 hr;rfl
 .have:(L.map λa=>[an κ a]).flatten=L.map (an κ):=by
   clear H E hp hn Ab;induction L with|nil=>rfl|cons a L ih=>simp[ih]
  rw[this,cu (by show _<=_*1;simp)]
 .rw[aY,h2]at h1;injection h1 with h1;exact h1.symm
theorem Ava{c:Zx α}{s:bC}{r xv:ab}{M:List (List α)}{m:Int}{L L':List α}(hT:SlT P t el c.k)(hB:B h)(hs:e.ev s=r)(hx:e.ev x=xv)(HO:Yv c er el h F Gs rs v M)(hr:rs[m.toNat]?=some r)(hL:gI M m=some L)(HX:SlC c h xv L')(hn0:L'.length=L.length/\0<L.length)(H:∀h',Yv c er el h' F Gs rs v (sI M m L')->Yg F h h'->B h'/\RL P B st ops rest (e.set d<|.int .i64<|.ofNat L.length) h' K):RL P B st ops (⟨some d,.call ⟨.builtin .copy,#[s,x],#[t,t]⟩,ty,pos,af,none⟩::rest) e h K:=by
 obtain⟨hlen,hpos⟩:=hn0;obtain⟨i,rfl,hm0⟩:=ACq hL;clear hL;have hL:=hm0;rw[bT]at hr;have hnd:=HO.notD;obtain⟨G,hG,HR,hGF⟩:=HO.row hr hL;rcases HO with⟨rfl,_⟩|⟨b',hF',hn,h2,h3,h4,h5,h6⟩;.simp at hL
 rcases HR with⟨rfl,_,_⟩|⟨g,Ls,rfl,hk2,hk3,hk4⟩;.simp at hpos
 obtain⟨Ls',⟨xa,xc,hxv,hxc⟩,HA⟩:=HX;have hLs':Ls'.length=L.length:=HA.1.trans hlen;have hLs:Ls.length=L.length:=hk3.1;have hk:∀q∈Ls',q.length=c.k:=λq hq=>by obtain⟨j,hj⟩:=ca hq;have hjl:=(ar.1 hj).1;exact c.klen<|HA.2 j q (L'[j]'Wq) hj<|aa _
 have hone:∀u∈Ls'.flatten,u.oneCell'=true:=λu hu=>by obtain⟨q,hq,huq⟩:=cW.1 hu;obtain⟨j,hj⟩:=ca hq;have hjl:=(ar.1 hj).1;have:=c.one (HA.2 j q (L'[j]'Wq) hj<|aa _) u huq;cases u<;>first|rfl|cases this
 obtain⟨r0,hr0⟩:∃r0,Ls'[0]?=some r0:=⟨Ls'[0]'Wq,aa _⟩;obtain⟨b,o,rfl,_⟩:=hxc 0 r0 hr0;obtain⟨hu,i0,hi0,hs0⟩:=hT;have hk2':=hk2;obtain⟨cap,cur,hv,hg,hl,hm,hsz,hkk,ht⟩:=hk2;have hfl:Ls'.flatten.length=Ls'.length*c.k:=AGm hk;have hcu:Ls'.flatten.length<=cur.size:=by rw[hfl,hsz,hLs',<-hLs];exact Nat.mul_le_mul_right _ hl
 refine A55 (u:=.int .i64<|.ofNat L.length) hB λw hw=>?_;subst hw;have hnews:∀q u,Ls'.flatten[q]?=some u->w.cell? ((⟨b,o,none⟩:Addr).add q)=some u:=λq u hq=>by
  have hqk:q/c.k<Ls'.length:=by have hq':=(ar.1 hq).1;rw[hfl]at hq';exact dE (by grind)
  obtain⟨row,hrow⟩:∃row,Ls'[q/c.k]?=some row:=⟨Ls'[q/c.k],aa hqk⟩;have hrl:=hk row<|ai hrow;have hmod:=bJ q c.pos;have hg:=ARb hk hrow (j:=q%c.k) (x:=row[q%c.k]'Wq)<|aa _;have e1:q/c.k*c.k+q%c.k=q:=by rw[Nat.mul_comm];exact Nat.div_add_mod q c.k
  rw[e1,hq]at hg;injection hg with hg;obtain⟨b',o',hbo,hcell⟩:=hxc (q/c.k) row hrow;injection hbo with hbo;injection hbo with hb1 hb2;subst hb1;subst hb2;have:=hcell (q%c.k) u (by grind);rw[Zu,ATz];rw[cn,e1]at this;exact this
 obtain⟨cs',q2,q3,q4,q5⟩:=Aet g Ls'.flatten 0 w cur el (0,0) hg Wq;have hst:(storeCells ⟨g,0,none⟩ Ls'.flatten).run P w=.ok () (w.setCells g 0 Ls'.flatten):=by
  have:=run_storeCells_cells (P:=P) g 0 Ls'.flatten 0 w (λj hj=>?_) (λj hj=>?_) hone;.simpa using this
  .have:j<cur.size:=by omega
   simp[World.cell?,hg,this]
  .simp[World.frozen?,hg]
 have hcs:cs'.size=cur.size:=by have:=congrArg b9 q3;rw[Au8]at this;simpa using this
 have hown:AFi (w.setCells g 0 Ls'.flatten).heap el c.k g r Ls':=by refine⟨cap,cs',by grind,q2,Wq,hm,by rw[hcs,hsz],hk,?_⟩;rw[q3];apply aJ;intro q;rw[dJ,AOx];grind
 have U:Yg F w.heap (w.setCells g 0 Ls'.flatten).heap:=AMm q4 (hGF g W4) (λb hb _=>hnd b hb)<|hown.notD hk4;have hbg:b'≠g:=λhe=>by rw[hF']at hn;exact(cv.1 hn).1 (he▸AAo hG W4)
 have H':=H _ (.inr ⟨b',hF',hn,h2.upd q4 hbg,h3,by simp[sI,h4],by simp[sI,h5],λi' G' r' L2 hGi hri hLi=>?_⟩) U
 .refine⟨_,?_,q5,H'.1,H'.2⟩;have hfc:=run_firstCells_some (P:=P) w i0.size L.length ⟨b,o,none⟩ Ls'.length xc Ls'.flatten (by grind) hnews;have hmin:Nat.min Ls'.length Ls.length=L.length:=by grind
  have hmin2:min Ls'.length Ls.length=L.length:=hmin;have hmin3:min Ls.length Ls'.length=L.length:=by omega
  rw[hs,hx,hv,hxv];simp[Builtin.copy_,AGk hu,AK3 hi0,Builtin.lenOf,hmin,hmin2,hmin3,hfc,hst,goInt]
 .by_cases hii:i'=i
  .subst hii;rw[hG]at hGi;injection hGi with hGi;subst hGi;rw[hr]at hri;injection hri with hri;subst hri;have:L2=L':=by simp only[sI,bT]at hLi;grind
   subst this;exact .inr ⟨g,_,rfl,hown,Al.upT HA U,hk4⟩
  .have hLi':M[i']?=some L2:=by simp only[sI,bT]at hLi;grind
   have U1:Yg [g] w.heap (w.setCells g 0 Ls'.flatten).heap:=AMm q4 W4 (λb hb _=>hnd b<|hGF b hb)<|hown.notD hk4;exact(h6 i' G' r' L2 hGi hri hLi').upT U1 λx hx hxg=>by rw[bO.1 hxg]at hx;rw[hF']at hn;exact hii (AUa (cv.1 hn).2 hG hGi hx).symm
end
end Go.QF
namespace Go.Proofs.YtgmdhndbcohgiaaGreatDoor
theorem BAo:SlT Tryz.prog 142 180 5:=ALr Tryz.underlying142 Ww
theorem Ajs:SlT Tryz.prog 88 184 5:=ALr Tryz.underlying88 Ww
theorem Aff:NaT Tryz.prog 25:=AIj Tryz.underlying25 rfl Ww
theorem BAp:NaT Tryz.prog 142:=AIj Tryz.underlying142 rfl Ww
theorem A58:AgT Tryz.prog 144 3:=AOs Tryz.underlying144 rfl Ww
theorem A59:AgT Tryz.prog 180 5:=AOs Tryz.underlying180 rfl Ww
theorem A6a:AgT Tryz.prog 184 5:=AOs Tryz.underlying184 rfl Ww
theorem AXd:Tryz.prog.underlying 4=some .bool:=Tryz.underlying4
theorem A6b:ZeT Tryz.prog 144 (.agg #[.int .i64 0,.slice none 0 0,.slice none 0 0]) 56:=AFy Ww
theorem A6c:ZeT Tryz.prog 180 (.agg #[.int .i64 0,.int .i64 0,.int .i64 0,.int .i64 0,.int .i64 0]) 40:=AFy Ww
theorem Avb:ZeT Tryz.prog 184 (.agg #[.int .i64 0,.int .i64 0,.int .i64 0,.bool false,.int .i64 0]) 40:=AFy Ww
theorem A0h:FdT Tryz.prog 144 0 0 2:=⟨_,_,Tryz.underlying144,rfl,rfl,rfl⟩
theorem A0i:FdT Tryz.prog 144 1 1 25:=⟨_,_,Tryz.underlying144,rfl,rfl,rfl⟩
theorem A0j:FdT Tryz.prog 144 2 2 142:=⟨_,_,Tryz.underlying144,rfl,rfl,rfl⟩
theorem A0k:FdT Tryz.prog 180 0 0 3:=⟨_,_,Tryz.underlying180,rfl,rfl,rfl⟩
theorem A0l:FdT Tryz.prog 180 1 1 3:=⟨_,_,Tryz.underlying180,rfl,rfl,rfl⟩
theorem A0m:FdT Tryz.prog 180 2 2 2:=⟨_,_,Tryz.underlying180,rfl,rfl,rfl⟩
theorem A0n:FdT Tryz.prog 180 3 3 2:=⟨_,_,Tryz.underlying180,rfl,rfl,rfl⟩
theorem A0o:FdT Tryz.prog 180 4 4 2:=⟨_,_,Tryz.underlying180,rfl,rfl,rfl⟩
theorem A0p:FdT Tryz.prog 184 0 0 3:=⟨_,_,Tryz.underlying184,rfl,rfl,rfl⟩
theorem A0q:FdT Tryz.prog 184 1 1 3:=⟨_,_,Tryz.underlying184,rfl,rfl,rfl⟩
theorem A0r:FdT Tryz.prog 184 2 2 3:=⟨_,_,Tryz.underlying184,rfl,rfl,rfl⟩
theorem A0s:FdT Tryz.prog 184 3 3 4:=⟨_,_,Tryz.underlying184,rfl,rfl,rfl⟩
theorem A0t:FdT Tryz.prog 184 4 4 3:=⟨_,_,Tryz.underlying184,rfl,rfl,rfl⟩
theorem W7:SlT Tryz.prog 30 96 1:=ALr Tryz.underlying30 Ww
theorem ACj:NaT Tryz.prog 30:=AIj Tryz.underlying30 rfl Ww
theorem Y7:NaT Tryz.prog 96:=AIj Tryz.underlying96 rfl Ww
theorem Zy:ATi Tryz.prog 96 .u32:=Tryz.underlying96
theorem AG8:ZeT Tryz.prog 96 (.int .u32 0) 4:=AFy Ww
theorem Za:ATi Tryz.prog 48 .u64:=Tryz.underlying48
theorem Ye:AgT Tryz.prog 32 2:=AOs Tryz.underlying32 rfl Ww
theorem AEz:ZeT Tryz.prog 32 (.agg #[.bool false,.slice none 0 0]) 32:=AFy Ww
theorem AFf:FdT Tryz.prog 32 0 0 4:=⟨_,_,Tryz.underlying32,rfl,rfl,rfl⟩
theorem AFg:FdT Tryz.prog 32 1 1 30:=⟨_,_,Tryz.underlying32,rfl,rfl,rfl⟩
theorem ABg:SlT Tryz.prog 56 32 2:=ALr Tryz.underlying56 Ww
theorem AB8:NaT Tryz.prog 56:=AIj Tryz.underlying56 rfl Ww
theorem AA0:SlT Tryz.prog 34 56 1:=ALr Tryz.underlying34 Ww
theorem AE3{lo:Nat}{L:List Nat}(H:DS h lo v L)(hn:L.length<=1000000):W6 Tryz.prog 109 #[v] h λx h'=>Ext h h'/\∃L',DS h' (aq h) x L'/\TL L'/\nv L'=nv L/\L'.length<=L.length:=by
 refine Xn (l:=[_]) mx Tryz.func109 rfl rfl rfl rfl rfl Ww (Wx<|W5<|X4<|W0<|Xr<|Wx<|W5<|Wu<|Yk W7 rfl H (X4<|W0<|Xr<|Wx<|W8<|AB5 262088 (λn:Nat=>[(3,.int .i64 (n:Int))]) (λk n h'=>h'=h/\n=k/\n<=L.length/\nv (L.take n)=nv L) Ww L.length L.length ?_ ⟨rfl,trivial⟩ ?_));.exact⟨rfl,rfl,aU _,by rw[bD]⟩
 rintro k n s1 h⟨rfl,rfl,hi,hv⟩;refine Wx<|Wx<|W5<|Wu<|AN4 rfl rfl (λAi=>?_) λAi=>?_
 .refine Wu<|Yh 8 true Ww rfl rfl (Wu<|Yh 8 true Ww rfl rfl (Wu<|Yh 8 true Ww rfl rfl (AJd rfl rfl Wq Wq ?_)));rw[show((n:Nat):Int)-1=((n-1:Nat):Int)by omega];obtain⟨x,hx⟩:∃x,L[n-1]?=some x:=⟨_,aa Wq⟩;refine Yh 8 true Ww rfl rfl (AE2 W7 rfl H rfl hx λAp Aj=>Yh 8 true Ww rfl rfl (Yf Y7 rfl Aj (Yh 8 true Ww rfl rfl (AS8 rfl rfl (λAk=>?_) λAk=>?_))))
  .refine Zk rfl (W0<|Xr<|X0 rfl (Xj<|Xr<|W8<|W5<|Wu<|AJd rfl rfl Wq Wq ?_));rw[show((n:Nat):Int)-1=((n-1:Nat):Int)by omega];have Am:x=0:=by omega
   refine X4<|W0<|q_b<|Xr ?_;exact⟨n-1,n-1,Wq,⟨rfl,rfl,Wq,by rw[<-hv];have:=Yp hx;rw[show n-1+1=n by omega]at this;rw[this,Am];simp⟩,rfl,trivial⟩
  .refine Zk rfl (W0<|Xr<|Xi rfl (Y9<|Zj<|Zj<|AEo<|Xr<|Wx<|W5<|Wu<|Wu<|Agr W7 rfl H.sl H.cap rfl (by rw[aI];omega) λv9 Ad Ae Ab=>?_));have Af:DS h lo v9 (L.take n):=⟨by rw[dZ];exact Ad,Ae,AXa H.dig n,λg hg=>H.lo g<|Ab▸hg,λg hg=>H.tg g<|Ab▸hg⟩;refine A4m W7 AG8 (λ_=>trivial) rfl rfl Af Wr (by rw[bE];omega) λv2 h2 Ag E2=>?_;have Aq:=E2.1;have Z3:=(Ext.refl h).trans E2;refine X4<|W0<|Xr<|Xt<|⟨_,Ya,?_⟩;refine⟨E2,L.take n,Ag,?_,hv,by rw[bE];omega⟩;first
   | (have h0:n=0:=by omega
      subst h0;exact AQf)|exact Ao9 hx Wq Wq
 .refine Wu<|X8 8 false Ww rfl rfl (X8 8 false Ww rfl rfl (X8 8 false Ww rfl rfl (X8 8 false Ww rfl rfl (X8 8 false Ww rfl rfl (X8 8 false Ww rfl rfl (AAs rfl (W0<|Xr<|Xi rfl (Y9<|Zj<|Zj<|AEo<|Xr<|Wx<|W5<|Wu<|Wu<|Agr W7 rfl H.sl H.cap rfl (by rw[aI];omega) λv9 Ad Ae Ab=>?_))))))));have Af:DS h lo v9 (L.take n):=⟨by rw[dZ];exact Ad,Ae,AXa H.dig n,λg hg=>H.lo g<|Ab▸hg,λg hg=>H.tg g<|Ab▸hg⟩;refine A4m W7 AG8 (λ_=>trivial) rfl rfl Af Wr (by rw[bE];omega) λv2 h2 Ag E2=>?_;have Au:=E2.1;have Z5:=(Ext.refl h).trans E2;refine X4<|W0<|Xr<|Xt<|⟨_,Ya,?_⟩;refine⟨E2,L.take n,Ag,?_,hv,by rw[bE];omega⟩;first
  | (have h0:n=0:=by omega
     subst h0;exact AQf)|exact Ao9 hx Wq Wq
theorem AUb(w:bt):(bL 32 #[]).run Tryz.prog w=.ok (.agg #[.bool false,.slice none 0 0]) w:=by kernel_rfl
theorem AXe(b:Bool)(a:Option Addr)(n c:Nat)(w:bt):(bL 32 #[(0,.bool b),(1,.slice a n c)]).run Tryz.prog w=.ok (.agg #[.bool b,.slice a n c]) w:=by kernel_rfl
theorem ARf(b:Bool):sgn b 0=0:=by cases b<;>rfl
theorem AJh{lo:Nat}{s:ab}{L:List Nat}(neg:Bool)(H:DS h lo s L)(hn:L.length<=1000000)(hb:nv L<4294967296^100):W6 Tryz.prog 49 #[.bool neg,s] h λx h'=>Ext h h'/\ZV h' (aq h) x (sgn neg<|nv L):=by
 refine Xn (l:=[_,_]) mx Tryz.func49 rfl rfl rfl rfl rfl Ww (Wx<|W5<|ACp [.bool false,.slice none 0 0] AEz rfl (λ_=>trivial) λAa h2 V3 E4 Ay Bg=>?_);have Bh:aq h<=Aa:=Ay;have Bi:=E4.1;have Z8:=(Ext.refl h).trans E4;refine W0<|Xr<|Wx<|W5<|Wu<|Xf trivial rfl (AE3 (H.ext E4) Wq) λx9 Bl hk=>?_;obtain⟨Aj,L1,Af,Ah,Ac,Bm⟩:=hk;refine⟨trivial,?_⟩;have Bn:=Aj.1;have Ar:=Z8.trans Aj;have Au:=E4.trans Aj;have Av:=V3.ext Aj;have Aw:=E4.trans Aj;obtain⟨a1,n1,c1,rfl,Bo⟩:=Af.cap;refine X4<|W0<|Xr<|Wx<|W5<|Wu ?_;cases Bp:neg
 .refine Wu<|X8 9 false Ww rfl rfl (X8 9 false Ww rfl rfl (X8 9 false Ww rfl rfl (AAs rfl (Wu<|AE8 (v:=.agg #[.bool false,.slice a1 n1 c1]) (AXe false a1 n1 c1)<|AAn [.bool false,.slice a1 n1 c1] Ye rfl rfl rfl rfl (AE1 Af.cap) Av λBq A4 Ak=>?_))));have A5:=Au.thenUpd Ak (λk hk=>by have Ag:k=Aa:=hk;omega);have Br:=Ak.1;have Bt:=Ar.thenUpd Ak (λk hk=>by have Ag:k=Aa:=hk;omega);have Bu:=Aw.thenUpd Ak (λk hk=>by have Ag:k=Aa:=hk;omega);have A6:=Af.updLo Ak Wq;refine W0<|Xr<|Xt<|⟨_,ABy Ye rfl rfl A4,?_⟩;have Am:L1.length<=100:=AF0 Ah (by rw[Ac];exact hb);refine⟨A5,⟨false,_,L1,rfl,A6.mono Wq,Ah,Am,?_⟩⟩;first
  |(rw[Ac];done);| (have h0:L1=[]:=ay.1 Wq;rw[<-Ac,h0];exact(ARf _).trans (ARf _).symm)
 .refine Wu<|Yh 9 true Ww rfl rfl (Wu<|Yh 9 true Ww rfl rfl (Yk W7 rfl Af (Yh 9 true Ww rfl rfl (AN4 rfl rfl (λA7=>?_) λA7=>?_))))
  .refine Zk rfl (Wu<|AE8 (v:=.agg #[.bool true,.slice a1 n1 c1]) (AXe true a1 n1 c1)<|AAn [.bool true,.slice a1 n1 c1] Ye rfl rfl rfl rfl (AE1 Af.cap) Av λBv A8 Ap=>?_);have A9:=Au.thenUpd Ap (λk hk=>by have Ag:k=Aa:=hk;omega);have Bw:=Ap.1;have Bx:=Ar.thenUpd Ap (λk hk=>by have Ag:k=Aa:=hk;omega);have By:=Aw.thenUpd Ap (λk hk=>by have Ag:k=Aa:=hk;omega);have Ba:=Af.updLo Ap Wq;refine W0<|Xr<|Xt<|⟨_,ABy Ye rfl rfl A8,?_⟩;have Am:L1.length<=100:=AF0 Ah (by rw[Ac];exact hb);refine⟨A9,⟨true,_,L1,rfl,Ba.mono Wq,Ah,Am,?_⟩⟩;first
   |(rw[Ac];done);| (have h0:L1=[]:=ay.1 Wq;rw[<-Ac,h0];exact(ARf _).trans (ARf _).symm)
  .refine Zk rfl (Wu<|AE8 (v:=.agg #[.bool false,.slice a1 n1 c1]) (AXe false a1 n1 c1)<|AAn [.bool false,.slice a1 n1 c1] Ye rfl rfl rfl rfl (AE1 Af.cap) Av λBz Bb Aq=>?_);have Bc:=Au.thenUpd Aq (λk hk=>by have Ag:k=Aa:=hk;omega);have B2:=Aq.1;have B3:=Ar.thenUpd Aq (λk hk=>by have Ag:k=Aa:=hk;omega);have B4:=Aw.thenUpd Aq (λk hk=>by have Ag:k=Aa:=hk;omega);have Be:=Af.updLo Aq Wq;refine W0<|Xr<|Xt<|⟨_,ABy Ye rfl rfl Bb,?_⟩;have Am:L1.length<=100:=AF0 Ah (by rw[Ac];exact hb);refine⟨Bc,⟨false,_,L1,rfl,Be.mono Wq,Ah,Am,?_⟩⟩;first
   |(rw[Ac];done);| (have h0:L1=[]:=ay.1 Wq;rw[<-Ac,h0];exact(ARf _).trans (ARf _).symm)
theorem Aeu{lo:Nat}{z:Int}(HA:ZV h lo va z):W6 Tryz.prog 71 #[va] h λx h'=>Ext h h'/\ZV h' (aq h) x z:=by
 obtain⟨na,sa,LA,rfl,HDa,htla,hla,hza⟩:=HA.out;have hna:LA.length<=1000000:=by omega
 have hba:nv LA<4294967296^100:=aF (AJ4 HDa.dig)<|be Wr hla;refine Xn (l:=[_]) mx Tryz.func71 rfl rfl rfl rfl rfl Ww (Wx<|W5<|ADj [.bool na,sa] (λ_=>trivial) rfl rfl λAg h2 V3 E4 Ap Bf=>?_);have Bg:aq h<=Ag:=Ap;have Bh:=E4.1;have Z8:=(Ext.refl h).trans E4;refine ACp [.bool false,.slice none 0 0] AEz rfl (λ_=>trivial) λAa Bi Ar Ab Au Bj=>?_;have Bl:aq h<=Aa:=bo E4.1 Au;have nebq1bq9:Ag≠Aa:=by have:=V3.lt;omega
 have Bm:=Ab.1;have Av:=Z8.trans Ab;have Ai:=E4.trans Ab;have Aj:=V3.ext Ab;have Aw:=E4.trans Ab;refine W0<|Xr<|Wx<|W5<|AA8 (fs:=1) AFf Ww Wr rfl (Yf Zn rfl (Aj.cell (i:=0) rfl) (AA8 (fs:=1) AFg Ww Wr rfl (Yf ACj rfl (Aj.cell (i:=1) rfl) (Xf trivial rfl (AJh na (HDa.ext Ai) hna hba) λx20 Bn hk=>?_))));obtain⟨Ac,Ax⟩:=hk;refine⟨trivial,?_⟩;have Bo:=Ac.1;have Ay:=Av.trans Ac;have Az:=Ai.trans Ac;have A4:=Aw.trans Ac;have A5:=Ar.ext Ac;have A6:=Ab.trans Ac;obtain⟨Ak,s3,L3,rfl,Am,A8,A9,Ao⟩:=Ax.out;refine AAn [.bool Ak,s3] Ye rfl rfl rfl rfl (AE1 Am.cap) A5 λBp Ba Ad=>?_;have Bb:=Az.thenUpd Ad (λk hk=>by have Af:k=Aa:=hk;omega);have Bq:=Ad.1;have Br:=Ay.thenUpd Ad (λk hk=>by have Af:k=Aa:=hk;omega);have Bt:=A6.thenUpd Ad (λk hk=>by have Af:k=Aa:=hk;omega);have Bu:=A4.thenUpd Ad (λk hk=>by have Af:k=Aa:=hk;omega);have Bc:=Am.updLo Ad Wq;refine W0<|Xr<|Xt<|⟨_,ABy Ye rfl rfl Ba,?_⟩;exact⟨Bb,⟨Ak,s3,L3,rfl,Bc.mono Wq,A8,A9,by first|(rw[<-Ao,hza];done)|(rw[<-Ao,hza];cases na<;>simp[sgn])⟩⟩
theorem Aph{lo:Nat}{z:Int}(HA:ZV h lo va z):W6 Tryz.prog 80 #[va] h λx h'=>Ext h h'/\ZV h' (aq h) x (-z):=by
 obtain⟨na,sa,LA,rfl,HDa,htla,hla,hza⟩:=HA.out;have hna:LA.length<=1000000:=by omega
 have hba:nv LA<4294967296^100:=aF (AJ4 HDa.dig)<|be Wr hla;refine Xn (l:=[_]) mx Tryz.func80 rfl rfl rfl rfl rfl Ww (Wx<|W5<|ADj [.bool na,sa] (λ_=>trivial) rfl rfl λAg h2 V3 E4 Ap Bf=>?_);have Bg:aq h<=Ag:=Ap;have Bh:=E4.1;have Z8:=(Ext.refl h).trans E4;refine ACp [.bool false,.slice none 0 0] AEz rfl (λ_=>trivial) λAa Bi Ar Ab Au Bj=>?_;have Bl:aq h<=Aa:=bo E4.1 Au;have nebq1bq9:Ag≠Aa:=by have:=V3.lt;omega
 have Bm:=Ab.1;have Av:=Z8.trans Ab;have Ai:=E4.trans Ab;have Aj:=V3.ext Ab;have Aw:=E4.trans Ab;refine W0<|Xr<|Wx<|W5<|AA8 (fs:=1) AFf Ww Wr rfl (Yf Zn rfl (Aj.cell (i:=0) rfl) (AM6 rfl (AA8 (fs:=1) AFg Ww Wr rfl (Yf ACj rfl (Aj.cell (i:=1) rfl) (Xf trivial rfl (AJh (!na) (HDa.ext Ai) hna hba) λx20 Bn hk=>?_)))));obtain⟨Ac,Ax⟩:=hk;refine⟨trivial,?_⟩;have Bo:=Ac.1;have Ay:=Av.trans Ac;have Az:=Ai.trans Ac;have A4:=Aw.trans Ac;have A5:=Ar.ext Ac;have A6:=Ab.trans Ac;obtain⟨Ak,s3,L3,rfl,Am,A8,A9,Ao⟩:=Ax.out;refine AAn [.bool Ak,s3] Ye rfl rfl rfl rfl (AE1 Am.cap) A5 λBp Ba Ad=>?_;have Bb:=Az.thenUpd Ad (λk hk=>by have Af:k=Aa:=hk;omega);have Bq:=Ad.1;have Br:=Ay.thenUpd Ad (λk hk=>by have Af:k=Aa:=hk;omega);have Bt:=A6.thenUpd Ad (λk hk=>by have Af:k=Aa:=hk;omega);have Bu:=A4.thenUpd Ad (λk hk=>by have Af:k=Aa:=hk;omega);have Bc:=Am.updLo Ad Wq;refine W0<|Xr<|Xt<|⟨_,ABy Ye rfl rfl Ba,?_⟩;exact⟨Bb,⟨Ak,s3,L3,rfl,Bc.mono Wq,A8,A9,by first|(rw[<-Ao,hza];done)|(rw[<-Ao,hza];cases na<;>simp[sgn])⟩⟩
theorem AXf(neg:Bool)(w:Nat)(hw:w<18446744073709551616)(h:Ws):W6 Tryz.prog 16 #[.bool neg,.int .u64 (w:Int)] h λx h'=>Ext h h'/\ZV h' (aq h) x (sgn neg w):=by
 refine Xn (l:=[_,_]) mx Tryz.func16 rfl rfl rfl rfl rfl Ww (Wx<|W5<|ACp [.bool false,.slice none 0 0] AEz rfl (λ_=>trivial) λAd h2 V3 E4 Aj Bc=>?_);have Be:aq h<=Ad:=Aj;have Bf:=E4.1;have Z8:=(Ext.refl h).trans E4;refine W0<|Xr<|Wx<|W5<|Wu<|Wu<|AQd Za Zy rfl ?_;rw[show IntKind.u32.wrap (w:Int)=((w%4294967296:Nat):Int)by rw[wrap_u32];omega];refine Wu<|Aak (n:=32) rfl rfl Wr (AQd Za Zy rfl ?_);rw[show IntKind.u32.wrap ((w:Int)/2^32)=((w/4294967296:Nat):Int)by rw[wrap_u32];omega];have hdg:Dig [w%4294967296,w/4294967296]:=by intro x hx;simp only[aM,dM,or_false]at hx;rcases hx with rfl|rfl<;>omega
 refine Auq ([w%4294967296,w/4294967296].map AKj) W7 AG8 rfl (λ_=>trivial) rfl Wq Wq rfl (by simp[AKj,isOne]) λg1 v1 h1 Am E1 Bi Bj=>?_;have Bl:=E1.1;have Ao:=Z8.trans E1;have Ap:=E4.trans E1;have Aq:=V3.ext E1;have Ar:=E4.trans E1;have Au:=Am.ds (lo:=0) hdg<|bI _;have hwv:nv [w%4294967296,w/4294967296]=w:=by simp only[nv];omega
 refine Xf trivial rfl (AJh neg Au W4 (by rw[hwv];exact ba hw Wr)) λBm Bn hk=>?_;obtain⟨Ab,Av⟩:=hk;refine⟨trivial,?_⟩;have Bo:=Ab.1;have Aw:=Ao.trans Ab;have Ax:=Ap.trans Ab;have Ay:=Aq.ext Ab;have Az:=Ar.trans Ab;obtain⟨Af,s3,L3,rfl,Ag,A5,A6,A7⟩:=Av.out;refine AAn [.bool Af,s3] Ye rfl rfl rfl rfl (AE1 Ag.cap) Ay λBp A8 Ac=>?_;have A9:=Ax.thenUpd Ac (λk hk=>by have Ah:k=Ad:=hk;omega);have Bq:=Ac.1;have Br:=Aw.thenUpd Ac (λk hk=>by have Ah:k=Ad:=hk;omega);have Bt:=Az.thenUpd Ac (λk hk=>by have Ah:k=Ad:=hk;omega);have Ba:=Ag.updLo Ac Wq;refine W0<|Xr<|Xt<|⟨_,ABy Ye rfl rfl A8,?_⟩;exact⟨A9,⟨Af,s3,L3,rfl,Ba.mono Wq,A5,A6,by rw[<-A7,hwv]⟩⟩
theorem AZg{n:Int}(hn:-9223372036854775808<=n/\n<=9223372036854775807)(h:Ws):W6 Tryz.prog 7 #[.int .i64 n] h λx h'=>Ext h h'/\ZV h' (aq h) x n:=by
 refine Xn (l:=[_]) mx Tryz.func7 rfl rfl rfl rfl rfl Ww (Wx<|W5<|ACp [.bool false,.slice none 0 0] AEz rfl (λ_=>trivial) λAa h2 V3 E4 Au Bg=>?_);have Bh:aq h<=Aa:=Au;have Bi:=E4.1;have Z8:=(Ext.refl h).trans E4;refine W0<|Xr<|Wx<|Wx<|W5<|Wu<|ABa rfl rfl (λAv=>?_) λAv=>?_;.refine W0<|Xr<|X0 rfl (Wx<|W5<|Wu<|AQd AOt Za rfl ?_);rw[show IntKind.u64.wrap n=n+18446744073709551616 by rw[wrap_u64];omega];refine Ai8 rfl ?_;rw[show IntKind.u64.wrap (0-(n+18446744073709551616))=((n.natAbs:Nat):Int)by rw[wrap_u64];omega];refine Xf trivial rfl (AXf true n.natAbs Wq _) λx9 Bl hk=>?_;obtain⟨Ac,Aj⟩:=hk;refine⟨trivial,?_⟩;have Bm:=Ac.1;have Aw:=Z8.trans Ac;have Ax:=E4.trans Ac;have Ay:=V3.ext Ac;have Az:=E4.trans Ac;obtain⟨Ad,s2,L2,rfl,Ae,Am,Ao,Ap⟩:=Aj.out;refine AAn [.bool Ad,s2] Ye rfl rfl rfl rfl (AE1 Ae.cap) Ay λBn A4 Af=>?_;have A5:=Ax.thenUpd Af (λk hk=>by have Ag:k=Aa:=hk;omega);have Bo:=Af.1;have Bp:=Aw.thenUpd Af (λk hk=>by have Ag:k=Aa:=hk;omega);have Bq:=Az.thenUpd Af (λk hk=>by have Ag:k=Aa:=hk;omega);have A6:=Ae.updLo Af Wq;refine W0<|Xr<|Xt<|Ze<|⟨_,ABy Ye rfl rfl A4,?_⟩;exact⟨A5,⟨Ad,s2,L2,rfl,A6.mono Wq,Am,Ao,by rw[<-Ap];unfold sgn;first|(rw[if_pos rfl];omega)|(rw[if_neg Wr];omega)⟩⟩
 .refine W0<|Xr<|Xi rfl (Xj<|Xr<|Wx<|W5<|Wu<|AQd AOt Za rfl ?_);rw[show IntKind.u64.wrap n=((n.natAbs:Nat):Int)by rw[wrap_u64];omega];refine Xf trivial rfl (AXf false n.natAbs Wq _) λBr Bt hk=>?_;obtain⟨Ah,Aj⟩:=hk;refine⟨trivial,?_⟩;have Bu:=Ah.1;have A7:=Z8.trans Ah;have A8:=E4.trans Ah;have A9:=V3.ext Ah;have Ba:=E4.trans Ah;obtain⟨Ad,s2,L2,rfl,Ae,Am,Ao,Ap⟩:=Aj.out;refine AAn [.bool Ad,s2] Ye rfl rfl rfl rfl (AE1 Ae.cap) A9 λBv Bb Ai=>?_;have Bc:=A8.thenUpd Ai (λk hk=>by have Ag:k=Aa:=hk;omega);have Bw:=Ai.1;have Bx:=A7.thenUpd Ai (λk hk=>by have Ag:k=Aa:=hk;omega);have By:=Ba.thenUpd Ai (λk hk=>by have Ag:k=Aa:=hk;omega);have Be:=Ae.updLo Ai Wq;refine W0<|Xr<|Xt<|⟨_,ABy Ye rfl rfl Bb,?_⟩;exact⟨Bc,⟨Ad,s2,L2,rfl,Be.mono Wq,Am,Ao,by rw[<-Ap];unfold sgn;first|(rw[if_pos rfl];omega)|(rw[if_neg Wr];omega)⟩⟩
theorem Agz{lo:Nat}{L:List Nat}(H:DS h lo v L)(hn:L.length<=2):W6 Tryz.prog 140 #[v] h λx h'=>h'=h/\x=.int .u64 (nv L:Int):=by
 refine Xn (l:=[_]) mx Tryz.func140 rfl rfl rfl rfl rfl Ww (Wx<|W5<|X4<|W0<|Xr<|Wx<|W5<|X4<|W0<|Xr<|Wx<|Wx<|W5<|X4<|W0<|Xr<|W8<|AB5 33554424 (λy:Nat×Nat=>[(4,.int .i64 (y.1:Int)),(3,.int .u64 (y.2:Int))]) (λk y h'=>h'=h/\k=L.length-y.1/\y.1<=L.length/\y.2=nv (L.take y.1)) Ww L.length (0,0) ?_ ⟨rfl,rfl,trivial⟩ ?_);.exact⟨rfl,rfl,bI _,rfl⟩
 rintro k⟨i,w⟩s1 h⟨rfl,rfl,hi,hw⟩;dsimp only at hi hw⊢;subst hw;refine Wx<|Wx<|W5<|Wu<|Wu<|Yk W7 rfl H (ABa rfl rfl (λAb=>?_) λAb=>?_)
 .refine Wu<|Yh 9 true Ww rfl rfl (Wu<|Yh 9 true Ww rfl rfl (ABa rfl rfl (λAc=>?_) λAc=>?_))
  .refine Zk rfl (W0<|Xr<|X0 rfl (Xj<|Xr<|Wx<|W8 ?_));obtain⟨x,hx⟩:∃x,L[i]?=some x:=⟨_,aa Wq⟩;have hxb:=H.dig x<|ai hx;refine W5<|Wu<|Wu<|Wu<|AE2 W7 rfl H rfl hx λAg Ad=>Yf Y7 rfl Ad (A4l Zy Za rfl (by rw[wrap_u64];omega) ?_);refine Wu<|ALq rfl rfl Wq Wq ?_;rw[show(32:Int)*(i:Int)=((32*i:Nat):Int)by omega];refine Afb (n:=32*i) rfl rfl (by show 32*i<=64;omega) ?_;have Aa:i=0∨i=1:=by omega
   have hlt:=AOw H.dig hi;have hsh:IntKind.u64.wrap ((x:Int)*2^(32*i))=((2^(32*i)*x:Nat):Int):=by
    rw[wrap_u64];rcases Aa with rfl|rfl;.simp;omega
    .simp;omega
   rw[hsh];have Ae:2^(32*i)*x<18446744073709551616:=by
    rcases Aa with rfl|rfl;.simp;omega
    .simp;omega
   have Af:nv (L.take i)<18446744073709551616:=by
    rcases Aa with rfl|rfl;.simp at hlt⊢;omega
    .simp at hlt⊢;omega
   refine AT4 rfl rfl (.inr<|.inl rfl) (Aus Af Ae) ?_;rw[Aut (by rw[<-AWb];exact hlt),<-AWb,<-Yp hx];refine X4<|W0<|q_b<|Xr<|W5<|Wu<|AFp rfl Wq (X4<|W0<|Xr ?_);exact⟨L.length-(i+1),(i+1,nv<|L.take<|i+1),by first|omega|(dsimp only;omega),⟨rfl,rfl,by first|omega|(dsimp only;omega),rfl⟩,rfl,rfl,trivial⟩
  .refine Zk rfl (W0<|Xr<|Xi rfl (Y9<|Zj<|Zj<|AEo<|Xr<|Wx<|W5<|Wu<|X4<|W0<|Xr<|Xt<|⟨_,Ya,?_⟩));obtain rfl:i=L.length:=by omega
   exact⟨rfl,by rw[bD]at*;rfl⟩
 .refine Wu<|X8 9 false Ww rfl rfl (X8 9 false Ww rfl rfl (AAs rfl (W0<|Xr<|Xi rfl (Y9<|Zj<|Zj<|AEo<|Xr<|Wx<|W5<|Wu<|X4<|W0<|Xr<|Xt<|⟨_,Ya,?_⟩))));obtain rfl:i=L.length:=by omega
  exact⟨rfl,by rw[bD]at*;rfl⟩
def sigZ(z:Int):Int:=if z<0 then-1 else if z=0 then 0 else 1
theorem sign_zero{z:Int}(h:z=0):sigZ z=0:=by subst h;rfl
theorem sign_neg{z:Int}(h:z<0):sigZ z=-1:=if_pos h
theorem AOy{z:Int}(h:0<z):sigZ z=1:=by unfold sigZ;rw[if_neg Wq,if_neg Wq]
theorem AUc{lo:Nat}{z:Int}(HA:ZV h lo va z):W6 Tryz.prog 128 #[va] h λx h'=>Ext h h'/\x=.int .i64 (sigZ z):=by
 obtain⟨na,sa,LA,rfl,HDa,htla,hla,hza⟩:=HA.out;have hna:LA.length<=1000000:=by omega
 have hba:nv LA<4294967296^100:=aF (AJ4 HDa.dig)<|be Wr hla;refine Xn (l:=[_]) mx Tryz.func128 rfl rfl rfl rfl rfl Ww (Wx<|W5<|ADj [.bool na,sa] (λ_=>trivial) rfl rfl λAk h2 V3 E4 Am Av=>?_);have Aw:aq h<=Ak:=Am;have Ax:=E4.1;have Z8:=(Ext.refl h).trans E4;refine X4<|W0<|Xr<|Wx<|W8<|Wx<|W5<|AA8 (fs:=1) AFg Ww Wr rfl (Yf ACj rfl (V3.cell (i:=1) rfl) (Xf trivial rfl (AE3 (HDa.ext E4) hna) λx9 Az hk=>?_));obtain⟨Ah,L1,Ap,Af,Ad,A4⟩:=hk;refine⟨trivial,?_⟩;have A5:=Ah.1;have A6:=Z8.trans Ah;have Ae:=E4.trans Ah;have Aq:=V3.ext Ah;have A7:=E4.trans Ah;refine Yk W7 rfl Ap (AS8 rfl rfl (λAr=>?_) λAr=>?_);.refine X4 (W0<|Xr<|X0 rfl (Wx<|W5<|X4<|W0<|Xr<|Xt<|ADr<|Ze<|⟨_,Ya,?_⟩));first
  | (have h0:L1=[]:=ay.1 Wq;have h1:nv LA=0:=by rw[<-Ad,h0];rfl
     exact⟨Ae,congrArg (an .i64) (sign_zero<|hza.trans (by rw[h1];cases na<;>rfl)).symm⟩)
  | (have h1:nv LA≠0:=λh0=>by rw[<-Ad]at h0;have:=congrArg b9<|ADk Af h0;rw[bN]at this;omega
     have h3:na=true:=by assumption
     exact⟨Ae,congrArg (an .i64) (sign_neg (by rw[hza,h3];unfold sgn;rw[if_pos rfl];omega)).symm⟩)
  | (have h1:nv LA≠0:=λh0=>by rw[<-Ad]at h0;have:=congrArg b9<|ADk Af h0;rw[bN]at this;omega
     have h3:na=false:=by assumption
     exact⟨Ae,congrArg (an .i64) (AOy (by rw[hza,h3];unfold sgn;rw[if_neg Wr];omega)).symm⟩)
 .refine X4<|W0<|Xr<|Xi rfl (Wx<|W5<|AA8 (fs:=1) AFf Ww Wr rfl (Yf Zn rfl (Aq.cell (i:=0) rfl) ?_));cases A8:na
  .refine X4 (W0<|Xr<|Xi rfl (Xj<|q_b<|Xr<|Wx<|W5<|X4<|W0<|Xr<|Xt<|⟨_,Ya,?_⟩));first
   | (have h0:L1=[]:=ay.1 Wq;have h1:nv LA=0:=by rw[<-Ad,h0];rfl
      exact⟨Ae,congrArg (an .i64) (sign_zero<|hza.trans (by rw[h1];cases na<;>rfl)).symm⟩)
   | (have h1:nv LA≠0:=λh0=>by rw[<-Ad]at h0;have:=congrArg b9<|ADk Af h0;rw[bN]at this;omega
      have h3:na=true:=by assumption
      exact⟨Ae,congrArg (an .i64) (sign_neg (by rw[hza,h3];unfold sgn;rw[if_pos rfl];omega)).symm⟩)
   | (have h1:nv LA≠0:=λh0=>by rw[<-Ad]at h0;have:=congrArg b9<|ADk Af h0;rw[bN]at this;omega
      have h3:na=false:=by assumption
      exact⟨Ae,congrArg (an .i64) (AOy (by rw[hza,h3];unfold sgn;rw[if_neg Wr];omega)).symm⟩)
  .refine X4 (W0<|Xr<|X0 rfl (Wx<|W5<|X4<|W0<|Xr<|Xt<|ADr<|Ze<|⟨_,Ya,?_⟩));first
   | (have h0:L1=[]:=ay.1 Wq;have h1:nv LA=0:=by rw[<-Ad,h0];rfl
      exact⟨Ae,congrArg (an .i64) (sign_zero<|hza.trans (by rw[h1];cases na<;>rfl)).symm⟩)
   | (have h1:nv LA≠0:=λh0=>by rw[<-Ad]at h0;have:=congrArg b9<|ADk Af h0;rw[bN]at this;omega
      have h3:na=true:=by assumption
      exact⟨Ae,congrArg (an .i64) (sign_neg (by rw[hza,h3];unfold sgn;rw[if_pos rfl];omega)).symm⟩)
   | (have h1:nv LA≠0:=λh0=>by rw[<-Ad]at h0;have:=congrArg b9<|ADk Af h0;rw[bN]at this;omega
      have h3:na=false:=by assumption
      exact⟨Ae,congrArg (an .i64) (AOy (by rw[hza,h3];unfold sgn;rw[if_neg Wr];omega)).symm⟩)
def AG3(a b:Nat):Int:=if a<b then-1 else if a=b then 0 else 1
theorem AF1{a b:Nat}(h:a<b):AG3 a b=-1:=if_pos h
theorem AF2{a b:Nat}(h:b<a):AG3 a b=1:=by unfold AG3;rw[if_neg Wq,if_neg Wq]
theorem AOz{a b:Nat}(h:a=b):AG3 a b=0:=by unfold AG3;rw[if_neg Wq,if_pos h]
theorem AF3{A B:List Nat}(ha:Dig A)(hb:TL B)(h:A.length<B.length):nv A<nv B:=by have h1:=AJ4 ha;have h2:=Aup hb (λhe=>by rw[he]at h;simp at h);have h3:4294967296^A.length<=4294967296^(B.length-1):=be Wr Wq;omega
theorem AF4{A B:List Nat}(ha:Dig A)(hb:Dig B){x y:Nat}(hl:A.length=B.length)(hx:A[i]?=some x)(hy:B[i]?=some y)(hxy:x<y)(hs:∀q,i<q->A[q]?=B[q]?):nv A<nv B:=by
 have hi:=(ar.1 hx).1;have hd:A.drop (i+1)=B.drop (i+1):=aJ λq=>by rw[bP,bP];exact hs _ Wq
 have e:∀L:List Nat,nv L=nv (L.take<|i+1)+4294967296^(L.take<|i+1).length*nv (L.drop<|i+1):=λL=>by rw[<-AU3,List.take_append_drop]
 rw[e A,e B,hd,Yp hx,Yp hy,bE,bE,hl];have h1:=AOw ha (i:=i) Wq;have h2:4294967296^i*(x+1)<=4294967296^i*y:=Nat.mul_le_mul_left _ hxy;rw[cb,dC]at h2;omega
theorem Abj(HA:DS h la va LA)(HB:DS h lb vb LB)(hta:TL LA)(htb:TL LB)(hna:LA.length<=1000000)(hnb:LB.length<=1000000):W6 Tryz.prog 129 #[va,vb] h λx h'=>h'=h/\x=.int .i64 (AG3 (nv LA)<|nv LB):=by
 refine Xn (l:=[_,_]) mx Tryz.func129 rfl rfl rfl rfl rfl Ww (Wx<|W5<|X4<|W0<|Xr<|Wx<|Wx<|W5<|Wu<|Yk W7 rfl HA (Wu<|Yk W7 rfl HB (Ajb rfl rfl (λAc=>?_) λAc=>?_)))
 .refine W0<|Xr<|X0 rfl (Wx<|Wx<|W5<|Wu<|Yk W7 rfl HA (Wu<|Yk W7 rfl HB (ABa rfl rfl (λAd=>?_) λAd=>?_)))
  .refine W0 (Xr<|X0 rfl (Wx<|W5<|X4<|W0<|Xr<|Xt<|Ze<|Ze<|⟨_,Ya,?_⟩));first
   |exact⟨rfl,congrArg (an .i64) (AF1<|AF3 HA.dig htb Wq).symm⟩|exact⟨rfl,congrArg (an .i64) (AF2<|AF3 HB.dig hta Wq).symm⟩|exact⟨rfl,congrArg (an .i64) (AF1<|AF4 HA.dig HB.dig Wq hx hy Wq λq hq=>hsame q Wq).symm⟩|exact⟨rfl,congrArg (an .i64) (AF2<|AF4 HB.dig HA.dig Wq hy hx Wq λq hq=>(hsame q Wq).symm).symm⟩|exact⟨rfl,congrArg (an .i64) (AOz<|congrArg nv<|aJ λq=>hsame q Wq).symm⟩
  .refine W0 (Xr<|Xi rfl (Xj<|Xr<|Wx<|W5<|X4<|W0<|Xr<|Xt<|Ze<|⟨_,Ya,?_⟩));first
   |exact⟨rfl,congrArg (an .i64) (AF1<|AF3 HA.dig htb Wq).symm⟩|exact⟨rfl,congrArg (an .i64) (AF2<|AF3 HB.dig hta Wq).symm⟩|exact⟨rfl,congrArg (an .i64) (AF1<|AF4 HA.dig HB.dig Wq hx hy Wq λq hq=>hsame q Wq).symm⟩|exact⟨rfl,congrArg (an .i64) (AF2<|AF4 HB.dig HA.dig Wq hy hx Wq λq hq=>(hsame q Wq).symm).symm⟩|exact⟨rfl,congrArg (an .i64) (AOz<|congrArg nv<|aJ λq=>hsame q Wq).symm⟩
 .refine W0<|Xr<|Xi rfl (Xj<|Xr<|Wx<|Wx<|W5<|Wu<|Yk W7 rfl HA (AJd rfl rfl Wq Wq (X4<|W0<|Xr<|W8<|AB5 2199022731312 (λi:Nat=>[(5,.int .i64<|(i:Int)-1)]) (λk i h'=>h'=h/\i=k/\i<=LA.length/\∀q,i<=q->LA[q]?=LB[q]?) Ww LA.length LA.length ?_ ⟨rfl,trivial⟩ ?_)));.exact⟨rfl,rfl,aU _,λq hq=>by rw[av hq,av Wq]⟩
  rintro k i s1 h⟨rfl,rfl,hi,hsame⟩;refine Wx<|Wx<|W5<|Wu<|AT1 rfl rfl (λAe=>?_) λAe=>?_
  .refine W0<|Xr<|X0 rfl (Xj<|Xr<|Wx<|W8<|Wx ?_);obtain⟨x,hx⟩:∃x,LA[i-1]?=some x:=⟨_,aa Wq⟩;obtain⟨y,hy⟩:∃y,LB[i-1]?=some y:=⟨_,aa Wq⟩;have e1:(i:Int)-1=((i-1:Nat):Int):=by omega
   refine ALo Ww<|Wu<|Wu<|AE2 (n:=i-1) W7 rfl HA (show an .i64 ((i:Int)-1)=_ by rw[e1]) hx λa1 Af=>?_;refine Yf Y7 rfl Af (Wu<|Wu<|AE2 (n:=i-1) W7 rfl HB (show an .i64 ((i:Int)-1)=_ by rw[e1]) hy λa2 Ag=>?_);refine Yf Y7 rfl Ag (Ajb rfl rfl (λAh=>?_) λAh=>?_)
   .refine W0<|Xr<|X0 rfl (Wx<|Wx<|ALo Ww<|Wu<|Wu<|AE2 (n:=i-1) W7 rfl HA (show an .i64 ((i:Int)-1)=_ by rw[e1]) hx λa3 Ai=>?_);refine Yf Y7 rfl Ai (Wu<|Wu<|AE2 (n:=i-1) W7 rfl HB (show an .i64 ((i:Int)-1)=_ by rw[e1]) hy λa4 Aj=>?_);refine Yf Y7 rfl Aj (ABa rfl rfl (λAk=>?_) λAk=>?_)
    .refine W0 (Xr<|X0 rfl (Wx<|W5<|X4<|W0<|Xr<|Xt<|Ze<|ADr<|Ze<|Ze<|ADr<|Ze<|⟨_,Ya,?_⟩));first
     |exact⟨rfl,congrArg (an .i64) (AF1<|AF3 HA.dig htb Wq).symm⟩|exact⟨rfl,congrArg (an .i64) (AF2<|AF3 HB.dig hta Wq).symm⟩|exact⟨rfl,congrArg (an .i64) (AF1<|AF4 HA.dig HB.dig Wq hx hy Wq λq hq=>hsame q Wq).symm⟩|exact⟨rfl,congrArg (an .i64) (AF2<|AF4 HB.dig HA.dig Wq hy hx Wq λq hq=>(hsame q Wq).symm).symm⟩|exact⟨rfl,congrArg (an .i64) (AOz<|congrArg nv<|aJ λq=>hsame q Wq).symm⟩
    .refine W0 (Xr<|Xi rfl (Xj<|Xr<|Wx<|W5<|X4<|W0<|Xr<|Xt<|ADr<|Ze<|Ze<|ADr<|Ze<|⟨_,Ya,?_⟩));first
     |exact⟨rfl,congrArg (an .i64) (AF1<|AF3 HA.dig htb Wq).symm⟩|exact⟨rfl,congrArg (an .i64) (AF2<|AF3 HB.dig hta Wq).symm⟩|exact⟨rfl,congrArg (an .i64) (AF1<|AF4 HA.dig HB.dig Wq hx hy Wq λq hq=>hsame q Wq).symm⟩|exact⟨rfl,congrArg (an .i64) (AF2<|AF4 HB.dig HA.dig Wq hy hx Wq λq hq=>(hsame q Wq).symm).symm⟩|exact⟨rfl,congrArg (an .i64) (AOz<|congrArg nv<|aJ λq=>hsame q Wq).symm⟩
   .refine W0<|Xr<|Xi rfl (Xj<|q_b<|Xr<|W5<|Wu<|AJd rfl rfl Wq Wq (X4<|W0<|Xr ?_));exact⟨i-1,i-1,Wq,⟨rfl,rfl,Wq,λq hq=>by rcases cQ q i with h2|h2;obtain rfl:q=i-1:=Wq;rw[hx,hy];congr 1;omega;exact hsame q h2⟩,by rw[show((i-1:Nat):Int)-1=(i:Int)-1-1 by omega];rfl,trivial⟩
  .refine W0 (Xr<|Xi rfl (Y9<|Zj<|Zj<|AEo<|Xr<|Wx<|W5<|X4<|W0<|Xr<|Xt<|⟨_,Ya,?_⟩));first
   |exact⟨rfl,congrArg (an .i64) (AF1<|AF3 HA.dig htb Wq).symm⟩|exact⟨rfl,congrArg (an .i64) (AF2<|AF3 HB.dig hta Wq).symm⟩|exact⟨rfl,congrArg (an .i64) (AF1<|AF4 HA.dig HB.dig Wq hx hy Wq λq hq=>hsame q Wq).symm⟩|exact⟨rfl,congrArg (an .i64) (AF2<|AF4 HB.dig HA.dig Wq hy hx Wq λq hq=>(hsame q Wq).symm).symm⟩|exact⟨rfl,congrArg (an .i64) (AOz<|congrArg nv<|aJ λq=>hsame q Wq).symm⟩
theorem Amu{a b:Nat}(ha:a<4294967296)(hb:b<4294967296)(w:bt):(Op.intBits .or .u32 (a:Int) (b:Int)).run P w=.ok (.int .u32 ((a|||b:Nat):Int)) w:=by
 have h1:(bM 32 (a:Int)).toNat=a:=by rw[cC];omega
 have h2:(bM 32 (b:Int)).toNat=b:=by rw[cC];omega
 have h3:a|||b<2^32:=Nat.or_lt_two_pow Wq Wq;simp only[Op.intBits];show Result.ok (an .u32<|IntKind.u32.wrap ((bM 32 (a:Int)|||bM 32 (b:Int)).toNat:Int)) w=_;rw[BitVec.toNat_or,h1,h2,wrap_u32,dP Wq Wq]
theorem Ajt{a:Nat}(ha:a<4294967296)(w:bt):(Op.intBits .and .u32 (a:Int) 1).run P w=.ok (.int .u32 ((a%2:Nat):Int)) w:=by
 have h1:(bM 32 (a:Int)).toNat=a:=by rw[cC];omega
 have h2:(bM 32 (1:Int)).toNat=1:=by decide
 simp only[Op.intBits];show Result.ok (an .u32<|IntKind.u32.wrap ((bM 32 (a:Int)&&&bM 32 (1:Int)).toNat:Int)) w=_;rw[BitVec.toNat_and,h1,h2,Nat.and_one_is_mod,wrap_u32,dP Wq Wq]
theorem AR8{L:List Nat}(h:L.length<=i):nv (L.take i)=nv L:=by rw[cu h]
theorem A0u(HA:DS h la va LA)(HB:DS h lb vb LB)(hna:LA.length<=1000)(hnb:LB.length<=1000):W6 Tryz.prog 170 #[va,vb] h λx h'=>Ext h h'/\∃L,DS h' (aq h) x L/\nv L=nv LA+nv LB/\L.length<=1001:=by
 refine Xn (l:=[_,_]) mx Tryz.func170 rfl rfl rfl rfl rfl Ww (Wx<|W5<|X4<|W0<|Xr<|Wx<|W5<|X4<|W0<|Xr<|Wx<|W5<|X4<|W0<|Xr<|Wx<|Wx<|W5 ?_);refine X4<|W0<|Xr<|W8<|AB5 562949953421280 (λy:Nat×ab×Nat=>[(7,.int .i64 (y.1:Int)),(5,y.2.1),(6,.int .u64 (y.2.2:Int))]) (λk y h'=>k=LA.length+LB.length-y.1/\(y.1<=LA.length∨y.1<=LB.length)/\Ext h h'/\y.2.2<=1/\∃D,Gro h' 96 (aq h) y.2.1 (D.map AKj)/\D.length=y.1/\Dig D/\nv D+4294967296^y.1*y.2.2=nv (LA.take y.1)+nv (LB.take y.1)) Ww (LA.length+LB.length) (0,.slice none 0 0,0) ?_ ⟨rfl,rfl,rfl,trivial⟩ ?_;.exact⟨rfl,.inl<|bI _,Ext.refl _,by first|omega|(dsimp only;omega),[],Agq _ _ _,rfl,λx hx=>by simp at hx,rfl⟩
 rintro k⟨i,vo,c⟩s1 h2⟨rfl,hi,E2,hc,D,HG,hDl,hDd,hDv⟩;dsimp only at hi hc HG hDl hDv⊢;have hga:=Agu HA.dig i;have hgb:=Agu HB.dig i;have Av:=E2.1;refine Wx<|Wx<|W5<|Wu<|Wu<|Yk W7 rfl (HA.ext E2) (ABa rfl rfl (λAe=>?_) λAe=>?_)
 .refine Wu<|X8 12 true Ww rfl rfl (X8 12 true Ww rfl rfl (X8 12 true Ww rfl rfl (X8 12 true Ww rfl rfl (Zk rfl (W0<|Xr<|X0 rfl (Xj<|Xr<|Wx<|W8<|ATy 2146435136 (λq:Nat=>[(6,.int .u64 (q:Int))]) (λq h'=>h'=h2/\q=c+LA[i]?.getD 0) Ww ?_ ?_))))))
  .refine Wx<|W5<|Wu<|Wu<|Yk W7 rfl (HA.ext E2) (ABa rfl rfl (λAf=>?_) λAf=>?_);.refine W0<|Xr<|X0 rfl ?_;obtain⟨x,hx⟩:∃x,LA[i]?=some x:=⟨_,aa Wq⟩;have hbx:=HA.dig x<|ai hx;refine W5<|Wu<|Wu<|Wu<|AE2 W7 rfl (HA.ext E2) rfl hx λAw Ag=>Yf Y7 rfl Ag (AQg Zy Za rfl hbx (ALu rfl rfl Wq (X4<|W0<|Xr ?_)));exact⟨c+x,⟨rfl,by rw[hx];rfl⟩,rfl,trivial⟩
   .refine W0<|Xr<|Xi rfl (Xj<|Xr ?_);exact⟨c,⟨rfl,by rw[show LA[i]?=none from av Wq];rfl⟩,rfl,trivial⟩
  rintro q s2 h2⟨rfl,rfl⟩;refine ATy 4395899027520 (λq:Nat=>[(6,.int .u64 (q:Int))]) (λq h'=>h'=h2/\q=c+LA[i]?.getD 0+LB[i]?.getD 0) Ww ?_ ?_
  .refine Wx<|W5<|Wu<|Wu<|Yk W7 rfl (HB.ext E2) (ABa rfl rfl (λAh=>?_) λAh=>?_);.refine W0<|Xr<|X0 rfl ?_;obtain⟨y,hy⟩:∃x,LB[i]?=some x:=⟨_,aa Wq⟩;have hby:=HB.dig y<|ai hy;refine W5<|Wu<|Wu<|Wu<|AE2 W7 rfl (HB.ext E2) rfl hy λAx Ai=>Yf Y7 rfl Ai (AQg Zy Za rfl hby (ALu rfl rfl Wq (X4<|W0<|Xr ?_)));exact⟨c+LA[i]?.getD 0+y,⟨rfl,by rw[hy];rfl⟩,rfl,trivial⟩
   .refine W0<|Xr<|Xi rfl (Xj<|Xr ?_);exact⟨c+LA[i]?.getD 0,⟨rfl,by rw[show LB[i]?=none from av Wq];rfl⟩,rfl,trivial⟩
  rintro q s2 h2⟨rfl,rfl⟩;refine Wx<|W5<|Wu<|Wu<|ATa Za Zy rfl (AU4 (h0:=h) W7 AG8 (λ_=>trivial) (λ_=>rfl) rfl E2 HG Wr Wq λp4 v4 h4 Ac E4=>X4<|W0<|Xr<|W5<|Wu<|AR6 rfl rfl (X4<|W0<|q_b<|Xr<|W5<|Wu<|AFp rfl Wq (X4<|W0<|Xr ?_)));exact⟨LA.length+LB.length-(i+1),(i+1,v4,(c+LA[i]?.getD 0+LB[i]?.getD 0)/4294967296),by first|omega|(dsimp only;omega),⟨rfl,by first|omega|(dsimp only;omega),E4,by first|omega|(dsimp only;omega),_,Ac,by simp[hDl],AJf hDd<|bJ _ Wr,by rw[AG5,hDl,cn c,AR7 hDv,AG6 LA,AG6 LB,cb];omega⟩,rfl,rfl,rfl,trivial⟩
 .refine Wu<|Yh 12 false Ww rfl rfl (Wu<|Yh 12 false Ww rfl rfl (Wu<|Yh 12 false Ww rfl rfl (Yk W7 rfl (HB.ext E2) (Yh 12 false Ww rfl rfl (ABa rfl rfl (λAk=>?_) λAk=>?_)))))
  .refine AAs rfl (W0<|Xr<|X0 rfl (Xj<|Xr<|Wx<|W8<|ATy 2146435136 (λq:Nat=>[(6,.int .u64 (q:Int))]) (λq h'=>h'=h2/\q=c+LA[i]?.getD 0) Ww ?_ ?_))
   .refine Wx<|W5<|Wu<|Wu<|Yk W7 rfl (HA.ext E2) (ABa rfl rfl (λAm=>?_) λAm=>?_);.refine W0<|Xr<|X0 rfl ?_;obtain⟨x,hx⟩:∃x,LA[i]?=some x:=⟨_,aa Wq⟩;have hbx:=HA.dig x<|ai hx;refine W5<|Wu<|Wu<|Wu<|AE2 W7 rfl (HA.ext E2) rfl hx λAy Ao=>Yf Y7 rfl Ao (AQg Zy Za rfl hbx (ALu rfl rfl Wq (X4<|W0<|Xr ?_)));exact⟨c+x,⟨rfl,by rw[hx];rfl⟩,rfl,trivial⟩
    .refine W0<|Xr<|Xi rfl (Xj<|Xr ?_);exact⟨c,⟨rfl,by rw[show LA[i]?=none from av Wq];rfl⟩,rfl,trivial⟩
   rintro q s2 h2⟨rfl,rfl⟩;refine ATy 4395899027520 (λq:Nat=>[(6,.int .u64 (q:Int))]) (λq h'=>h'=h2/\q=c+LA[i]?.getD 0+LB[i]?.getD 0) Ww ?_ ?_
   .refine Wx<|W5<|Wu<|Wu<|Yk W7 rfl (HB.ext E2) (ABa rfl rfl (λAp=>?_) λAp=>?_);.refine W0<|Xr<|X0 rfl ?_;obtain⟨y,hy⟩:∃x,LB[i]?=some x:=⟨_,aa Wq⟩;have hby:=HB.dig y<|ai hy;refine W5<|Wu<|Wu<|Wu<|AE2 W7 rfl (HB.ext E2) rfl hy λAz Aq=>Yf Y7 rfl Aq (AQg Zy Za rfl hby (ALu rfl rfl Wq (X4<|W0<|Xr ?_)));exact⟨c+LA[i]?.getD 0+y,⟨rfl,by rw[hy];rfl⟩,rfl,trivial⟩
    .refine W0<|Xr<|Xi rfl (Xj<|Xr ?_);exact⟨c+LA[i]?.getD 0,⟨rfl,by rw[show LB[i]?=none from av Wq];rfl⟩,rfl,trivial⟩
   rintro q s2 h2⟨rfl,rfl⟩;refine Wx<|W5<|Wu<|Wu<|ATa Za Zy rfl (AU4 (h0:=h) W7 AG8 (λ_=>trivial) (λ_=>rfl) rfl E2 HG Wr Wq λp4 v4 h4 Ac E4=>X4<|W0<|Xr<|W5<|Wu<|AR6 rfl rfl (X4<|W0<|q_b<|Xr<|W5<|Wu<|AFp rfl Wq (X4<|W0<|Xr ?_)));exact⟨LA.length+LB.length-(i+1),(i+1,v4,(c+LA[i]?.getD 0+LB[i]?.getD 0)/4294967296),by first|omega|(dsimp only;omega),⟨rfl,by first|omega|(dsimp only;omega),E4,by first|omega|(dsimp only;omega),_,Ac,by simp[hDl],AJf hDd<|bJ _ Wr,by rw[AG5,hDl,cn c,AR7 hDv,AG6 LA,AG6 LB,cb];omega⟩,rfl,rfl,rfl,trivial⟩
  .refine AAs rfl (W0<|Xr<|Xi rfl (Y9<|Zj<|Zj<|AEo<|Xr<|Wx<|W5<|Wu<|Wu<|ATa Za Zy rfl ?_));rw[dQ<|show c<4294967296 by omega];refine AU4 (h0:=h) W7 AG8 (λ_=>trivial) (λ_=>rfl) rfl E2 HG Wr Wq λp5 v5 h5 Ar E5=>X4<|W0<|Xr<|Xt<|⟨_,Ya,?_⟩;exact⟨E5,D++[c],Ar.ds<|AJf hDd Wq,by rw[AG5,hDl,hDv,AR8 Wq,AR8 Wq],by simp[hDl];omega⟩
theorem AXg(HA:DS h la va LA)(HB:DS h lb vb LB)(htb:TL LB)(hle:nv LB<=nv LA)(hna:LA.length<=1000):W6 Tryz.prog 171 #[va,vb] h λx h'=>Ext h h'/\∃L,DS h' (aq h) x L/\nv L=nv LA-nv LB/\L.length<=LA.length:=by
 refine Xn (l:=[_,_]) mx Tryz.func171 rfl rfl rfl rfl rfl Ww (Wx<|W5<|X4<|W0<|Xr<|Wx<|W5<|X4<|W0<|Xr<|Wx<|W5<|X4<|W0<|Xr<|Wx<|Wx<|W5 ?_);refine X4<|W0<|Xr<|W8<|AB5 35184372088800 (λy:Nat×ab×Nat=>[(7,.int .i64 (y.1:Int)),(5,y.2.1),(6,.int .u64 (y.2.2:Int))]) (λk y h'=>k=LA.length-y.1/\y.1<=LA.length/\Ext h h'/\y.2.2<=1/\∃D,Gro h' 96 (aq h) y.2.1 (D.map AKj)/\D.length=y.1/\Dig D/\nv D+nv (LB.take y.1)=nv (LA.take y.1)+4294967296^y.1*y.2.2) Ww LA.length (0,.slice none 0 0,0) ?_ ⟨rfl,rfl,rfl,trivial⟩ ?_;.exact⟨rfl,bI _,Ext.refl _,by first|omega|(dsimp only;omega),[],Agq _ _ _,rfl,λx hx=>by simp at hx,rfl⟩
 rintro k⟨i,vo,c⟩s1 h2⟨rfl,hi,E2,hc,D,HG,hDl,hDd,hDv⟩;dsimp only at hi hc HG hDl hDv⊢;have Am:=E2.1;refine Wx<|Wx<|W5<|Wu<|Wu<|Yk W7 rfl (HA.ext E2) (ABa rfl rfl (λAe=>?_) λAe=>?_)
 .refine W0<|Xr<|X0 rfl (Xj<|Xr<|Wx<|W8<|Wx ?_);obtain⟨x,hx⟩:∃x,LA[i]?=some x:=⟨_,aa Wq⟩;have hbx:=HA.dig x<|ai hx;have hgb:=Agu HB.dig i;refine W5<|Wu<|X4<|W0<|Xr<|ATy 134152448 (λq:Nat=>[(8,.int .u64 (q:Int))]) (λq h'=>h'=h2/\q=c+LB[i]?.getD 0) Ww ?_ ?_
  .refine Wx<|W5<|Wu<|Wu<|Yk W7 rfl (HB.ext E2) (ABa rfl rfl (λAf=>?_) λAf=>?_);.refine W0<|Xr<|X0 rfl ?_;obtain⟨y,hy⟩:∃x,LB[i]?=some x:=⟨_,aa Wq⟩;have hby:=HB.dig y<|ai hy;refine W5<|Wu<|Wu<|Wu<|AE2 W7 rfl (HB.ext E2) rfl hy λAo Ag=>Yf Y7 rfl Ag (AQg Zy Za rfl hby (ALu rfl rfl Wq (X4<|W0<|Xr ?_)));exact⟨c+y,⟨rfl,by rw[hy];rfl⟩,rfl,trivial⟩
   .refine W0<|Xr<|Xi rfl (Xj<|Xr ?_);exact⟨c,⟨rfl,by rw[show LB[i]?=none from av Wq];rfl⟩,rfl,trivial⟩
  rintro q s2 h2⟨rfl,rfl⟩;refine Wx<|W5<|Wu<|Wu<|Wu<|AE2 W7 rfl (HA.ext E2) rfl hx λAp Ah=>Yf Y7 rfl Ah (AQg Zy Za rfl hbx (Wu<|AOr rfl rfl ?_));rw[wrap_u64];refine AQd Za Zy rfl ?_;obtain⟨dg,hdg⟩:∃dg:Nat,(dg:Int)=((x:Int)-((c+LB[i]?.getD 0:Nat):Int))%4294967296:=⟨(((x:Int)-((c+LB[i]?.getD 0:Nat):Int))%4294967296).toNat,Wq⟩;rw[show IntKind.u32.wrap (((x:Int)-((c+LB[i]?.getD 0:Nat):Int))%18446744073709551616)=(dg:Int)by rw[wrap_u32,hdg];omega];refine AU4 (h0:=h) W7 AG8 (λ_=>trivial) (λ_=>rfl) rfl E2 HG Wr Wq λp4 v4 h4 Ad E4=>X4<|W0<|Xr<|Wx<|W5<|X4<|W0<|Xr<|Wx<|W5<|Wu<|Wu<|AE2 W7 rfl (HA.ext E4) rfl hx λAr Ai=>Yf Y7 rfl Ai (AQg Zy Za rfl hbx (Wu<|ABa rfl rfl (λAj=>?_) λAj=>?_));.refine W0<|Xr<|X0 rfl (W5<|X4<|W0<|q_b<|Xr<|W5<|Wu<|AFp rfl Wq (X4<|W0<|Xr ?_));exact⟨LA.length-(i+1),(i+1,v4,1),by first|omega|(dsimp only;omega),⟨rfl,by first|omega|(dsimp only;omega),E4,by first|omega|(dsimp only;omega),_,Ad,by simp[hDl],AJf hDd Wq,by rw[AG5,hDl,AG6 LB,Yp hx];exact AT5 hDv<|by first|omega|(dsimp only;omega)⟩,rfl,rfl,rfl,trivial⟩
  .refine W0<|Xr<|Xi rfl (Xj<|q_b<|Xr<|W5<|Wu<|AFp rfl Wq (X4<|W0<|Xr ?_));exact⟨LA.length-(i+1),(i+1,v4,0),by first|omega|(dsimp only;omega),⟨rfl,by first|omega|(dsimp only;omega),E4,by first|omega|(dsimp only;omega),_,Ad,by simp[hDl],AJf hDd Wq,by rw[AG5,hDl,AG6 LB,Yp hx];exact AT5 hDv<|by first|omega|(dsimp only;omega)⟩,rfl,rfl,rfl,trivial⟩
 .refine W0<|Xr<|Xi rfl (Y9<|Zj<|Zj<|AEo<|Xr<|Wx<|W5<|Wu<|X4<|W0<|Xr<|Xt<|⟨_,Ya,?_⟩);obtain rfl:i=LA.length:=by omega
  rw[bD,AR8 (by have:=AF0 htb<|cJ hle<|AJ4 HA.dig;omega)]at hDv;have hDlt:=AJ4 hDd;rw[hDl]at hDlt;have Ak:c=0:=by
   rcases Nat.eq_zero_or_pos c with h0|h0;.exact h0
   .obtain rfl:c=1:=by omega
    rw[dC]at hDv;omega
  subst Ak;rw[eE,cR]at hDv;exact⟨E2,D,HG.ds hDd,Wq,Wq⟩
theorem Acs{lo:Nat}{L:List Nat}(b:Nat)(hb:b<=1)(H:DS h lo v L)(hn:L.length<=1000):W6 Tryz.prog 220 #[v,.int .u32 (b:Int)] h λx h'=>Ext h h'/\∃L',DS h' (aq h) x L'/\nv L'=2*nv L+b/\L'.length<=L.length+1:=by
 refine Xn (l:=[_,_]) mx Tryz.func220 rfl rfl rfl rfl rfl Ww (Wx<|W5<|X4<|W0<|Xr<|Wx<|W5<|X4<|W0<|Xr<|Wx<|Wx<|W5<|Wu<|Yk W7 rfl H (Wu<|W0<|Xr<|W8<|AB5 16776354 (λy:Nat×ab×Nat=>[(10,.int .i64 (y.1:Int)),(5,y.2.1),(1,.int .u32 (y.2.2:Int))]) (λk y h'=>k=L.length-y.1/\y.1<=L.length/\Ext h h'/\y.2.2<=1/\∃D,Gro h' 96 (aq h) y.2.1 (D.map AKj)/\D.length=y.1/\Dig D/\nv D+4294967296^y.1*y.2.2=2*nv (L.take y.1)+b) Ww L.length (0,.slice none 0 0,b) ?_ ⟨rfl,rfl,rfl,trivial⟩ ?_));.exact⟨rfl,bI _,Ext.refl _,hb,[],Agq _ _ _,rfl,λx hx=>by simp at hx,by simp[nv]⟩
 rintro k⟨i,vo,c⟩s1 h2⟨rfl,hi,E2,hc,D,HG,hDl,hDd,hDv⟩;dsimp only at hi hc HG hDl hDv⊢;have Aj:=E2.1;refine Wx<|W5<|ABa rfl rfl (λAb=>?_) λAb=>?_
 .refine W0<|Xr<|Wx<|X0 rfl (Xj<|Xr<|Wx<|W8<|Wx ?_);obtain⟨x,hx⟩:∃x,L[i]?=some x:=⟨_,aa Wq⟩;have hbx:=H.dig x<|ai hx;refine W5<|AE2 W7 rfl (H.ext E2) rfl hx λAk Ac=>Yf Y7 rfl Ac (X4<|W0<|Xr<|Wx<|W5<|Wu<|Wu<|Afb (n:=1) rfl rfl Wr ?_);rw[show IntKind.u32.wrap ((x:Int)*2^1)=((2*x%4294967296:Nat):Int)by rw[wrap_u32];omega];refine Wu<|AT4 rfl rfl (.inr<|.inl rfl) (Amu (bJ _ Wr) Wq) ?_;have hor:2*x%4294967296|||c=2*x%4294967296+c:=by
   have h1:2*x%4294967296=2^1*(x%2147483648):=by omega
   rw[h1,<-Nat.two_pow_add_eq_or_of_lt Wq]
  rw[hor];refine AU4 (h0:=h) W7 AG8 (λ_=>trivial) (λ_=>rfl) rfl E2 HG Wr Wq λp4 v4 h4 Ae E4=>X4<|W0<|Xr<|W5<|Wu<|Aak (n:=31) rfl rfl Wr ?_;rw[show(x:Int)/2^31=((x/2147483648:Nat):Int)by omega];refine X4<|W0<|q_b<|Xr<|W5<|AFp rfl Wq (Wu<|W0<|Xr ?_);exact⟨L.length-(i+1),(i+1,v4,x/2147483648),by first|omega|(dsimp only;omega),⟨rfl,by first|omega|(dsimp only;omega),E4,by first|omega|(dsimp only;omega),_,Ae,by simp[hDl],AJf hDd Wq,by rw[AG5,hDl,Auu hDv (show 2*x%4294967296+c+4294967296*(x/2147483648)=2*x+c by omega),Yp hx,cb,Nat.mul_left_comm];omega⟩,rfl,rfl,rfl,trivial⟩
 .refine W0<|Xr<|Wx<|Xi rfl (Y9<|Zj<|Zj<|AEo<|Xr<|Wx<|W5<|Wu<|Wu<|AU4 (h0:=h) W7 AG8 (λ_=>trivial) (λ_=>rfl) rfl E2 HG Wr Wq λp5 v5 h5 Ag E5=>X4<|W0<|Xr<|Xt<|⟨_,Ya,?_⟩);obtain rfl:i=L.length:=by omega
  rw[bD]at hDv;exact⟨E5,D++[c],Ag.ds<|AJf hDd Wq,by rw[AG5,hDl,hDv],by simp[hDl]⟩
theorem AMn{a b:Nat}(h:0<=AG3 a b):b<=a:=by
 unfold AG3 at h;split at h;.omega
 .omega
theorem AR9{a b:Nat}(h:AG3 a b<0):a<=b:=by
 unfold AG3 at h;split at h;.omega
 .split at h<;>omega
theorem Acu{A B:List Nat}(ha:Dig A)(hb:Dig B)(la:A.length<=99)(lb:B.length<=99):nv A+nv B<4294967296^100:=by have h1:=AJ4 ha;have h2:=AJ4 hb;have h3:4294967296^A.length<=4294967296^99:=be Wr la;have h4:4294967296^B.length<=4294967296^99:=be Wr lb;have h5:4294967296^100=4294967296^99*4294967296:=dy 4294967296 99;rw[h5];have h6:0<4294967296^99:=Nat.pow_pos Wr;generalize 4294967296^99=t at*;omega
theorem ASa{a b:Bool}{x y:Nat}(h:a=b):sgn a x+sgn b y=sgn a (x+y):=by subst h;cases a<;>simp[sgn]<;>omega
theorem ASb{a b:Bool}{x y:Nat}(h:a≠b)(hl:y<=x):sgn a x+sgn b y=sgn a (x-y):=by cases a<;>cases b<;>simp[sgn]at h⊢<;>omega
theorem AO0{a b:Bool}{x y:Nat}(h:a≠b)(hl:x<=y):sgn a x+sgn b y=sgn b (y-x):=by cases a<;>cases b<;>simp[sgn]at h⊢<;>omega
theorem AA1{ng:Bool}{n:Nat}{z:Int}(h:z=sgn ng n):z.natAbs=n:=by subst h;cases ng<;>simp[sgn]
theorem Api(ng:Bool)(n:Nat):sgn (!ng) n=-sgn ng n:=by cases ng<;>simp[sgn]
theorem Ag0(a b:Bool)(x y:Nat):sgn a x*sgn b y=sgn (! a==b) (x*y):=by cases a<;>cases b<;>simp[sgn,Int.neg_mul,Int.mul_neg]
theorem Amv{L:List Nat}(h:Dig L)(hl:L.length<=2):nv L<18446744073709551616:=by have h1:=AJ4 h;have h2:4294967296^L.length<=4294967296^2:=be Wr hl;omega
theorem Ar4{lo:Nat}{z:Int}(HA:ZV h lo va z)(hb:z.natAbs<9223372036854775808):W6 Tryz.prog 87 #[va] h λx h'=>Ext h h'/\x=.tuple #[.int .i64 z,.bool true]:=by
 obtain⟨na,sa,LA,rfl,HDa,htla,hla,hza⟩:=HA.out;refine Xn (l:=[_]) mx Tryz.func87 rfl rfl rfl rfl rfl Ww (Wx<|W5<|ADj [.bool na,sa] (λ_=>trivial) rfl rfl λAj h2 V3 E4 Ak Au=>?_);have Av:aq h<=Aj:=Ak;have Aw:=E4.1;have Z8:=(Ext.refl h).trans E4;refine X4<|X4<|W0<|Xr<|Wx<|W5<|AA8 (fs:=1) AFg Ww Wr rfl (Yf ACj rfl (V3.cell (i:=1) rfl) (Xf trivial rfl (AE3 (HDa.ext E4) Wq) λx9 Am hk=>?_));obtain⟨Ad,L1,Ag,Ap,Ah,Az⟩:=hk;refine⟨trivial,?_⟩;have A4:=Ad.1;have Ac:=E4.trans Ad;have Ai:=V3.ext Ad;refine X4<|W0<|Xr<|Wx<|W5<|Wu ?_;have Aq:L1.length<=2:=AF0 Ap (by rw[Ah,<-AA1 hza];exact aF hb Wr);refine Xf trivial rfl (Agz Ag Aq) λA5 Am hk=>?_;obtain⟨rfl,rfl⟩:=hk;refine⟨trivial,?_⟩;refine X4<|W0<|Xr<|Wx<|W8<|Wx<|W5<|Wu<|Yk W7 rfl Ag (AN4 rfl rfl (λhc=>absurd hc Wq) λ_=>X4<|W0<|Xr<|Xi rfl (Wx ?_));have hab:=AA1 hza;rw[Ah];refine W5<|AA8 (fs:=1) AFf Ww Wr rfl (Yf Zn rfl (Ai.cell (i:=0) rfl) ?_);cases Ae:na;.refine Wu<|X8 18 false Ww rfl rfl (X8 18 false Ww rfl rfl (AAs rfl (X4<|W0<|Xr<|Xi rfl (Wx<|W5<|AA8 (fs:=1) AFf Ww Wr rfl (Yf Zn rfl (Ai.cell (i:=0) rfl) ?_)))));rw[Ae];refine AM6 rfl (Wu<|Yh 29 true Ww rfl rfl (Wu<|Yh 29 true Ww rfl rfl (ABa rfl rfl (λ_=>?_) λhc=>absurd hc Wq)));refine Zk rfl (X4<|W0<|Xr<|X0 rfl (Wx<|W5<|Wu<|AQd Za AOt rfl (X4<|X4<|W0<|Xr<|Xt<|ADr<|Ze<|⟨_,ALp,?_⟩)));have Aa:z=sgn na (nv LA):=hza;rw[Ae]at Aa;unfold sgn at Aa;first
  | (rw[if_pos rfl]at Aa;exact⟨Ac,congrArg (λt=>cT #[.int .i64 t,.bool true]) (show IntKind.i64.wrap (IntKind.u64.wrap<|0-((nv LA:Nat):Int))=z by rw[wrap_u64,cm];omega)⟩)
  | (rw[if_neg Wr]at Aa;exact⟨Ac,congrArg (λt=>cT #[.int .i64 t,.bool true]) (show IntKind.i64.wrap ((nv LA:Nat):Int)=z by rw[cm];omega)⟩)
 .refine Wu<|Yh 18 true Ww rfl rfl (Wu<|Yh 18 true Ww rfl rfl (AS7 rfl rfl (λ_=>?_) λhc=>absurd hc Wq));refine Zk rfl (X4<|W0<|Xr<|X0 rfl (Wx<|W5<|Wu<|Ai8 rfl (AQd Za AOt rfl (X4<|X4<|W0<|Xr<|Xt<|ADr<|Ze<|⟨_,ALp,?_⟩))));have Aa:z=sgn na (nv LA):=hza;rw[Ae]at Aa;unfold sgn at Aa;first
  | (rw[if_pos rfl]at Aa;exact⟨Ac,congrArg (λt=>cT #[.int .i64 t,.bool true]) (show IntKind.i64.wrap (IntKind.u64.wrap<|0-((nv LA:Nat):Int))=z by rw[wrap_u64,cm];omega)⟩);| (rw[if_neg Wr]at Aa;exact⟨Ac,congrArg (λt=>cT #[.int .i64 t,.bool true]) (show IntKind.i64.wrap ((nv LA:Nat):Int)=z by rw[cm];omega)⟩)
theorem Abk{a b:Int}(HA:ZV h la va a)(HB:ZV h lb vb b)(hba:a.natAbs<4294967296^99)(hbb:b.natAbs<4294967296^99):W6 Tryz.prog 139 #[va,vb] h λx h'=>Ext h h'/\ZV h' (aq h) x (a+b):=by
 obtain⟨na,sa,LA,rfl,HDa,htla,hla,hza⟩:=HA.out;obtain⟨nb,sb,LB,rfl,HDb,htlb,hlb,hzb⟩:=HB.out;refine Xn (l:=[_,_]) mx Tryz.func139 rfl rfl rfl rfl rfl Ww (Wx<|W5<|ADj [.bool na,sa] (λ_=>trivial) rfl rfl λBm h2 V3 E4 Cf Fj=>?_);have Fk:aq h<=Bm:=Cf;have Fl:=E4.1;have Z8:=(Ext.refl h).trans E4;refine ADj [.bool nb,sb] (λ_=>trivial) rfl rfl λBn Fo A8 A5 Ch Fp=>?_;have Fq:aq h<=Bn:=bo E4.1 Ch;have nebq1bq9:Bm≠Bn:=by have:=V3.lt;omega
 have Ft:=A5.1;have Ci:=Z8.trans A5;have B3:=E4.trans A5;have A9:=V3.ext A5;have Cj:=E4.trans A5;refine ACp [.bool false,.slice none 0 0] AEz rfl (λ_=>trivial) λAa B4 Ck Ar Cm Fu=>?_;have Fv:aq h<=Aa:=bo B3.1 Cm;have nebq1bq20:Bm≠Aa:=by have:=A9.lt;omega
 have nebq9bq20:Bn≠Aa:=by have:=A8.lt;omega
 have Fw:=Ar.1;have Cn:=Ci.trans Ar;have B5:=B3.trans Ar;have B6:=A9.ext Ar;have Co:=Cj.trans Ar;have B7:=A8.ext Ar;have Cp:=A5.trans Ar;refine W0<|Xr<|Wx<|AAr (λh'=>Ext B4 h') Ww ?_;have Ab:=Ext.refl B4;refine AA8 (fs:=1) AFg Ww Wr rfl (AAm ACj rfl Ab (λh' hb=>(B6.ext hb).cell (i:=1) rfl) (Xf Ab rfl (AE3 (DS.ext HDa B5) Wq) λFx Fy hk=>?_));obtain⟨Ak,L1,Bh,Bo,Bi,Fz⟩:=hk;have Bj:=Ab.trans Ak;refine⟨Bj,?_⟩;have F4:=Ak.1;have Cr:=Cn.trans Ak;have B8:=B5.trans Ak;have Ct:=B6.ext Ak;have Cu:=Co.trans Ak;have Cv:=B7.ext Ak;have Cw:=Cp.trans Ak;have Cx:=Ck.ext Ak;have Cy:=Ar.trans Ak;refine AA8 (fs:=1) AFg Ww Wr rfl (AAm ACj rfl Bj (λh' hb=>(B7.ext hb).cell (i:=1) rfl) (Xf Bj rfl (AE3 (DS.ext HDb B8) Wq) λF6 Az hk=>?_));obtain⟨Aj,L2,Am,Bp,Bl,F7⟩:=hk;have C0:=Bj.trans Aj;refine⟨C0,?_⟩;have F8:=Aj.1;have Bq:=Cr.trans Aj;have Br:=B8.trans Aj;have A6:=Ct.ext Aj;have Bt:=Cu.trans Aj;have Ba:=Cv.ext Aj;have Bu:=Cw.trans Aj;have Bv:=Cx.ext Aj;have Bw:=Cy.trans Aj;have A4:=Bh.ext Aj;refine X4<|X4<|W0<|Xr<|Wx<|Wx ?_;have hl1b:L1.length<=99:=AF0 Bo (by rw[Bi,<-AA1 hza];exact hba);have hl2b:L2.length<=99:=AF0 Bp (by rw[Bl,<-AA1 hzb];exact hbb);refine W5<|AA8 (fs:=1) AFf Ww Wr rfl (Yf Zn rfl (A6.cell (i:=0) rfl) (AA8 (fs:=1) AFf Ww Wr rfl (Yf Zn rfl (Ba.cell (i:=0) rfl) (Acm AXd rfl rfl ?_))));cases Ga:na==nb
 .refine W0<|Xr<|Xi rfl (Xj<|Xr<|Wx<|Wx<|W5<|Wu<|Wu<|Xf trivial rfl (Abj A4 Am Bo Bp Wq Wq) λGb Az hk=>?_);obtain⟨rfl,rfl⟩:=hk;refine⟨trivial,?_⟩;refine AT1 rfl rfl (λC1=>?_) λC1=>?_;.refine W0<|Xr<|X0 rfl (Wx<|AAr (λh'=>Ext Az h') Ww ?_);have Ab:=Ext.refl Az;refine AA8 (fs:=1) AFf Ww Wr rfl (AAm Zn rfl Ab (λh' hb=>(A6.ext hb).cell (i:=0) rfl) (Wu<|Wu<|Xf Ab rfl (AXg A4 Am Bp (AMn<|by assumption) Wq) λGc Gd hk=>?_));obtain⟨Ag,L3,Au,Av,Ca⟩:=hk;have Bx:=Ab.trans Ag;refine⟨Bx,?_⟩;have Ge:=Ag.1;have C4:=Bq.trans Ag;have C5:=Br.trans Ag;have C6:=A6.ext Ag;have C7:=Bt.trans Ag;have C8:=Ba.ext Ag;have C9:=Bu.trans Ag;have Da:=Bv.ext Ag;have Db:=Bw.trans Ag;have Dc:=A4.ext Ag;have Dd:=Am.ext Ag;refine Xf Bx rfl (AJh na Au Wq (by rw[Av];have:=Acu Bh.dig Am.dig hl1b hl2b;omega)) λGf Gg hk=>?_;obtain⟨Ad,Bb⟩:=hk;have De:=Bx.trans Ad;refine⟨De,?_⟩;have Gh:=Ad.1;have Df:=C4.trans Ad;have Dg:=C5.trans Ad;have Gi:=C6.ext Ad;have Dh:=C7.trans Ad;have Gj:=C8.ext Ad;have Di:=C9.trans Ad;have Dj:=Da.ext Ad;have Dk:=Db.trans Ad;have Dl:=Dc.ext Ad;have Do:=Dd.ext Ad;have Dp:=Au.ext Ad;obtain⟨Aw,s4,L4,rfl,Ay,Be,Bf,Bg⟩:=Bb.out;refine AAn [.bool Aw,s4] Ye rfl rfl rfl rfl (AE1 Ay.cap) Dj λGk Dq Ao=>?_;have Dr:=Dg.thenUpd Ao (λk hk=>by have Ac:k=Aa:=hk;omega);have Gl:=Ao.1;have Gm:=Df.thenUpd Ao (λk hk=>by have Ac:k=Aa:=hk;omega);have Cb:=Dk.thenUpd Ao (λk hk=>by have Ac:k=Aa:=hk;omega);have Gn:=A9.ext Cb;have Gp:=Dh.thenUpd Ao (λk hk=>by have Ac:k=Aa:=hk;omega);have Gq:=A8.ext Cb;have Gr:=Di.thenUpd Ao (λk hk=>by have Ac:k=Aa:=hk;omega);have Gt:=Dl.updLo Ao Wq;have Gu:=Do.updLo Ao Wq;have Gv:=Dp.updLo Ao Wq;have Ds:=Ay.updLo Ao Wq;refine W0<|Xr<|Xt<|Ze<|⟨_,ABy Ye rfl rfl Dq,?_⟩;exact⟨Dr,⟨Aw,s4,L4,rfl,Ds.mono Wq,Be,Bf,by rw[<-Bg,Av,hza,hzb,<-Bi,<-Bl];first|exact ASa (eq_of_beq<|by assumption)|exact ASb (ne_of_beq_false<|by assumption) (AMn<|by assumption)|exact AO0 (ne_of_beq_false<|by assumption)<|AR9<|by assumption⟩⟩
  .refine W0<|Xr<|Xi rfl (Xj<|Xr<|Wx<|AAr (λh'=>Ext Az h') Ww ?_);have Ab:=Ext.refl Az;refine AA8 (fs:=1) AFf Ww Wr rfl (AAm Zn rfl Ab (λh' hb=>(Ba.ext hb).cell (i:=0) rfl) (Wu<|Wu<|Xf Ab rfl (AXg Am A4 Bo (AR9<|by assumption) Wq) λGw Gx hk=>?_));obtain⟨Ah,L3,Au,Av,Ca⟩:=hk;have By:=Ab.trans Ah;refine⟨By,?_⟩;have Gy:=Ah.1;have Dt:=Bq.trans Ah;have Du:=Br.trans Ah;have Dv:=A6.ext Ah;have Dw:=Bt.trans Ah;have Dx:=Ba.ext Ah;have Dy:=Bu.trans Ah;have Dz:=Bv.ext Ah;have D0:=Bw.trans Ah;have D4:=A4.ext Ah;have D5:=Am.ext Ah;refine Xf By rfl (AJh nb Au Wq (by rw[Av];have:=Acu Bh.dig Am.dig hl1b hl2b;omega)) λGz G3 hk=>?_;obtain⟨Ae,Bb⟩:=hk;have D6:=By.trans Ae;refine⟨D6,?_⟩;have G4:=Ae.1;have D7:=Dt.trans Ae;have D8:=Du.trans Ae;have G5:=Dv.ext Ae;have D9:=Dw.trans Ae;have G6:=Dx.ext Ae;have Ea:=Dy.trans Ae;have Eb:=Dz.ext Ae;have Ec:=D0.trans Ae;have Ed:=D4.ext Ae;have Ee:=D5.ext Ae;have Ef:=Au.ext Ae;obtain⟨Aw,s4,L4,rfl,Ay,Be,Bf,Bg⟩:=Bb.out;refine AAn [.bool Aw,s4] Ye rfl rfl rfl rfl (AE1 Ay.cap) Eb λG7 Eg Ap=>?_;have Eh:=D8.thenUpd Ap (λk hk=>by have Ac:k=Aa:=hk;omega);have G8:=Ap.1;have G9:=D7.thenUpd Ap (λk hk=>by have Ac:k=Aa:=hk;omega);have Cd:=Ec.thenUpd Ap (λk hk=>by have Ac:k=Aa:=hk;omega);have Hb:=A9.ext Cd;have Hc:=D9.thenUpd Ap (λk hk=>by have Ac:k=Aa:=hk;omega);have Hd:=A8.ext Cd;have He:=Ea.thenUpd Ap (λk hk=>by have Ac:k=Aa:=hk;omega);have Hf:=Ed.updLo Ap Wq;have Hg:=Ee.updLo Ap Wq;have Hh:=Ef.updLo Ap Wq;have Ei:=Ay.updLo Ap Wq;refine W0<|Xr<|Xt<|⟨_,ABy Ye rfl rfl Eg,?_⟩;exact⟨Eh,⟨Aw,s4,L4,rfl,Ei.mono Wq,Be,Bf,by rw[<-Bg,Av,hza,hzb,<-Bi,<-Bl];first|exact ASa (eq_of_beq<|by assumption)|exact ASb (ne_of_beq_false<|by assumption) (AMn<|by assumption)|exact AO0 (ne_of_beq_false<|by assumption)<|AR9<|by assumption⟩⟩
 .refine W0<|Xr<|X0 rfl (Wx<|AAr (λh'=>Ext Az h') Ww ?_);have Ab:=Ext.refl Az;refine AA8 (fs:=1) AFf Ww Wr rfl (AAm Zn rfl Ab (λh' hb=>(A6.ext hb).cell (i:=0) rfl) (Wu<|Wu<|Xf Ab rfl (A0u A4 Am Wq Wq) λHj Hk hk=>?_));obtain⟨Ai,L3,Au,Av,Ca⟩:=hk;have Bz:=Ab.trans Ai;refine⟨Bz,?_⟩;have Hl:=Ai.1;have Ej:=Bq.trans Ai;have Ek:=Br.trans Ai;have El:=A6.ext Ai;have Em:=Bt.trans Ai;have En:=Ba.ext Ai;have Eo:=Bu.trans Ai;have Ep:=Bv.ext Ai;have Er:=Bw.trans Ai;have Es:=A4.ext Ai;have Et:=Am.ext Ai;refine Xf Bz rfl (AJh na Au Wq (by rw[Av];exact Acu Bh.dig Am.dig hl1b hl2b)) λHn Ho hk=>?_;obtain⟨Af,Bb⟩:=hk;have Eu:=Bz.trans Af;refine⟨Eu,?_⟩;have Hq:=Af.1;have Ev:=Ej.trans Af;have Ew:=Ek.trans Af;have Hr:=El.ext Af;have Ey:=Em.trans Af;have Hs:=En.ext Af;have Ez:=Eo.trans Af;have Fa:=Ep.ext Af;have Fb:=Er.trans Af;have Fc:=Es.ext Af;have Fd:=Et.ext Af;have Fe:=Au.ext Af;obtain⟨Aw,s4,L4,rfl,Ay,Be,Bf,Bg⟩:=Bb.out;refine AAn [.bool Aw,s4] Ye rfl rfl rfl rfl (AE1 Ay.cap) Fa λHt Ff Aq=>?_;have Fg:=Ew.thenUpd Aq (λk hk=>by have Ac:k=Aa:=hk;omega);have Hu:=Aq.1;have Hv:=Ev.thenUpd Aq (λk hk=>by have Ac:k=Aa:=hk;omega);have Ce:=Fb.thenUpd Aq (λk hk=>by have Ac:k=Aa:=hk;omega);have Hw:=A9.ext Ce;have Hx:=Ey.thenUpd Aq (λk hk=>by have Ac:k=Aa:=hk;omega);have Hy:=A8.ext Ce;have Hz:=Ez.thenUpd Aq (λk hk=>by have Ac:k=Aa:=hk;omega);have H9:=Fc.updLo Aq Wq;have Ia:=Fd.updLo Aq Wq;have Ib:=Fe.updLo Aq Wq;have Fh:=Ay.updLo Aq Wq;refine W0<|Xr<|Xt<|Ze<|⟨_,ABy Ye rfl rfl Ff,?_⟩;exact⟨Fg,⟨Aw,s4,L4,rfl,Fh.mono Wq,Be,Bf,by rw[<-Bg,Av,hza,hzb,<-Bi,<-Bl];first|exact ASa (eq_of_beq<|by assumption)|exact ASb (ne_of_beq_false<|by assumption) (AMn<|by assumption)|exact AO0 (ne_of_beq_false<|by assumption)<|AR9<|by assumption⟩⟩
theorem Apj{a b:Int}(HA:ZV h la va a)(HB:ZV h lb vb b)(hba:a.natAbs<4294967296^99)(hbb:b.natAbs<4294967296^99):W6 Tryz.prog 131 #[va,vb] h λx h'=>Ext h h'/\ZV h' (aq h) x (a-b):=by
 obtain⟨na,sa,LA,rfl,HDa,htla,hla,hza⟩:=HA.out;obtain⟨nb,sb,LB,rfl,HDb,htlb,hlb,hzb⟩:=HB.out;refine Xn (l:=[_,_]) mx Tryz.func131 rfl rfl rfl rfl rfl Ww (Wx<|W5<|ADj [.bool na,sa] (λ_=>trivial) rfl rfl λAj h2 V3 E4 A4 B2=>?_);have B3:aq h<=Aj:=A4;have B4:=E4.1;have Z8:=(Ext.refl h).trans E4;refine ADj [.bool nb,sb] (λ_=>trivial) rfl rfl λAk B5 Ap Af A6 B6=>?_;have B7:aq h<=Ak:=bo E4.1 A6;have nebq1bq9:Aj≠Ak:=by have:=V3.lt;omega
 have B8:=Af.1;have Aq:=E4.trans Af;have Ar:=V3.ext Af;refine ACp [.bool false,.slice none 0 0] AEz rfl (λ_=>trivial) λAb Au A7 Ac A8 B9=>?_;have Ca:aq h<=Ab:=bo Aq.1 A8;have nebq1bq20:Aj≠Ab:=by have:=Ar.lt;omega
 have nebq9bq20:Ak≠Ab:=by have:=Ap.lt;omega
 have Cb:=Ac.1;have A9:=(Z8.trans Af).trans Ac;have Av:=Aq.trans Ac;have Ba:=(E4.trans Af).trans Ac;have Bb:=Af.trans Ac;refine W0<|Xr<|Wx<|AAr (λh'=>Ext Au h') Ww ?_;have Ah:=Ext.refl Au;refine AEa [.bool na,sa] Ye rfl rfl Ah (λh' hb=>((Ar.ext Ac).ext hb).agg) (AEa [.bool nb,sb] Ye rfl rfl Ah (λh' hb=>((Ap.ext Ac).ext hb).agg) (Xf Ah rfl (Aph<|HB.ext Av) λCd Ce hk=>?_));obtain⟨Ad,HN⟩:=hk;have Am:=Ah.trans Ad;refine⟨Am,?_⟩;have Cf:=Ad.1;have Bc:=A9.trans Ad;have Aw:=Av.trans Ad;have Be:=Ba.trans Ad;have Bf:=Bb.trans Ad;have Bg:=A7.ext Ad;have Bh:=Ac.trans Ad;refine Xf Am rfl (Abk (HA.ext Aw) HN hba (by rw[Int.natAbs_neg];exact hbb)) λCg Ch hk=>?_;obtain⟨Aa,Bi⟩:=hk;have Bj:=Am.trans Aa;refine⟨Bj,?_⟩;have Ci:=Aa.1;have Bl:=Bc.trans Aa;have Bm:=Aw.trans Aa;have Bn:=Be.trans Aa;have Bo:=Bf.trans Aa;have Bp:=Bg.ext Aa;have Bq:=Bh.trans Aa;have HN_59:=HN.ext Aa;obtain⟨Ax,s4,L4,rfl,Az,Bt,Bu,Bv⟩:=Bi.out;refine AAn [.bool Ax,s4] Ye rfl rfl rfl rfl (AE1 Az.cap) Bp λCj Bw Ae=>?_;have Bx:=Bm.thenUpd Ae (λk hk=>by have Ai:k=Ab:=hk;omega);have Ck:=Ae.1;have Cm:=Bl.thenUpd Ae (λk hk=>by have Ai:k=Ab:=hk;omega);have Cn:=Bq.thenUpd Ae (λk hk=>by have Ai:k=Ab:=hk;omega);have Co:=Bn.thenUpd Ae (λk hk=>by have Ai:k=Ab:=hk;omega);have Cp:=Bo.thenUpd Ae (λk hk=>by have Ai:k=Ab:=hk;omega);have HN_71:=HN_59.updLo Ae Wq;have By:=Az.updLo Ae Wq;refine W0<|Xr<|Xt<|⟨_,ABy Ye rfl rfl Bw,?_⟩;exact⟨Bx,⟨Ax,s4,L4,rfl,By.mono Wq,Bt,Bu,by rw[<-Bv];omega⟩⟩
theorem Acv(n:Nat):nv (bc n 0)=0:=by induction n with|zero=>rfl|succ n ih=>rw[List.replicate_succ];simp[nv,ih]
theorem A0v{a b:Int}(HA:ZV h la va a)(HB:ZV h lb vb b)(hab:a.natAbs*b.natAbs<4294967296^100):W6 Tryz.prog 26 #[va,vb] h λx h'=>Ext h h'/\ZV h' (aq h) x (a*b):=by
 obtain⟨na,sa,LA,rfl,HDa,htla,hla,hza⟩:=HA.out;obtain⟨nb,sb,LB,rfl,HDb,htlb,hlb,hzb⟩:=HB.out;refine Xn (l:=[_,_]) mx Tryz.func26 rfl rfl rfl rfl rfl Ww (Wx<|W5<|ADj [.bool na,sa] (λ_=>trivial) rfl rfl λAd h2 V3 E4 Be Cf=>?_);have Cg:aq h<=Ad:=Be;have Ch:=E4.1;have Z8:=(Ext.refl h).trans E4;refine ADj [.bool nb,sb] (λ_=>trivial) rfl rfl λAe Ci Az Ah Bg Cj=>?_;have Ck:aq h<=Ae:=bo E4.1 Bg;have nebq1bq9:Ad≠Ae:=by have:=V3.lt;omega
 have Cm:=Ah.1;have A4:=E4.trans Ah;have A5:=V3.ext Ah;refine ACp [.bool false,.slice none 0 0] AEz rfl (λ_=>trivial) λAc Cn Bh Ag Bi Co=>?_;have Cp:aq h<=Ac:=bo A4.1 Bi;have nebq1bq20:Ad≠Ac:=by have:=A5.lt;omega
 have nebq9bq20:Ae≠Ac:=by have:=Az.lt;omega
 have Cq:=Ag.1;have Cr:=(Z8.trans Ah).trans Ag;have Ax:=A4.trans Ag;have A6:=A5.ext Ag;have Ct:=(E4.trans Ah).trans Ag;have A7:=Az.ext Ag;refine W0<|Xr<|Wx<|W5<|AA8 (fs:=1) AFg Ww Wr rfl (Yf ACj rfl (A6.cell (i:=1) rfl) (Yk W7 rfl (HDa.ext Ax) (AA8 (fs:=1) AFg Ww Wr rfl (Yf ACj rfl (A7.cell (i:=1) rfl) (Yk W7 rfl (HDb.ext Ax) (AMl rfl rfl Wq (Aco (n:=LA.length+LB.length) W7 AG8 (λ_=>trivial) rfl rfl Wr Wq λg1 v1 h1 Bj E1 Cu Cv=>?_)))))));have Cw:=E1.1;have A8:=Ax.trans E1;have A9:=A6.ext E1;have Cx:=(Ah.trans Ag).trans E1;refine X4<|W0<|Xr<|Wx<|Wx<|W5<|AA8 (fs:=1) AFg Ww Wr rfl (Yf ACj rfl (A9.cell (i:=1) rfl) (Yk W7 rfl (HDa.ext A8) (Wu<|W0<|Xr<|W8<|AB5 1180591620717407111104 (λy:Nat×List Nat=>[(22,.int .i64 (y.1:Int))]) (λk y h'=>k=LA.length-y.1/\y.1<=LA.length/\Ext h h'/\g1<aq h'/\Yz 32 h' Ad [.bool na,sa]/\Yz 32 h' Ae [.bool nb,sb]/\Yz 32 h' Ac [.bool false,.slice none 0 0]/\AAh h' 96 g1 v1 (y.2.map AKj)/\y.2.length=LA.length+LB.length/\Dig y.2/\nv y.2=nv (LA.take y.1)*nv LB/\∀q,y.1+LB.length<=q->q<LA.length+LB.length->y.2[q]?=some 0) Ww LA.length (0,bc (LA.length+LB.length) 0) ?_ ⟨rfl,trivial⟩ ?_)));.exact⟨rfl,bI _,A8,Wq,A9,A7.ext E1,Bh.ext E1,Bj,W4,λx hx=>by rw[(cF.1 hx).2];decide,by simp[nv,Acv],λq hq Cy=>by dsimp only;rw[bG];simp;omega⟩
 rintro k⟨i,O⟩s1 hq⟨rfl,hi,XQ,hgq,Ak,Af,Ap,Ab,hOl,hOd,hOv,hOz⟩;dsimp only at hi Ab hOl hOd hOv hOz⊢;refine Wx<|W5<|ABa rfl rfl (λBl=>?_) λBl=>?_
 .refine W0<|Xr<|Wx<|X0 rfl (Xj<|Xr<|Wx<|W8<|Wx ?_);obtain⟨x,hx⟩:∃x,LA[i]?=some x:=⟨_,aa Wq⟩;have hbx:=HDa.dig x<|ai hx;refine W5<|Wu<|AE2 W7 rfl (HDa.ext XQ) rfl hx λCz Bm=>Yf Y7 rfl Bm (X4<|X4<|W0<|Xr<|Wx<|W5<|X4<|W0<|Xr<|Wx<|Wx<|W5<|AA8 (fs:=1) AFg Ww Wr rfl (Yf ACj rfl (Af.cell (i:=1) rfl) (Yk W7 rfl (HDb.ext XQ) (Wu<|W0<|Xr<|W8<|AB5 1152921503533106944 (λy:Nat×Nat×List Nat=>[(30,.int .i64 (y.1:Int)),(8,.int .u64 (y.2.1:Int))]) (λk y h'=>k=LB.length-y.1/\y.1<=LB.length/\Ext h h'/\g1<aq h'/\Yz 32 h' Ad [.bool na,sa]/\Yz 32 h' Ae [.bool nb,sb]/\Yz 32 h' Ac [.bool false,.slice none 0 0]/\AAh h' 96 g1 v1 (y.2.2.map AKj)/\y.2.2.length=LA.length+LB.length/\Dig y.2.2/\y.2.1<4294967296/\nv y.2.2+4294967296^(i+y.1)*y.2.1=nv (LA.take i)*nv LB+4294967296^i*(x*nv (LB.take y.1))/\∀q,i+LB.length<=q->q<LA.length+LB.length->y.2.2[q]?=some 0) Ww LB.length (0,0,O) ?_ ⟨rfl,rfl,trivial⟩ ?_))));.exact⟨rfl,bI _,XQ,Wq,Ak,Af,Ap,Ab,hOl,hOd,by dsimp only;omega,by simp[nv,hOv],hOz⟩
  rintro k⟨j,c,O⟩s2 hp⟨rfl,hj,XQ,hgq,Ak,Af,Ap,Ab,hOl,hOd,hc,hOv,hOz⟩;dsimp only at hj Ab hOl hOd hc hOv hOz⊢;refine Wx<|W5<|ABa rfl rfl (λBn=>?_) λBn=>?_;.refine W0<|Xr<|Wx<|X0 rfl (Xj<|Xr<|Wx<|W8<|Wx ?_);obtain⟨y,hy⟩:∃x,LB[j]?=some x:=⟨_,aa Wq⟩;have hby:=HDb.dig y<|ai hy;obtain⟨ov,hov⟩:∃x,O[i+j]?=some x:=⟨_,aa Wq⟩;have hbo:=hOd ov<|ai hov;have htb:=Agt hc hbx hby hbo;have hxy:x*y<=4294967295*4294967295:=dY Wq Wq;refine W5<|Wu<|AE2 W7 rfl (HDb.ext XQ) rfl hy λC0 Bo=>Yf Y7 rfl Bo (X4<|X4<|W0<|Xr<|Wx<|W5<|Wu<|Wu<|AQg Zy Za rfl hbx (Wu<|AQg Zy Za rfl hby (Ags rfl rfl Wq (Wu<|Wu<|Wu<|AMl rfl rfl Wq (AQ5 W7 rfl Ab rfl (by rw[aI];omega) ?_)))));refine Yf Y7 rfl (AAh.cell Ab<|APn hov) (AQg Zy Za rfl hbo (ALu rfl rfl Wq (ALu rfl rfl Wq (X4<|W0<|Xr<|Wx<|W5<|Wu<|Wu<|Wu<|AMl rfl rfl Wq (Wu<|ATa Za Zy rfl (AQ5 W7 rfl Ab rfl (by rw[aI];omega) ?_))))));refine AS9 (O.set (i+j)<|(c+(x*y+ov))%4294967296) Y7 rfl rfl Ab Wq rfl λh4 Bp U4=>?_;have C4:=U4.1;have Bq:=XQ.thenUpd U4 (λk hk=>by have Ba:k=g1:=hk;omega);have Br:=Ak.upd U4 (λhe=>by have Ar:Ad=g1:=he;omega);have Bt:=Af.upd U4 (λhe=>by have Ar:Ae=g1:=he;omega);have Bu:=Ap.upd U4 (λhe=>by have Ar:Ac=g1:=he;omega);refine W0<|Xr<|W5<|Wu<|AR6 rfl rfl (X4<|W0<|q_b<|Xr<|W5<|AFp rfl Wq (Wu<|W0<|Xr ?_));exact⟨LB.length-(j+1),(j+1,(c+(x*y+ov))/4294967296,O.set (i+j)<|(c+(x*y+ov))%4294967296),by first|omega|(dsimp only;omega),⟨rfl,by first|omega|(dsimp only;omega),Bq,Wq,Br,Bt,Bu,Bp,by simp[hOl],APo hOd<|bJ _ Wr,by dsimp only;exact dE htb,by dsimp only;rw[Yp hy];exact Acp (Pi:=0) (AT6 _ hov) hOv<|Nat.mod_add_div _ _,λq h1 h2=>by dsimp only;rw[aL Wq];exact hOz q h1 h2⟩,rfl,rfl,trivial⟩
  .refine W0<|Xr<|Wx<|Xi rfl (Y9<|Zj<|Zj<|AEo<|Xr ?_);obtain rfl:j=LB.length:=by omega
   refine W5<|Wu<|Wu<|AA8 (fs:=1) AFg Ww Wr rfl (Yf ACj rfl (Af.cell (i:=1) rfl) (Yk W7 rfl (HDb.ext XQ) (AMl rfl rfl Wq (Wu<|ATa Za Zy rfl ?_))));rw[dQ hc];refine AQ5 W7 rfl Ab rfl (by rw[aI];omega) ?_;refine AS9 (O.set (i+LB.length)<|c) Y7 rfl rfl Ab Wq rfl λh5 Bv U5=>?_;have C6:=U5.1;have Bw:=XQ.thenUpd U5 (λk hk=>by have Ba:k=g1:=hk;omega);have Bx:=Ak.upd U5 (λhe=>by have Ar:Ad=g1:=he;omega);have By:=Af.upd U5 (λhe=>by have Ar:Ae=g1:=he;omega);have Bz:=Ap.upd U5 (λhe=>by have Ar:Ac=g1:=he;omega);refine W0<|q_b<|Xr<|W5<|AFp rfl Wq (Wu<|W0<|Xr ?_);exact⟨LA.length-(i+1),(i+1,O.set (i+LB.length) c),by first|omega|(dsimp only;omega),⟨rfl,by first|omega|(dsimp only;omega),Bw,Wq,Bx,By,Bz,Bv,by simp[hOl],APo hOd hc,by dsimp only;have h1:=AT6 c<|hOz (i+LB.length) (aU _) Wq;rw[eE,cR]at h1;rw[h1,hOv,bD,Yp hx,eI,di],λq h1 h2=>by dsimp only;rw[aL Wq];exact hOz q Wq h2⟩,rfl,trivial⟩
 .refine W0<|Xr<|Wx<|Xi rfl (Y9<|Zj<|Zj<|AEo<|Xr<|Wx ?_);obtain rfl:i=LA.length:=by omega
  rw[bD]at hOv;have HDo:=Ab.ds (lo:=0) hOd<|bI _;refine W5<|AA8 (fs:=1) AFf Ww Wr rfl (Yf Zn rfl (Ak.cell (i:=0) rfl) (AA8 (fs:=1) AFf Ww Wr rfl (Yf Zn rfl (Af.cell (i:=0) rfl) (Acn AXd rfl rfl (Wu<|Xf trivial rfl (AJh (! na==nb) (DS.ext HDo<|Ext.refl _) Wq (by rw[hOv,<-AA1 hza,<-AA1 hzb];exact hab)) λC7 C8 hk=>?_)))));obtain⟨Am,B2⟩:=hk;refine⟨trivial,?_⟩;have C9:=Am.1;have B3:=XQ.trans Am;have B4:=Ak.ext Am;have B5:=Af.ext Am;have B6:=Ap.ext Am;have Da:=Ab.ext Am;obtain⟨Bb,s3,L3,rfl,Bc,B8,B9,Ca⟩:=B2.out;refine AAn [.bool Bb,s3] Ye rfl rfl rfl rfl (AE1 Bc.cap) B6 λDb Cb Av=>?_;have Cd:=B3.thenUpd Av (λk hk=>by have Ba:k=Ac:=hk;omega);have Dc:=Av.1;have Dd:=B4.upd Av λhe=>nebq1bq20 (he:Ad=Ac);have De:=B5.upd Av λhe=>nebq9bq20 (he:Ae=Ac);have Ce:=Bc.updLo Av Wq;refine W0<|Xr<|Xt<|⟨_,ABy Ye rfl rfl Cb,?_⟩;exact⟨Cd,⟨Bb,s3,L3,rfl,Ce.mono Wq,B8,B9,by rw[<-Ca,hOv,hza,hzb,Ag0]⟩⟩
theorem Apk(b:Bool)(a:Option Addr)(n c:Nat)(w:bt):(Instr.field 32 (.agg #[.bool b,.slice a n c]) 1).run Tryz.prog w=.ok (.slice a n c) w:=by kernel_rfl
theorem Avc:2^(j+1)*t+2^j=2^j*(2*t+1):=by rw[dy,cb,dC,di]
theorem Avd:2^(j+1)*t=2^j*(2*t):=by rw[dy,di]
theorem Apl(h:s<32):IntKind.u32.wrap (1*2^s)=((2^s:Nat):Int):=by
 have h1:(2:Nat)^s<4294967296:=by rw[show(4294967296:Nat)=2^32 by decide];exact dD Wr h
 rw[wrap_u32,Int.one_mul,show(2:Int)^s=((2^s:Nat):Int)by simp];generalize(2:Nat)^s=q at*;omega
theorem AXh{a b:Nat}(h:AG3 a b<0):a<b:=by
 unfold AG3 at h;split at h;.assumption
 .split at h<;>omega
theorem Amw(HA:DS h la va LA)(HB:DS h lb vb LB)(htb:TL LB)(Av:nv LB≠0)(hna:LA.length<=900)(hnb:LB.length<=900):W6 Tryz.prog 200 #[va,vb] h λx h'=>Ext h h'/\∃q r,x=.tuple #[q,r]/\∃LQ LR,DS h' (aq h) q LQ/\DS h' (aq h) r LR/\nv LQ=nv LA/nv LB/\nv LR=nv LA%nv LB/\LQ.length<=1000/\LR.length<=1000:=by
 refine Xn (l:=[_,_]) mx Tryz.func200 rfl rfl rfl rfl rfl Ww (Wx<|W5<|X4<|X4<|W0<|Xr<|Wx<|Wx<|W5<|Wu<|Yk W7 rfl HA (AS7 rfl rfl (λB3=>?_) λB3=>?_))
 .refine Wu<|Yh 12 true Ww rfl rfl (Wu<|Yh 12 true Ww rfl rfl (Yk W7 rfl HB (Yh 12 true Ww rfl rfl (AS7 rfl rfl (λB4=>?_) λB4=>?_))))
  .refine Zk rfl (W0<|Xr<|X0 rfl (Wx<|W5<|Wu<|Xf trivial rfl (Agz HA Wq) λx1 h hk=>?_));obtain⟨rfl,rfl⟩:=hk;refine⟨trivial,?_⟩;refine Wu<|Xf trivial rfl (Agz HB Wq) λx2 h hk=>?_;obtain⟨rfl,rfl⟩:=hk;refine⟨trivial,?_⟩;refine X4<|X4<|W0<|Xr<|Wx ?_;have Du:=Amv HA.dig Wq;refine ALo Ww<|Wu<|Wu<|Ae3 rfl rfl Wq ?_;rw[show IntKind.u64.wrap (((nv LA:Nat):Int).tdiv ((nv LB:Nat):Int))=((nv LA/nv LB:Nat):Int)by rw[Int.tdiv_eq_ediv_of_nonneg Wq,<-Int.natCast_ediv,wrap_u64];have hq:=cx (nv LA)<|nv LB;generalize nv LA/nv LB=q at hq⊢;omega];refine Xf trivial rfl (AXf false (nv LA/nv LB) (by have:=cx (nv LA)<|nv LB;omega) _) λx3 h4 hk=>?_;obtain⟨E5,B5⟩:=hk;refine⟨trivial,?_⟩;have Dw:=E5.1;have Z7:=(Ext.refl h).trans E5;obtain⟨Dx,s1,L1,rfl,Bt,Dy,Dz,B7⟩:=B5.out;obtain⟨a1,n1,c1,rfl,_⟩:=Bt.cap;have Bf:nv L1=nv LA/nv LB:=(AA1 B7).symm.trans (AA1 rfl);refine A5q (Apk _ _ _ _)<|Wu<|Wu<|Auh rfl rfl Wq (Xf trivial rfl (AXf false (nv LA%nv LB) (by have:=Nat.mod_le (nv LA)<|nv LB;omega) _) λx8 h9 hk=>?_);obtain⟨Ax,B8⟩:=hk;refine⟨trivial,?_⟩;have D6:=Ax.1;have D7:=Z7.trans Ax;have Bv:=E5.trans Ax;have B9:=Bt.ext Ax;obtain⟨D8,s2,L2,rfl,Bw,D9,Ea,Ca⟩:=B8.out;obtain⟨a2,n2,c2,rfl,_⟩:=Bw.cap;have Bg:nv L2=nv LA%nv LB:=(AA1 Ca).symm.trans (AA1 rfl);refine A5q (Apk _ _ _ _) (X4<|X4<|W0<|Xr<|Xt<|Ze<|⟨_,ALp,?_⟩);first
   |exact⟨Bv,_,_,rfl,L1,L2,B9.mono Wq,Bw.mono Wq,Bf,Bg,Wq,Wq⟩|exact⟨Bv,_,_,rfl,L7,R,lacks_HD7.mono Wq,lacks_HR.mono Wq,by rw[A4];exact hQv,hRv,Wq,Wq⟩
  .refine Zk rfl (W0<|Xr<|Xi rfl (Xj<|Xr<|Wx<|W5<|Wu<|Yk W7 rfl HA (Aco (n:=LA.length) W7 AG8 (λ_=>trivial) rfl rfl Wr Wq λg1 v1 h1 Bh E1 Cd Ce=>?_)));have Ed:=E1.1;have Ee:=(Ext.refl h).trans E1;refine X4<|W0<|Xr<|Wx<|Wx<|W5<|Wu<|Yk W7 rfl (HA.ext E1) (ALq rfl rfl Wq Wq ?_);rw[show(32:Int)*((LA.length:Nat):Int)=((32*LA.length:Nat):Int)by omega];refine AJd rfl rfl Wq Wq (X4<|W0<|Xr<|W8 ?_);have h0d:nv LA/2^(32*LA.length)=0:=dR (by rw[<-AWb];exact AJ4 HA.dig);refine AB5 4722366482594767307040 (λy:Nat×ab×List Nat×List Nat=>[(8,.int .i64<|(y.1:Int)-1),(5,y.2.1)]) (λk y h'=>y.1=k/\y.1<=32*LA.length/\Ext h h'/\g1<aq h'/\AAh h' 96 g1 v1 (y.2.2.1.map AKj)/\y.2.2.1.length=LA.length/\Dig y.2.2.1/\nv y.2.2.1=2^y.1*(nv LA/2^y.1/nv LB)/\DS h' (g1+1) y.2.1 y.2.2.2/\TL y.2.2.2/\nv y.2.2.2=nv LA/2^y.1%nv LB) Ww (32*LA.length) (32*LA.length,.slice none 0 0,bc LA.length 0,[]) ?_ ⟨rfl,rfl,trivial⟩ ?_;.exact⟨rfl,aU _,E1,Wq,Bh,W4,λx hx=>by rw[(cF.1 hx).2];decide,by dsimp only;rw[h0d,eC,Acv];rfl,AOv _ _,AQf,by dsimp only;rw[h0d,eB];rfl⟩
   rintro k⟨i,vr,Q,R⟩s1 hq⟨rfl,hi,XQ,hgq,Ad,hQl,hQd,hQv,HR,hRt,hRv⟩;dsimp only at hi Ad hQl hQd hQv HR hRt hRv⊢;have hRl:R.length<=LB.length:=AF0 hRt (by rw[hRv];exact ba (bJ _<|dK Av)<|AJ4 HB.dig);refine Wx<|Wx<|W5<|Wu<|AT1 rfl rfl (λCf=>?_) λCf=>?_
   .refine W0<|Xr<|X0 rfl (Xj<|Xr<|Wx<|W8<|Wx ?_);obtain⟨j,rfl⟩:∃j,i=j+1:=⟨i-1,Wq⟩;obtain⟨x,hx⟩:∃x,LA[j/32]?=some x:=⟨_,aa Wq⟩;have hbx:=HA.dig x<|ai hx;have hbit:=Apa HA.dig hx;have hst:=Ajm (N:=nv LA) (i:=j) Av hRv;rw[hbit]at hst;refine W5<|Wu<|Wu<|Wu<|Agp rfl rfl Wq Wq Wq ?_;rw[show(((j+1:Nat):Int)-1)/32=((j/32:Nat):Int)by omega];refine AE2 W7 rfl (HA.ext XQ) rfl hx λEf Cg=>Yf Y7 rfl Cg (Wu<|AV8 rfl rfl Wq Wq ?_);rw[show(((j+1:Nat):Int)-1)%32=((j%32:Nat):Int)by omega];refine Aak (n:=j%32) rfl rfl (by show j%32<=32;omega) ?_;rw[show(x:Int)/2^(j%32)=((x/2^(j%32):Nat):Int)by simp];have hxs:x/2^(j%32)<4294967296:=cJ (cx _ _) hbx;refine AT4 rfl rfl (.inl rfl) (Ajt hxs) (Xf trivial rfl (Acs (x/2^(j%32)%2) Wq HR Wq) λEg Eh hk=>?_);obtain⟨A5,L3,Am,Ae,Ci⟩:=hk;refine⟨trivial,?_⟩;have Ei:=A5.1;have Cj:=XQ.trans A5;have Ck:=Ad.ext A5;have HR_24:=HR.ext A5;refine Xf trivial rfl (AE3 Am Wq) λEj Cm hk=>?_;obtain⟨Ao,L4,Af,Ap,Ag,Cn⟩:=hk;refine⟨trivial,?_⟩;have Ek:=Ao.1;have A6:=Cj.trans Ao;have Bx:=Ck.ext Ao;have HR_31:=HR_24.ext Ao;have Co:=Am.ext Ao;refine X4<|W0<|Xr<|Wx<|W5<|Wu<|Wu<|Xf trivial rfl (Abj Af (HB.ext A6) Ap htb Wq Wq) λEl Cm hk=>?_;obtain⟨rfl,rfl⟩:=hk;refine⟨trivial,?_⟩;refine AT1 rfl rfl (λCp=>?_) λCp=>?_
    .refine W0<|Xr<|X0 rfl (Wx<|W5<|Wu<|Wu<|Xf trivial rfl (AXg Af (HB.ext A6) htb (AMn<|by assumption) Wq) λEm En hk=>?_);obtain⟨Aj,L5,Aq,Bj,Cr⟩:=hk;refine⟨trivial,?_⟩;have Eo:=Aj.1;have Ct:=A6.trans Aj;have Cu:=Bx.ext Aj;have HR_40:=HR_31.ext Aj;have Cv:=Co.ext Aj;have Cw:=Af.ext Aj;refine Xf trivial rfl (AE3 Aq Wq) λEp Er hk=>?_;obtain⟨Ah,L6,Bm,Bn,Bo,Cx⟩:=hk;refine⟨trivial,?_⟩;have Es:=Ah.1;have Cy:=Ct.trans Ah;have A7:=Cu.ext Ah;have HR_49:=HR_40.ext Ah;have Cz:=Cv.ext Ah;have C0:=Cw.ext Ah;have C1:=Aq.ext Ah;refine X4<|W0<|Xr ?_;obtain⟨dd,hd⟩:∃x,Q[j/32]?=some x:=⟨_,aa Wq⟩;have hdb:=hQd dd<|ai hd;obtain⟨t,rfl⟩:=Apb hQd hd hQv;have hge:nv LB<=2*nv R+x/2^(j%32)%2:=by rw[<-Ae,<-Ag];exact AMn (by assumption)
     have Ar:j%32<32:=bJ _ Wr;have Bp:2^(j%32)<4294967296:=by have:=Abg Ar hdb;omega
     refine ALo Ww<|Wu<|Wu<|Agp rfl rfl Wq Wq Wq ?_;rw[show(((j+1:Nat):Int)-1)/32=((j/32:Nat):Int)by omega];refine AQ5 W7 rfl A7 rfl (by rw[aI];omega) ?_;refine Yf Y7 rfl (AAh.cell A7<|APn hd) (Wu<|AV8 rfl rfl Wq Wq ?_);rw[show(((j+1:Nat):Int)-1)%32=((j%32:Nat):Int)by omega];refine Afb (n:=j%32) rfl rfl (by show j%32<=32;omega) ?_;rw[Apl Ar];refine AT4 rfl rfl (.inr<|.inl rfl) (Amu hdb Bp) ?_;rw[Auw];refine AQ5 W7 rfl A7 rfl (by rw[aI];omega) ?_;refine AS9 (Q.set (j/32)<|2^(j%32+1)*t+2^(j%32)) Y7 rfl rfl A7 Wq rfl λh9 Bq U9=>?_;have Et:=U9.1;have C4:=Cy.thenUpd U9 (λk hk=>by have C5:k=g1:=hk;omega);have HR_55:=HR_49.updLo U9 Wq;have Eu:=Cz.updLo U9 Wq;have Ev:=C0.updLo U9 Wq;have Ew:=C1.updLo U9 Wq;have C6:=Bm.updLo U9 Wq;refine W0<|q_b<|Xr<|W5<|Wu<|AJd rfl rfl Wq Wq ?_;rw[show((j+1:Nat):Int)-1-1=((j:Nat):Int)-1 by omega];refine X4<|W0<|Xr ?_;exact⟨j,(j,_,Q.set (j/32)<|2^(j%32+1)*t+2^(j%32),L6),by first|omega|(dsimp only;omega),⟨rfl,by first|omega|(dsimp only;omega),C4,Wq,Bq,by simp[hQl],APo hQd<|Abg (bJ _ Wr) hdb,by dsimp only;rw[(hst.2.1 hge).2,<-Avc,<-hQv,AU5 j];have:=AT6 (2^(j%32+1)*t+2^(j%32)) hd;rw[cb]at this;omega,C6.mono Wq,Bn,by dsimp only;rw[Bo,Bj,Ag,Ae];exact(hst.2.1 hge).1.symm⟩,rfl,rfl,trivial⟩
    .refine W0<|Xr<|Xi rfl (Xj<|q_b<|Xr<|W5<|Wu<|AJd rfl rfl Wq Wq ?_);rw[show((j+1:Nat):Int)-1-1=((j:Nat):Int)-1 by omega];refine X4<|W0<|Xr ?_;have hlt:2*nv R+x/2^(j%32)%2<nv LB:=by rw[<-Ae,<-Ag];exact AXh (by assumption)
     exact⟨j,(j,_,Q,L4),by first|omega|(dsimp only;omega),⟨rfl,by first|omega|(dsimp only;omega),A6,Wq,Bx,hQl,hQd,by dsimp only;rw[(hst.2.2 hlt).2,hQv,Avd],Af.mono Wq,Ap,by dsimp only;rw[Ag,Ae];exact(hst.2.2 hlt).1.symm⟩,rfl,rfl,trivial⟩
   .refine W0<|Xr<|Xi rfl (Y9<|Zj<|Zj<|AEo<|Xr<|Wx ?_);obtain rfl:i=0:=by omega
    rw[cP,eH,cY]at hQv;rw[cP,cY]at hRv;have HDq:=Ad.ds (lo:=0) hQd<|bI _;refine W5<|Wu<|Xf trivial rfl (AE3 (DS.ext HDq<|Ext.refl _) Wq) λEy Ez hk=>?_;obtain⟨A8,L7,Br,C7,A4,C8⟩:=hk;refine⟨trivial,?_⟩;have Fa:=A8.1;have By:=XQ.trans A8;have Fb:=Ad.ext A8;have HR_66:=HR.ext A8;refine Wu (X4<|X4<|W0<|Xr<|Xt<|⟨_,ALp,?_⟩);first
    |exact⟨By,_,_,rfl,L1,L2,lacks_HD1.mono Wq,lacks_HD2.mono Wq,Bf,Bg,Wq,Wq⟩|exact⟨By,_,_,rfl,L7,R,Br.mono Wq,HR_66.mono Wq,by rw[A4];exact hQv,hRv,Wq,Wq⟩
 .refine Wu<|X8 12 false Ww rfl rfl (X8 12 false Ww rfl rfl (X8 12 false Ww rfl rfl (AAs rfl (W0<|Xr<|Xi rfl (Xj<|Xr<|Wx<|W5<|Wu<|Yk W7 rfl HA (Aco (n:=LA.length) W7 AG8 (λ_=>trivial) rfl rfl Wr Wq λg1 v1 h1 Bh E1 Cd Ce=>?_))))));have Fc:=E1.1;have Fd:=(Ext.refl h).trans E1;refine X4<|W0<|Xr<|Wx<|Wx<|W5<|Wu<|Yk W7 rfl (HA.ext E1) (ALq rfl rfl Wq Wq ?_);rw[show(32:Int)*((LA.length:Nat):Int)=((32*LA.length:Nat):Int)by omega];refine AJd rfl rfl Wq Wq (X4<|W0<|Xr<|W8 ?_);have h0d:nv LA/2^(32*LA.length)=0:=dR (by rw[<-AWb];exact AJ4 HA.dig);refine AB5 4722366482594767307040 (λy:Nat×ab×List Nat×List Nat=>[(8,.int .i64<|(y.1:Int)-1),(5,y.2.1)]) (λk y h'=>y.1=k/\y.1<=32*LA.length/\Ext h h'/\g1<aq h'/\AAh h' 96 g1 v1 (y.2.2.1.map AKj)/\y.2.2.1.length=LA.length/\Dig y.2.2.1/\nv y.2.2.1=2^y.1*(nv LA/2^y.1/nv LB)/\DS h' (g1+1) y.2.1 y.2.2.2/\TL y.2.2.2/\nv y.2.2.2=nv LA/2^y.1%nv LB) Ww (32*LA.length) (32*LA.length,.slice none 0 0,bc LA.length 0,[]) ?_ ⟨rfl,rfl,trivial⟩ ?_;.exact⟨rfl,aU _,E1,Wq,Bh,W4,λx hx=>by rw[(cF.1 hx).2];decide,by dsimp only;rw[h0d,eC,Acv];rfl,AOv _ _,AQf,by dsimp only;rw[h0d,eB];rfl⟩
  rintro k⟨i,vr,Q,R⟩s1 hq⟨rfl,hi,XQ,hgq,Ad,hQl,hQd,hQv,HR,hRt,hRv⟩;dsimp only at hi Ad hQl hQd hQv HR hRt hRv⊢;have hRl:R.length<=LB.length:=AF0 hRt (by rw[hRv];exact ba (bJ _<|dK Av)<|AJ4 HB.dig);refine Wx<|Wx<|W5<|Wu<|AT1 rfl rfl (λC9=>?_) λC9=>?_
  .refine W0<|Xr<|X0 rfl (Xj<|Xr<|Wx<|W8<|Wx ?_);obtain⟨j,rfl⟩:∃j,i=j+1:=⟨i-1,Wq⟩;obtain⟨x,hx⟩:∃x,LA[j/32]?=some x:=⟨_,aa Wq⟩;have hbx:=HA.dig x<|ai hx;have hbit:=Apa HA.dig hx;have hst:=Ajm (N:=nv LA) (i:=j) Av hRv;rw[hbit]at hst;refine W5<|Wu<|Wu<|Wu<|Agp rfl rfl Wq Wq Wq ?_;rw[show(((j+1:Nat):Int)-1)/32=((j/32:Nat):Int)by omega];refine AE2 W7 rfl (HA.ext XQ) rfl hx λFe Da=>Yf Y7 rfl Da (Wu<|AV8 rfl rfl Wq Wq ?_);rw[show(((j+1:Nat):Int)-1)%32=((j%32:Nat):Int)by omega];refine Aak (n:=j%32) rfl rfl (by show j%32<=32;omega) ?_;rw[show(x:Int)/2^(j%32)=((x/2^(j%32):Nat):Int)by simp];have hxs:x/2^(j%32)<4294967296:=cJ (cx _ _) hbx;refine AT4 rfl rfl (.inl rfl) (Ajt hxs) (Xf trivial rfl (Acs (x/2^(j%32)%2) Wq HR Wq) λFf Fg hk=>?_);obtain⟨A9,L3,Am,Ae,Ci⟩:=hk;refine⟨trivial,?_⟩;have Fh:=A9.1;have Db:=XQ.trans A9;have Dc:=Ad.ext A9;have HR_76:=HR.ext A9;refine Xf trivial rfl (AE3 Am Wq) λFi Dd hk=>?_;obtain⟨Au,L4,Af,Ap,Ag,Cn⟩:=hk;refine⟨trivial,?_⟩;have Fj:=Au.1;have Ba:=Db.trans Au;have Bz:=Dc.ext Au;have HR_83:=HR_76.ext Au;have De:=Am.ext Au;refine X4<|W0<|Xr<|Wx<|W5<|Wu<|Wu<|Xf trivial rfl (Abj Af (HB.ext Ba) Ap htb Wq Wq) λFk Dd hk=>?_;obtain⟨rfl,rfl⟩:=hk;refine⟨trivial,?_⟩;refine AT1 rfl rfl (λDf=>?_) λDf=>?_
   .refine W0<|Xr<|X0 rfl (Wx<|W5<|Wu<|Wu<|Xf trivial rfl (AXg Af (HB.ext Ba) htb (AMn<|by assumption) Wq) λFl Fo hk=>?_);obtain⟨Ak,L5,Aq,Bj,Cr⟩:=hk;refine⟨trivial,?_⟩;have Fp:=Ak.1;have Dg:=Ba.trans Ak;have Dh:=Bz.ext Ak;have HR_92:=HR_83.ext Ak;have Di:=De.ext Ak;have Dj:=Af.ext Ak;refine Xf trivial rfl (AE3 Aq Wq) λFq Ft hk=>?_;obtain⟨Ai,L6,Bm,Bn,Bo,Cx⟩:=hk;refine⟨trivial,?_⟩;have Fu:=Ai.1;have Dk:=Dg.trans Ai;have Bb:=Dh.ext Ai;have HR_101:=HR_92.ext Ai;have Dl:=Di.ext Ai;have Do:=Dj.ext Ai;have Dp:=Aq.ext Ai;refine X4<|W0<|Xr ?_;obtain⟨dd,hd⟩:∃x,Q[j/32]?=some x:=⟨_,aa Wq⟩;have hdb:=hQd dd<|ai hd;obtain⟨t,rfl⟩:=Apb hQd hd hQv;have hge:nv LB<=2*nv R+x/2^(j%32)%2:=by rw[<-Ae,<-Ag];exact AMn (by assumption)
    have Ar:j%32<32:=bJ _ Wr;have Bp:2^(j%32)<4294967296:=by have:=Abg Ar hdb;omega
    refine ALo Ww<|Wu<|Wu<|Agp rfl rfl Wq Wq Wq ?_;rw[show(((j+1:Nat):Int)-1)/32=((j/32:Nat):Int)by omega];refine AQ5 W7 rfl Bb rfl (by rw[aI];omega) ?_;refine Yf Y7 rfl (AAh.cell Bb<|APn hd) (Wu<|AV8 rfl rfl Wq Wq ?_);rw[show(((j+1:Nat):Int)-1)%32=((j%32:Nat):Int)by omega];refine Afb (n:=j%32) rfl rfl (by show j%32<=32;omega) ?_;rw[Apl Ar];refine AT4 rfl rfl (.inr<|.inl rfl) (Amu hdb Bp) ?_;rw[Auw];refine AQ5 W7 rfl Bb rfl (by rw[aI];omega) ?_;refine AS9 (Q.set (j/32)<|2^(j%32+1)*t+2^(j%32)) Y7 rfl rfl Bb Wq rfl λh9 Bq U9=>?_;have Fv:=U9.1;have Dq:=Dk.thenUpd U9 (λk hk=>by have C5:k=g1:=hk;omega);have HR_107:=HR_101.updLo U9 Wq;have Fw:=Dl.updLo U9 Wq;have Fx:=Do.updLo U9 Wq;have Fy:=Dp.updLo U9 Wq;have Dr:=Bm.updLo U9 Wq;refine W0<|q_b<|Xr<|W5<|Wu<|AJd rfl rfl Wq Wq ?_;rw[show((j+1:Nat):Int)-1-1=((j:Nat):Int)-1 by omega];refine X4<|W0<|Xr ?_;exact⟨j,(j,_,Q.set (j/32)<|2^(j%32+1)*t+2^(j%32),L6),by first|omega|(dsimp only;omega),⟨rfl,by first|omega|(dsimp only;omega),Dq,Wq,Bq,by simp[hQl],APo hQd<|Abg (bJ _ Wr) hdb,by dsimp only;rw[(hst.2.1 hge).2,<-Avc,<-hQv,AU5 j];have:=AT6 (2^(j%32+1)*t+2^(j%32)) hd;rw[cb]at this;omega,Dr.mono Wq,Bn,by dsimp only;rw[Bo,Bj,Ag,Ae];exact(hst.2.1 hge).1.symm⟩,rfl,rfl,trivial⟩
   .refine W0<|Xr<|Xi rfl (Xj<|q_b<|Xr<|W5<|Wu<|AJd rfl rfl Wq Wq ?_);rw[show((j+1:Nat):Int)-1-1=((j:Nat):Int)-1 by omega];refine X4<|W0<|Xr ?_;have hlt:2*nv R+x/2^(j%32)%2<nv LB:=by rw[<-Ae,<-Ag];exact AXh (by assumption)
    exact⟨j,(j,_,Q,L4),by first|omega|(dsimp only;omega),⟨rfl,by first|omega|(dsimp only;omega),Ba,Wq,Bz,hQl,hQd,by dsimp only;rw[(hst.2.2 hlt).2,hQv,Avd],Af.mono Wq,Ap,by dsimp only;rw[Ag,Ae];exact(hst.2.2 hlt).1.symm⟩,rfl,rfl,trivial⟩
  .refine W0<|Xr<|Xi rfl (Y9<|Zj<|Zj<|AEo<|Xr<|Wx ?_);obtain rfl:i=0:=by omega
   rw[cP,eH,cY]at hQv;rw[cP,cY]at hRv;have HDq:=Ad.ds (lo:=0) hQd<|bI _;refine W5<|Wu<|Xf trivial rfl (AE3 (DS.ext HDq<|Ext.refl _) Wq) λFz F4 hk=>?_;obtain⟨Bc,L7,Br,C7,A4,C8⟩:=hk;refine⟨trivial,?_⟩;have F6:=Bc.1;have B2:=XQ.trans Bc;have F7:=Ad.ext Bc;have HR_118:=HR.ext Bc;refine Wu (X4<|X4<|W0<|Xr<|Xt<|⟨_,ALp,?_⟩);first
   |exact⟨B2,_,_,rfl,L1,L2,lacks_HD1.mono Wq,lacks_HD2.mono Wq,Bf,Bg,Wq,Wq⟩|exact⟨B2,_,_,rfl,L7,R,Br.mono Wq,HR_118.mono Wq,by rw[A4];exact hQv,hRv,Wq,Wq⟩
theorem Afg:ZeT Tryz.prog 56 (.slice none 0 0) 24:=AFy Ww
theorem AJ5:NaT Tryz.prog 34:=AIj Tryz.underlying34 rfl Ww
theorem BAq:NaT Tryz.prog 164:=AIj Tryz.underlying164 rfl Ww
theorem BAr:ZeT Tryz.prog 164 (.slice none 0 0) 24:=AFy Ww
theorem Acw:FdT Tryz.prog 73 0 0 22:=⟨_,_,Tryz.underlying73,rfl,rfl,rfl⟩
theorem AUd:FdT Tryz.prog 73 1 1 3:=⟨_,_,Tryz.underlying73,rfl,rfl,rfl⟩
theorem A0w:ZeT Tryz.prog 73 (.agg #[.slice none 0 0,.int .i64 0]) 32:=AFy Ww
def Apm(fuel:Nat)(a b:Int):Option Int:=if a.natAbs<Zm/\b.natAbs<Zm then some (a+b)else none
def A4n(fuel:Nat)(a b:Int):Option Int:=if a.natAbs<Zm/\b.natAbs<Zm then some (a-b)else none
def AN6(fuel:Nat)(a b:Int):Option Int:=if a.natAbs*b.natAbs<Zm then some (a*b)else none
def Aju(fuel:Nat)(a:Int):Option Int:=some<|-a
def AJi(fuel:Nat)(a:Int):Option Int:=some a
def AGc(fuel:Nat)(a:Int):Option Int:=if-9223372036854775808<=a/\a<=9223372036854775807 then some a else none
def AZh(fuel:Nat)(a:Int):Option Int:=some<|sigZ a
def Ag1(fuel:Nat)(a:Int):Option (Int×Bool):=if a.natAbs<9223372036854775808 then some (a,true)else none
theorem Ave{n:Nat}(h:n<Zm):n<4294967296^100:=ba h<|dD Wr Wr
theorem A6d{u:ab}{a b:Int}(H1:ZZ h u a)(H2:ZZ h v b)(hp:Apm fuel a b=some r):W6 Tryz.prog 139 #[u,v] h λx h'=>Ext h h'/\∃(x0:ab),x=x0/\ZZ h' x0 r:=by obtain⟨⟨h1,h2⟩,hp⟩:=ifN hp;cases hp;exact(Abk H1 H2 h1 h2).mono λx h' hk=>⟨hk.1,x,rfl,hk.2.zz⟩
theorem A6e{u:ab}{a b:Int}(H1:ZZ h u a)(H2:ZZ h v b)(hp:A4n fuel a b=some r):W6 Tryz.prog 131 #[u,v] h λx h'=>Ext h h'/\∃(x0:ab),x=x0/\ZZ h' x0 r:=by obtain⟨⟨h1,h2⟩,hp⟩:=ifN hp;cases hp;exact(Apj H1 H2 h1 h2).mono λx h' hk=>⟨hk.1,x,rfl,hk.2.zz⟩
theorem A6f{u:ab}{a b:Int}(H1:ZZ h u a)(H2:ZZ h v b)(hp:AN6 fuel a b=some r):W6 Tryz.prog 26 #[u,v] h λx h'=>Ext h h'/\∃(x0:ab),x=x0/\ZZ h' x0 r:=by obtain⟨h1,hp⟩:=ifN hp;cases hp;exact(A0v H1 H2<|Ave h1).mono λx h' hk=>⟨hk.1,x,rfl,hk.2.zz⟩
theorem A6g{u:ab}{a:Int}(H1:ZZ h u a)(hp:Aju fuel a=some r):W6 Tryz.prog 80 #[u] h λx h'=>Ext h h'/\∃(x0:ab),x=x0/\ZZ h' x0 r:=by cases hp;exact(Aph H1).mono λx h' hk=>⟨hk.1,x,rfl,hk.2.zz⟩
theorem AXi{u:ab}{a:Int}(H1:ZZ h u a)(hp:AJi fuel a=some r):W6 Tryz.prog 71 #[u] h λx h'=>Ext h h'/\∃(x0:ab),x=x0/\ZZ h' x0 r:=by cases hp;exact(Aeu H1).mono λx h' hk=>⟨hk.1,x,rfl,hk.2.zz⟩
theorem Avf{a:Int}(hp:AGc fuel a=some r):W6 Tryz.prog 7 #[.int .i64 a] h λx h'=>Ext h h'/\∃(x0:ab),x=x0/\ZZ h' x0 r:=by obtain⟨h1,hp⟩:=ifN hp;cases hp;exact(AZg h1 h).mono λx h' hk=>⟨hk.1,x,rfl,hk.2.zz⟩
theorem A0x{u:ab}{a:Int}(H1:ZZ h u a)(hp:AZh fuel a=some r):W6 Tryz.prog 128 #[u] h λx h'=>Ext h h'/\x=.int .i64 r:=by cases hp;exact AUc H1
theorem Avg{u:ab}{a:Int}{r:Int×Bool}(H1:ZZ h u a)(hp:Ag1 fuel a=some r):W6 Tryz.prog 87 #[u] h λx h'=>Ext h h'/\x=.tuple #[.int .i64 r.1,.bool r.2]:=by obtain⟨h1,hp⟩:=ifN hp;cases hp;exact Ar4 H1 h1
end Go.Proofs.YtgmdhndbcohgiaaGreatDoor
namespace Go.QF
section
variable{P:aA}{ops:Array au}
structure LsF(ops:Array au)(R:List Nat)(listed:Array Bool):Prop where
 pw:d7 (·<·) R
 size:listed.size=ops.size
 mem:∀j,j∈R↔j<ops.size/\listed.getD j true=false
 cl:∀j oj,listed.getD j false=true->ops[j]?=some oj->∀ed∈oj.after,bH .any ed=true->listed.getD ed.on false=true
theorem LsF.step{R1 R2:List Nat}{listed:Array Bool}{oi:au}(L:LsF ops (R1++i::R2) listed)(hoi:ops[i]?=some oi)(hall:∀ed∈oi.after,bH .any ed=true->listed.getD ed.on false=true):LsF ops (R1++R2) (listed.setIfInBounds i true):=by
 have hpw':=aG.1 L.pw;have his:i<ops.size:=(ao.1 hoi).1;have his':i<listed.size:=by rw[L.size];exact his
 have Ab:∀j,i≠j->∀d,(listed.setIfInBounds i true).getD j d=listed.getD j d:=λj hij d=>by simp only[bn];rw[bU hij]
 have htr:∀j,listed.getD j false=true->(listed.setIfInBounds i true).getD j false=true:=λj hj=>by
  by_cases h:i=j;.subst h;simp[his']
  .rw[Ab j h];exact hj
 refine⟨aG.2 ⟨hpw'.1,(aH.1 hpw'.2.1).2,λx hx y hy=>hpw'.2.2 x hx y<|aj _ hy⟩,by simp[L.size],λj=>?_,?_⟩
 .have hm:=L.mem j;constructor
  .intro hj;have hj':j∈R1++i::R2:=by
    rcases ah.1 hj with h|h;.exact ae _ h
    .exact ap _<|aj _ h
   obtain⟨h1,h2⟩:=hm.1 hj';have hne:i≠j:=by
    intro he;subst he;rcases ah.1 hj with h|h;.have:=hpw'.2.2 i h i<|ak ..;omega
    .have:=(aH.1 hpw'.2.1).1 i h;omega
   exact⟨h1,by rw[Ab j hne];exact h2⟩
  .rintro⟨h1,h2⟩;have hne:i≠j:=by
    intro he;subst he;simp[his']at h2
   rw[Ab j hne]at h2;have:=hm.2 ⟨h1,h2⟩;rcases ah.1 this with h|h;.exact ae _ h
   .rcases aM.1 h with h|h;.exact absurd h.symm hne
    .exact ap _ h
 .intro j oj hj hoj ed hed hbd;by_cases hij:i=j;.subst hij;rw[hoi]at hoj;injection hoj with hoj;subst hoj;exact htr _<|hall ed hed hbd
  .rw[Ab j hij]at hj;exact htr _<|L.cl j oj hj hoj ed hed hbd
theorem LsF.notListed{listed:Array Bool}(L:LsF ops R listed){k:Nat}(hk:k∈R):listed.getD k false=false:=by
 obtain⟨h1,h2⟩:=(L.mem k).1 hk;have h3:k<listed.size:=by rw[L.size];exact h1
 simp[h3]at h2⊢;exact h2
def Ag2(n:Nat)(ops:Array au)(m:Nat):Bool:=bZ m ops.size&&(aK ops.size).all λj=>match ops[j]? with|none=>false|some oj=>(match oj.dst with|some d=>bA d n|none=>true)&&oj.after.all (λed=>!Region.binds .any ed||bA ed.on j)&&bif bA j m then(aK j).all λi=>match ops[i]? with|none=>false|some oi=>match oi.dst,oj.dst with|some a,some b=>!Nat.beq a b|_,_=>false else(aK j).all λi=>ahead ops i j 
structure Ag3(n:Nat)(ops:Array au)(m:Nat):Prop where
 le:m<=ops.size
 dst:∀(j:Nat)(oj:au),ops[j]?=some oj->∀d,oj.dst=some d->d<n
 dep:∀(j:Nat)(oj:au),ops[j]?=some oj->∀ed∈oj.after,bH .any ed=true->ed.on<j
 ne:∀(i j:Nat)(oi oj:au)(a b:Nat),i≠j->i<m->j<m->ops[i]?=some oi->ops[j]?=some oj->oi.dst=some a->oj.dst=some b->a≠b
 up:∀(i j:Nat)(oj:au),ops[j]?=some oj->m<=j->i<j->∃n,reach ops n i j=true
theorem Acx{a b:Nat}(h:bA a b=true):a<b:=aw h
theorem Ajv{n m:Nat}(H:Ag2 n ops m=true):Ag3 n ops m:=by
 unfold Ag2 at H;rw[am]at H;obtain⟨h0,H⟩:=H;have key:∀{j:Nat}{oj:au},ops[j]?=some oj->((match oj.dst with|some d=>bA d n|none=>true)=true/\oj.after.all (λed=>!Region.binds .any ed||bA ed.on j)=true)/\(bif bA j m then(aK j).all λi=>match ops[i]? with
    |none=>false|some oi=>match oi.dst,oj.dst with|some a,some b=>!Nat.beq a b|_,_=>false else(aK j).all λi=>ahead ops i j)=true:=by
  intro j oj hj;have hlt:j<ops.size:=(ao.1 hj).1;have H:=aP.1 H j<|aV.2 hlt;simp only[hj,am]at H;exact H
 have ne:∀(i j:Nat)(oi oj:au)(a b:Nat),i<j->j<m->ops[i]?=some oi->ops[j]?=some oj->oi.dst=some a->oj.dst=some b->a≠b:=by
  intro i j oi oj a b hij hjm hi hj ha hb he;have h1:=(key hj).2;have Ab:bA j m=true:=bV hjm;rw[Ab,cond_true]at h1;have h2:=aP.1 h1 i<|aV.2 hij;simp only[hi,ha,hb,he]at h2;simp at h2
 refine⟨aw h0,λj oj hj d hd=>?_,λj oj hj ed hed hbd=>?_,?_,λi j oj hj hmj hij=>?_⟩;.have:=(key hj).1.1;rw[hd]at this;exact Acx this
 .have:=cL.1 (key hj).1.2 ed hed;rw[hbd]at this;exact Acx (by simpa using this)
 .intro i j oi oj a b hne him hjm hi hj ha hb;rcases Nat.lt_or_gt_of_ne hne with h|h;.exact ne i j oi oj a b h hjm hi hj ha hb
  .exactλhe=>ne j i oj oi b a h him hj hi hb ha he.symm
 .have h1:=(key hj).2;have Ab:bA j m=false:=by cases hb:bA j m with
   |false=>rfl|true=>have:=Acx hb;omega
  rw[Ab,cond_false]at h1;exact AK1<|aP.1 h1 i<|aV.2 hij
theorem Acy{n m:Nat}(S:Ag3 n ops m):∀(fuel:Nat)(T:List Nat)(listed:Array Bool)(e:Env)(a:Act)(w:bt)(K:Env->Ws->Prop),(∀j∈T,m<=j)->T.length=fuel->LsF ops T listed->Rep n e a->LI P B st ops T e w.heap K->(∀e' a' w',Rep n e' a'->Same w w'->K e' w'.heap->Q .normal a' w')->wpAny P .any ops Q fuel listed a w:=by
 intro fuel;induction fuel with
 |zero=>
   intro T listed e a w K hT hlen L r H hK;obtain rfl:T=[]:=ay.1 hlen;refine⟨?_,hK _ _ _ r (.refl w) H⟩;refine bW.2 λj hj=>?_;obtain⟨hjl,oj,hoj,_⟩:=mem_ready.1 hj;have:=(L.mem j).2 ⟨(ao.1 hoj).1,hjl⟩;cases this|succ fuel ih=>
   intro T listed e a w K hT hlen L r H hK;cases T with
   |nil=>simp at hlen|cons i0 T=>
   have Ab:=(L.mem i0).1 (ak ..);obtain⟨o0,Ad⟩:∃o,ops[i0]?=some o:=⟨ops[i0],ax Ab.1⟩;refine⟨λhr=>?_,λi hi=>?_⟩
   .exfalso;have:i0∈co .any ops listed:=mem_ready.2 ⟨Ab.2,o0,Ad,λed hed hbd=>by
     have hlt:=S.dep i0 o0 Ad ed hed hbd;cases hl:listed.getD ed.on false with
     |true=>rfl|false=>
       exfalso;have hs:ed.on<ops.size:=ba hlt Ab.1;have hm:ed.on∈i0::T:=(L.mem ed.on).2 ⟨hs,by
        have h':ed.on<listed.size:=by rw[L.size];exact hs
        simp[h']at hl⊢;exact hl⟩;rcases aM.1 hm with he|he;.omega
       .have:=(aH.1 L.pw).1 _ he;omega⟩;rw[hr]at this;cases this
   .obtain⟨hil,oi,hoi,hall⟩:=mem_ready.1 hi;have his:i<ops.size:=(ao.1 hoi).1;have hiT:=(L.mem i).2 ⟨his,hil⟩;have hii:i=i0:=by
     rcases aM.1 hiT with h|h;.exact h
     .exfalso;have hlt:=(aH.1 L.pw).1 _ h;obtain⟨nre,hre⟩:=S.up i0 i oi hoi (hT i hiT) hlt;have h1:listed.getD i0 false=true:=AFn (L:=λj=>listed.getD j false=true) L.cl nre i0 i oi hoi hall hre;rw[L.notListed<|ak ..]at h1;cases h1
    subst hii;simp only[LI,hoi]at H;refine AEv hoi (S.dst i oi hoi) r H λe' a' w' r' hs hk=>?_;exact ih T _ e' a' w' K (λj hj=>hT j<|aj _ hj) (by simp at hlen;omega) (LsF.step (R1:=[]) L hoi hall) r' hk λe2 a2 w2 r2 s2 k2=>hK _ _ _ r2 (hs.trans s2) k2
theorem Amx{n m:Nat}(S:Ag3 n ops m){e0:Env}{F:Nat->ab->Ws->Prop}{D:Nat->Nat->ab->ab->Prop}{T:List Nat}(hst:∀j v h h',F j v h->Ext h h'->F j v h')(hT:∀j∈T,m<=j)(hop:∀i oi,i<m->ops[i]?=some oi->∀e h,Ext h0 h->(∀j oj d,(∃ed∈oi.after,bH .any ed=true/\ed.on=j)->ops[j]?=some oj->oj.dst=some d->F j (e d) h)->(∀t,(∀j oj,j<m->ops[j]?=some oj->oj.dst≠some t)->e t=e0 t)->GOp P B st ops oi e h λe' h'=>Ext h h'/\∀d,oi.dst=some d->F i (e' d) h'/\∀j u,F j u h->D i j (e' d) u/\D j i u (e' d))(hend:∀e h,Ext h0 h->(∀j oj d,j<m->ops[j]?=some oj->oj.dst=some d->F j (e d) h)->(∀i j oi oj a b,i≠j->i<m->j<m->ops[i]?=some oi->ops[j]?=some oj->oi.dst=some a->oj.dst=some b->D i j (e a) (e b))->(∀t,(∀j oj,j<m->ops[j]?=some oj->oj.dst≠some t)->e t=e0 t)->LI P B st ops T e h K):∀(fuel:Nat)(R:List Nat)(listed:Array Bool)(e:Env)(a:Act)(w:bt),(∀j∈R,j<m)->(R++T).length=fuel->LsF ops (R++T) listed->Rep n e a->Ext h0 w.heap->(∀j oj d,j<m->listed.getD j false=true->ops[j]?=some oj->oj.dst=some d->F j (e d) w.heap)->(∀i j oi oj a b,i≠j->i<m->j<m->listed.getD i false=true->listed.getD j false=true->ops[i]?=some oi->ops[j]?=some oj->oi.dst=some a->oj.dst=some b->D i j (e a) (e b))->(∀t,(∀j oj,j<m->ops[j]?=some oj->oj.dst≠some t)->e t=e0 t)->(∀e' a' w',Rep n e' a'->Same w w'->K e' w'.heap->Q .normal a' w')->wpAny P .any ops Q fuel listed a w:=by
 intro fuel;induction fuel with
 |zero=>
   intro R listed e a w hR hlen L r hE hF hD Ab hK;have hli:R=[]->∀j oj,j<m->ops[j]?=some oj->listed.getD j false=true:=by
    intro Ac j oj hj hoj;subst Ac;have hs:=(ao.1 hoj).1;have hs':j<listed.size:=by rw[L.size];exact hs
    cases hl:listed.getD j false with|true=>rfl|false=>
      exfalso;have:=hT j<|(L.mem j).2 ⟨hs,by simp[hs']at hl⊢;exact hl⟩;omega
   have Ac:R=[]:=by cases R with|nil=>rfl|cons i R=>simp at hlen
   subst Ac;exact Acy S 0 T listed e a w K hT hlen L r (hend e w.heap hE (λj oj d hj hoj hd=>hF j oj d hj (hli rfl j oj hj hoj) hoj hd) (λi j oi oj a b hij hi hj hoi hoj ha hb=>hD i j oi oj a b hij hi hj (hli rfl i oi hi hoi) (hli rfl j oj hj hoj) hoi hoj ha hb) Ab) hK|succ fuel ih=>
   intro R listed e a w hR hlen L r hE hF hD Ab hK;have hli:R=[]->∀j oj,j<m->ops[j]?=some oj->listed.getD j false=true:=by
    intro Ac j oj hj hoj;subst Ac;have hs:=(ao.1 hoj).1;have hs':j<listed.size:=by rw[L.size];exact hs
    cases hl:listed.getD j false with
    |true=>rfl|false=>
      exfalso;have:=hT j<|(L.mem j).2 ⟨hs,by simp[hs']at hl⊢;exact hl⟩;omega
   cases hRc:R with
   |nil=>
     subst hRc;exact Acy S (fuel+1) T listed e a w K hT hlen L r (hend e w.heap hE (λj oj d hj hoj hd=>hF j oj d hj (hli rfl j oj hj hoj) hoj hd) (λi j oi oj a b hij hi hj hoi hoj ha hb=>hD i j oi oj a b hij hi hj (hli rfl i oi hi hoi) (hli rfl j oj hj hoj) hoi hoj ha hb) Ab) hK|cons i0 R'=>
   have hi0R:i0∈R:=by rw[hRc];exact ak ..
   have Af:=(L.mem i0).1 (ae _ hi0R);obtain⟨o0,Ah⟩:∃o,ops[i0]?=some o:=⟨ops[i0],ax Af.1⟩;have hmin:∀j∈R++T,i0<=j:=by
    intro j hj;have hpw:=L.pw;rw[hRc]at hpw hj;rcases aM.1 hj with h|h;.omega
    .have:=(aH.1 hpw).1 j h;omega
   refine⟨λhr=>?_,λi hi=>?_⟩
   .exfalso;have:i0∈co .any ops listed:=mem_ready.2 ⟨Af.2,o0,Ah,λed hed hbd=>by
     have hlt:=S.dep i0 o0 Ah ed hed hbd;cases hl:listed.getD ed.on false with
     |true=>rfl|false=>
       exfalso;have hs:ed.on<ops.size:=ba hlt Af.1;have hm:=hmin ed.on<|(L.mem ed.on).2 ⟨hs,by
        have h':ed.on<listed.size:=by rw[L.size];exact hs
        simp[h']at hl⊢;exact hl⟩;omega⟩;rw[hr]at this;cases this
   .obtain⟨hil,oi,hoi,hall⟩:=mem_ready.1 hi;have his:i<ops.size:=(ao.1 hoi).1;have hiR:i∈R:=by
     rcases ah.1 ((L.mem i).2 ⟨his,hil⟩)with h|h;.exact h
     .exfalso;have hlt:i0<i:=by have:=hT i h;have:=hR i0 hi0R;omega
      obtain⟨nre,hre⟩:=S.up i0 i oi hoi (hT i h) hlt;have h1:listed.getD i0 false=true:=AFn (L:=λj=>listed.getD j false=true) L.cl nre i0 i oi hoi hall hre;rw[L.notListed<|ae _ hi0R]at h1;cases h1
    have him:=hR i hiR;obtain⟨A,C,hAC⟩:=bR hiR;have L':LsF ops (A++i::(C++T)) listed:=by rw[hAC]at L;simpa using L
    have hdep:∀j oj d,(∃ed∈oi.after,bH .any ed=true/\ed.on=j)->ops[j]?=some oj->oj.dst=some d->F j (e d) w.heap:=by
     rintro j oj d⟨ed,hed,hbd,rfl⟩hoj hd;exact hF _ oj d (by have:=S.dep i oi hoi ed hed hbd;omega) (hall ed hed hbd) hoj hd
    have hg:=hop i oi him hoi e w.heap hE hdep Ab;have Ak:GOp P B st ops oi e w.heap λe' h'=>(∃v,e'=e.put oi.dst v)/\Ext w.heap h'/\∀d,oi.dst=some d->F i (e' d) h'/\∀j u,F j u w.heap->D i j (e' d) u/\D j i u (e' d):=hg.mono λv h' hh=>⟨⟨v,rfl⟩,hh⟩;refine AEv hoi (S.dst i oi hoi) r Ak λe' a' w' r' hs hk=>?_;obtain⟨⟨v,rfl⟩,hE',hFi⟩:=hk;refine ih (A++C) _ _ a' w' (λj hj=>hR j (by rw[hAC];rcases ah.1 hj with h|h;exact ae _ h;exact ap _<|aj _ h)) (by rw[hAC]at hlen;simp at hlen⊢;omega) (by have:=L'.step hoi hall;simpa using this) r' (hE.trans hE') ?_ ?_ ?_ λe2 a2 w2 r2 s2 k2=>hK _ _ _ r2 (hs.trans s2) k2
    .intro j oj d hj hjl hoj hd;by_cases hij:i=j
     .subst hij;rw[hoi]at hoj;cases hoj;exact(hFi d hd).1
     .have h2:listed.getD j false=true:=by simp only[bn]at hjl⊢;rwa[bU hij]at hjl
      have h3:=hst _ _ _ _ (hF j oj d hj h2 hoj hd) hE';cases hdi:oi.dst with
      |none=>exact h3|some b=>
        have hne:=S.ne j i oj oi d b (λhe=>hij he.symm) hj him hoj hoi hd hdi;show F j (e.set b v d) w'.heap;rw[Env.set_other _ _ hne];exact h3
    .have hls:∀j,i≠j->(listed.setIfInBounds i true).getD j false=true->listed.getD j false=true:=λj hij hjl=>by simp only[bn]at hjl⊢;rwa[bU hij]at hjl
     have hsame:∀j oj d,j<m->i≠j->ops[j]?=some oj->oj.dst=some d->e.put oi.dst v d=e d:=λj oj d hj hij hoj hd=>by cases hdi:oi.dst with|none=>rfl|some b=>exact Env.set_other _ _<|S.ne j i oj oi d b (λhe=>hij he.symm) hj him hoj hoi hd hdi
     intro j k oj ok a b hjk hj hk hjl hkl hoj hok ha hb;by_cases hij:i=j
     .subst hij;rw[hoi]at hoj;cases hoj;rw[hsame k ok b hk hjk hok hb];exact((hFi a ha).2 k _ (hF k ok b hk (hls k hjk hkl) hok hb)).1
     .by_cases hik:i=k;.subst hik;rw[hoi]at hok;cases hok;rw[hsame j oj a hj hij hoj ha];exact((hFi b hb).2 j _ (hF j oj a hj (hls j hij hjl) hoj ha)).2
      .rw[hsame j oj a hj hij hoj ha,hsame k ok b hk hik hok hb];exact hD j k oj ok a b hjk hj hk (hls j hij hjl) (hls k hik hkl) hoj hok ha hb
    .intro t ht;cases hdi:oi.dst with|none=>exact Ab t ht|some b=>
       show e.set b v t=e0 t;rw[Env.set_other _ _ λhe=>ht i oi him hoi<|by rw[hdi,he]];exact Ab t ht
theorem Afh(ops:Array au):LsF ops (aK ops.size) (cX ops.size false):=by
 refine⟨du,W4,λj=>?_,λj oj hj _=>?_⟩
 .simp only[aV];constructor;.intro h;exact⟨h,by simp[h]⟩
  .exactλh=>h.1
 .exfalso;rcases cQ j ops.size with h'|h';.simp[h']at hj
  .simp[h']at hj
def W2(P:aA)(n:Nat)(c:cj)(Q:bX->Env->Ws->Prop)(e:Env)(h:Ws):Prop:=∀(a:Act)(w:bt)(Q':bX->Act->bt->Prop),Rep n e a->w.heap=h->(∀x e' a' w',Rep n e' a'->Same w w'->Q x e' w'.heap->Q' x a' w')->c.wp P Q' a w
theorem AN7{n:Nat}{c:cj}{Q:bX->Env->Ws->Prop}{e:Env}(hmx:P.follows .mixedOrders=true)(hok:okC n c=true)(H:W P c Q e h):W2 P n c Q e h:=by intro a w Q' r hw hQ;subst hw;exact W.sound hmx hok r H hQ
theorem AMo{n:Nat}{x y:cj}{Q:bX->Env->Ws->Prop}{e:Env}(H:W2 P n x (AEw (λe h=>W2 P n y Q e h) Q) e h):W2 P n (.seq x y) Q e h:=by intro a w Q' r hw hQ;refine wp_seq<|H a w _ r hw λex e' a' w' r' s k=>?_;cases ex<;>first|exact hQ _ _ _ _ r' s k|exact k a' w' Q' r' rfl λx e2 a2 w2 r2 s2 k2=>hQ _ _ _ _ r2 (s.trans s2) k2 
theorem AZi:∀(I:List Nat)(L:List au),I.map (λi=>ops[i]?)=L.map some->∀e h,RL P B st ops L e h K->LI P B st ops I e h K:=by
 intro I;induction I with
 |nil=>intro L hI e h H;cases L with|nil=>exact H|cons o L=>cases hI
 |cons i I ih=>
   intro L hI e h H;cases L with|nil=>cases hI|cons o L=>
     simp only[cE,cK]at hI;simp only[LI,hI.1];exact GOp.mono (λv h' hh=>ih L hI.2 _ _ hh) H
def Ajw(o:au)(j:Nat):Bool:=o.after.any λed=>bH .any ed&&b8 ed.on j
def AVy(ops:Array au)(j:Nat):Option Nat:=match ops[j]? with|some o=>o.dst|none=>none
def Amy(ops:Array au)(m t:Nat):Bool:=(aK m).all λj=>match AVy ops j with|some d=>!Nat.beq d t|none=>true
theorem Aal{m:Nat}(h:Amy ops m t=true):∀j oj,j<m->ops[j]?=some oj->oj.dst≠some t:=by intro j oj hj hoj hd;have:=aP.1 h j<|aV.2 hj;simp only[AVy,hoj,hd]at this;simp at this
theorem Avh{e e':Env}:∀(l:List Nat),(∀t,(l.all λq=>!Nat.beq q t)=true->e' t=e t)->e'=setL (l.map λt=>(t,e' t)) e:=by
 intro l;induction l generalizing e with
 |nil=>intro h;funext t;exact h t rfl|cons q l ih=>
   intro h;have h2:e'=setL (l.map λt=>(t,e' t)) (e.set q<|e' q):=ih λt ht=>by
    by_cases hq:t=q;.subst hq;rw[Env.set_same]
    .rw[Env.set_other _ _ hq];refine h t ?_;rw[List.all_cons,ht,Bool.and_true];cases hb:b8 q t;.rfl
     .exact absurd (Nat.eq_of_beq_eq_true hb).symm hq
   have h3:∀(l:List Nat)(f:Env),setL (l.map λt=>(t,e' t)) f q=if q∈l then e' q else f q:=by
    intro l;induction l with
    |nil=>intro f;simp[setL]|cons a l Aa=>
      intro f;show(setL (l.map λt=>(t,e' t)) f).set a (e' a) q=_;by_cases ha:q=a;.subst ha;rw[Env.set_same];simp
      .rw[Env.set_other _ _ ha,Aa];simp[ha]
   funext t;show e' t=(setL (l.map λt=>(t,e' t)) e).set q (e' q) t;by_cases hq:t=q;.subst hq;rw[Env.set_same]
   .rw[Env.set_other _ _ hq];have h4:∀(l:List Nat)(f g:Env),f t=g t->setL (l.map λt=>(t,e' t)) f t=setL (l.map λt=>(t,e' t)) g t:=by
     intro l;induction l with
     |nil=>intro f g hfg;exact hfg|cons a l Aa=>
       intro f g hfg;show(setL (l.map λt=>(t,e' t)) f).set a (e' a) t=(setL (l.map λt=>(t,e' t)) g).set a (e' a) t;by_cases ha:t=a;.subst ha;rw[Env.set_same,Env.set_same]
       .rw[Env.set_other _ _ ha,Env.set_other _ _ ha];exact Aa f g hfg
    conv=>lhs;rw[h2]
    exact h4 l _ _<|Env.set_other _ _ hq
theorem Ajx{fn:Func}{c:cj}{rs:List dI}{n:Nat}{l:List ab}{K:ab->Ws->Prop}(hf:P.funcs[f]?=some fn)(hn:(fn.name== "runtime.NumGoroutine")=false)(hb:fn.body=some c)(hr:fn.results=rs.toArray)(hnt:fn.ntmps=n)(hl:bZ l.length n=true)(H:W2 P n c (APb P rs K) (AVo l) h):W6 P f l.toArray h K:=by
 refine⟨⟨fn,hf,hn,by simp[hb]⟩,λw hw=>?_⟩;subst hw;have hl:=aw hl;refine calls_of_wp hf hb<|H _ _ _ ⟨?_,rfl,λt=>?_⟩ rfl λx e' a' w' r s k=>?_;.simp[hnt];omega
 .rw[Ab7];simp only[bn];rw[dw];split;.simp
  .rename_i hge;simp at hge;simp only[cM];rw[av hge];rw[df];split<;>rfl
 .cases x with
  |normal=>obtain⟨v,hv,hk⟩:=k;exact⟨r.defers,v,hv fn _ w' hr r.get rfl,v,rfl,s,hk⟩|ret=>obtain⟨v,hv,hk⟩:=k;exact⟨r.defers,v,hv fn _ w' hr r.get rfl,v,rfl,s,hk⟩|exit id=>exact k.elim|goto t=>exact k.elim|panic ch=>exact k.elim|outgrown=>exact k.elim
end
section
variable{P:aA}{ops:Array au}{B:Ws->Prop}
def AI0(o:au):Bool:=match kindOf o.op with|.pure=>false|.read=>false|_=>true
theorem APq{o:au}(hl:AI0 o=false):kindOf o.op=.pure∨kindOf o.op=.read:=by unfold AI0 at hl;cases h:kindOf o.op<;>simp only[h]at hl<;>first|exact .inl rfl|exact .inr rfl|cases hl
theorem AKx{o:au}{e:Env}(hl:AI0 o=false)(H:GOp P B true ops o e h K):GOp P B true ops o e h λe' h'=>h'=h/\K e' h':=by
 unfold GOp at H⊢;split
 .rename_i hw;rw[if_pos hw]at H;unfold SOp at H⊢;rcases APq hl with hk|hk;.simp only[hk]at H⊢;obtain⟨v,h1,h2⟩:=H;exact⟨v,h1,trivial,h2⟩
  .simp only[hk]at H⊢;obtain⟨v,h0,h1,h2⟩:=H;exact⟨v,h0,h1,trivial,h2⟩
 .rename_i hw;rw[if_neg hw]at H;exact⟨rfl,H⟩
theorem Acz{o:au}{e:Env}{h2:Ws}{K':Env->Ws->Prop}(hl:AI0 o=false)(H:GOp P B true ops o e h1 K)(hB:B h1->B h2)(hK:∀v,K (e.put o.dst v) h1->K' (e.put o.dst v) h2):GOp P B true ops o e h2 K':=by
 unfold GOp at H⊢;split
 .rename_i hw;rw[if_pos hw]at H;unfold SOp at H⊢;rcases APq hl with hk|hk;.simp only[hk]at H⊢;obtain⟨v,a1,a2⟩:=H;exact⟨v,a1,hK v a2⟩
  .simp only[hk]at H⊢;obtain⟨v,a0,a1,a2⟩:=H;exact⟨v,hB a0,a1,hK v a2⟩
 .rename_i hw;rw[if_neg hw]at H;exact hK undef H
theorem AWf{o:au}{e:Env}(hl:AI0 o=false)(H:GOp P B true ops o e h K):∃v,K (e.put o.dst v) h:=by
 unfold GOp at H;split at H
 .unfold SOp at H;rcases APq hl with hk|hk;.simp only[hk]at H;obtain⟨v,a1,a2⟩:=H;exact⟨v,a2⟩
  .simp only[hk]at H;obtain⟨v,a0,a1,a2⟩:=H;exact⟨v,a2⟩
 .exact⟨undef,H⟩
abbrev Off(a c b:Nat):Prop:=b<a∨c<=b
def HI(P:aA)(B:Ws->Prop)(ops:Array au):List Nat->Env->Ws->(Nat->Prop)->(Env->Ws->(Nat->Prop)->Prop)->Prop|[],e,h,N,K=>∀h',Ext h h'->K e h' N|i::l,e,h,N,K=>match ops[i]? with|none=>False|some o=>bif AI0 o then∀h1,Ext h h1->GOp P B true ops o e h1 λe' h'=>Ext h1 h'/\HI P B ops l e' h' (λb=>N b/\Off h1.size h'.size b) K else GOp P B true ops o e h λe' h'=>HI P B ops l e' h' N K
def HRf(P:aA)(B:Ws->Prop)(ops:Array au):List au->Env->Ws->(Nat->Prop)->(Env->Ws->(Nat->Prop)->Prop)->Prop|[],e,h,N,K=>∀h',Ext h h'->K e h' N|o::l,e,h,N,K=>bif AI0 o then∀h1,Ext h h1->GOp P B true ops o e h1 λe' h'=>Ext h1 h'/\HRf P B ops l e' h' (λb=>N b/\Off h1.size h'.size b) K else GOp P B true ops o e h λe' h'=>HRf P B ops l e' h' N K
variable{K:Env->Ws->(Nat->Prop)->Prop}
theorem Avi:∀(I:List Nat)(L:List au),I.map (λi=>ops[i]?)=L.map some->∀e h N,HRf P B ops L e h N K->HI P B ops I e h N K:=by
 intro I;induction I with
 |nil=>intro L hI e h N H;cases L with|nil=>exact H|cons o L=>cases hI
 |cons i I ih=>
   intro L hI e h N H;cases L with
   |nil=>cases hI|cons o L=>
     simp only[cE,cK]at hI;simp only[HI,hI.1];simp only[HRf]at H;cases he:AI0 o with
     |true=>simp only[he,cond_true]at H⊢;exactλh1 E=>(H h1 E).mono λv h' hh=>⟨hh.1,ih L hI.2 _ _ _ hh.2⟩|false=>simp only[he,cond_false]at H⊢;exact H.mono λv h' hh=>ih L hI.2 _ _ _ hh
theorem HI.anti(hKN:∀e h(N N':Nat->Prop),(∀b,N' b->N b)->K e h N->K e h N'):∀(l:List Nat){e:Env}{h:Ws}{N N':Nat->Prop},(∀b,N' b->N b)->HI P B ops l e h N K->HI P B ops l e h N' K:=by
 intro l;induction l with
 |nil=>intro e h N N' hN H h' E;exact hKN _ _ _ _ hN (H h' E)|cons i l ih=>
   intro e h N N' hN H;simp only[HI]at H⊢;cases hoi:ops[i]? with|none=>simp only[hoi]at H|some o=>
     simp only[hoi]at H⊢;cases he:AI0 o with|true=>simp only[he,cond_true]at H⊢;exactλh1 E=>(H h1 E).mono λv h' hh=>⟨hh.1,ih (λb hb=>⟨hN b hb.1,hb.2⟩) hh.2⟩|false=>simp only[he,cond_false]at H⊢;exact H.mono λv h' hh=>ih hN hh
theorem HI.ext(hBx:∀h h',B h->Ext h h'->B h'):∀(l:List Nat){e:Env}{h h2:Ws}{N:Nat->Prop},Ext h h2->HI P B ops l e h N K->HI P B ops l e h2 N K:=by
 intro l;induction l with
 |nil=>intro e h h2 N E H h' E';exact H h' (E.trans E')|cons i l ih=>
   intro e h h2 N E H;simp only[HI]at H⊢;cases hoi:ops[i]? with
   |none=>simp only[hoi]at H|some o=>
     simp only[hoi]at H⊢;cases he:AI0 o with
     |true=>simp only[he,cond_true]at H⊢;exactλh1 E1=>H h1 (E.trans E1)|false=>simp only[he,cond_false]at H⊢;exact Acz he H (λhb=>hBx _ _ hb E) λv hh=>ih E hh
theorem HI.swap(hBx:∀h h',B h->Ext h h'->B h'){i j:Nat}{x y:au}(hi:ops[i]?=some x)(hj:ops[j]?=some y)(hx:ACk x=true)(hy:ACk y=true)(hin:indep true ops x y=true){R:List Nat}{e:Env}{h:Ws}{N:Nat->Prop}(H:HI P B ops (i::j::R) e h N K):HI P B ops (j::i::R) e h N K:=by
 simp only[HI,hi,hj]at H⊢;cases hex:AI0 x with
 |false=>
   simp only[hex,cond_false]at H⊢;cases hey:AI0 y with
   |false=>
     simp only[hey,cond_false]at H⊢;exact GOp.swap hx hy hin H|true=>
     simp only[hey,cond_true]at H⊢;intro h2 E2;have H1:GOp P B true ops x e h2 λe' h'=>GOp P B true ops y e' h' λe2 h3=>Ext h2 h3/\HI P B ops R e2 h3 (λb=>N b/\Off h2.size h3.size b) K:=Acz hex H (λhb=>hBx _ _ hb E2) λv hh=>hh h2 E2;refine(GOp.swap hx hy hin H1).mono λv h3 hh=>?_;obtain⟨u,hu⟩:=AWf hex hh;exact⟨hu.1,(AKx hex hh).mono λv h' hk=>by obtain⟨rfl,hk⟩:=hk;exact hk.2⟩
 |true=>
   simp only[hex,cond_true]at H⊢;have hey:AI0 y=false:=by
    simp only[indep,am]at hin;unfold AI0 at hex⊢;cases h1:kindOf x.op<;>cases h2:kindOf y.op<;>simp_all
   simp only[hey,cond_false]at H⊢;have key:∀h2,Ext h h2->GOp P B true ops y e h2 λe1 h'=>GOp P B true ops x e1 h2 λe2 h3=>Ext h2 h3/\HI P B ops R e2 h3 (λb=>N b/\Off h2.size h3.size b) K:=by
    intro h2 E2;have H1:GOp P B true ops x e h2 λe' h'=>GOp P B true ops y e' h' λe2 h3=>Ext h2 h3/\HI P B ops R e2 h3 (λb=>N b/\Off h2.size h3.size b) K:=(H h2 E2).mono λv h' hh=>(AKx hey hh.2).mono λv2 h3 hk=>by obtain⟨rfl,hk⟩:=hk;exact⟨hh.1,hk⟩
    refine(AKx hey<|GOp.swap hx hy hin H1).mono λv h' hh=>?_;obtain⟨rfl,hh⟩:=hh;exact hh
   have k0:=key h<|Ext.refl h;obtain⟨v0,-⟩:=AWf hey k0;have kk:GOp P B true ops y e h λe1 h'=>h'=h/\∀h2,Ext h h2->GOp P B true ops x e1 h2 λe2 h3=>Ext h2 h3/\HI P B ops R e2 h3 (λb=>N b/\Off h2.size h3.size b) K:=by
    by_cases hw:bh y (ACn ops e)=true
    .have k1:=k0;unfold GOp at k1⊢;rw[if_pos hw]at k1⊢;unfold SOp at k1⊢;rcases APq hey with hk|hk
     .simp only[hk]at k1⊢;obtain⟨v,a1,a2⟩:=k1;refine⟨v,a1,trivial,λh2 E2=>?_⟩;have k2:=key h2 E2;unfold GOp at k2;rw[if_pos hw]at k2;unfold SOp at k2;simp only[hk]at k2;obtain⟨u,b1,b2⟩:=k2;have e1:=a1<|ALn h;rw[b1<|ALn h]at e1;cases e1;exact b2
     .simp only[hk]at k1⊢;obtain⟨v,a0,a1,a2⟩:=k1;refine⟨v,a0,a1,trivial,λh2 E2=>?_⟩;have k2:=key h2 E2;unfold GOp at k2;rw[if_pos hw]at k2;unfold SOp at k2;simp only[hk]at k2;obtain⟨u,b0,b1,b2⟩:=k2;have e1:=a1 (ALn h) a0;rw[b1 (ALn h) a0]at e1;cases e1;exact b2
    .unfold GOp;rw[if_neg hw];refine⟨rfl,λh2 E2=>?_⟩;have k2:=key h2 E2;unfold GOp at k2;rw[if_neg hw]at k2;exact k2
   refine kk.mono λv h' hh=>?_;obtain⟨rfl,hh⟩:=hh;exact hh
theorem HI.bubble(hBx:∀h h',B h->Ext h h'->B h'){oi:au}(hi:ops[i]?=some oi)(hsi:ACk oi=true)(R1:List Nat):∀{R2:List Nat}{e:Env}{h:Ws}{N:Nat->Prop},(∀k∈R1,∃ok,ops[k]?=some ok/\ACk ok=true/\indep true ops ok oi=true)->HI P B ops (R1++i::R2) e h N K->HI P B ops (i::(R1++R2)) e h N K:=by induction R1 with|nil=>intro R2 e h N _ H;exact H|cons k R1 ih=>
   intro R2 e h N hind H;obtain⟨ok,hok,hsk,hik⟩:=hind k<|ak ..;have H2:HI P B ops (k::i::(R1++R2)) e h N K:=by
    simp only[cq]at H;rw[HI]at H⊢;simp only[hok]at H⊢;cases he:AI0 ok with
    |true=>simp only[he,cond_true]at H⊢;exactλh1 E=>(H h1 E).mono λv h' hh=>⟨hh.1,ih (λk' hk'=>hind k'<|aj _ hk') hh.2⟩|false=>simp only[he,cond_false]at H⊢;exact H.mono λv h' hh=>ih (λk' hk'=>hind k'<|aj _ hk') hh
   exact HI.swap hBx hok hi hsk hsi hik H2
theorem Avj:∀(l:List Nat){e:Env}{h:Ws}{N:Nat->Prop},HI P B ops l e h N K->LI P B true ops l e h λe' h'=>Ext h h'/\∃N':Nat->Prop,(∀b,N b->b<h.size->N' b)/\K e' h' N':=by intro l;induction l with|nil=>intro e h N H;exact⟨Ext.refl h,N,λb hb _=>hb,H h<|Ext.refl h⟩|cons i l ih=>intro e h N H;simp only[HI]at H;simp only[LI];cases hoi:ops[i]? with|none=>simp only[hoi]at H|some o=>simp only[hoi]at H⊢;cases he:AI0 o with|true=>simp only[he,cond_true]at H;refine(H h<|Ext.refl h).mono λv h' hh=>?_;refine LI.mono (λe2 h2 hk=>?_)<|ih hh.2;obtain⟨E2,N',hN,hk⟩:=hk;exact⟨hh.1.trans E2,N',λb hb hlt=>hN b ⟨hb,.inl hlt⟩<|aF hlt hh.1.1,hk⟩|false=>simp only[he,cond_false]at H;refine(AKx he H).mono λv h' hh=>?_;obtain⟨rfl,hh⟩:=hh;exact ih hh
end
section
variable{P:aA}{ops:Array au}{B:Ws->Prop}
structure Alv where
 d:Nat
 t:Nat
 z:List ab
def AVq(b:Nat):ab:=.pointer<|some ⟨b,0,none⟩
def setO:List Alv->List (Option Nat)->Env->Env|a::A,some b::bs,e=>(setO A bs e).set a.d (AVq b)|_::A,none::bs,e=>setO A bs e|_,_,e=>e
theorem Ar5:∀(A:List Alv)(e:Env),setO A (bc A.length none) e=e:=by
 intro A e;induction A with|nil=>rfl|cons a A ih=>exact ih
theorem A0y{A:List Alv}:∀{bs:List (Option Nat)}{e:Env}{t:Nat},(∀a∈A,a.d≠t)->setO A bs e t=e t:=by induction A with
 |nil=>intro bs e t _;cases bs<;>rfl|cons a A ih=>
   intro bs e t h;cases bs with|nil=>rfl|cons b bs=>cases b with
     |none=>exact ih λa ha=>h a (aj _ ha)|some b=>
       show(setO A bs e).set a.d (AVq b) t=e t;rw[Env.set_other _ _ λhe=>h a (ak ..) he.symm];exact ih λa ha=>h a<|aj _ ha
theorem Ajy{A:List Alv}:∀{bs:List (Option Nat)}{e:Env}{d:Option Nat}{v:ab},(∀a∈A,d≠some a.d)->(setO A bs e).put d v=setO A bs (e.put d v):=by induction A with
 |nil=>intro bs e d v _;cases bs<;>rfl|cons a A ih=>
   intro bs e d v h;cases bs with|nil=>rfl|cons b bs=>
     have ih':=ih (bs:=bs) (e:=e) (v:=v) λa ha=>h a<|aj _ ha;cases b with
     |none=>exact ih'|some b=>
       show((setO A bs e).set a.d (AVq b)).put d v=(setO A bs<|e.put d v).set a.d (AVq b);rw[<-ih'];exact Env.put_comm (x:=some a.d) (y:=d) (setO A bs e) (AVq b) v λk hk=>by cases hk;exact h a<|ak ..
theorem Avk{A:List Alv}:∀{bs:List (Option Nat)}{e:Env}{q:Nat}{a:Alv}{b:Nat},(A.map Alv.d).Nodup->bs.length=A.length->A[q]?=some a->bs[q]?=some none->setO A (bs.set q<|some b) e=(setO A bs e).set a.d (AVq b):=by induction A with
 |nil=>intro bs e q a b _ _ h;cases h|cons c A ih=>
   intro bs e q a b hn hl ha hb;cases bs with
   |nil=>cases hb|cons x bs=>cases q with
     |zero=>
       simp only[List.getElem?_cons_zero,Option.some.injEq]at ha hb;subst ha;subst hb;rfl|succ q=>
       simp only[List.getElem?_cons_succ]at ha hb;simp only[cE,cv]at hn;have ih':=ih (e:=e) (b:=b) hn.2 (by simpa using hl) ha hb;cases x with
       |none=>exact ih'|some x=>
         show(setO A (bs.set q<|some b) e).set c.d (AVq x)=((setO A bs e).set c.d (AVq x)).set a.d (AVq b);rw[ih'];have hne:a.d≠c.d:=λhe=>hn.1<|ct.2 ⟨a,ai ha,he⟩;exact Env.put_comm (x:=some a.d) (y:=some c.d) (setO A bs e) (AVq b) (AVq x) λk hk he=>by cases hk;exact hne (Option.some.inj he).symm 
theorem Ar6{o:au}(hs:ACk o=true){A:List Alv}(hA:∀a∈A,a.d∉o.looksAt ops):∀{bs:List (Option Nat)}{e:Env},execOp (setO A bs e).ev o=execOp e.ev o/\bh o (ACn ops<|setO A bs e)=bh o (ACn ops e):=by induction A with
 |nil=>intro bs e;cases bs<;>exact⟨rfl,rfl⟩|cons a A ih=>
   intro bs e;cases bs with|nil=>exact⟨rfl,rfl⟩|cons b bs=>
     have ih':=ih (λa ha=>hA a<|aj _ ha) (bs:=bs) (e:=e);cases b with
     |none=>exact ih'|some b=>exact⟨(AM4 (ops:=ops) o hs (setO A bs e) (some a.d) (AVq b) λk hk=>by cases hk;exact hA a<|ak ..).trans ih'.1,(AM5 (ops:=ops) o (setO A bs e) (some a.d) (AVq b) λk hk=>by cases hk;exact hA a<|ak ..).trans ih'.2⟩
def A6h(ops:Array au)(A:List Alv)(o:au):Prop:=(∀a∈A,a.d∉o.looksAt ops)/\∀a∈A,o.dst≠some a.d
theorem GOp.setO{st:Bool}{o:au}{A:List Alv}{bs:List (Option Nat)}{e:Env}{h:Ws}{K:Env->Ws->Prop}(hs:ACk o=true)(hf:A6h ops A o)(H:GOp P B st ops o e h K):GOp P B st ops o (setO A bs e) h λe2 h'=>∃e',e2=Go.QF.setO A bs e'/\K e' h':=by
 obtain⟨h1,h2⟩:=Ar6 hs hf.1 (bs:=bs) (e:=e);unfold GOp at H⊢;rw[h2];split;.rename_i hw;rw[if_pos hw]at H;exact SOp.congr h1 (λv h' hk=>⟨_,Ajy hf.2,hk⟩) H
 .rename_i hw;rw[if_neg hw]at H;exact⟨_,Ajy hf.2,H⟩
theorem LI.setO{st:Bool}{A:List Alv}{bs:List (Option Nat)}:∀{l:List Nat}{e:Env}{h:Ws}{K:Env->Ws->Prop},(∀i∈l,∀o,ops[i]?=some o->ACk o=true/\A6h ops A o)->LI P B st ops l e h K->LI P B st ops l (setO A bs e) h λe2 h'=>∃e',e2=Go.QF.setO A bs e'/\K e' h':=by
 intro l;induction l with
 |nil=>intro e h K _ H;exact⟨e,rfl,H⟩|cons i l ih=>
   intro e h K hl H;simp only[LI]at H⊢;cases hoi:ops[i]? with
   |none=>simp only[hoi]at H;exact ih (λi hi=>hl i<|aj _ hi) H|some o=>
     simp only[hoi]at H;obtain⟨h1,h2⟩:=hl i (ak ..) o hoi;refine(GOp.setO h1 h2 H).mono λv h' hk=>?_;obtain⟨e',he,hk⟩:=hk;rw[he];exact ih (λi hi=>hl i<|aj _ hi) hk
def KA(A:List Alv)(h0:Ws)(G:List Nat->Env->Ws->Prop)(e:Env)(h:Ws)(N:Nat->Prop):Prop:=∀bl:List Nat,bl.length=A.length->bl.Nodup->(∀(q:Nat)(b:Nat)(a:Alv),bl[q]?=some b->A[q]?=some a->Yz a.t h b a.z/\h0.size<=b/\N b)->G bl e h
theorem KA.anti{A:List Alv}{G:List Nat->Env->Ws->Prop}(e:Env)(h:Ws)(N N':Nat->Prop)(hN:∀b,N' b->N b)(H:KA A h0 G e h N):KA A h0 G e h N':=λbl h1 h2 h3=>H bl h1 h2 λq b a hb ha=>let⟨x,y,z⟩:=h3 q b a hb ha;⟨x,y,hN b z⟩
def Amz(P:aA)(B:Ws->Prop)(ops:Array au)(m:Nat)(A:List Alv):Prop:=∀(q:Nat)(a:Alv)(o:au),A[q]?=some a->ops[m+q]?=some o->∀(e:Env)(h:Ws),B h->GOp P B true ops o e h λe' h'=>∃b,e'=e.set a.d (AVq b)/\Ext h h'/\Yz a.t h' b a.z/\h.size<=b
end
end Go.QF
variable{A:List Go.QF.Alv}
namespace Go.QF
section
variable{P:aA}{ops:Array au}{B:Ws->Prop}
def isA(m k i:Nat):Bool:=bZ m i&&bA i (m+k)
theorem Ajz{m k:Nat}:isA m k i=true↔m<=i/\i<m+k:=by
 unfold isA;rw[am];constructor;.rintro⟨h1,h2⟩;exact⟨aw h1,Acx h2⟩
 .rintro⟨h1,h2⟩;exact⟨bV h1,bV h2⟩
theorem AZj{m k:Nat}(h:i<m∨m+k<=i):isA m k i=false:=by cases hh:isA m k i with|false=>rfl|true=>have:=Ajz.1 hh;omega
variable{Q:bX->Env->Ws->Prop}{e:Env}{h:Ws}
variable{K:Env->Ws->(Nat->Prop)->Prop}{N:Nat->Prop}
theorem h_l{o:au}{l:List au}(hl:AI0 o=false)(H:RL P B true ops [o] e h λe' h'=>HRf P B ops l e' h' N K):HRf P B ops (o::l) e h N K:=by simp only[HRf,hl,cond_false];exact H
theorem h_e{o:au}{l:List au}(hl:AI0 o=true)(H:∀h1,Ext h h1->RL P B true ops [o] e h1 λe' h'=>Ext h1 h'/\HRf P B ops l e' h' (λb=>N b/\Off h1.size h'.size b) K):HRf P B ops (o::l) e h N K:=by simp only[HRf,hl,cond_true];exact H
theorem Afi(H:∀h1,Ext h h1->K e h1 N):HRf P B ops [] e h N K:=H
theorem BAs{a:Alv}{G:List Nat->Env->Ws->Prop}(H:∀b,Yz a.t h b a.z->h0.size<=b->N b->G [b] e h):KA [a] h0 G e h N:=by
 intro bl hl hn hb;match bl,hl with
 |[b],_=>
   obtain⟨h1,h2,h3⟩:=hb 0 b a rfl rfl;exact H b h1 h2 h3
theorem A0z{a c:Alv}{G:List Nat->Env->Ws->Prop}(H:∀b d,Yz a.t h b a.z->Yz c.t h d c.z->b≠d->h0.size<=b->h0.size<=d->N b->N d->G [b,d] e h):KA [a,c] h0 G e h N:=by
 intro bl hl hn hb;match bl,hl with
 |[b,d],_=>
   obtain⟨h1,h2,h3⟩:=hb 0 b a rfl rfl;obtain⟨g1,g2,g3⟩:=hb 1 d c rfl rfl;exact H b d h1 g1 (λhe=>by simp[he]at hn) h2 g2 h3 g3
theorem Am0{d:Nat}{z:ab}{pos:String}{af:Array Edge}{l:List ab}(hz:ZeT P t z bytes)(hl:z.cells=l.toArray)(hBx:∀h h',B h->Ext h h'->B h')(e:Env)(h:Ws)(hb:B h):GOp P B true ops ⟨some d,.alloc t,ty,pos,af,none⟩ e h λe' h'=>∃b,e'=e.set d (AVq b)/\Ext h h'/\Yz t h' b l/\h.size<=b:=ARe (rest:=[]) (K:=λe' h'=>∃b,e'=e.set d (AVq b)/\Ext h h'/\Yz t h' b l/\h.size<=b) l hz hl hb (λh' E=>hBx _ _ hb E) λb h' hx E S=>⟨b,rfl,E,hx,(S.lo 0 rfl b W4).1⟩
theorem Avl{m:Nat}{a:Alv}{pos:String}{af:Array Edge}{z:ab}(ho:ops[m]?=some ⟨some a.d,.alloc a.t,ty,pos,af,none⟩)(hz:ZeT P a.t z bytes)(hl:z.cells=a.z.toArray)(hBx:∀h h',B h->Ext h h'->B h'):Amz P B ops m [a]:=by
 intro q x o hq hoq e h hb;match q,hq with
 |0,hq=>
   cases hq;rw[cR,ho]at hoq;cases hoq;exact Am0 hz hl hBx e h hb
theorem Ac1{m:Nat}{a c:Alv}{ty':bw}{pos pos':String}{af af':Array Edge}{bytes':Nat}{z z':ab}(ho:ops[m]?=some ⟨some a.d,.alloc a.t,ty,pos,af,none⟩)(ho':ops[m+1]?=some ⟨some c.d,.alloc c.t,ty',pos',af',none⟩)(hz:ZeT P a.t z bytes)(hl:z.cells=a.z.toArray)(hz':ZeT P c.t z' bytes')(hl':z'.cells=c.z.toArray)(hBx:∀h h',B h->Ext h h'->B h'):Amz P B ops m [a,c]:=by
 intro q x o hq hoq e h hb;match q,hq with
 |0,hq=>
   cases hq;rw[cR,ho]at hoq;cases hoq;exact Am0 hz hl hBx e h hb|1,hq=>
   cases hq;rw[ho']at hoq;cases hoq;exact Am0 hz' hl' hBx e h hb
theorem AZk{h:Ws}{b d:Nat}(h1:h.size<=b)(h2:h.size<=d)(h3:b<h'.size)(h4:d<h'.size)(hne:b≠d):Sp h' h.size [[b],[d]]:=⟨by simp[hne],λx hx=>by simp at hx;omega⟩
end
section
variable{P:aA}{ops:Array au}{B:Ws->Prop}{gw:Bool}
def isW(gw:Bool)(o:au):Bool:=gw&&match kindOf o.op with|.wr=>true|_=>false
def AO1(gw:Bool)(ops:Array au)(x y:au):Bool:=indep true ops x y||gw&&(x.apart ops y&&match kindOf x.op,kindOf y.op with|.read,.wr=>true|_,_=>false)
theorem Apo{o:au}(hg:gw=true)(h:isW gw o=false):kindOf o.op≠.wr:=λhk=>by subst hg;unfold isW at h;rw[hk]at h;cases h
theorem GOp.swapRW{x y:au}(hx:ACk x=true)(hy:ACk y=true)(hap:x.apart ops y=true)(kx:kindOf x.op=.read)(ky:kindOf y.op=.wr){e:Env}(H:GOp P B true ops x e h λe' h'=>GOp P B true ops y e' h' λe2 h2=>B h2/\K e2 h2):GOp P B true ops y e h λe' h'=>B h'/\GOp P B true ops x e' h' K:=by
 obtain⟨h1,h2,h3⟩:=Oper.apart_spec hap;have wy:∀(e:Env)v,bh y (ACn ops<|e.put x.dst v)=bh y (ACn ops e):=λe v=>AM5 y e x.dst v h1;have wx:∀(e:Env)v,bh x (ACn ops<|e.put y.dst v)=bh x (ACn ops e):=λe v=>AM5 x e y.dst v h3;have ey:∀(e:Env)v,execOp (e.put x.dst v).ev y=execOp e.ev y:=λe v=>AM4 (ops:=ops) y hy e x.dst v h1;have ex:∀(e:Env)v,execOp (e.put y.dst v).ev x=execOp e.ev x:=λe v=>AM4 (ops:=ops) x hx e y.dst v h3;have pc:∀(e:Env)v u,(e.put x.dst v).put y.dst u=(e.put y.dst u).put x.dst v:=λe v u=>Env.put_comm e v u h2;unfold GOp at H⊢;by_cases hwx:bh x (ACn ops e)=true
 .rw[if_pos hwx]at H;by_cases hwy:bh y (ACn ops e)=true;.rw[if_pos hwy];unfold SOp at H⊢;simp only[kx,ky,wy,if_pos hwy]at H⊢;obtain⟨v,hb,hv,hh⟩:=H;intro w hw;have:=hh w hw;rw[ey e v]at this;refine this.mono λu h' hk=>⟨hk.1,?_⟩;rw[wx,if_pos hwx];exact⟨v,hk.1,λw hw=>by rw[ex];exact hv w hw,by rw[<-pc];exact hk.2⟩
  .rw[if_neg hwy];simp only[wx,if_pos hwx];unfold SOp at H⊢;simp only[kx,wy,if_neg hwy]at H⊢;obtain⟨v,hb,hv,hh⟩:=H;exact⟨hb,v,hb,λw hw=>by rw[ex];exact hv w hw,by rw[<-pc];exact hh.2⟩
 .rw[if_neg hwx]at H;by_cases hwy:bh y (ACn ops e)=true;.rw[if_pos hwy];rw[wy,if_pos hwy]at H;refine SOp.congr (ey e undef).symm (λv h' hh=>?_) H;rw[wx,if_neg hwx];exact⟨hh.1,by rw[<-pc];exact hh.2⟩
  .rw[if_neg hwy];rw[wy,if_neg hwy]at H;simp only[wx,if_neg hwx];exact⟨H.1,by rw[<-pc];exact H.2⟩
def LIB(gw:Bool)(P:aA)(B:Ws->Prop)(ops:Array au):List Nat->Env->Ws->(Env->Ws->Prop)->Prop|[],e,h,K=>K e h|i::l,e,h,K=>match ops[i]? with|none=>LIB gw P B ops l e h K|some o=>GOp P B true ops o e h λe' h'=>(isW gw o=true->B h')/\LIB gw P B ops l e' h' K
def RLW(gw:Bool)(P:aA)(B:Ws->Prop)(ops:Array au):List au->Env->Ws->(Env->Ws->Prop)->Prop|[],e,h,K=>K e h|o::l,e,h,K=>GOp P B true ops o e h λe' h'=>(isW gw o=true->B h')/\RLW gw P B ops l e' h' K
theorem Am1:∀(I:List Nat)(L:List au),I.map (λi=>ops[i]?)=L.map some->∀e h,RLW gw P B ops L e h K->LIB gw P B ops I e h K:=by
 intro I;induction I with
 |nil=>intro L hI e h H;cases L with|nil=>exact H|cons o L=>cases hI
 |cons i I ih=>
   intro L hI e h H;cases L with|nil=>cases hI|cons o L=>
     simp only[cE,cK]at hI;simp only[LIB,hI.1];exact GOp.mono (λv h' hh=>⟨hh.1,ih L hI.2 _ _ hh.2⟩) H
theorem RLW.frame0{l:List au}{e:Env}(H:RLW gw P B ops l e h K):RLW gw P B ops l e h λe' h'=>K e' h'/\∀t,(∀o∈l,o.dst≠some t)->e' t=e t:=by
 have key:∀(l:List au)(e:Env)(h:Ws)(K K':Env->Ws->Prop),(∀e1 h1,(∀t,(∀o∈l,o.dst≠some t)->e1 t=e t)->K e1 h1->K' e1 h1)->RLW gw P B ops l e h K->RLW gw P B ops l e h K':=by
  intro l;induction l with
  |nil=>intro e h K K' hK H;exact hK _ _ (λt _=>rfl) H|cons o l ih=>
    intro e h K K' hK H;refine GOp.mono (λv h' hh=>⟨hh.1,ih _ _ _ _ (λe1 h1 hf hk=>hK _ _ (λt ht=>(hf t λo' ho'=>ht o'<|aj _ ho').trans ?_) hk) hh.2⟩) H;cases hd:o.dst with
    |none=>rfl|some d=>exact Env.set_other _ _ λhe=>ht o (ak ..) (by rw[hd,he])
 exact key l e h K _ (λe1 h1 hf hk=>⟨hk,hf⟩) H
theorem LIB.swap{i j:Nat}{x y:au}(hi:ops[i]?=some x)(hj:ops[j]?=some y)(hx:ACk x=true)(hy:ACk y=true)(hin:AO1 gw ops x y=true){R:List Nat}{e:Env}{h:Ws}{K:Env->Ws->Prop}(H:LIB gw P B ops (i::j::R) e h K):LIB gw P B ops (j::i::R) e h K:=by
 simp only[LIB,hi,hj]at H⊢;cases hwx:isW gw x with
 |true=>
   have kx:kindOf x.op=.wr:=by unfold isW at hwx;rw[am]at hwx;replace hwx:=hwx.2;cases hk:kindOf x.op<;>simp only[hk]at hwx<;>first|rfl|cases hwx
   have hind:indep true ops x y=true:=by
    unfold AO1 at hin;rw[ce]at hin;rcases hin with h|h;.exact h
    .rw[am,am]at h;rw[kx]at h;exact absurd h.2.2 W4
   have ky:kindOf y.op=.pure:=by
    have h:=hind;unfold indep at h;rw[am,kx]at h;cases hk:kindOf y.op<;>simp only[hk]at h<;>first|rfl|exact absurd h.2 W4
   have hey:AI0 y=false:=by unfold AI0;rw[ky]
   have hwy:isW gw y=false:=by unfold isW;rw[ky];cases gw<;>rfl
   simp only[hwx,hwy,true_implies]at H⊢;have H1:GOp P B true ops x e h λe' h'=>GOp P B true ops y e' h' λe2 h2=>B h2/\LIB gw P B ops R e2 h2 K:=H.mono λv h' hh=>(AKx hey hh.2).mono λu h2 hk=>by obtain⟨rfl,hk⟩:=hk;exact⟨hh.1,hk.2⟩
   exact(GOp.swap hx hy hind H1).mono λv h' hh=>⟨λhc=>(by cases hc),hh.mono λu h2 hk=>⟨hk.1,hk.2⟩⟩|false=>
   have H1:GOp P B true ops x e h λe' h'=>GOp P B true ops y e' h' λe2 h2=>(isW gw y=true->B h2)/\LIB gw P B ops R e2 h2 K:=H.mono λv h' hh=>hh.2;have fin:∀{e1:Env}{h1:Ws},GOp P B true ops x e1 h1 (λe2 h2=>LIB gw P B ops R e2 h2 K)->GOp P B true ops x e1 h1 λe2 h2=>(false=true->B h2)/\LIB gw P B ops R e2 h2 K:=λhh=>hh.mono λv h' hk=>⟨λhc=>(by cases hc),hk⟩;cases hwy:isW gw y with
   |false=>
     have hind:indep true ops x y=true:=by
      unfold AO1 at hin;rw[ce]at hin;rcases hin with h|h;.exact h
      .rw[am,am]at h;have:=Apo h.1 hwy;replace h:=h.2;cases hk:kindOf y.op<;>simp only[hk]at h<;>first|exact absurd hk this|(exfalso;revert h;cases kindOf x.op<;>simp)
     exact(GOp.swap hx hy hind H1).mono λv h' hh=>⟨λhc=>(by cases hc),fin<|hh.mono λu h2 hk=>hk.2⟩|true=>
     simp only[hwy,true_implies]at H1⊢;have ky:kindOf y.op=.wr:=by unfold isW at hwy;rw[am]at hwy;replace hwy:=hwy.2;cases hk:kindOf y.op<;>simp only[hk]at hwy<;>first|rfl|cases hwy
     unfold AO1 at hin;rw[ce]at hin;rcases hin with hin|hin
     .have hex:AI0 x=false:=by
       unfold indep at hin;rw[am,ky]at hin;unfold AI0;cases hk:kindOf x.op<;>simp only[hk]at hin<;>first|rfl|exact absurd hin.2 W4
      refine(GOp.swap hx hy hin H1).mono λv h' hh=>?_;obtain⟨u,hu⟩:=AWf hex<|AKx hex hh;exact⟨hu.1▸hu.2.1,fin<|hh.mono λu h2 hk=>hk.2⟩
     .rw[am,am,ky]at hin;replace hin:=hin.2;have kx:kindOf x.op=.read:=by cases hk:kindOf x.op<;>simp only[hk]at hin<;>first|rfl|exact absurd hin.2 W4
      exact(GOp.swapRW hx hy hin.1 kx ky H1).mono λv h' hh=>⟨hh.1,fin hh.2⟩
theorem LIB.bubble{oi:au}(hi:ops[i]?=some oi)(hsi:ACk oi=true)(R1:List Nat):∀{R2:List Nat}{e:Env}{h:Ws}{K:Env->Ws->Prop},(∀k∈R1,∃ok,ops[k]?=some ok/\ACk ok=true/\AO1 gw ops ok oi=true)->LIB gw P B ops (R1++i::R2) e h K->LIB gw P B ops (i::(R1++R2)) e h K:=by induction R1 with|nil=>intro R2 e h K _ H;exact H|cons k R1 ih=>
   intro R2 e h K hind H;obtain⟨ok,hok,hsk,hik⟩:=hind k<|ak ..;refine LIB.swap hok hi hsk hsi hik ?_;simp only[cq]at H;rw[LIB]at H⊢;simp only[hok]at H⊢;exact H.mono λv h' hh=>⟨hh.1,ih (λk' hk'=>hind k'<|aj _ hk') hh.2⟩
theorem Am2{l1 l2:List Nat}{e:Env}(hl:∀i∈l1,∀o,ops[i]?=some o->isW gw o=false)(H:LI P B true ops l1 e h λe' h'=>LIB gw P B ops l2 e' h' K):LIB gw P B ops (l1++l2) e h K:=by induction l1 generalizing e h with|nil=>exact H|cons i l ih=>
   simp only[LI,LIB,cq]at H⊢;cases hoi:ops[i]? with
   |none=>simp only[hoi]at H;exact ih (λi hi=>hl i<|aj _ hi) H|some o=>simp only[hoi]at H;exact H.mono λv h' hk=>⟨λhc=>(by rw[hl i (ak ..) o hoi]at hc;cases hc),ih (λi hi=>hl i<|aj _ hi) hk⟩
theorem RLW.mono{l:List au}{e:Env}{h:Ws}{K K':Env->Ws->Prop}(hK:∀e h,K e h->K' e h)(H:RLW gw P B ops l e h K):RLW gw P B ops l e h K':=by induction l generalizing e h with|nil=>exact hK _ _ H|cons o l ih=>exact GOp.mono (λv h' hh=>⟨hh.1,ih hh.2⟩) H
theorem Afj{n:Nat}(G:Nat->Prop)(hb:AY5 n ops=true)(hdep:∀(j:Nat)(oj:au),ops[j]?=some oj->∀ed∈oj.after,bH .any ed=true->ed.on<j)(hpair:∀(i j:Nat)(oi oj:au),G i->G j->i<j->ops[i]?=some oi->ops[j]?=some oj->(∃n,reach ops n i j=true)∨AO1 gw ops oi oj=true):∀(fuel:Nat)(R:List Nat)(listed:Array Bool)(e:Env)(a:Act)(w:bt)(K:Env->Ws->Prop),(∀j∈R,G j)->R.length=fuel->LsF ops R listed->Rep n e a->LIB gw P B ops R e w.heap K->(∀e' a' w',Rep n e' a'->Same w w'->K e' w'.heap->Q .normal a' w')->wpAny P .any ops Q fuel listed a w:=by
 intro fuel;induction fuel with
 |zero=>
   intro R listed e a w K hG hlen L r H hK;obtain rfl:R=[]:=ay.1 hlen;refine⟨?_,hK _ _ _ r (.refl w) H⟩;refine bW.2 λj hj=>?_;obtain⟨hjl,oj,hoj,_⟩:=mem_ready.1 hj;have:=(L.mem j).2 ⟨(ao.1 hoj).1,hjl⟩;cases this|succ fuel ih=>
   intro R listed e a w K hG hlen L r H hK;constructor
   .intro hr;exfalso;cases R with|nil=>simp at hlen|cons j R=>
      obtain⟨hjs,hjl⟩:=(L.mem j).1 (ak ..);obtain⟨oj,hoj⟩:∃oj,ops[j]?=some oj:=⟨ops[j],ax hjs⟩;have:j∈co .any ops listed:=mem_ready.2 ⟨hjl,oj,hoj,λed hed hbd=>by
       have hlt:=hdep j oj hoj ed hed hbd;cases hl:listed.getD ed.on false with
       |true=>rfl|false=>
         exfalso;have hs:ed.on<ops.size:=ba hlt hjs;have hm:ed.on∈j::R:=(L.mem ed.on).2 ⟨hs,by
          have h':ed.on<listed.size:=by rw[L.size];exact hs
          simp[h']at hl⊢;exact hl⟩;rcases aM.1 hm with he|he;.omega
         .have:=(aH.1 L.pw).1 _ he;omega⟩;rw[hr]at this;cases this
   .intro i hi;obtain⟨hil,oi,hoi,hall⟩:=mem_ready.1 hi;have his:i<ops.size:=(ao.1 hoi).1;have hiR:i∈R:=(L.mem i).2 ⟨his,hil⟩;obtain⟨R1,R2,rfl⟩:=bR hiR;obtain⟨hdi,hsi⟩:=AK2 hb hoi;have hpw':=aG.1 L.pw;have hbu:LIB gw P B ops (i::(R1++R2)) e w.heap K:=by
     refine LIB.bubble hoi hsi R1 (λk hk=>?_) H;have hki:k<i:=hpw'.2.2 k hk i<|ak ..;have hks:k<ops.size:=ba hki his;obtain⟨ok,hok'⟩:∃ok,ops[k]?=some ok:=⟨ops[k],ax hks⟩;refine⟨ok,hok',(AK2 hb hok').2,?_⟩;rcases hpair k i ok oi (hG k<|ae _ hk) (hG i hiR) hki hok' hoi with⟨nre,hre⟩|h
     .exfalso;have h1:listed.getD k false=true:=AFn (L:=λj=>listed.getD j false=true) L.cl nre k i oi hoi hall hre;rw[L.notListed<|ae _ hk]at h1;cases h1
     .exact h
    simp only[LIB,hoi]at hbu;refine AEv hoi hdi r hbu λe' a' w' r' hs hk=>?_;exact ih (R1++R2) _ e' a' w' K (λj hj=>hG j (by rcases ah.1 hj with h|h;exact ae _ h;exact ap _<|aj _ h)) (by simp at hlen⊢;omega) (L.step hoi hall) r' hk.2 λe2 a2 w2 r2 s2 k2=>hK _ _ _ r2 (hs.trans s2) k2
theorem Am3{x y:au}(hy:isW gw y=false)(h:AO1 gw ops x y=true):indep true ops x y=true:=by
 unfold AO1 at h;rw[ce]at h;rcases h with h|h;.exact h
 .rw[am,am]at h;have:=Apo h.1 hy;replace h:=h.2;cases hk:kindOf y.op<;>simp only[hk]at h<;>first|exact absurd hk this|(exfalso;revert h;cases kindOf x.op<;>simp)
structure Apq(gw:Bool)(ops:Array au)(m:Nat)(A:List Alv):Prop where
 le:m+A.length<=ops.size
 dep:∀(j:Nat)(oj:au),ops[j]?=some oj->∀ed∈oj.after,bH .any ed=true->ed.on<j
 pair:∀(i j:Nat)(oi oj:au),i<m∨m+A.length<=i->j<m∨m+A.length<=j->i<j->ops[i]?=some oi->ops[j]?=some oj->(∃n,reach ops n i j=true)∨AO1 gw ops oi oj=true
 tail:∀(i j:Nat)(oj:au),m<=i->i<m+A.length->m+A.length<=j->ops[j]?=some oj->∃n,reach ops n i j=true
 far:∀(j:Nat)(oj:au),j<m->ops[j]?=some oj->A6h ops A oj/\isW gw oj=false
 nd:(A.map Alv.d).Nodup
 al:∀(q:Nat)(a:Alv),A[q]?=some a->∃o,ops[m+q]?=some o/\o.dst=some a.d
theorem Ar7{n m:Nat}{T:List Nat}{Kq:Env->Ws->Prop}(S:Apq gw ops m A)(hb:AY5 n ops=true)(hBx:∀h h',B h->Ext h h'->B h')(hal:Amz P B ops m A)(hT:∀j∈T,m+A.length<=j):∀(fuel:Nat)(Rp Ra:List Nat)(bs:List (Option Nat))(listed:Array Bool)(e:Env)(a:Act)(w:bt)(N:Nat->Prop),(∀j∈Rp,j<m)->(∀j∈Ra,m<=j/\j<m+A.length/\bs[j-m]?=some none)->(∀q:Nat,bs[q]?=some none->m+q∈Ra)->bs.length=A.length->(Rp++(Ra++T)).length=fuel->LsF ops (Rp++(Ra++T)) listed->Rep n (setO A bs e) a->Ext h0 w.heap->B w.heap->(∀(q b:Nat)(x:Alv),bs[q]?=some (some b)->A[q]?=some x->Yz x.t w.heap b x.z/\h0.size<=b/\N b)->(∀q q' b:Nat,bs[q]?=some (some b)->bs[q']?=some (some b)->q=q')->(∀b:Nat,w.heap.size<=b->N b)->HI P B ops Rp e w.heap N (KA A h0 λbl e' h'=>LIB gw P B ops T (setO A (bl.map some) e') h' Kq)->(∀e' a' w',Rep n e' a'->Same w w'->Kq e' w'.heap->Q .normal a' w')->wpAny P .any ops Q fuel listed a w:=by
 intro fuel;induction fuel with
 |zero=>
   intro Rp Ra bs listed e a w N hRp hRa hbsR hbl hlen L r hE hB hbox hdis hNn H hK;have Ao:Rp++(Ra++T)=[]:=ay.1 hlen;simp only[List.append_eq_nil_iff]at Ao;obtain⟨rfl,rfl,rfl⟩:=Ao;refine Afj (B:=B) (λj=>j<m∨m+A.length<=j) hb S.dep S.pair 0 [] listed _ a w Kq (λj hj=>by cases hj) rfl L r ?_ hK;obtain⟨bl,rfl⟩:∃bl:List Nat,bs=bl.map some:=by
    have:∀bs:List (Option Nat),(∀q:Nat,bs[q]?≠some none)->∃bl:List Nat,bs=bl.map some:=by
     intro bs;induction bs with
     |nil=>intro _;exact⟨[],rfl⟩|cons b bs ih=>
       intro h;obtain⟨bl,rfl⟩:=ih λq=>by have:=h<|q+1;simpa using this
       cases b with|none=>exact absurd rfl (h 0)|some b=>exact⟨b::bl,rfl⟩
    exact this bs λq hq=>by have:=hbsR q hq;cases this
   refine H w.heap (Ext.refl _) bl (by simpa using hbl) ?_ λq b x hq hx=>hbox q b x (by simp[hq]) hx;refine de.2 λi j hi hj hij he=>?_;have h1:bl[i]?=some bl[i]:=aa hi;have h2:bl[j]?=some bl[i]:=by rw[he];exact aa hj
   have:=hdis i j bl[i] (by simp[h1]) (by simp[h2]);omega|succ fuel ih=>
   intro Rp Ra bs listed e a w N hRp hRa hbsR hbl hlen L r hE hB hbox hdis hNn H hK;by_cases Ap:Ra=[]
   .subst Ap;obtain⟨bl,rfl⟩:∃bl:List Nat,bs=bl.map some:=by
     have:∀bs:List (Option Nat),(∀q:Nat,bs[q]?≠some none)->∃bl:List Nat,bs=bl.map some:=by
      intro bs;induction bs with
      |nil=>intro _;exact⟨[],rfl⟩|cons b bs ih=>
        intro h;obtain⟨bl,rfl⟩:=ih λq=>by have:=h<|q+1;simpa using this
        cases b with
        |none=>exact absurd rfl (h 0)|some b=>exact⟨b::bl,rfl⟩
     exact this bs λq hq=>by have:=hbsR q hq;cases this
    have hnod:bl.Nodup:=by
     refine de.2 λi j hi hj hij he=>?_;have h1:bl[i]?=some bl[i]:=aa hi;have h2:bl[j]?=some bl[i]:=by rw[he];exact aa hj
     have:=hdis i j bl[i] (by simp[h1]) (by simp[h2]);omega
    simp only[List.nil_append]at hlen L;refine Afj (B:=B) (λj=>j<m∨m+A.length<=j) hb S.dep S.pair (fuel+1) (Rp++T) listed _ a w Kq (λj hj=>?_) hlen L r ?_ hK
    .rcases ah.1 hj with h|h;.exact .inl<|hRp j h
     .exact .inr<|hT j h
    .refine Am2 (λi hi o ho=>(S.far i o (hRp i hi) ho).2) ?_;have h1:=LI.setO (A:=A) (bs:=bl.map some) (λi hi o ho=>⟨(AK2 hb ho).2,(S.far i o (hRp i hi) ho).1⟩)<|Avj Rp H;refine LI.mono (λe2 h2 hk=>?_) h1;obtain⟨e',rfl,E2,N',hN',hk⟩:=hk;refine hk bl (by simpa using hbl) hnod λq b x hq hx=>?_;obtain⟨x1,x2,x3⟩:=hbox q b x (by simp[hq]) hx;exact⟨by unfold Yz;rw[E2.2 b x1.lt];exact x1,x2,hN' b x3 x1.lt⟩
   .refine⟨λhr=>?_,λi hi=>?_⟩;.exfalso;cases hR:Rp++(Ra++T)with
     |nil=>rw[hR]at hlen;simp at hlen|cons j R=>
       rw[hR]at L;obtain⟨hjs,hjl⟩:=(L.mem j).1 (ak ..);obtain⟨oj,hoj⟩:∃oj,ops[j]?=some oj:=⟨ops[j],ax hjs⟩;have:j∈co .any ops listed:=mem_ready.2 ⟨hjl,oj,hoj,λed hed hbd=>by
        have hlt:=S.dep j oj hoj ed hed hbd;cases hl:listed.getD ed.on false with
        |true=>rfl|false=>
          exfalso;have hs:ed.on<ops.size:=ba hlt hjs;have hm:ed.on∈j::R:=(L.mem ed.on).2 ⟨hs,by
           have h':ed.on<listed.size:=by rw[L.size];exact hs
           simp[h']at hl⊢;exact hl⟩;rcases aM.1 hm with he|he;.omega
          .have:=(aH.1 L.pw).1 _ he;omega⟩;rw[hr]at this;cases this
    .obtain⟨hil,oi,hoi,hall⟩:=mem_ready.1 hi;have his:i<ops.size:=(ao.1 hoi).1;obtain⟨hdi,hsi⟩:=AK2 hb hoi;have hnl:∀(k nre:Nat),k∈Rp++(Ra++T)->reach ops nre k i=true->False:=λk nre hk hre=>by
      have h1:listed.getD k false=true:=AFn (L:=λj=>listed.getD j false=true) L.cl nre k i oi hoi hall hre;rw[L.notListed hk]at h1;cases h1
     rcases ah.1 ((L.mem i).2 ⟨his,hil⟩)with hip|hit;·
       obtain⟨R1,R2,rfl⟩:=bR hip;have hpw':=aG.1 (aG.1 L.pw).1;have hbu:HI P B ops (i::(R1++R2)) e w.heap N (KA A h0 λbl e' h'=>LIB gw P B ops T (setO A (bl.map some) e') h' Kq):=by
        refine HI.bubble hBx hoi hsi R1 (λk hk=>?_) H;have hki:k<i:=hpw'.2.2 k hk i<|ak ..;have hks:k<ops.size:=ba hki his;obtain⟨ok,hok'⟩:∃ok,ops[k]?=some ok:=⟨ops[k],ax hks⟩;refine⟨ok,hok',(AK2 hb hok').2,?_⟩;rcases S.pair k i ok oi (.inl<|hRp k<|ae _ hk) (.inl<|hRp i hip) hki hok' hoi with⟨nre,hre⟩|h;.exact(hnl k nre (ae _<|ae _ hk) hre).elim
        .exact Am3 (S.far i oi (hRp i hip) hoi).2 h
       have hg:GOp P B true ops oi e w.heap λe' h'=>Ext w.heap h'/\HI P B ops (R1++R2) e' h' (λb=>N b/\Off w.heap.size h'.size b) (KA A h0 λbl e' h'=>LIB gw P B ops T (setO A (bl.map some) e') h' Kq):=by
        simp only[HI,hoi]at hbu;cases he:AI0 oi with
        |true=>simp only[he,cond_true]at hbu;exact hbu w.heap (Ext.refl _)|false=>
          simp only[he,cond_false]at hbu;refine(AKx he hbu).mono λv h' hk=>?_;obtain⟨rfl,hk⟩:=hk;exact⟨Ext.refl _,HI.anti KA.anti _ (λb hb=>hb.1) hk⟩
       refine AEv hoi hdi r (GOp.setO (bs:=bs) hsi (S.far i oi (hRp i hip) hoi).1 hg) λe' a' w' r' hs hk=>?_;obtain⟨e1,rfl,hE',hk⟩:=hk;refine ih (R1++R2) Ra bs _ e1 a' w' _ (λj hj=>hRp j (by rcases ah.1 hj with h|h;exact ae _ h;exact ap _<|aj _ h)) hRa hbsR hbl (by simp at hlen⊢;omega) ?_ r' (hE.trans hE') (hBx _ _ hB hE') (λq b x hq hx=>?_) hdis (λb hb=>⟨hNn b<|bo hE'.1 hb,.inr hb⟩) hk λe2 a2 w2 r2 s2 k2=>hK _ _ _ r2 (hs.trans s2) k2
       .have L2:LsF ops (R1++i::(R2++(Ra++T))) listed:=by simpa using L
        have:=L2.step hoi hall;simpa using this
       .obtain⟨x1,x2,x3⟩:=hbox q b x hq hx;exact⟨by unfold Yz;rw[hE'.2 b x1.lt];exact x1,x2,x3,.inl x1.lt⟩
     .rcases ah.1 hit with hia|hiT;·
        obtain⟨A1,A2,rfl⟩:=bR hia;obtain⟨Ar,Au,hbq⟩:=hRa i hia;obtain⟨x,hx⟩:∃x,A[i-m]?=some x:=⟨A[i-m]'Wq,aa Wq⟩;have hoi':ops[m+(i-m)]?=some oi:=by rw[show m+(i-m)=i by omega];exact hoi
        have hg:=hal (i-m) x oi hx hoi' (setO A bs e) w.heap hB;refine AEv hoi hdi r hg λe' a' w' r' hs hk=>?_;obtain⟨b,rfl,hE',hbx,hbh⟩:=hk;rw[<-Avk S.nd hbl hx hbq]at r';have hpwA:=aG.1 (aG.1 (aG.1 L.pw).2.1).1;have hlq:i-m<bs.length:=by omega
        refine ih Rp (A1++A2) (bs.set (i-m)<|some b) _ e a' w' N hRp (λj hj=>?_) (λq hq=>?_) (by simpa using hbl) (by simp at hlen⊢;omega) ?_ r' (hE.trans hE') (hBx _ _ hB hE') (λq c y hq hy=>?_) (λq q' c hq hq'=>?_) (λc hc=>hNn c<|bo hE'.1 hc) (HI.ext hBx _ hE' H) λe2 a2 w2 r2 s2 k2=>hK _ _ _ r2 (hs.trans s2) k2
        .have hj':j∈A1++i::A2:=by
          rcases ah.1 hj with h|h;.exact ae _ h
          .exact ap _<|aj _ h
         obtain⟨j1,j2,j3⟩:=hRa j hj';have hne:i≠j:=by
          rintro rfl;rcases ah.1 hj with h|h;.have:=hpwA.2.2 i h i<|ak ..;omega
          .have:=(aH.1 hpwA.2.1).1 i h;omega
         exact⟨j1,j2,by rw[aL Wq];exact j3⟩
        .by_cases hqi:i-m=q;.subst hqi;rw[bS hlq]at hq;cases hq
         .rw[aL hqi]at hq;have:=hbsR q hq;rcases ah.1 this with h|h;.exact ae _ h
          .rcases aM.1 h with h|h;.omega
           .exact ap _ h
        .have L2:LsF ops (Rp++A1++i::(A2++T)) listed:=by simpa using L
         have:=L2.step hoi hall;simpa using this
        .by_cases hqi:i-m=q
         .subst hqi;rw[bS hlq]at hq;cases hq;rw[hx]at hy;cases hy;exact⟨hbx,bo hE.1 hbh,hNn b hbh⟩
         .rw[aL hqi]at hq;obtain⟨x1,x2,x3⟩:=hbox q c y hq hy;exact⟨by unfold Yz;rw[hE'.2 c x1.lt];exact x1,x2,x3⟩
        .have old:∀{q:Nat},bs[q]?=some (some c)->c<w.heap.size:=λ{q}hq=>by
          have hql:q<A.length:=by rw[<-hbl];exact(ar.1 hq).1
          exact(hbox q c A[q] hq<|aa hql).1.lt
         by_cases hqi:i-m=q
         .by_cases hqi':i-m=q';.omega
          .subst hqi;rw[bS hlq]at hq;rw[aL hqi']at hq';cases hq;have:=old hq';omega
         .rw[aL hqi]at hq;by_cases hqi':i-m=q'
          .subst hqi';rw[bS hlq]at hq';cases hq';have:=old hq;omega
          .rw[aL hqi']at hq';exact hdis q q' c hq hq'
      ·
        exfalso;cases hA:Ra with
        |nil=>exact Ap hA|cons j Ra'=>
          have hj:j∈Ra:=by rw[hA];exact ak ..
          obtain⟨Ar,Au,_⟩:=hRa j hj;obtain⟨nre,hre⟩:=S.tail j i oi Ar Au (hT i hiT) hoi;exact hnl j nre (ap _<|ae _ hj) hre
def Aj0(gw:Bool)(ops:Array au)(m:Nat)(ds:List Nat):Bool:=bZ (m+ds.length) ops.size&&(decide ds.Nodup&&(aK ds.length).all λq=>match ops[m+q]?,ds[q]? with|some o,some d=>o.dst==some d|_,_=>false)&&(aK ops.size).all λj=>match ops[j]? with|none=>false|some oj=>oj.after.all (λed=>!Region.binds .any ed||bA ed.on j)&&(!Nat.blt j m||ds.all λd=>!(oj.looksAt ops).contains d&&oj.dst !=some d)&&(!Nat.blt j m||!isW gw oj)&&(aK j).all λi=>match ops[i]? with|none=>false|some oi=>match isA m ds.length i,isA m ds.length j with|false,false=>ahead ops i j||AO1 gw ops oi oj|true,false=>ahead ops i j|_,true=>true
theorem Am4{m:Nat}(H:Aj0 gw ops m (A.map Alv.d)=true):Apq gw ops m A:=by
 unfold Aj0 at H;rw[am,am]at H;obtain⟨⟨h0,h1⟩,H⟩:=H;rw[am]at h1;have h0:=aw h0;rw[aI]at h0 H;have key:∀{j:Nat}{oj:au},ops[j]?=some oj->((oj.after.all (λed=>!Region.binds .any ed||bA ed.on j)=true/\(!Nat.blt j m||(A.map Alv.d).all λd=>!(oj.looksAt ops).contains d&&oj.dst !=some d)=true)/\(!Nat.blt j m||!isW gw oj)=true)/\((aK j).all λi=>match ops[i]? with
    |none=>false|some oi=>match isA m A.length i,isA m A.length j with
      |false,false=>ahead ops i j||AO1 gw ops oi oj|true,false=>ahead ops i j|_,true=>true)=true:=by
  intro j oj hj;have hlt:j<ops.size:=(ao.1 hj).1;have H:=aP.1 H j<|aV.2 hlt;simp only[hj,am]at H;exact H
 refine⟨h0,λj oj hj ed hed hbd=>?_,λi j oi oj hi hj hij hoi hoj=>?_,λi j oj Ae Af hj hoj=>?_,λj oj hj hoj=>?_,of_decide_eq_true h1.1,λq a ha=>?_⟩;.have:=cL.1 (key hj).1.1.1 ed hed;rw[hbd]at this;exact Acx (by simpa using this)
 .have:=aP.1 (key hoj).2 i<|aV.2 hij;simp only[hoi,AZj hi,AZj hj,ce]at this;rcases this with h|h;.exact .inl<|AK1 h
  .exact .inr h
 .have hij:i<j:=by omega
  have hs:i<ops.size:=ba hij (ao.1 hoj).1;have:=aP.1 (key hoj).2 i<|aV.2 hij;simp only[ax hs,Ajz.2 ⟨Ae,Af⟩,AZj<|.inr hj]at this;exact AK1 this
 .have:=(key hoj).1.1.2;have hb:bA j m=true:=bV hj;rw[hb,d8,d9]at this;have h2:∀a∈A,a.d∉oj.looksAt ops/\oj.dst≠some a.d:=λa ha=>by
   have:=aP.1 this a.d<|ct.2 ⟨a,ha,rfl⟩;simpa using this
  exact⟨⟨λa ha=>(h2 a ha).1,λa ha=>(h2 a ha).2⟩,by have h3:=(key hoj).1.2;rw[hb,d8,d9]at h3;simpa using h3⟩
 .have hq:q<A.length:=(ar.1 ha).1;have h2:=aP.1 h1.2 q<|aV.2 (by simpa using hq);have h3:ops[m+q]?=some (ops[m+q]'Wq):=ax Wq;simp only[h3,aY,ha,Option.map_some,beq_iff_eq]at h2;exact⟨_,h3,h2⟩
theorem HRf.fr:∀(L:List au)(e:Env)(h:Ws)(N:Nat->Prop)(K K':Env->Ws->(Nat->Prop)->Prop),(∀e1 h N,(∀t,(∀o∈L,o.dst≠some t)->e1 t=e t)->K e1 h N->K' e1 h N)->HRf P B ops L e h N K->HRf P B ops L e h N K':=by
 intro L;induction L with
 |nil=>intro e h N K K' hK H h' E;exact hK _ _ _ (λt _=>rfl) (H h' E)|cons o L ih=>
   intro e h N K K' hK H;have put:∀v t,(∀o'∈o::L,o'.dst≠some t)->e.put o.dst v t=e t:=λv t ht=>by cases hd:o.dst with|none=>rfl|some d=>exact Env.set_other _ _ λhe=>ht o (ak ..) (by rw[hd,he])
   simp only[HRf]at H⊢;cases he:AI0 o with|true=>simp only[he,cond_true]at H⊢;exactλh1 E=>(H h1 E).mono λv h' hh=>⟨hh.1,ih _ _ _ _ _ (λe1 h2 N2 hf hk=>hK _ _ _ (λt ht=>(hf t λo' ho'=>ht o'<|aj _ ho').trans (put v t ht)) hk) hh.2⟩|false=>simp only[he,cond_false]at H⊢;exact H.mono λv h' hh=>ih _ _ _ _ _ (λe1 h2 N2 hf hk=>hK _ _ _ (λt ht=>(hf t λo' ho'=>ht o'<|aj _ ho').trans (put v t ht)) hk) hh
variable{Q:bX->Env->Ws->Prop}{e:Env}{h:Ws}
theorem Aj1{l:List au}(m:Nat)(A:List Alv)(hBx:∀h h',B h->Ext h h'->B h')(hok:Aj0 gw l.toArray m (A.map Alv.d)=true)(hB:B h)(hal:Amz P B l.toArray m A)(H:HRf P B l.toArray (l.take m) e h (λ_=>True) (KA A h λbl e' h'=>RLW gw P B l.toArray (l.drop<|m+A.length) (setO A (bl.map some) e') h'<|Q .normal)):W P (.region id l.toArray true) Q e h:=by
 intro hmx n id a w Q' hb r hw hQ;subst hw;have S:=Am4 hok;have hle:=S.le;simp only[cM]at hle;have hsz:l.toArray.size=l.length:=by simp
 have Ab:∀(s n:Nat),s+n<=l.length->(bx s n).map (λi=>l.toArray[i]?)=((l.drop s).take n).map some:=by
  intro s n hn;apply aJ;intro k;simp only[aY,dJ,bP];by_cases hk:k<n
  .rw[List.getElem?_range' hk,if_pos hk];have:s+k<l.length:=by omega
   simp[this]
  .rw[if_neg hk,av (by simp;omega)];rfl
 refine wp_region_draw λt=>?_;simp only[Region.schedule,hmx,Bool.true_or,if_true];have hs:aK l.toArray.size=aK m++(bx m A.length++bx (m+A.length) (l.length-(m+A.length))):=by
  rw[hsz,bz,bz];rw[cy];have:bx m (A.length+(l.length-(m+A.length)))=bx (0+m) (A.length+(l.length-(m+A.length))):=by rw[eD]
  rw[this,cy];congr 1;omega
 have htl:(l.drop<|m+A.length).take (l.length-(m+A.length))=l.drop (m+A.length):=cu W4;have Hi:HI P B l.toArray (aK m) e w.heap (λ_=>True) (KA A w.heap λbl e' h'=>LIB gw P B l.toArray (bx (m+A.length)<|l.length-(m+A.length)) (setO A (bl.map some) e') h' λe2 h2=>Q .normal e2 h2/\∀t,(∀o∈l,o.dst≠some t)->e2 t=e t):=by
  refine Avi (aK m) (l.take m) (by rw[bz];have:=Ab 0 m Wq;simpa using this) e w.heap _ ?_;refine HRf.fr _ _ _ _ _ _ (λe1 h1 N1 hf hk bl b1 b2 b3=>?_) H;refine Am1 _ (l.drop<|m+A.length) ?_ _ _<|RLW.mono (λe2 h2 hq=>⟨hq.1,λt ht=>?_⟩)<|RLW.frame0<|hk bl b1 b2 b3;.rw[Ab _ _ Wq,htl]
  .rw[hq.2 t λo ho=>ht o<|List.mem_of_mem_drop ho,A0y,hf t λo ho=>ht o<|List.mem_of_mem_take ho];intro x hx he;obtain⟨q,Ag⟩:=ca hx;obtain⟨o,ho,hd⟩:=S.al q x Ag;exact ht o (ai<|by simpa using ho) (by rw[hd,he])
 refine wpAny_sound l.toArray.size t _ a _ (Ar7 (B:=B) (T:=bx (m+A.length)<|l.length-(m+A.length)) S hb hBx hal (λj hj=>(cO.1 hj).1) l.toArray.size (aK m) (bx m A.length) (bc A.length none) (cX l.toArray.size false) e a {w with drawn:=w.drawn+1} (λ_=>True) (λj hj=>aV.1 hj) λj hj=>by
    have:=cO.1 hj;exact⟨this.1,this.2,by rw[bG,if_pos Wq]⟩
  λq hq=>by
    rw[bG]at hq;split at hq;.exact cO.2 ⟨Wq,Wq⟩
    .cases hq
  W4 (by rw[<-hs];simp) (by rw[<-hs];exact Afh l.toArray) (by rw[Ar5];exact r) (Ext.refl _) hB (λq b x hq hx=>by rw[bG]at hq;split at hq<;>cases hq) (λq q' b hq=>by rw[bG]at hq;split at hq<;>cases hq) (λb _=>trivial) Hi λe' a' w' r' s k=>hQ e' a' w' r' ⟨s.os,s.tape,s.output⟩ k.1 λt ht=>k.2 t λo ho=>ht o<|by simpa using ho)
theorem b_w{o:au}{l:List au}(H:RL P B true ops [o] e h λe' h'=>B h'/\RLW true P B ops l e' h' K):RLW true P B ops (o::l) e h K:=GOp.mono (λv h' hh=>⟨λ_=>hh.1,hh.2⟩) H
theorem Aps(H:K e h):RLW true P B ops [] e h K:=H
theorem Ar8{l:List au}(H:RL P B true ops l e h K):RLW false P B ops l e h K:=by induction l generalizing e h with|nil=>exact H|cons o l ih=>exact GOp.mono (λv h' hh=>⟨λq=>(by cases q),ih hh⟩) H
abbrev Avm:=Aj0 false
abbrev A4q:=Aj0 true
abbrev RLB:=RLW true
theorem Abl{l:List au}(m:Nat)(A:List Alv)(hBx:∀h h',B h->Ext h h'->B h')(hok:Avm l.toArray m (A.map Alv.d)=true)(hB:B h)(hal:Amz P B l.toArray m A)(H:HRf P B l.toArray (l.take m) e h (λ_=>True) (KA A h λbl e' h'=>RL P B true l.toArray (l.drop<|m+A.length) (setO A (bl.map some) e') h'<|Q .normal)):W P (.region id l.toArray true) Q e h:=Aj1 (gw:=false) m A hBx hok hB hal (HRf.fr _ _ _ _ _ _ (λ_ _ _ _ hk bl b1 b2 b3=>Ar8<|hk bl b1 b2 b3) H)
theorem AXj{l:List au}(m:Nat)(A:List Alv)(hBx:∀h h',B h->Ext h h'->B h')(hok:A4q l.toArray m (A.map Alv.d)=true)(hB:B h)(hal:Amz P B l.toArray m A)(H:HRf P B l.toArray (l.take m) e h (λ_=>True) (KA A h λbl e' h'=>RLB P B l.toArray (l.drop<|m+A.length) (setO A (bl.map some) e') h'<|Q .normal)):W P (.region id l.toArray true) Q e h:=Aj1 (gw:=true) m A hBx hok hB hal H
end
def AWg(h:Ws)(v:ab)(n d:Int):Prop:=∃c1 c2,v=.agg (c1++c2).toArray/\cZ.rep h n c1/\cZ.rep h d c2
theorem Abm{n:Int}(H1:cZ.rep h n c1)(H2:cZ.rep h' d c2):(c1++c2).length=4:=by rw[ci,cZ.klen H1,cZ.klen H2];rfl
theorem Apt{n:Int}(H1:cZ.rep h n c1)(H2:cZ.rep h' d c2):∀u∈c1++c2,isOne u=true:=λu hu=>(ah.1 hu).elim (cZ.one H1 u) (cZ.one H2 u)
theorem Yz.aggL{b:Nat}{l l2:List ab}(H:Yz t h b (l++l2)):∀i u,l[i]?=some u->Yt h ((⟨b,0,none⟩:Addr).add i)=some u:=by intro i u hu;refine H.agg i u ?_;grind
theorem Yz.aggR{b:Nat}{l l2:List ab}(H:Yz t h b (l++l2))(hl:l.length=2):∀i u,l2[i]?=some u->Yt h ((⟨b,2,none⟩:Addr).add i)=some u:=by intro i u hu;have h1:=H.cell (i:=2+i) (u:=u) (by grind);rw[Zu];exact h1
theorem AJj{z:Int}{cs:List ab}(H:cZ.rep h z cs):∃b a n c,cs=[.bool b,.slice a n c]:=by obtain⟨hl,n,s,L,h1,h2,h3⟩:=H;obtain⟨a,m,c,rfl,_⟩:=h2.cap;grind
end Go.QF
namespace Go.Proofs.YtgmdhndbcohgiaaGreatDoor
theorem Ag4:AgT Tryz.prog 128 4:=AOs Tryz.underlying128 rfl Ww
theorem A6i:ZeT Tryz.prog 128 (.agg #[.bool false,.slice none 0 0,.bool false,.slice none 0 0]) 64:=AFy Ww
theorem A00:FdT Tryz.prog 128 0 0 32:=⟨_,_,Tryz.underlying128,rfl,rfl,rfl⟩
theorem A01:FdT Tryz.prog 128 1 2 32:=⟨_,_,Tryz.underlying128,rfl,rfl,rfl⟩
theorem Am5(w:bt):(bL 128 #[]).run Tryz.prog w=.ok (.agg #[.bool false,.slice none 0 0,.bool false,.slice none 0 0]) w:=by kernel_rfl
theorem Am6(b b':Bool)(a a':Option Addr)(n n' c c':Nat)(w:bt):(bL 128 #[(0,.agg #[.bool b,.slice a n c]),(1,.agg #[.bool b',.slice a' n' c'])]).run Tryz.prog w=.ok (.agg #[.bool b,.slice a n c,.bool b',.slice a' n' c']) w:=by kernel_rfl
theorem Ar9{n:Int}(H1:cZ.rep h n c1)(H2:cZ.rep h' d c2)(w:bt):(bL 128 #[(0,.agg c1.toArray),(1,.agg c2.toArray)]).run Tryz.prog w=.ok (.agg (c1++c2).toArray) w:=by obtain⟨b,a,n,c,rfl⟩:=AJj H1;obtain⟨b',a',n',c',rfl⟩:=AJj H2;exact Am6 _ _ _ _ _ _ _ _ w
structure Y6 where
 F:List Nat
 P:Ws->Prop
 up:∀{G:List Nat}{h h':Ws},Yg G h h'->(∀b∈F,b∉G)->P h->P h'
def aZ(cs:List ab)(x:Int):Y6:=⟨[],λh=>cZ.rep h x cs,λU _ H=>cZ.upT H U⟩
def aB(t b:Nat)(l:List ab):Y6:=⟨[b],λh=>Yz t h b l,λU d H=>H.upT U d⟩
def aO{α:Type}(c:Zx α)(el:Nat)(F:List Nat)(v:ab)(x:List α):Y6:=⟨F,λh=>OwC c el h F v x,λU d H=>H.upT U d⟩
def aO2{α:Type}(c:Zx α)(er el:Nat)(F:List Nat)(Gs:List (List Nat))(rs:List ab)(v:ab)(x:List (List α)):Y6:=⟨F,λh=>Yv c er el h F Gs rs v x,λU d H=>H.upT U d⟩
def aC(p:Prop):Y6:=⟨[],λ_=>p,λ_ _ H=>H⟩
def AQi(h:Ws):List Y6->Prop|[]=>True|a::l=>a.P h/\AQi h l
def fps:List Y6->List (List Nat)|[]=>[]|a::l=>a.F::fps l
def AG9:List Y6->Nat->Y6|[],_=>aC True|a::_,0=>a|_::l,i+1=>AG9 l i
def AE4(l:List Y6):List Nat->List Y6|[]=>[]|i::is=>AG9 l i::AE4 l is
theorem Abn(l m:List Y6):fps (l++m)=fps l++fps m:=by induction l with|nil=>rfl|cons a l ih=>simp[fps,ih]
theorem ACr{l:List Y6}{a:Y6}(h:l[i]?=some a):(fps l)[i]?=some a.F:=by induction l generalizing i with|nil=>simp at h|cons b l ih=>cases i with|zero=>simp at h;subst h;rfl|succ i=>exact ih (by simpa using h)
theorem AXk{l:List Y6}{a:Y6}:fps (l.set i a)=(fps l).set i a.F:=by induction l generalizing i with|nil=>rfl|cons b l ih=>cases i with|zero=>rfl|succ i=>simp[fps,ih]
theorem A02(l:List Y6)(i:Nat):(AG9 l i).F=(fps l)[i]?.getD []:=by induction l generalizing i with|nil=>rfl|cons a l ih=>cases i with|zero=>rfl|succ i=>exact ih i
theorem A03(l:List Y6)(is:List Nat):fps (AE4 l is)=is.map λi=>(fps l)[i]?.getD []:=by induction is with|nil=>rfl|cons i is ih=>simp[AE4,fps,ih,A02]
theorem AGn{l:List Y6}(H:AQi h l){a:Y6}(e:l[i]?=some a):a.P h:=by induction l generalizing i with|nil=>simp at e|cons b l ih=>cases i with|zero=>simp at e;subst e;exact H.1|succ i=>exact ih H.2 (by simpa using e)
theorem Avn{l:List Y6}(H:AQi h l)(i:Nat):(AG9 l i).P h:=by induction l generalizing i with|nil=>exact trivial|cons b l ih=>cases i with|zero=>exact H.1|succ i=>exact ih H.2 i
theorem Ac2{l m:List Y6}(H:AQi h l)(K:AQi h m):AQi h (l++m):=by induction l with|nil=>exact K|cons b l ih=>exact⟨H.1,ih H.2⟩
theorem Ag5{l:List Y6}(H:AQi h l)(U:Yg G h h')(d:∀F∈fps l,∀b∈F,b∉G):AQi h' l:=by induction l with|nil=>exact trivial|cons b l ih=>exact⟨b.up U (d _<|by simp[fps]) H.1,ih H.2 λF hF=>d F<|by simp[fps,hF]⟩
theorem Aj2{l:List Y6}{a a':Y6}{lo:Nat}(H:AQi h l)(S:Sp h lo (fps l))(e:l[i]?=some a)(U:Yg a.F h h')(Ha:a'.P h'):AQi h' (l.set i a'):=by
 have key:∀(m:List Y6)(q:Nat),(∀j x,m[j]?=some x->j≠q->∀b∈x.F,b∉a.F)->AQi h m->AQi h' (m.set q a'):=by
  intro m;induction m with
  |nil=>intro q _ _;exact trivial|cons x m ih=>
    intro q hd hm;cases q with
    |zero=>
      refine⟨Ha,Ag5 hm.2 U λF hF b hb=>?_⟩;have:∃(j:Nat)(y:Y6),m[j]?=some y/\y.F=F:=by
       clear ih hd hm e;induction m with
       |nil=>simp[fps]at hF|cons y m ih=>
         simp only[fps,aM]at hF;rcases hF with rfl|hF;.exact⟨0,y,rfl,rfl⟩
         .obtain⟨j,z,h1,h2⟩:=ih hF;exact⟨j+1,z,by simpa using h1,h2⟩
      obtain⟨j,y,h1,rfl⟩:=this;exact hd (j+1) y (by simpa using h1) Wq b hb|succ q=>refine⟨x.up U (hd 0 x rfl Wq) hm.1,ih q (λj y hj hn=>hd (j+1) y (by simpa using hj) Wq) hm.2⟩
 exact key l i (λj x hj hn=>S.dj j i (ACr hj) (ACr e) hn) H
theorem Afk{l:List Y6}(H:AQi h l)(j:Nat):AQi h (l.set j<|aC True):=by induction l generalizing j with|nil=>exact trivial|cons a l ih=>cases j with|zero=>exact⟨trivial,H.2⟩|succ j=>exact⟨H.1,ih H.2 j⟩
theorem _root_.Go.QF.Sp.appF{lo:Nat}{Ks:List (List Nat)}(S:Sp h lo Fs)(S':Sp h' h.size Ks)(hs:h.size<=h'.size)(hl:lo<=h.size):Sp h' lo (Ks++Fs):=by have A:=S.app S' hs hl;refine⟨?_,λb hb=>A.2 b<|by grind⟩;have:=A.1;grind
theorem _root_.Go.QF.Sp.put2{lo:Nat}(S:Sp h lo Fs)(i j:Nat)(hi:Fs[i]?=some F)(hj:Fs[j]?=some R)(hij:i≠j)(hn:F'.Nodup)(hs:h.size<=h'.size)(hl:lo<=h.size)(hF:∀x∈F',x<h'.size)(hsub:∀x∈F',x∈F∨x∈R∨h.size<=x):Sp h' lo ((Fs.set j []).set i F'):=by
 have S1:=S.put j hj dW (aU _) hl (λx hx=>by simp at hx) λx hx=>by simp at hx
 have at':∀{k:Nat}{G:List Nat}{x:Nat},(Fs.set j [])[k]?=some G->x∈G->k≠j/\Fs[k]?=some G:=λ{k G x}hG hx=>by grind
 refine⟨ALv S1.1 hn λx hx k G hk hG hxG=>?_,λb hb=>?_⟩
 .obtain⟨hkj,hG⟩:=at' hG hxG;rcases hsub x hx with h1|h1|h1;.exact S.dj i k hi hG (λhe=>hk he.symm) x h1 hxG
  .exact S.dj j k hj hG (λhe=>hkj he.symm) x h1 hxG
  .have:=(S.lo k hG x hxG).2;omega
 .rcases AG7 hb with h1|⟨k,G,hk,hG,hb⟩
  .refine⟨?_,hF b h1⟩;rcases hsub b h1 with h2|h2|h2;.exact(S.lo i hi b h2).1
   .exact(S.lo j hj b h2).1
   .omega
  .obtain⟨_,hG⟩:=at' hG hb;have:=S.lo k hG b hb;omega
def Rep(i:Nat)(l:List Y6)(a a':Y6)(l':List Y6):Prop:=l[i]?=some a/\l'=l.set i a'
theorem p0{a a':Y6}{l:List Y6}:Rep 0 (a::l) a a' (a'::l):=⟨rfl,rfl⟩
theorem p1{x0 a a':Y6}{l:List Y6}:Rep 1 (x0::a::l) a a' (x0::a'::l):=⟨rfl,rfl⟩
theorem p2{x0 x1 a a':Y6}{l:List Y6}:Rep 2 (x0::x1::a::l) a a' (x0::x1::a'::l):=⟨rfl,rfl⟩
theorem p3{x0 x1 x2 a a':Y6}{l:List Y6}:Rep 3 (x0::x1::x2::a::l) a a' (x0::x1::x2::a'::l):=⟨rfl,rfl⟩
theorem p4{x0 x1 x2 x3 a a':Y6}{l:List Y6}:Rep 4 (x0::x1::x2::x3::a::l) a a' (x0::x1::x2::x3::a'::l):=⟨rfl,rfl⟩
theorem p5{x0 x1 x2 x3 x4 a a':Y6}{l:List Y6}:Rep 5 (x0::x1::x2::x3::x4::a::l) a a' (x0::x1::x2::x3::x4::a'::l):=⟨rfl,rfl⟩
theorem p6{x0 x1 x2 x3 x4 x5 a a':Y6}{l:List Y6}:Rep 6 (x0::x1::x2::x3::x4::x5::a::l) a a' (x0::x1::x2::x3::x4::x5::a'::l):=⟨rfl,rfl⟩
theorem p7{x0 x1 x2 x3 x4 x5 x6 a a':Y6}{l:List Y6}:Rep 7 (x0::x1::x2::x3::x4::x5::x6::a::l) a a' (x0::x1::x2::x3::x4::x5::x6::a'::l):=⟨rfl,rfl⟩
theorem p8{x0 x1 x2 x3 x4 x5 x6 x7 a a':Y6}{l:List Y6}:Rep 8 (x0::x1::x2::x3::x4::x5::x6::x7::a::l) a a' (x0::x1::x2::x3::x4::x5::x6::x7::a'::l):=⟨rfl,rfl⟩
theorem p9{x0 x1 x2 x3 x4 x5 x6 x7 x8 a a':Y6}{l:List Y6}:Rep 9 (x0::x1::x2::x3::x4::x5::x6::x7::x8::a::l) a a' (x0::x1::x2::x3::x4::x5::x6::x7::x8::a'::l):=⟨rfl,rfl⟩
theorem p10{x0 x1 x2 x3 x4 x5 x6 x7 x8 x9 a a':Y6}{l:List Y6}:Rep 10 (x0::x1::x2::x3::x4::x5::x6::x7::x8::x9::a::l) a a' (x0::x1::x2::x3::x4::x5::x6::x7::x8::x9::a'::l):=⟨rfl,rfl⟩
theorem p11{x0 x1 x2 x3 x4 x5 x6 x7 x8 x9 Aj a a':Y6}{l:List Y6}:Rep 11 (x0::x1::x2::x3::x4::x5::x6::x7::x8::x9::Aj::a::l) a a' (x0::x1::x2::x3::x4::x5::x6::x7::x8::x9::Aj::a'::l):=⟨rfl,rfl⟩
theorem p12{x0 x1 x2 x3 x4 x5 x6 x7 x8 x9 Aj Ak a a':Y6}{l:List Y6}:Rep 12 (x0::x1::x2::x3::x4::x5::x6::x7::x8::x9::Aj::Ak::a::l) a a' (x0::x1::x2::x3::x4::x5::x6::x7::x8::x9::Aj::Ak::a'::l):=⟨rfl,rfl⟩
theorem p13{x0 x1 x2 x3 x4 x5 x6 x7 x8 x9 Aj Ak Am a a':Y6}{l:List Y6}:Rep 13 (x0::x1::x2::x3::x4::x5::x6::x7::x8::x9::Aj::Ak::Am::a::l) a a' (x0::x1::x2::x3::x4::x5::x6::x7::x8::x9::Aj::Ak::Am::a'::l):=⟨rfl,rfl⟩
theorem p14{x0 x1 x2 x3 x4 x5 x6 x7 x8 x9 Aj Ak Am Ao a a':Y6}{l:List Y6}:Rep 14 (x0::x1::x2::x3::x4::x5::x6::x7::x8::x9::Aj::Ak::Am::Ao::a::l) a a' (x0::x1::x2::x3::x4::x5::x6::x7::x8::x9::Aj::Ak::Am::Ao::a'::l):=⟨rfl,rfl⟩
theorem p15{x0 x1 x2 x3 x4 x5 x6 x7 x8 x9 Aj Ak Am Ao Ap a a':Y6}{l:List Y6}:Rep 15 (x0::x1::x2::x3::x4::x5::x6::x7::x8::x9::Aj::Ak::Am::Ao::Ap::a::l) a a' (x0::x1::x2::x3::x4::x5::x6::x7::x8::x9::Aj::Ak::Am::Ao::Ap::a'::l):=⟨rfl,rfl⟩
theorem p16{x0 x1 x2 x3 x4 x5 x6 x7 x8 x9 Aj Ak Am Ao Ap Aq a a':Y6}{l:List Y6}:Rep 16 (x0::x1::x2::x3::x4::x5::x6::x7::x8::x9::Aj::Ak::Am::Ao::Ap::Aq::a::l) a a' (x0::x1::x2::x3::x4::x5::x6::x7::x8::x9::Aj::Ak::Am::Ao::Ap::Aq::a'::l):=⟨rfl,rfl⟩
theorem p18{x0 x1 x2 x3 x4 x5 x6 x7 x8 x9 Aj Ak Am Ao Ap Aq Ar Au a a':Y6}{l:List Y6}:Rep 18 (x0::x1::x2::x3::x4::x5::x6::x7::x8::x9::Aj::Ak::Am::Ao::Ap::Aq::Ar::Au::a::l) a a' (x0::x1::x2::x3::x4::x5::x6::x7::x8::x9::Aj::Ak::Am::Ao::Ap::Aq::Ar::Au::a'::l):=⟨rfl,rfl⟩
structure Xg(h0 h:Ws)(l:List Y6):Prop where
 x:Ext h0 h
 s:Sp h h0.size (fps l)p:AQi h l
namespace Xg
variable{h0 h h':Ws}{l l':List Y6}
abbrev L(_:Xg h0 h l):List Y6:=l
theorem k0(h:Ws):Xg h h []:=⟨Ext.refl h,A50 _ _,trivial⟩
theorem z(k:Xg h0 h l){cs:List ab}{x:Int}(e:Rep i l (aZ cs x) (aZ cs x) l'):cZ.rep h x cs:=AGn k.p e.1
theorem b(k:Xg h0 h l){i t b:Nat}{c:List ab}(e:Rep i l (aB t b c) (aB t b c) l'):Yz t h b c:=AGn k.p e.1
theorem o{c:Zx α}(k:Xg h0 h l){x:List α}(e:Rep i l (aO c el F v x) (aO c el F v x) l'):OwC c el h F v x:=AGn k.p e.1
theorem o2{c:Zx α}(k:Xg h0 h l){x:List (List α)}(e:Rep i l (aO2 c er el F Gs rs v x) (aO2 c er el F Gs rs v x) l'):Yv c er el h F Gs rs v x:=AGn k.p e.1
theorem c(k:Xg h0 h l){p:Prop}(e:Rep i l (aC p) (aC p) l'):p:=AGn k.p e.1
theorem zx(k:Xg h0 h l){cs:List ab}{x:Int}(H:cZ.rep h0 x cs):cZ.rep h x cs:=cZ.upT H k.x.upT
theorem lo(k:Xg h0 h l){a:Y6}(e:Rep i l a a l'):∀b∈a.F,h0.size<=b:=k.s.loAll i<|ACr e.1
theorem dj{l2:List Y6}(k:Xg h0 h l){i j:Nat}{a b:Y6}(e:Rep i l a a l')(f:Rep j l b b l2)(hij:i≠j):∀x∈a.F,x∉b.F:=k.s.dj i j (ACr e.1) (ACr f.1) hij
theorem e(k:Xg h0 h l)(E:Ext h h'):Xg h0 h' l:=⟨k.x.trans E,k.s.keep E.1,Ag5 k.p E.upT λ_ _ _ _=>by simp⟩
theorem n(k:Xg h0 h l)(E:Ext h h')(m:List Y6)(S:Sp h' h.size (fps m))(P:AQi h' m):Xg h0 h' (m++l):=⟨k.x.trans E,by rw[Abn];exact k.s.appF S E.1 k.x.1,Ac2 P (k.e E).p⟩
theorem nb(k:Xg h0 h l)(E:Ext h h'){b:Nat}{c:List ab}(S:Sp h' h.size [[b]])(V:Yz t h' b c):Xg h0 h' (aB t b c::l):=k.n E [aB t b c] S ⟨V,trivial⟩
theorem nb2(k:Xg h0 h l)(E:Ext h h'){b t2 b2:Nat}{c:List ab}(S:Sp h' h.size [[b],[b2]])(V:Yz t h' b c)(V2:Yz t2 h' b2 c2):Xg h0 h' (aB t b c::aB t2 b2 c2::l):=k.n E [aB t b c,aB t2 b2 c2] S ⟨V,V2,trivial⟩
theorem no{c:Zx α}(k:Xg h0 h l)(E:Ext h h'){x:List α}(S:Sp h' h.size [F])(V:OwC c el h' F v x):Xg h0 h' (aO c el F v x::l):=k.n E [aO c el F v x] S ⟨V,trivial⟩
theorem no2{c:Zx α}(k:Xg h0 h l)(E:Ext h h'){x:List (List α)}(S:Sp h' h.size [F])(V:Yv c er el h' F Gs rs v x):Xg h0 h' (aO2 c er el F Gs rs v x::l):=k.n E [aO2 c er el F Gs rs v x] S ⟨V,trivial⟩
theorem az(k:Xg h0 h l){cs:List ab}{x:Int}(Z:cZ.rep h x cs):Xg h0 h (aZ cs x::l):=k.n (Ext.refl h) [aZ cs x] (by exact⟨by simp[fps,aZ],λb hb=>by simp[fps,aZ]at hb⟩) ⟨Z,trivial⟩
theorem ac(k:Xg h0 h l){p:Prop}(H:p):Xg h0 h (aC p::l):=k.n (Ext.refl h) [aC p] (by exact⟨by simp[fps,aC],λb hb=>by simp[fps,aC]at hb⟩) ⟨H,trivial⟩
theorem anil(c:Zx α)(el:Nat)(k:Xg h0 h l):Xg h0 h (aO c el [] (.slice none 0 0) []::l):=k.n (Ext.refl h) [aO c el [] (.slice none 0 0) []] (by exact⟨by simp[fps,aO],λb hb=>by simp[fps,aO]at hb⟩) ⟨AU6 c el h,trivial⟩
theorem anil2(c:Zx α)(er el:Nat)(k:Xg h0 h l):Xg h0 h (aO2 c er el [] [] [] (.slice none 0 0) []::l):=k.n (Ext.refl h) [aO2 c er el [] [] [] (.slice none 0 0) []] (by exact⟨by simp[fps,aO2],λb hb=>by simp[fps,aO2]at hb⟩) ⟨AT7 c er el h,trivial⟩
theorem u(k:Xg h0 h l){a a':Y6}(e:Rep i l a a' l')(U:Yg a.F h h')(Ha:a'.P h')(hn:a'.F.Nodup)(hF:∀x∈a'.F,x<h'.size)(hs:∀x∈a'.F,x∈a.F∨h.size<=x):Xg h0 h' l':=by obtain⟨e,rfl⟩:=e;exact⟨k.x.thenT U<|k.s.loAll i<|ACr e,by rw[AXk];exact k.s.put i (ACr e) hn U.size k.x.1 hF hs,Aj2 k.p k.s e U Ha⟩
theorem ub(k:Xg h0 h l){b:Nat}{c:List ab}(e:Rep i l (aB t b c) (aB t b c') l')(U:Yg [b] h h')(V:Yz t h' b c'):Xg h0 h' l':=k.u e U V (by simp[aB]) (λx hx=>by simp[aB]at hx;subst hx;exact V.lt) λx hx=>.inl hx
theorem sb(k:Xg h0 h l){b:Nat}{c:List ab}(e:Rep i l (aB t b c) (aB t b c') l')(U:Upd (·=b) h h')(V:Yz t h' b c')(ht:b8 t 96=false):Xg h0 h' l':=k.ub e (V.stA U (AJg (AGn k.p e.1) ht) ht) V
theorem uo{c:Zx α}(k:Xg h0 h l){x x':List α}(e:Rep i l (aO c el F v x) (aO c el F' v' x') l')(U:Yg F h h')(V:OwC c el h' F' v' x')(hs:∀z∈F',z∈F∨h.size<=z):Xg h0 h' l':=k.u e U V V.nodup V.lt hs
theorem uO{c:Zx α}(k:Xg h0 h l){x x':List α}(e:Rep i l (aO c el F v x) (aO c el F v' x') l')(U:Yg F h h')(V:OwC c el h' F v' x'):Xg h0 h' l':=k.uo e U V λ_ h=>.inl h
theorem uo2{c:Zx α}(k:Xg h0 h l){x x':List (List α)}(e:Rep i l (aO2 c er el F Gs rs v x) (aO2 c er el F' Gs' rs' v' x') l')(U:Yg F h h')(V:Yv c er el h' F' Gs' rs' v' x')(hs:∀z∈F',z∈F∨h.size<=z):Xg h0 h' l':=k.u e U V V.nodup V.lt hs
theorem uO2{c:Zx α}(k:Xg h0 h l){x x':List (List α)}(e:Rep i l (aO2 c er el F Gs rs v x) (aO2 c er el F Gs' rs' v' x') l')(U:Yg F h h')(V:Yv c er el h' F Gs' rs' v' x'):Xg h0 h' l':=k.uo2 e U V λ_ h=>.inl h
theorem sel(k:Xg h0 h l)(is:List Nat)(hn:is.Nodup):Xg h0 h (AE4 l is):=⟨k.x,by rw[A03];exact k.s.sel is hn,by
  have:∀is:List Nat,AQi h (AE4 l is):=λis=>by induction is with
   |nil=>exact trivial|cons i is ih=>exact⟨Avn k.p i,ih⟩
  exact this is⟩
theorem m(k:Xg h0 h l){l1:List Y6}{a a' r:Y6}(er:Rep j l r (aC True) l1)(e:Rep i l1 a a' l')(hij:i≠j)(U:Yg a.F h h')(Ha:a'.P h')(hn:a'.F.Nodup)(hF:∀x∈a'.F,x<h'.size)(hs:∀x∈a'.F,x∈a.F++r.F∨h.size<=x):Xg h0 h' l':=by
 obtain⟨er,rfl⟩:=er;obtain⟨e',rfl⟩:=e;have e:l[i]?=some a:=by grind
 have S1:Sp h h0.size (fps<|l.set j<|aC True):=by rw[AXk];exact k.s.put j (ACr er) dW (aU _) k.x.1 (λx hx=>by simp[aC]at hx) λx hx=>by simp[aC]at hx
 refine⟨k.x.thenT U<|k.s.loAll i<|ACr e,?_,Aj2 (Afk k.p j) S1 e' U Ha⟩;rw[AXk,AXk];exact k.s.put2 i j (ACr e) (ACr er) hij hn U.size k.x.1 hF λx hx=>(hs x hx).elim (λh=>(ah.1 h).elim .inl λh=>.inr<|.inl h) λh=>.inr<|.inr h
theorem m2{c:Zx α}(k:Xg h0 h l){l1:List Y6}{x x':List (List α)}{y:List α}(er':Rep j l (aO c el R w y) (aC True) l1)(e:Rep i l1 (aO2 c er el F Gs rs v x) (aO2 c er el F' Gs' rs' v' x') l')(hij:i≠j)(U:Yg F h h')(V:Yv c er el h' F' Gs' rs' v' x')(hs:∀z∈F',z∈F++R∨h.size<=z):Xg h0 h' l':=k.m er' e hij U V V.nodup V.lt hs
end Xg
end Go.Proofs.YtgmdhndbcohgiaaGreatDoor
variable{a a' x0 x1 x2 x4:Go.Proofs.YtgmdhndbcohgiaaGreatDoor.Y6}{l:List Go.Proofs.YtgmdhndbcohgiaaGreatDoor.Y6}
namespace Go.QF
theorem AXl:∀u∈([]:List ab),isOne u=true:=λu h=>by cases h
theorem ALx{l:List ab}(h:isOne v=true)(H:∀u∈l,isOne u=true):∀u∈v::l,isOne u=true:=λu hu=>(aM.1 hu).elim (λe=>e▸h) (H u)
section
variable{P:aA}{B:Ws->Prop}{st:Bool}{ops:Array au}{rest:List au}{e:Env}{h:Ws}{K:Env->Ws->Prop}{d:Nat}{ty:bw}{pos:String}{af:Array Edge}
end
theorem Avp(l:List ab):(l.map λr=>[r]).flatten=l:=by induction l with|nil=>rfl|cons a L ih=>simp[ih]
def Aam{α:Type}(c:Zx α)(el:Nat)(h:Ws):List (List Nat)->List ab->List (List α)->Prop|[],[],[]=>True|G::Gs,r::rs,L::M=>OwC c el h G r L/\Aam c el h Gs rs M|_,_,_=>False
theorem Aam.len{α:Type}{c:Zx α}{el:Nat}{h:Ws}:∀{Gs:List (List Nat)}{rs:List ab}{M:List (List α)},Aam c el h Gs rs M->rs.length=M.length/\Gs.length=M.length|[],[],[],_=>⟨rfl,rfl⟩|G::Gs,r::rs,L::M,H=>by have:=Aam.len H.2;simp[this.1,this.2]
theorem Aam.get{α:Type}{c:Zx α}{el:Nat}{h:Ws}:∀{Gs:List (List Nat)}{rs:List ab}{M:List (List α)},Aam c el h Gs rs M->∀(i:Nat)(G:List Nat)(r:ab)(L:List α),Gs[i]?=some G->rs[i]?=some r->M[i]?=some L->OwC c el h G r L|[],[],[],_,i,G,r,L,h1,_,_=>by simp at h1|G0::Gs,r0::rs,L0::M,H,0,G,r,L,h1,h2,h3=>by simp at h1 h2 h3;subst h1;subst h2;subst h3;exact H.1|G0::Gs,r0::rs,L0::M,H,i+1,G,r,L,h1,h2,h3=>Aam.get H.2 i G r L (by simpa using h1) (by simpa using h2) (by simpa using h3)
section
variable{P:aA}{B:Ws->Prop}{st:Bool}{ops:Array au}{rest:List au}{e:Env}{h:Ws}{K:Env->Ws->Prop}{d:Nat}{ty:bw}{pos:String}{af:Array Edge}
theorem Asa{c:Zx α}(Gs:List (List Nat))(rs:List ab)(M:List (List α)){n:Nat}{z:ab}(hT:SlT P t er 1)(hz:ZeT P er z bytes)(h1:isOne z=true)(hel:b8 er 96=false)(hb:B h)(hBE:∀h',Ext h h'->B h')(hn:rs.length=n)(Aa:bZ n 16777216=true)(hpos:bZ 1 n=true)(hp:(parts.map λ(i,x)=>(i,e.ev x))=partsOf 0 rs)(hone:∀u∈rs,isOne u=true)(hr:Aam c el h Gs rs M)(hnd:Gs.flatten.Nodup)(H:∀b v h',Yv c er el h' (b::Gs.flatten) Gs rs v M->Ext h h'->(∀z∈b::Gs.flatten,z∈Gs.flatten∨h.size<=z)->RL P B st ops rest (e.set d v) h' K):RL P B st ops (⟨some d,.buildSlice t n parts.toArray,ty,pos,af,none⟩::rest) e h K:=by
 have Aa:=aw Aa;have E:Ext h (h.push<|.cells rs.toArray er (0,0)):=Zt _ _;have HO:AFi (h.push<|.cells rs.toArray er (0,0)) er 1 h.size (.slice (some ⟨h.size,0,none⟩) n n) (rs.map λr=>[r]):=⟨n,rs.toArray,by rw[aI,hn],W4,by simp[hn],by unfold maxLen;omega,by simp[hn],λr hr=>by obtain⟨a,_,rfl⟩:=ct.1 hr;rfl,by rw[Avp];simp⟩;have hlt:∀z∈Gs.flatten,z<h.size:=λz hz=>by
  obtain⟨G,hG,hzG⟩:=cW.1 hz;obtain⟨i,hi⟩:=ca hG;have hi':=(ar.1 hi).1;have hl:=hr.len;exact(hr.get i G (rs[i]'Wq) (M[i]'Wq) hi (aa _)<|aa _).lt z hzG
 refine At2 rs hT hz h1 hb hn Aa (aw hpos) hp hone ⟨hBE _ E,H h.size _ _ (.inr ⟨h.size,rfl,?_,HO,hel,hr.len.1,hr.len.2,λi G r L a1 a2 a3=>(hr.get i G r L a1 a2 a3).ext E⟩) E λz hz=>?_⟩;.exact cv.2 ⟨λhm=>by have:=hlt _ hm;omega,hnd⟩
 .rcases aM.1 hz with rfl|h2;.exact .inr<|aU _
  .exact .inl h2
end
end Go.QF
namespace Go.Proofs.YtgmdhndbcohgiaaGreatDoor
def aT(F:List Nat):Y6:=⟨F,λh=>∀b∈F,AKf h b,λ{G h h'}U d H b hb=>by obtain⟨o,h1,h2⟩:=H b hb;exact⟨o,(U.1.2 b (ao.1 h1).1<|d b hb).trans h1,h2⟩⟩
namespace Xg
variable{h0 h h':Ws}{l l':List Y6}
theorem a0(k:Xg h0 h l):Xg h0 h (aT []::l):=k.n (Ext.refl h) [aT []] (by exact⟨by simp[fps,aT],λb hb=>by simp[fps,aT]at hb⟩) ⟨λb hb=>by simp at hb,trivial⟩
theorem grab{c:Zx α}{y:List α}(k:Xg h0 h (aT F::l))(e:Rep j l (aO c el R w y) (aC True) l'):Xg h0 h (aT (F++R)::l'):=by
 obtain⟨e,rfl⟩:=e;have HR:OwC c el h R w y:=AGn k.p.2 e;have e1:(fps (aT F::l))[j+1]?=some R:=(ACr e:(fps l)[j]?=some R);have e0:(fps (aT F::l))[0]?=some F:=rfl;have hd:=k.s.dj 0 (j+1) e0 e1 Wq;have hF:F.Nodup:=(bK.1 k.s.1).1;have:=k.s.put2 0 (j+1) (F':=F++R) e0 e1 Wq (bK.2 ⟨hF,HR.nodup,λa ha b hb hab=>hd a ha<|hab▸hb⟩) (aU _) k.x.1 (λx hx=>(ah.1 hx).elim (λh=>(k.s.lo 0 e0 x h).2) λh=>HR.lt x h) λx hx=>(ah.1 hx).elim .inl λh=>.inr<|.inl h;refine⟨k.x,?_,λb hb=>(ah.1 hb).elim (k.p.1 b) (HR.notD b),Afk k.p.2 j⟩;have e2:fps (aT (F++R)::l.set j (aC True))=((fps (aT F::l)).set (j+1) []).set 0 (F++R):=by
  show(F++R)::fps (l.set j<|aC True)=_;rw[AXk];rfl
 rw[e2];exact this
theorem lit{c:Zx α}{x:List (List α)}(k:Xg h0 h (aT F::l))(E:Ext h h')(V:Yv c er el h' F' Gs rs v x)(hs:∀z∈F',z∈F∨h.size<=z):Xg h0 h' (aO2 c er el F' Gs rs v x::l):=k.u p0 (E.upT.mono (λx hx=>by simp at hx) λx hx _=>k.p.1 x hx) V V.nodup V.lt hs
end Xg
end Go.Proofs.YtgmdhndbcohgiaaGreatDoor
namespace Go.QF
section
variable{P:aA}{B:Ws->Prop}{st:Bool}{ops:Array au}{rest:List au}{e:Env}{h:Ws}{K:Env->Ws->Prop}{d:Nat}{ty:bw}{pos:String}{af:Array Edge}
theorem A6k{z u:ab}(hT:SlT P t er 1)(hz:ZeT P er z bytes)(h1:isOne z=true)(hb:B h)(hBE:∀h',Ext h h'->B h')(hp:(parts.map λ(i,x)=>(i,e.ev x))=partsOf 0 [u,v])(hu:isOne u=true)(hv:isOne v=true)(H:∀b h',Yz er h' b [u,v]->Ext h h'->Sp h' h.size [[b]]->RL P B st ops rest (e.set d<|.slice (some ⟨b,0,none⟩) 2 2) h' K):RL P B st ops (⟨some d,.buildSlice t 2 parts.toArray,ty,pos,af,none⟩::rest) e h K:=by have E:Ext h (h.push<|.cells [u,v].toArray er (0,0)):=Zt _ _;exact At2 [u,v] hT hz h1 hb rfl Wr Wr hp λx hx=>by simp at hx;rcases hx with rfl|rfl<;>assumption ⟨hBE _ E,H h.size _ (by unfold Yz;simp) E<|AFj (aU _) W4⟩
theorem A4r{i:bC}{b:Nat}{n:Int}(k:Nat)(hT:SlT P t er 1)(hx:e.ev x=.slice (some ⟨b,0,none⟩) 2 2)(hi:e.ev i=.int κ n)(hn:n=(k:Int))(hk:k<2)(H:RL P B st ops rest (e.set d<|.pointer<|some ⟨b,k,none⟩) h K):RL P B st ops (⟨some d,.indexAddr t x i,ty,pos,af,none⟩::rest) e h K:=by
 subst hn;refine Ai9 hT hx hi Wq Wq ?_;have:(⟨b,0,none⟩:Addr).add ((k:Int).toNat*1)=⟨b,k,none⟩:=by simp[Addr.add];intro h;exact h.symm
 rw[this];exact H
end
theorem Avq{Ls:List (List ab)}(H:AFi h el 1 g v Ls):AAh h el g v Ls.flatten:=by obtain⟨cap,cur,rfl,h1,h2,h3,h4,h5,h6⟩:=H;have hl:=AGm h5;exact⟨cap,cur,by grind,h1,by rw[hl];omega,h3,Wq,by grind⟩
theorem A6l{L:List Int}{Ls:List (List ab)}(H:Al (cI κ) h L Ls):Ls=L.map λx=>[.int κ x]:=by
 refine aJ λi=>?_;rw[aY];rcases cQ i L.length with hi|hi;.obtain⟨cs,h1,h2⟩:=H.get<|aa hi;rw[h1,aa hi];obtain rfl:cs=_:=h2;rfl
 .rw[av (by rw[H.1];exact hi),av hi];rfl
theorem A6m(L:List Int):Al (cI κ) h L (L.map λx=>[.int κ x]):=⟨W4,λi cs a h1 h2=>by rw[aY,h2]at h1;injection h1 with h1;exact h1▸rfl⟩
theorem BAu(κ:dq)(L:List Int):(L.map λx=>[an κ x]).flatten=L.map (.int κ):=by induction L with|nil=>rfl|cons a L ih=>simp[ih]
theorem SlC.drop{α:Type}{c:Zx α}{h:Ws}{a:Option Addr}{n cap k:Nat}{L:List α}(H:SlC c h (.slice a n cap) L)(hk:k<=n)(hc:n<=cap):SlC c h (.slice (if cap=k then a else a.map (·.add<|k*c.k)) (n-k)<|cap-k) (L.drop k):=by
 obtain⟨Ls,⟨a',cap',hv,hcell⟩,HA⟩:=H;injection hv with h1 h2 h3;subst h1;subst h2;subst h3;refine⟨Ls.drop k,⟨_,_,by rw[List.length_drop],λi r hr=>?_⟩,by simp[HA.1],λi cs x h1 h2=>?_⟩
 .rw[bP]at hr;have hl:=(ar.1 hr).1;obtain⟨b,o,rfl,h2⟩:=hcell _ r hr;refine⟨b,o+k*c.k,?_,λj x hx=>?_⟩;.rw[if_neg Wq];simp[Addr.add]
  grind
 .rw[bP]at h1 h2;exact HA.2 _ cs x h1 h2
theorem SlC.take{α:Type}{c:Zx α}{h:Ws}{a:Option Addr}{n cap k:Nat}{L:List α}(H:SlC c h (.slice a n cap) L)(hk:k<=n):SlC c h (.slice a k cap) (L.take k):=by
 obtain⟨Ls,⟨a',cap',hv,hcell⟩,HA⟩:=H;injection hv with h1 h2 h3;subst h1;subst h2;subst h3;refine⟨Ls.take k,⟨_,_,by rw[bE,Nat.min_eq_left hk],λi r hr=>?_⟩,by simp[HA.1],λi cs x h1 h2=>?_⟩;.grind
 .have hl:=(ar.1 h1).1;rw[List.getElem?_take_of_lt (by simp at hl;omega)]at h1 h2;exact HA.2 _ cs x h1 h2
theorem SlC.len{c:Zx α}{L:List α}(H:SlC c h v L):∃a cap,v=.slice a L.length cap:=by obtain⟨Ls,⟨a,cap,rfl,_⟩,HA⟩:=H;exact⟨a,cap,by rw[HA.1]⟩
theorem OwC.cap{α:Type}{c:Zx α}{el:Nat}{h:Ws}{F:List Nat}{v:ab}{L:List α}(H:OwC c el h F v L):AK4 v:=by
 rcases H with⟨rfl,rfl,_⟩|⟨g,Ls,rfl,⟨cap,cur,rfl,_,h2,_⟩,_⟩;.exact AZd
 .exact⟨_,_,_,rfl,h2⟩
theorem Yv.rowCap{c:Zx α}{M:List (List α)}(H:Yv c er el h F Gs rs v M){n:Int}{r:ab}{L:List α}(hr:rs[n.toNat]?=some r)(hL:gI M n=some L):AK4 r:=by obtain⟨m,rfl,hL0⟩:=ACq hL;rw[bT]at hr;obtain⟨G,_,HR,_⟩:=H.row hr hL0;exact HR.cap
section
variable{P:aA}{B:Ws->Prop}{st:Bool}{ops:Array au}{rest:List au}{e:Env}{h:Ws}{K:Env->Ws->Prop}{d d' d2:Nat}{ty ty2 ty3:bw}{pos pos2 pos3:String}{af af2 af3:Array Edge}
theorem Afl{c:Zx α}{L:List α}{k:Int}(hT:SlT P t el c.k)(hx:e.ev x=v)(HS:SlC c h0 v L)(hc:AK4 v)(hy:e.ev y=.int κ k)(hk:0<=k/\k<=L.length)(H:∀v',(∀{h1},SlC c h1 v L->SlC c h1 v' (L.drop k.toNat))->AK4 v'->RL P B st ops rest (e.set d v') h K):RL P B st ops (⟨some d,.slice t x (some y) none none,ty,pos,af,none⟩::rest) e h K:=by obtain⟨m,rfl⟩:∃m:Nat,k=m:=⟨k.toNat,Wq⟩;obtain⟨a,n,cp,rfl,hnc⟩:=hc;obtain⟨a',c',hv⟩:=HS.len;injection hv with _ hn _;exact Ajc hT hx hy Wq hnc<|H _ (λH1=>H1.drop Wq hnc) ⟨_,_,_,rfl,Wq⟩
theorem A04{s i:bC}{tn er0 tr:Nat}{r:ab}{κ' kn κz:dq}{n k:Int}{M:List (List Int)}{L:List Int}(hT:SlT P t el 1)(hN:ATi P tn kn)(hz:ZeT P el (.int κz 0) bytes)(hTr:SlT P tr er0 1)(htl:NaT P tl)(HO:Yv (cI κz) er el h F Gs rs v M)(hr:rs[n.toNat]?=some r)(hL:gI M n=some L)(hb0:B h)(hbB:∀h',Yg F h h'->B h')(hs:e.ev s=r)(hy:e.ev y=.int κ' k)(hx:∀w,(e.set d' w).ev x=v)(hi:∀w,(e.set d' w).ev i=.int κ n)(hdd:b8 d' d2=false)(hby:bytes<=1000)(hk:0<L.length/\L.length<=100000/\0<k/\k<=100000)(H:∀q F' Gs' rs' v' h',Yv (cI κz) er el h' F' Gs' rs' v (sI M n<|L++bc k.toNat 0)->Yg F h h'->(∀x∈F',x∈F∨h.size<=x)->RL P B st ops rest ((e.set d' v').set d2 q) h' K):RL P B st ops (⟨some d',.call ⟨.builtin .append,#[s,y],#[t,tn]⟩,ty,pos,af,none⟩::⟨some d2,.indexAddr tr x i,ty2,pos2,af2,none⟩::⟨none,.store tl (.tmp d2)<|.tmp d',ty3,pos3,af3,none⟩::rest) e h K:=by
 obtain⟨m,rfl,hL0⟩:=ACq hL;obtain⟨k,rfl⟩:∃j:Nat,k=j:=⟨k.toNat,Wq⟩;rw[bT]at hr;obtain⟨G,hG,HR,hGF⟩:=HO.row hr hL0;have hndF:=HO.notD;rcases HR with⟨rfl,_⟩|⟨g,Ls,rfl,h2,h3,h4⟩;.simp at hk
 obtain rfl:=A6l h3;have HA:=Avq h2;rw[BAu]at HA;have hmul:(L.length+k)*bytes<=200000*1000:=dY Wq hby;refine A5y hT hN hz rfl hb0 hs HA hy Wq (by grind) (by grind) λv1 g' h1 HO1 hg' U hc=>?_;obtain⟨cur,hc⟩:=hc;have U1:Yg [g] h h1:=AMm U W4 (λb hb _=>hndF b<|hGF b hb) ⟨_,hc,h4⟩;have e1:(L.map (an κz)++bc k (an κz 0)).map (λx=>[x])=(L++bc k 0).map λx=>[an κz x]:=by simp
 have HK:=Abi HO1;rw[e1]at HK;refine⟨hbB _<|U1.mono hGF λx hx _=>hndF x hx,?_⟩;have HR1:OwC (cI κz) el h1 [g'] v1 (L++bc k 0):=.inr ⟨g',_,rfl,HK,A6m _,h4⟩;exact Afd hTr htl HO hL0 hG HR1 U1 λx hx=>by grind (hx v1) (hi v1) λw=>by
  show(bif b8 d' d2 then _ else bif b8 d' d' then _ else _)=_;simp_all λq F' Gs' rs' h' H1 H2 H3=>H q F' Gs' rs' v1 h' H1 H2 H3
end
end Go.QF
namespace Go.Proofs.YtgmdhndbcohgiaaGreatDoor
section
variable{P:aA}{B:Ws->Prop}{st:Bool}{ops:Array au}{rest:List au}{e:Env}{h h0:Ws}{C:Env->Ws->Prop}{l l':List Y6}{d d2:Nat}{ty ty2:bw}{pos pos2:String}{af af2:Array Edge}
theorem Aj3{f off ft b o:Nat}{c:List ab}{u:ab}(hf:FdT P t f off ft)(htl:NaT P tl)(HB:Yz tb h b c)(i:Nat)(hc:c[i]?=some u)(H:RL P B false ops rest ((e.set d<|.pointer<|some ⟨b,i,none⟩).set d2 u) h C)(hx:e.ev x=.pointer (some ⟨b,o,none⟩):=by rfl)(hi:o+off=i:=by rfl)(hs:((P.info? ft).map λq=>bZ 1 q.size)=some true:=by kernel_rfl):RL P B false ops (⟨some d,.fieldAddr t x f,ty,pos,af,none⟩::⟨some d2,.load tl<|.tmp d,ty2,pos2,af2,none⟩::rest) e h C:=by subst hi;obtain⟨q,hq,hs2⟩:=Option.map_eq_some_iff.1 hs;have hs3:=aw hs2;exact AA8 (fs:=q.size) hf (by rw[hq];rfl) Wq hx<|Yf htl (Env.set_same _ _ _) (HB.cell hc) H
theorem Avr{c:Zx α}{i:bC}{M:List (List α)}{κ:dq}{n:Int}{L:List α}(hT:SlT P t el0 1)(htl:NaT P tl)(HO:Yv c er el h F Gs rs v M)(ha:gI M n=some L)(H:∀p r,rs[n.toNat]?=some r->RL P B false ops rest ((e.set d p).set d2 r) h C)(hx:e.ev x=v:=by rfl)(hi:e.ev i=.int κ n:=by rfl):RL P B false ops (⟨some d,.indexAddr t x i,ty,pos,af,none⟩::⟨some d2,.load tl<|.tmp d,ty2,pos2,af2,none⟩::rest) e h C:=AT8 hT hx HO hi ha λb r _ hr hc=>Yf htl (Env.set_same _ _ _) hc<|H _ r hr
theorem BAv{c:Zx α}{i:bC}{κ:dq}{n:Int}{M:List (List α)}{L:List α}(hT:SlT P t el0 1)(htl:NaT P tl)(HS:Zv c h1 v M)(E:Ext h1 h)(ha:gI M n=some L)(H:∀p r,SlC c h1 r L->RL P B false ops rest ((e.set d p).set d2 r) h C)(hx:e.ev x=v:=by rfl)(hi:e.ev i=.int κ n:=by rfl):RL P B false ops (⟨some d,.indexAddr t x i,ty,pos,af,none⟩::⟨some d2,.load tl<|.tmp d,ty2,pos2,af2,none⟩::rest) e h C:=ARd hT hx HS hi ha λb o r hc hs=>Yf htl (Env.set_same _ _ _) (Yq hc E)<|H _ r hs
theorem Ac3{b:Nat}{z:Int}{cs:List ab}(zf:cZ.rep h z cs)(HB:Yz tb h b cs)(H:RL Tryz.prog B false ops rest (e.set d<|.agg cs.toArray) h C)(hx:e.ev x=.pointer (some ⟨b,0,none⟩):=by rfl):RL Tryz.prog B false ops (⟨some d,.load 32 x,ty,pos,af,none⟩::rest) e h C:=AQ7 cs Ye (cZ.klen zf) hx HB.agg H
theorem AMd{b:Nat}{z z':Int}{c:List ab}(k:Xg h0 h l)(p:Rep i l (aB tb b c) (aB tb b c') l')(zo:cZ.rep h z c)(zn:cZ.rep h z' c')(H:∀h',Xg h0 h' l'->RL Tryz.prog B st ops rest e h' C)(hx:e.ev x=.pointer (some ⟨b,0,none⟩):=by rfl)(hy:e.ev y=.agg c'.toArray:=by rfl)(ht:b8 tb 96=false:=by rfl):RL Tryz.prog B st ops (⟨none,.store 32 x y,ty,pos,af,none⟩::rest) e h C:=AAn c' Ye (cZ.klen zn) (cZ.klen zo) hx hy (cZ.one zn) (AGn k.p p.1) λh' I U=>H h'<|k.sb p U I ht
theorem Aan(k:Xg h0 h l)(c:List ab)(H:∀b h',Ext h h'->Xg h0 h' (aB t b c::l)->RL P (λ_=>True) st ops rest (e.set d<|.pointer<|some ⟨b,0,none⟩) h' C)(hx:e.ev x=v:=by rfl)(hl:v.cells=c.toArray:=by rfl):RL P (λ_=>True) st ops (⟨some d,.box t x,ty,pos,af,none⟩::rest) e h C:=Acq c trivial (λ_ _=>trivial) hx hl λb h' V E S=>H b h' E<|k.nb E S V
theorem AK8{z:ab}(k:Xg h0 h l)(c:List ab)(hz:ZeT P t z bytes)(H:∀b h',Ext h h'->Xg h0 h' (aB t b c::l)->RL P (λ_=>True) st ops rest (e.set d<|.pointer<|some ⟨b,0,none⟩) h' C)(hl:z.cells=c.toArray:=by rfl):RL P (λ_=>True) st ops (⟨some d,.alloc t,ty,pos,af,none⟩::rest) e h C:=ARe c hz hl trivial (λ_ _=>trivial) λb h' V E S=>H b h' E<|k.nb E S V
theorem Ag6{a:List ab}(k:Xg h0 h l)(HC:W6 P f a.toArray h λx h'=>Ext h h'/\x=v)(H:∀h',Ext h h'->Xg h0 h' l->RL P (λ_=>True) st ops rest (e.set d v) h' C)(hxs:xs.map e.ev=a:=by rfl):RL P (λ_=>True) st ops (⟨some d,.call ⟨.value<|.func f,xs.toArray,ts⟩,ty,pos,af,none⟩::rest) e h C:=ADs trivial (λ_ _=>trivial) hxs HC λx h' E hk=>by subst hk;exact H h' E<|k.e E
theorem Asb{a:List ab}(k:Xg h0 h l)(HC:W6 P f a.toArray h λx h'=>Ext h h'/\∃x0:ab,x=x0/\ZZ h' x0 r)(H:∀cs h',Ext h h'->Xg h0 h' (aZ cs r::l)->RL P (λ_=>True) st ops rest (e.set d<|.agg cs.toArray) h' C)(hxs:xs.map e.ev=a:=by rfl):RL P (λ_=>True) st ops (⟨some d,.call ⟨.value<|.func f,xs.toArray,ts⟩,ty,pos,af,none⟩::rest) e h C:=ADs trivial (λ_ _=>trivial) hxs HC λx h' E hk=>by obtain⟨x0,rfl,Z⟩:=hk;obtain⟨cs,rfl,Z2⟩:=Z.cs;exact H cs h' E<|(k.e E).az Z2
theorem AXm{b:Nat}{z:Int}{cs:List ab}{a:Ws}(zf:cZ.rep h z cs)(U:Yg [] a h)(HB:Yz tb a b cs)(H:RL Tryz.prog (λh'=>Yg [] a h') true ops rest (e.set d<|.agg cs.toArray) h C)(hx:e.ev x=.pointer (some ⟨b,0,none⟩):=by rfl):RL Tryz.prog (λh'=>Yg [] a h') true ops (⟨some d,.load 32 x,ty,pos,af,none⟩::rest) e h C:=AEa (B:=λh'=>Yg [] a h') cs Ye (cZ.klen zf) hx U (λh' hb=>(HB.ext hb.ext).agg) H
theorem A4s{a:List ab}{g:Ws}(k:Xg h0 h l)(U:Yg [] g h)(HC:W6 P f a.toArray h λx h'=>Ext h h'/\x=v)(H:∀h',Ext h h'->Xg h0 h' l->Yg [] g h'->RL P (λh'=>Yg [] g h') st ops rest (e.set d v) h' C)(hxs:xs.map e.ev=a:=by rfl):RL P (λh'=>Yg [] g h') st ops (⟨some d,.call ⟨.value<|.func f,xs.toArray,ts⟩,ty,pos,af,none⟩::rest) e h C:=ADs (B:=λh'=>Yg [] g h') U (λ_ E=>U.thenE E) hxs HC λx h' E hk=>by subst hk;exact H h' E (k.e E)<|U.thenE E
theorem AXn{a:List ab}{g:Ws}(k:Xg h0 h l)(U:Yg [] g h)(HC:W6 P f a.toArray h λx h'=>Ext h h'/\∃x0:ab,x=x0/\ZZ h' x0 r)(H:∀cs h',Ext h h'->Xg h0 h' (aZ cs r::l)->Yg [] g h'->RL P (λh'=>Yg [] g h') st ops rest (e.set d<|.agg cs.toArray) h' C)(hxs:xs.map e.ev=a:=by rfl):RL P (λh'=>Yg [] g h') st ops (⟨some d,.call ⟨.value<|.func f,xs.toArray,ts⟩,ty,pos,af,none⟩::rest) e h C:=ADs (B:=λh'=>Yg [] g h') U (λ_ E=>U.thenE E) hxs HC λx h' E hk=>by obtain⟨x0,rfl,Z⟩:=hk;obtain⟨cs,rfl,Z2⟩:=Z.cs;exact H cs h' E ((k.e E).az Z2)<|U.thenE E
end
section
variable{P:aA}{Q:bX->Env->Ws->Prop}{e:Env}{h h0:Ws}
theorem Ac4{c:cj}{X S E R:Type}{body:S->Option (S⊕E)}{f:E->Option R}{r:R}(m:Nat)(D:X->S)(x0:X)(hp:(iter body fuel<|D x0).bind f=some r)(live:X->List (Nat×ab))(A:X->List Y6)(k:Xg h0 h (A x0))(hl:AMf (live x0) e)(H:∀x s h' y,Xg h0 h' (A x)->body (D x)=some y->(∀z,y=.inr z->f z=some r)->W P c (AEw (λe' h''=>∃x',y=.inl (D x')/\Xg h0 h'' (A x')/\AMf (live x') e') Q) (setL (live x)<|mix m s e) h')(hm:ATx m c=true:=by kernel_rfl):W P (.loop c) Q e h:=by
 obtain⟨ex,hL,hp'⟩:=Xq hp;refine AB5 m live (λk x h'=>iter body k (D x)=some ex/\Xg h0 h' (A x)) hm fuel x0 ⟨hL,k⟩ hl λk x s h' hk=>?_;obtain⟨hk,K⟩:=hk;obtain⟨k',y,rfl,hb,hr⟩:=Ar1 hk;refine W.mono (λex' e' h'' hq=>?_) (H x s h' y K hb λz hz=>by subst hz;obtain rfl:z=ex:=hr;exact hp');cases ex'<;>first|exact hq|skip
 obtain⟨x',rfl,h2,h3⟩:=hq;exact⟨k',x',Nat.lt_succ_self _,⟨hr,h2⟩,h3⟩
theorem Ac5{c:cj}{S E R:Type}{body:S->Option (S⊕E)}{f:E->Option R}{r:R}{x0:S}(m:Nat)(hp:(iter body fuel x0).bind f=some r)(live:S->List (Nat×ab))(A:S->List Y6)(k:Xg h0 h (A x0))(hl:AMf (live x0) e)(H:∀x s h' y,Xg h0 h' (A x)->body x=some y->(∀z,y=.inr z->f z=some r)->W P c (AEw (λe' h''=>∃x',y=.inl x'/\Xg h0 h'' (A x')/\AMf (live x') e') Q) (setL (live x)<|mix m s e) h')(hm:ATx m c=true:=by kernel_rfl):W P (.loop c) Q e h:=Ac4 m (λs=>s) x0 hp live A k hl H hm
end
end Go.Proofs.YtgmdhndbcohgiaaGreatDoor
namespace Go.QF
section
variable{P:aA}{B:Ws->Prop}{st:Bool}{ops:Array au}{rest:List au}{e:Env}{h:Ws}{K:Env->Ws->Prop}{ty:bw}{pos:String}{af:Array Edge}
theorem BDw{dst:Option Nat}{op:Op}(t:Nat)(b:Bool)(H:RL P B st ops (⟨dst,op,ty,pos,af,none⟩::rest) e h K)(ht:ops[j]?.bind (·.dst)=some t:=by kernel_rfl)(hv:e t=.bool b:=by rfl)(hb:(b==want)=true:=by rfl):RL P B st ops (⟨dst,op,ty,pos,af,some (j,want)⟩::rest) e h K:=Yh t b ht hv hb H
theorem BAw{dst:Option Nat}{op:Op}(t:Nat)(b:Bool)(H:RL P B st ops rest (e.put dst undef) h K)(ht:ops[j]?.bind (·.dst)=some t:=by kernel_rfl)(hv:e t=.bool b:=by rfl)(hb:(b==want)=false:=by rfl):RL P B st ops (⟨dst,op,ty,pos,af,some (j,want)⟩::rest) e h K:=X8 t b ht hv hb H
end
section
variable{P:aA}{B:Ws->Prop}{st:Bool}{ops:Array au}{rest:List au}{e:Env}{h:Ws}{K:Env->Ws->Prop}{y1 y2 y3 y4 y5 y6:bw}{z1 z2 z3 z4 z5 z6:String}{a1 a2 a3 a4 a5 a6:Array Edge}{d1 d2 d3 d4 d5 d6:Option Nat}{o1 o2 o3 o4 o5 o6:Op}{j:Nat}{want:Bool}
theorem BAx(t:Nat)(b:Bool)(H:RL P B st ops rest ((e.put d1 undef).put d2 undef) h K)(ht:ops[j]?.bind (·.dst)=some t:=by kernel_rfl)(hb:(b==want)=false:=by rfl)(v1:e t=.bool b:=by rfl)(v2:(e.put d1 undef) t=.bool b:=by rfl):RL P B st ops (⟨d1,o1,y1,z1,a1,some (j,want)⟩::⟨d2,o2,y2,z2,a2,some (j,want)⟩::rest) e h K:=X8 t b ht v1 hb<|X8 t b ht v2 hb H
theorem BAy(t:Nat)(b:Bool)(H:RL P B st ops rest (((e.put d1 undef).put d2 undef).put d3 undef) h K)(ht:ops[j]?.bind (·.dst)=some t:=by kernel_rfl)(hb:(b==want)=false:=by rfl)(v1:e t=.bool b:=by rfl)(v2:(e.put d1 undef) t=.bool b:=by rfl)(v3:((e.put d1 undef).put d2 undef) t=.bool b:=by rfl):RL P B st ops (⟨d1,o1,y1,z1,a1,some (j,want)⟩::⟨d2,o2,y2,z2,a2,some (j,want)⟩::⟨d3,o3,y3,z3,a3,some (j,want)⟩::rest) e h K:=BAx t b (X8 t b ht v3 hb H) ht hb v1 v2
theorem BAz(t:Nat)(b:Bool)(H:RL P B st ops rest ((((e.put d1 undef).put d2 undef).put d3 undef).put d4 undef) h K)(ht:ops[j]?.bind (·.dst)=some t:=by kernel_rfl)(hb:(b==want)=false:=by rfl)(v1:e t=.bool b:=by rfl)(v2:(e.put d1 undef) t=.bool b:=by rfl)(v3:((e.put d1 undef).put d2 undef) t=.bool b:=by rfl)(v4:(((e.put d1 undef).put d2 undef).put d3 undef) t=.bool b:=by rfl):RL P B st ops (⟨d1,o1,y1,z1,a1,some (j,want)⟩::⟨d2,o2,y2,z2,a2,some (j,want)⟩::⟨d3,o3,y3,z3,a3,some (j,want)⟩::⟨d4,o4,y4,z4,a4,some (j,want)⟩::rest) e h K:=BAy t b (X8 t b ht v4 hb H) ht hb v1 v2 v3
theorem BGc(t:Nat)(b:Bool)(H:RL P B st ops rest (((((e.put d1 undef).put d2 undef).put d3 undef).put d4 undef).put d5 undef) h K)(ht:ops[j]?.bind (·.dst)=some t:=by kernel_rfl)(hb:(b==want)=false:=by rfl)(v1:e t=.bool b:=by rfl)(v2:(e.put d1 undef) t=.bool b:=by rfl)(v3:((e.put d1 undef).put d2 undef) t=.bool b:=by rfl)(v4:(((e.put d1 undef).put d2 undef).put d3 undef) t=.bool b:=by rfl)(v5:((((e.put d1 undef).put d2 undef).put d3 undef).put d4 undef) t=.bool b:=by rfl):RL P B st ops (⟨d1,o1,y1,z1,a1,some (j,want)⟩::⟨d2,o2,y2,z2,a2,some (j,want)⟩::⟨d3,o3,y3,z3,a3,some (j,want)⟩::⟨d4,o4,y4,z4,a4,some (j,want)⟩::⟨d5,o5,y5,z5,a5,some (j,want)⟩::rest) e h K:=BAz t b (X8 t b ht v5 hb H) ht hb v1 v2 v3 v4
end
section
variable{P:aA}{Q:bX->Env->Ws->Prop}{K:Env->Ws->Prop}{e:Env}{h:Ws}{B:Ws->Prop}{st:Bool}{ops:Array au}{d:Nat}{ty:bw}{pos:String}{af:Array Edge}
theorem Xl(H:K e h):RL P B st ops [] e h (AEw K Q .normal):=W0<|Xr H
theorem Xd{l:List au}{b:cj}(H:RL P (λ_=>True) false l.toArray l e h (AEw (λe h=>W P b Q e h) Q .normal)):W P (.seq (.region id l.toArray false) b) Q e h:=Wx<|W5 H
theorem Xu(H:K (e.mv d x) h):RL P B st ops [⟨some d,.assign x,ty,pos,af,none⟩] e h (AEw K Q .normal):=X4<|W0<|Xr H
theorem ADt{Q':bX->Env->Ws->Prop}{l:List au}{b:cj}(H:RL P (λ_=>True) false l.toArray l (e.mv d x) h (AEw (λe h=>W P b Q e h) Q .normal)):RL P B st ops [⟨some d,.assign x,ty,pos,af,none⟩] e h (AEw (λe h=>W P (.seq (.region id l.toArray false) b) Q e h) Q' .normal):=X4<|W0<|Xr<|Wx<|W5 H
theorem ATj{Q':bX->Env->Ws->Prop}{l:List au}{b:cj}(H:RL P (λ_=>True) false l.toArray l e h (AEw (λe h=>W P b Q e h) Q .normal)):RL P B st ops [] e h (AEw (λe h=>W P (.seq (.region id l.toArray false) b) Q e h) Q' .normal):=W0<|Xr<|Wx<|W5 H
theorem A05{a b:cj}{X:Type}(m:Nat)(live:X->List (Nat×ab))(J:X->Ws->Prop)(H:W P a (AEw (λe' h'=>∃x,J x h'/\AMf (live x) e') Q) e h)(H2:∀x s h',J x h'->W P b Q (setL (live x)<|mix m s e) h')(hm:ATx m a=true:=by kernel_rfl):W P (.seq a b) Q e h:=ATy m live J hm H H2
theorem Avs{l:List au}(H:RL P (λ_=>True) false l.toArray l e h (Q .normal))(hst:(AJu l.toArray true,AVw l.toArray true)=(false,true):=by kernel_rfl):W P (.region id l.toArray true) Q e h:=ALo hst H
end
end Go.QF
namespace Go.Proofs.YtgmdhndbcohgiaaGreatDoor
section
variable{P:aA}{Q:bX->Env->Ws->Prop}{K:Env->Ws->Prop}{e:Env}{h:Ws}{B:Ws->Prop}{st:Bool}{ops:Array au}{rest:List au}{d:Nat}{ty:bw}{pos:String}{af:Array Edge}
theorem cwf{fn:Func}{c:cj}{rs:List dI}{l:List ab}{K:ab->Ws->Prop}(hf:Tryz.prog.funcs[f]?=some fn)(hb:fn.body=some c)(hr:fn.results=rs.toArray)(H:W Tryz.prog c (APb Tryz.prog rs K) (AVo l) h)(hn:(fn.name== "runtime.NumGoroutine")=false:=by rfl)(hl:bZ l.length fn.ntmps=true:=by rfl)(hok:okC fn.ntmps c=true:=by kernel_rfl):W6 Tryz.prog f l.toArray h K:=Xn mx hf hn hb hr rfl hl hok H
theorem ASc{f off ft b o:Nat}(hf:FdT P t f off ft)(hx:e.ev x=.pointer (some ⟨b,o,none⟩))(H:RL P B st ops rest (e.set d<|.pointer<|some ⟨b,o+off,none⟩) h K)(hs:(P.info? ft).map (·.size)=some 1:=by kernel_rfl):RL P B st ops (⟨some d,.fieldAddr t x f,ty,pos,af,none⟩::rest) e h K:=AA8 hf hs Wr hx H
theorem AF5{t:bw}{a b:Int}(hx:e.ev x=.int k a)(hy:e.ev y=.int k b)(H:RL P B st ops rest (e.set d<|.bool<|decide (a<b)) h K):RL P B st ops (⟨some d,.binOp .lss t x y t2,ty,pos,af,none⟩::rest) e h K:=Aai hx hy (A0b _ _) H
theorem A6n{t:bw}{a b:Int}(hx:e.ev x=.int k a)(hy:e.ev y=.int k b)(H:RL P B st ops rest (e.set d<|.bool<|decide (a<=b)) h K):RL P B st ops (⟨some d,.binOp .leq t x y t2,ty,pos,af,none⟩::rest) e h K:=Aai hx hy (A0c _ _) H
theorem Avt{t:bw}{a b:Int}(hx:e.ev x=.int k a)(hy:e.ev y=.int k b)(H:RL P B st ops rest (e.set d<|.bool<|decide (b<a)) h K):RL P B st ops (⟨some d,.binOp .gtr t x y t2,ty,pos,af,none⟩::rest) e h K:=Aai hx hy (A0d _ _) H
theorem Avu{t:bw}{a b:Int}(hx:e.ev x=.int k a)(hy:e.ev y=.int k b)(H:RL P B st ops rest (e.set d<|.bool<|decide (b<=a)) h K):RL P B st ops (⟨some d,.binOp .geq t x y t2,ty,pos,af,none⟩::rest) e h K:=Aai hx hy (Apg _ _) H
theorem Ac6{t:bw}{a b:Int}(hx:e.ev x=.int k a)(hy:e.ev y=.int k b)(H:RL P B st ops rest (e.set d<|.bool<|decide (a=b)) h K):RL P B st ops (⟨some d,.binOp .eql t x y t2,ty,pos,af,none⟩::rest) e h K:=Aai hx hy (A0e _ _) H
theorem Avv{t:bw}{a b:Int}(hx:e.ev x=.int k a)(hy:e.ev y=.int k b)(H:RL P B st ops rest (e.set d<|.bool<|decide ¬a=b) h K):RL P B st ops (⟨some d,.binOp .neq t x y t2,ty,pos,af,none⟩::rest) e h K:=Aai hx hy (A0f _ _) H
theorem AZl{l:List ab}{K':ab->Ws->Prop}(hxs:xs.map e.ev=l)(HC:W6 P f l.toArray h λx h'=>Ext h h'/\K' x h')(H:∀v h',Ext h h'->K' v h'->RL P (λ_=>True) st ops rest (e.set d v) h' K):RL P (λ_=>True) st ops (⟨some d,.call ⟨.value<|.func f,xs.toArray,ts⟩,ty,pos,af,none⟩::rest) e h K:=ADs trivial (λ_ _=>trivial) hxs HC H
end
theorem BDx{P:ab->Prop}{a b:ab}(ha:P a)(hb:P b):∀u∈[a,b],P u:=by intro u hu;simp only[aM,dM,or_false]at hu;rcases hu with rfl|rfl<;>assumption
abbrev Aay:=Int×Int
def A06:Zx Aay:=Afc 2 true (λa=>[.int .i64 a.1,.int .i64 a.2]) (λ_=>rfl) (λa=>BDx (P:=λu=>isOne u=true) rfl rfl) Wr Wr λh=>by cases h 
theorem Am7:SlT Tryz.prog 137 141 2:=ALr Tryz.underlying137 Ww
theorem Am8:AgT Tryz.prog 141 2:=AOs Tryz.underlying141 rfl Ww
theorem Avw:ZeT Tryz.prog 141 (.agg #[.int .i64 0,.int .i64 0]) 16:=AFy Ww
theorem Apu:FdT Tryz.prog 141 0 0 2:=⟨_,_,Tryz.underlying141,rfl,rfl,rfl⟩
theorem Apv:FdT Tryz.prog 141 1 1 3:=⟨_,_,Tryz.underlying141,rfl,rfl,rfl⟩
theorem Ac7:AgT Tryz.prog 90 2:=AOs Tryz.underlying90 rfl Ww
theorem Ag7:ZeT Tryz.prog 90 (.agg #[.int .i64 0,.slice none 0 0]) 32:=AFy Ww
theorem A07:FdT Tryz.prog 90 0 0 2:=⟨_,_,Tryz.underlying90,rfl,rfl,rfl⟩
theorem A08:FdT Tryz.prog 90 1 1 88:=⟨_,_,Tryz.underlying90,rfl,rfl,rfl⟩
theorem A6o:NaT Tryz.prog 197:=AIj Tryz.underlying197 rfl Ww
theorem A09:FdT Tryz.prog 239 0 0 197:=⟨_,_,Tryz.underlying239,rfl,rfl,rfl⟩
theorem A1a:FdT Tryz.prog 239 1 1 197:=⟨_,_,Tryz.underlying239,rfl,rfl,rfl⟩
theorem BA0:NaT Tryz.prog 88:=AIj Tryz.underlying88 rfl Ww
theorem A6p:SlT Tryz.prog 218 164 1:=ALr Tryz.underlying218 Ww
end Go.Proofs.YtgmdhndbcohgiaaGreatDoor
namespace Go.QF
section
variable{P:aA}{B:Ws->Prop}{st:Bool}{ops:Array au}{rest:List au}{e:Env}{h:Ws}{K:Env->Ws->Prop}{d:Nat}{ty:bw}{pos:String}{af:Array Edge}
theorem BA1{f:Fn}{bs:List bC}{l:List ab}(hbs:bs.map e.ev=l)(H:RL P B st ops rest (e.set d<|.func f l.toArray #[]) h K):RL P B st ops (⟨some d,.makeFunc f bs.toArray #[],ty,pos,af,none⟩::rest) e h K:=ABh (v:=.func f l.toArray #[]) rfl rfl λw=>by simp[execOp,Instr.makeFunc,hbs] H
theorem A1b{c:bC}{l bd:List ab}{K':ab->Ws->Prop}(hb:B h)(hc:e.ev c=.func (.func f) bd.toArray #[])(hxs:xs.map e.ev=l)(HC:W6 P f (bd++l).toArray h K')(H:∀v h',K' v h'->B h'/\RL P B st ops rest (e.set d v) h' K):RL P B st ops (⟨some d,.call ⟨.value c,xs.toArray,ts⟩,ty,pos,af,none⟩::rest) e h K:=by refine AJc rfl rfl hb (Ab9 (f:=f) (args:=(bd++l).toArray) (λw=>?_)<|HC.mono H);have:=AOb HC.1 (bd++l).toArray w;simp only[execOp,resolve,dN,hxs,hc,cG,pure,bind,Sem.bind,invoke,dH,List.append_toArray];exact this
end
theorem ALl{l m:List ab}{a b:Nat}(h1:l.length=a)(h2:m.length=b):(l++m).length=a+b:=by rw[ci,h1,h2]
theorem Aaz{l m:List ab}(h1:∀u∈l,isOne u=true)(h2:∀u∈m,isOne u=true):∀u∈l++m,isOne u=true:=λu hu=>(ah.1 hu).elim (h1 u) (h2 u)
def Am9(h:Ws)(b o:Nat)(l:List ab):Prop:=∀i u,l[i]?=some u->Yt h ((⟨b,o,none⟩:Addr).add i)=some u
theorem bp0{b:Nat}{l:List ab}(H:Yz t h b l):Am9 h b 0 l:=H.agg
theorem bpX{b o o2:Nat}{l:List ab}(H:Am9 h b o l)(e:o=o2):Am9 h b o2 l:=e▸H
theorem bpL{b o:Nat}{l m:List ab}(H:Am9 h b o (l++m)):Am9 h b o l:=λi u hu=>H i u (by grind)
theorem bpR{b o n:Nat}{l m:List ab}(H:Am9 h b o (l++m))(hl:l.length=n):Am9 h b (o+n) m:=λi u hu=>by
 have h1:=H (n+i) u (by grind);rw[Zu]at h1⊢;rwa[cn]
end Go.QF
namespace Go.Proofs.YtgmdhndbcohgiaaGreatDoor
theorem ASd:FdT Tryz.prog 59 0 0 56:=⟨_,_,Tryz.underlying59,rfl,rfl,rfl⟩
theorem AXo:FdT Tryz.prog 59 1 1 34:=⟨_,_,Tryz.underlying59,rfl,rfl,rfl⟩
theorem Abo:FdT Tryz.prog 59 2 2 34:=⟨_,_,Tryz.underlying59,rfl,rfl,rfl⟩
theorem Ag8:FdT Tryz.prog 59 3 3 57:=⟨_,_,Tryz.underlying59,rfl,rfl,rfl⟩
theorem Ana:NaT Tryz.prog 57:=AIj Tryz.underlying57 rfl Ww
theorem Ag9:AgT Tryz.prog 107 14:=AOs Tryz.underlying107 rfl Ww
theorem Anb:ZeT Tryz.prog 107 (.agg #[.bool false,.slice none 0 0,.bool false,.slice none 0 0,.bool false,.slice none 0 0,.bool false,.slice none 0 0,.bool false,.slice none 0 0,.bool false,.slice none 0 0,.bool false,.slice none 0 0]) 224:=AFy Ww
theorem Apw:FdT Tryz.prog 107 0 0 32:=⟨_,_,Tryz.underlying107,rfl,rfl,rfl⟩
theorem Apx:FdT Tryz.prog 107 2 4 32:=⟨_,_,Tryz.underlying107,rfl,rfl,rfl⟩
theorem Asd(b b':Bool)(a a':Option Addr)(n n' c c':Nat)(w:bt):(bL 105 #[(0,.agg #[.bool b,.slice a n c]),(1,.agg #[.bool b',.slice a' n' c'])]).run Tryz.prog w=.ok (.agg #[.bool b,.slice a n c,.bool b',.slice a' n' c']) w:=by kernel_rfl
theorem Aj4{n:Int}(H1:cZ.rep h n c1)(H2:cZ.rep h' d c2)(w:bt):(bL 105 #[(0,.agg c1.toArray),(1,.agg c2.toArray)]).run Tryz.prog w=.ok (.agg (c1++c2).toArray) w:=by obtain⟨b,a,n,c,rfl⟩:=AJj H1;obtain⟨b',a',n',c',rfl⟩:=AJj H2;exact Asd _ _ _ _ _ _ _ _ w
theorem Anc(b1 b2 b3 b4 b5 b6 b7:Bool)(a1 a2 a3 a4 a5 a6 a7:Option Addr)(n1 n2 n3 n4 n5 n6 n7 k1 k2 k3 k4 k5 k6 k7:Nat)(w:bt):(bL 107 #[(0,.agg #[.bool b1,.slice a1 n1 k1]),(1,.agg #[.bool b2,.slice a2 n2 k2]),(2,.agg #[.bool b3,.slice a3 n3 k3]),(3,.agg #[.bool b4,.slice a4 n4 k4,.bool b5,.slice a5 n5 k5]),(4,.agg #[.bool b6,.slice a6 n6 k6,.bool b7,.slice a7 n7 k7])]).run Tryz.prog w=.ok (.agg #[.bool b1,.slice a1 n1 k1,.bool b2,.slice a2 n2 k2,.bool b3,.slice a3 n3 k3,.bool b4,.slice a4 n4 k4,.bool b5,.slice a5 n5 k5,.bool b6,.slice a6 n6 k6,.bool b7,.slice a7 n7 k7]) w:=by kernel_rfl
theorem Ase{h2 h3 h4 h5 h6 h7:Ws}{z1 z2 z3 z4 z5 z6 z7:Int}{c3 c4 c5 c6 c7:List ab}(H1:cZ.rep h1 z1 c1)(H2:cZ.rep h2 z2 c2)(H3:cZ.rep h3 z3 c3)(H4:cZ.rep h4 z4 c4)(H5:cZ.rep h5 z5 c5)(H6:cZ.rep h6 z6 c6)(H7:cZ.rep h7 z7 c7)(w:bt):(bL 107 #[(0,.agg c1.toArray),(1,.agg c2.toArray),(2,.agg c3.toArray),(3,.agg (c4++c5).toArray),(4,.agg (c6++c7).toArray)]).run Tryz.prog w=.ok (.agg (c1++(c2++(c3++(c4++(c5++(c6++c7)))))).toArray) w:=by obtain⟨b1,a1,n1,k1,rfl⟩:=AJj H1;obtain⟨b2,a2,n2,k2,rfl⟩:=AJj H2;obtain⟨b3,a3,n3,k3,rfl⟩:=AJj H3;obtain⟨b4,a4,n4,k4,rfl⟩:=AJj H4;obtain⟨b5,a5,n5,k5,rfl⟩:=AJj H5;obtain⟨b6,a6,n6,k6,rfl⟩:=AJj H6;obtain⟨b7,a7,n7,k7,rfl⟩:=AJj H7;exact Anc _ _ _ _ _ _ _ _ _ _ _ _ _ _ _ _ _ _ _ _ _ _ _ _ _ _ _ _ w
theorem Afm{x:Nat}(U:Yg G h h1)(hx:x<h.size)(H:AKf h1 x):AKf h x:=by
 by_cases hg:x∈G;.exact(U.2 x hg hx).1
 .obtain⟨o,h2,h3⟩:=H;exact⟨o,by rw[<-U.1.2 x hx hg];exact h2,h3⟩
def aS2{α:Type}(c:Zx α)(F:List Nat)(v:ab)(M:List (List α)):Y6:=⟨F,λh=>∀(G:List Nat)(h':Ws),Yg G h h'->(∀b∈F,b∉G)->Zv c h' v M,λ{G h h'}U d H G' h2 U' d'=>H (G++G') h2 (U.trans U' λx hx hl=>Afm U hl (U'.2 x hx<|aF hl U.size).1) λb hb hg=>(ah.1 hg).elim (d b hb) (d' b hb)⟩
def aS1{α:Type}(c:Zx α)(F:List Nat)(v:ab)(M:List α):Y6:=⟨F,λh=>∀(G:List Nat)(h':Ws),Yg G h h'->(∀b∈F,b∉G)->SlC c h' v M,λ{G h h'}U d H G' h2 U' d'=>H (G++G') h2 (U.trans U' λx hx hl=>Afm U hl (U'.2 x hx<|aF hl U.size).1) λb hb hg=>(ah.1 hg).elim (d b hb) (d' b hb)⟩
theorem BA2{c:Zx α}{M:List α}(H:OwC c el h F v M):(aS1 c F v M).P h:=λ_ _ U d=>(H.upT U d).rd
section
variable{P:aA}{B:Ws->Prop}{st:Bool}{ops:Array au}{rest:List au}{e:Env}{h:Ws}{K:Env->Ws->Prop}{d d' d2:Nat}{ty ty2 ty3:bw}{pos pos2 pos3:String}{af af2 af3:Array Edge}
end
def cH{α:Type}(n:Nat)(ag:Bool)(pre:α->List ab)(hk:∀a,(pre a).length=n)(h1:∀a,∀u∈pre a,isOne u=true)(hl:n+1<=1000)(hs:ag=false->n=0):Zx (α×ab)where
 k:=n+1;ag:=ag;rep:=λ_ a cs=>cs=pre a.1++[a.2]/\isOne a.2=true;klen:=λ{h a cs}H=>by rw[H.1,ci,hk];rfl
 one:=λ{h a cs}H u hu=>by
  rw[H.1]at hu;rcases ah.1 hu with h|h;.exact h1 _ _ h
  .rw[bO.1 h];exact H.2
 upT:=λH _=>H;pos:=by omega
 le:=hl;sc:=λh=>by rw[hs h]
def cHM:Zx (Unit×ab):=cH 0 false (λ_=>[]) (λ_=>rfl) (λ_ u hu=>by cases hu) Wr λ_=>rfl
def cHP:Zx (Int×ab):=cH 1 true (λp=>[.int .i64 p]) (λ_=>rfl) λ_ u hu=>by rw[bO.1 hu];rfl Wr λh=>by cases h 
section
variable{α β:Type}(c:Zx (α×ab))(fz:List Nat->ab->β->Y6)
def AZm(L:List (α×β))(ws:List ab):List (α×ab):=List.zipWith (λx w=>(x.1,w)) L ws
def OwX(el:Nat)(h:Ws)(F:List Nat)(ws:List ab)(v:ab)(L:List (α×β)):Prop:=∃(F1:List Nat)(Fs:List (List Nat)),F=F1++Fs.flatten/\Fs.length=L.length/\ws.length=L.length/\OwC c el h F1 v (AZm L ws)/\(∀(i:Nat)(x:α×β)(w:ab)(G:List Nat),L[i]?=some x->ws[i]?=some w->Fs[i]?=some G->(fz G w x.2).P h/\(fz G w x.2).F=G)/\∀b∈Fs.flatten,b<h.size/\AKf h b
theorem AZn(U:Yg G h h'){b:Nat}(hG:b∉G)(hb:b<h.size)(H:AKf h b):AKf h' b:=by unfold AKf at H⊢;rw[U.1.2 b hb hG];exact H
theorem AAo{b:Nat}(h:Fs[i]?=some G)(hb:b∈G):b∈Fs.flatten:=cW.2 ⟨G,ai h,hb⟩
variable{c fz}
theorem OwX.upT{el:Nat}{h h':Ws}{F G:List Nat}{ws:List ab}{v:ab}{L:List (α×β)}(H:OwX c fz el h F ws v L)(U:Yg G h h')(d:∀b∈F,b∉G):OwX c fz el h' F ws v L:=by obtain⟨F1,Fs,rfl,h1,h2,h3,h4,h5⟩:=H;refine⟨F1,Fs,rfl,h1,h2,h3.upT U λb hb=>d b<|ae _ hb,λi x w G' hx hw hG=>?_,λb hb=>⟨aF (h5 b hb).1 U.size,AZn U (d b<|ap _ hb) (h5 b hb).1 (h5 b hb).2⟩⟩;obtain⟨p,e⟩:=h4 i x w G' hx hw hG;exact⟨(fz G' w x.2).up U (λb hb=>d b<|ap _<|AAo hG<|e▸hb) p,e⟩
theorem A1c(el:Nat)(h:Ws):OwX c fz el h [] [] (.slice none 0 0) []:=⟨[],[],rfl,rfl,rfl,AU6 c el h,λi x w G hx=>by simp at hx,λb hb=>by simp at hb⟩
variable(c fz)
def aX(el:Nat)(F:List Nat)(ws:List ab)(v:ab)(L:List (α×β)):Y6:=⟨F,λh=>OwX c fz el h F ws v L,λU d H=>H.upT U d⟩
variable{c fz}
theorem Avy{L:List (α×β)}(h:ws.length=L.length)(x:α×β)(w:ab):AZm (L++[x]) (ws++[w])=AZm L ws++[(x.1,w)]:=by unfold AZm;rw[List.zipWith_append h.symm];rfl
theorem OwX.get{L:List (α×β)}(H:OwX c fz el h F ws v L){x:α×β}(hx:L[i]?=some x):∃(F1:List Nat)(w:ab)(G:List Nat),ws[i]?=some w/\OwC c el h F1 v (AZm L ws)/\(AZm L ws)[i]?=some (x.1,w)/\(fz G w x.2).P h:=by obtain⟨F1,Fs,rfl,h1,h2,h3,h4,h5⟩:=H;have hi:=(ar.1 hx).1;obtain⟨w,hw⟩:∃w,ws[i]?=some w:=⟨ws[i]'Wq,aa _⟩;obtain⟨G,hG⟩:∃G,Fs[i]?=some G:=⟨Fs[i]'Wq,aa _⟩;refine⟨F1,w,G,hw,h3,?_,(h4 i x w G hx hw hG).1⟩;unfold AZm;rw[List.getElem?_zipWith,hx,hw]
theorem OwX.rd{L:List (α×β)}(H:OwX c fz el h F ws v L){x:α×β}(hx:L[i]?=some x)(hw:ws[i]?=some w):∃G,(fz G w x.2).P h:=by obtain⟨_,w',G,hw',_,_,p⟩:=H.get hx;rw[hw]at hw';cases hw';exact⟨G,p⟩
theorem OwX.len{L:List (α×β)}(H:OwX c fz el h F ws v L):ws.length=L.length:=by obtain⟨_,_,_,_,h2,_⟩:=H;exact h2
theorem OwX.push{F1 F1':List Nat}{L:List (α×β)}{x:α×β}(h1:Fs.length=L.length)(h2:ws.length=L.length)(h4:∀(i:Nat)(x:α×β)(w:ab)(G:List Nat),L[i]?=some x->ws[i]?=some w->Fs[i]?=some G->(fz G w x.2).P h/\(fz G w x.2).F=G)(h5:∀b∈Fs.flatten,b<h.size/\AKf h b)(HO:OwC c el h' F1' v' (AZm L ws++[(x.1,w)]))(U:Yg F1 h h')(hd:∀b∈F1,b∉Fs.flatten)(hP:(fz G w x.2).P h)(hF:(fz G w x.2).F=G)(hdG:∀b∈F1,b∉G)(hG:∀b∈G,b<h.size/\AKf h b):OwX c fz el h' (F1'++(Fs++[G]).flatten) (ws++[w]) v' (L++[x]):=by
 refine⟨F1',Fs++[G],rfl,by simp[h1],by simp[h2],by rw[Avy h2];exact HO,λi y u K hy hu hK=>?_,λb hb=>?_⟩
 .by_cases hi:i<L.length;.rw[ck hi]at hy;rw[ck Wq]at hu hK;obtain⟨p,e⟩:=h4 i y u K hy hu hK;exact⟨(fz K u y.2).up U (λb hb hbF=>hd b hbF<|AAo hK<|e▸hb) p,e⟩
  .have hl:i=L.length:=by have:=(ar.1 hy).1;simp at this;omega
   subst hl;simp at hy;rw[<-h2]at hu;simp at hu;rw[<-h1]at hK;simp at hK;subst hy;subst hu;subst hK;exact⟨(fz G w x.2).up U (λb hb hbF=>hdG b hbF<|hF▸hb) hP,hF⟩
 .rw[cg]at hb;rcases ah.1 hb with hb|hb;.exact⟨aF (h5 b hb).1 U.size,AZn U (λhF=>hd b hF hb) (h5 b hb).1 (h5 b hb).2⟩
  .have hb:b∈G:=by simpa using hb
   exact⟨aF (hG b hb).1 U.size,AZn U (λhF=>hdG b hF hb) (hG b hb).1 (hG b hb).2⟩
variable{P:aA}{B:Ws->Prop}{st:Bool}{ops:Array au}{rest:List au}{e:Env}{h h0:Ws}{C:Env->Ws->Prop}{l:List Y6}{d:Nat}{ty:bw}{pos:String}{af:Array Edge}
theorem p_X{s:bC}{d':Nat}{ty':bw}{pos':String}{af':Array Edge}{z:ab}{L:List (α×β)}{x:α×β}{cs:List ab}{l1:List Y6}{l2:List Nat->ab->List Y6}(k:Xg h0 h l)(hs:∀p,(e.set d p).ev s=v)(p1:Rep j l (fz G w x.2) (aC True) l1)(p2:∀F' v',Rep i l1 (aX c fz el F ws v L) (aX c fz el F' (ws++[w]) v'<|L++[x])<|l2 F' v')(hG:(fz G w x.2).F=G)(hN:∀b∈G,AKf h b)(hrep:c.rep h (x.1,w) cs)(hy:e.ev y=c.val cs)(hT:SlT P t el c.k)(hz:ZeT P el z bytes)(hzk:z.cells.size=c.k)(hel:b8 el 96=false)(hby:bZ bytes 1000=true)(hl:L.length<=100000000)(hij:b8 i j=false)(H:∀p F' v' h',Xg h0 h' (l2 F' v')->RL P (λ_=>True) st ops rest ((e.set d p).set d' v') h' C):RL P (λ_=>True) st ops (⟨some d,.buildSlice t 1 #[(0,y)],ty,pos,af,none⟩::⟨some d',.call ⟨.builtin .append,#[s,.tmp d],#[t,t]⟩,ty',pos',af',none⟩::rest) e h C:=by
 have hij:i≠j:=λh=>by subst h;simp at hij
 have e2:l[i]?=some (aX c fz el F ws v L):=by have h1:=(p2 [] v).1;rw[p1.2,aL λh=>hij h.symm]at h1;exact h1
 obtain⟨F1,Fs,hFe,h1,h2,h3,h4,h5⟩:=show OwX c fz el h F ws v L from AGn k.p e2;have hP:(fz G w x.2).P h:=AGn k.p p1.1;have dj:∀b∈F,b∉G:=λb hb hbG=>k.s.dj i j (ACr e2) (ACr p1.1) hij b hb (by rw[hG];exact hbG);have hGlt:∀b∈G,b<h.size:=λb hb=>(k.s.lo j (ACr p1.1) b (by rw[hG];exact hb)).2;have nd:∀(q:Nat)(X:List Nat),(fps l)[q]?=some X->X.Nodup:=λq X hq=>by have:=(k.s.sel [q] W4).1;simpa[hq]using this
 have hFn:F.Nodup:=nd i F<|ACr e2;have hGn:G.Nodup:=by have:=nd j _<|ACr p1.1;rw[hG]at this;exact this
 rw[hFe]at hFn;obtain⟨n1,n2,n3⟩:=bK.1 hFn;have d1:∀b∈F1,b∉Fs.flatten:=λb hb hb'=>n3 b hb b hb' rfl;have dG:∀b∈F1,b∉G:=λb hb=>dj b (by rw[hFe];exact ae _ hb);have zl:(AZm L ws).length=L.length:=by unfold AZm;rw[dF];omega
 refine Agx (c:=c) (L:=AZm L ws) (a:=(x.1,w)) hT hz hzk hel trivial (λ_ _=>trivial) hs hy hrep h3 (aw hby) (by rw[zl];exact hl) λp F1' v' h' HO U hsub=>?_;have hX:=OwX.push (c:=c) (fz:=fz) h1 h2 h4 h5 HO U d1 hP hG dG λb hb=>⟨hGlt b hb,hN b hb⟩;have hlt1:=HO.lt;refine H p (F1'++(Fs++[G]).flatten) v' h'<|k.m p1 (p2 _ _) hij ?_ hX ?_ ?_ ?_
 .refine U.mono (λb hb=>by show b∈F;rw[hFe];exact ae _ hb) λb hb hbl=>?_;have hb:b∈F:=hb;rw[hFe]at hb;rcases ah.1 hb with hb|hb;.exact h3.notD b hb
  .exact(h5 b hb).2
 .show(F1'++(Fs++[G]).flatten).Nodup;rw[cg,bK,bK];refine⟨HO.nodup,⟨n2,by simpa using hGn,λa ha b hb hab=>?_⟩,λa ha b hb hab=>?_⟩;.subst hab;exact dj a (by rw[hFe];exact ap _ ha) (by simpa using hb)
  .subst hab;rcases hsub a ha with h6|h6
   .rcases ah.1 hb with hb|hb;.exact d1 a h6 hb
    .exact dG a h6 (by simpa using hb)
   .rcases ah.1 hb with hb|hb;.exact absurd (h5 a hb).1 Wq
    .exact absurd (hGlt a<|by simpa using hb) Wq
 .show∀b∈F1'++(Fs++[G]).flatten,b<h'.size;intro b hb;have:=U.size;rcases ah.1 hb with hb|hb;.exact hlt1 b hb
  .rw[cg]at hb;rcases ah.1 hb with hb|hb;.exact aF (h5 b hb).1 this
   .exact aF (hGlt b<|by simpa using hb) this
 .show∀b∈F1'++(Fs++[G]).flatten,b∈F++(fz G w x.2).F∨h.size<=b;intro b hb;rw[hG,hFe];rcases ah.1 hb with hb|hb
  .rcases hsub b hb with h6|h6;.exact .inl<|ae _<|ae _ h6
   .exact .inr h6
  .rw[cg]at hb;rcases ah.1 hb with hb|hb;.exact .inl<|ae _<|ap _ hb
   .exact .inl<|ap _ (by simpa using hb)
end
theorem Xg.frz1{c:Zx α}{l':List Y6}(k:Xg h0 h l){L:List α}(e:Rep i l (aO c el F v L) (aS1 c F v L) l'):Xg h0 h l'/\∀b∈F,AKf h b:=have H:=k.o (i:=i) ⟨e.1,rfl⟩;⟨k.u e (Yg.start H.notD) (BA2 H) H.nodup H.lt λx hx=>.inl hx,H.notD⟩
abbrev fzM(G:List Nat)(w:ab)(M:List (List Int)):Y6:=aS2 cZ G w M
abbrev fzC(G:List Nat)(w:ab)(L:List Xm):Y6:=aS1 AJw G w L
theorem OwX.ext{c:Zx (α×ab)}{fz:List Nat->ab->β->Y6}{L:List (α×β)}(H:OwX c fz el h F ws v L)(E:Ext h h'):OwX c fz el h' F ws v L:=H.upT E.upT λ_ _=>by simp
theorem OwX.isOneX{c:Zx (α×ab)}{fz:List Nat->ab->β->Y6}{L:List (α×β)}(H:OwX c fz el h F ws v L):isOne v=true:=by obtain⟨_,_,_,_,_,h3,_⟩:=H;exact h3.isOne
theorem AQj{c:Zx (α×ab)}{q:Nat}{L:List (α×List (List Int))}{x:α×List (List Int)}(H:OwX c fzM el h F ws v L)(hx:L[q]?=some x)(hw:ws[q]?=some w):Zv cZ h w x.2:=by obtain⟨G,p⟩:=H.rd hx hw;exact p [] h (Yg.refl h) λ_ _=>by simp
theorem A6r{c:Zx (α×ab)}{q:Nat}{L:List (α×List Xm)}{x:α×List Xm}(H:OwX c fzC el h F ws v L)(hx:L[q]?=some x)(hw:ws[q]?=some w):SlC AJw h w x.2:=by obtain⟨G,p⟩:=H.rd hx hw;exact p [] h (Yg.refl h) λ_ _=>by simp
theorem Xg.ox{c:Zx (α×ab)}{fz:List Nat->ab->β->Y6}{l':List Y6}(k:Xg h0 h l){L:List (α×β)}(e:Rep i l (aX c fz el F ws v L) (aX c fz el F ws v L) l'):OwX c fz el h F ws v L:=AGn k.p e.1
theorem Xg.anilX(c:Zx (α×ab))(fz:List Nat->ab->β->Y6)(el:Nat)(k:Xg h0 h l):Xg h0 h (aX c fz el [] [] (.slice none 0 0) []::l):=k.n (Ext.refl h) [aX c fz el [] [] (.slice none 0 0) []] (by exact⟨by simp[fps,aX],λb hb=>by simp[fps,aX]at hb⟩) ⟨A1c el h,trivial⟩
theorem Aha{c:Zx (α×ab)}{fz:List Nat->ab->β->Y6}{l':List Y6}(k:Xg h0 h l){L:List (α×β)}{x:α×β}(e:Rep i l (aX c fz el F (ws++[w]) v<|L++[x]) (aX c fz el F (ws++[w]) v<|L++[x]) l'):(L++[x])[L.length]?=some x/\(ws++[w])[L.length]?=some w:=by
 have h:=(k.ox e).len;have h:ws.length=L.length:=by simpa using h
 exact⟨W4,by rw[<-h];simp⟩
section
variable{P:aA}{B:Ws->Prop}{st:Bool}{ops:Array au}{rest:List au}{e:Env}{h:Ws}{K:Env->Ws->Prop}{d:Nat}{ty:bw}{pos:String}{af:Array Edge}{α β:Type}{c:Zx (α×ab)}{fz:List Nat->ab->β->Y6}
theorem A6s{Aa:Nat}{L:List (α×β)}(hT:SlT P t Aa s)(hx:e.ev x=v)(HO:OwX c fz el h0 F ws v L)(H:RL P B st ops rest (e.set d<|.int .i64 (L.length:Int)) h K):RL P B st ops (⟨some d,.call ⟨.builtin .len,#[x],#[t]⟩,ty,pos,af,none⟩::rest) e h K:=by have hl:=HO.len;obtain⟨F1,Fs,_,_,_,h3,_⟩:=HO;exact AQh hT hx h3.rd (by rw[show(AZm L ws).length=L.length by unfold AZm;rw[dF];omega];exact H)
theorem Apy{i:bC}{L:List (α×β)}{n:Int}{a:α×β}(hT:SlT P t el0 c.k)(hx:e.ev x=v)(HO:OwX c fz el h0 F ws v L)(hi:e.ev i=.int κ n)(ha:gI L n=some a)(H:∀b o w cs,L[n.toNat]?=some a->ws[n.toNat]?=some w->c.rep h0 (a.1,w) cs->(∀j u,cs[j]?=some u->Yt h0 ⟨b,o+j,none⟩=some u)->RL P B st ops rest (e.set d<|.pointer<|some ⟨b,o,none⟩) h K):RL P B st ops (⟨some d,.indexAddr t x i,ty,pos,af,none⟩::rest) e h K:=by obtain⟨m,rfl,hm⟩:=ACq ha;obtain⟨F1,w,G,hw,h3,hz,_⟩:=HO.get hm;refine ALw (c:=c) (a:=(a.1,w)) hT hx h3.rd hi (by unfold gI;rw[if_pos Wq];simpa using hz) λb o cs hr hc=>H b o w cs (by simpa using hm) (by simpa using hw) hr hc
end
end Go.Proofs.YtgmdhndbcohgiaaGreatDoor
namespace Go.QF
def hdV(g k n:Nat)(o:Int):ab:=if o<0 then .slice none 0 0 else .slice (some ⟨g,o.toNat*k,none⟩) n n
def cHd(g k n:Nat):Zx Int:=Afc 1 false (λo=>[hdV g k n o]) (λ_=>rfl) λa u hu=>by rw[bO.1 hu];unfold hdV;split<;>rfl Wr Wr λ_=>rfl
theorem A1d{c:Zx α}{a:Option Addr}{n cap cap':Nat}{L:List α}(H:SlC c h (.slice a n cap) L):SlC c h (.slice a n cap') L:=by obtain⟨Ls,⟨a',Ac,hv,hc⟩,HA⟩:=H;injection hv with h1 h2 h3;subst h1;subst h2;exact⟨Ls,⟨_,_,rfl,hc⟩,HA⟩
theorem A6t{c:Zx α}{L:List α}{o:Int}{n:Nat}(HO:OwC c el h F v L)(ho:0<=o)(hn:0<n)(hl:o.toNat+n<=L.length):SlC c h (hdV (F.headD 0) c.k n o) ((L.drop o.toNat).take n):=by
 have hr:=HO.rd;rcases HO with⟨rfl,_⟩|⟨g,Ls,rfl,⟨cap,cur,rfl,_,hcap,_⟩,h3,_⟩;.simp at hl;omega
 .have h1:Ls.length=L.length:=h3.1;have h2:=(hr.drop (k:=o.toNat) Wq hcap).take (k:=n) Wq;rw[if_neg Wq]at h2;unfold hdV;rw[if_neg Wq];refine A1d (cap:=cap-o.toNat) ?_;simpa[Zu]using h2
theorem A6u{c:Zx α}{em:Nat}{Fm:List Nat}{vm:ab}{L:List α}{AQ9:List Int}{n:Nat}(Hm:OwC (cHd (F.headD 0) c.k n) em h Fm vm AQ9)(HO:OwC c el h F v L)(hn:0<n)(ho:∀o∈AQ9,0<=o/\o.toNat+n<=L.length):Zv c h vm (AQ9.map λo=>(L.drop o.toNat).take n):=by
 obtain⟨Ls,hK,HA⟩:=Hm.rd;have hLs:Ls=(AQ9.map λo=>hdV (F.headD 0) c.k n o).map λr=>[r]:=by apply aJ;intro i;rw[dr,aY];cases hi:AQ9[i]? with
  |none=>exact av (by rw[HA.1];exact List.getElem?_eq_none_iff.1 hi)|some o=>obtain⟨cs,h1,h2⟩:=HA.get hi;rw[h1];exact congrArg some h2
 have hc:=Hm.cap;refine⟨hc,AQ9.map λo=>hdV (F.headD 0) c.k n o,hLs▸hK,W4,λi r L' hr hL'=>?_⟩;rw[aY]at hr hL';cases hi:AQ9[i]? with|none=>rw[hi]at hr;cases hr|some o=>rw[hi]at hr hL';cases hr;cases hL';have:=ho o<|ai hi;exact A6t HO this.1 hn this.2
section
variable{P:aA}{B:Ws->Prop}{st:Bool}{ops:Array au}{rest:List au}{e:Env}{h:Ws}{K:Env->Ws->Prop}{d:Nat}{ty:bw}{pos:String}{af:Array Edge}
theorem Avz{c:Zx α}{z z2:bC}{L:List α}{κ2 κ3:dq}{lo hi:Int}(n:Int)(hT:SlT P t el0 c.k)(hx:e.ev x=v)(HO:OwC c el h0 F v L)(hy:e.ev y=.int κ lo)(hz:e.ev z=.int κ2 hi)(hz2:e.ev z2=.int κ3 hi)(hb:0<=lo/\0<n/\hi=lo+n/\hi<=L.length)(H:RL P B st ops rest (e.set d<|hdV (F.headD 0) c.k n.toNat lo) h K):RL P B st ops (⟨some d,.slice t x (some y) (some z)<|some z2,ty,pos,af,none⟩::rest) e h K:=by
 obtain⟨hb1,hb2,rfl,hb3⟩:=hb;rcases HO with⟨rfl,_⟩|⟨g,Ls,rfl,⟨cap,cur,rfl,_,hcap,_⟩,h3,_⟩;.simp at hb3;omega
 .have hl:Ls.length=L.length:=h3.1;refine ABh (v:=hdV g c.k n.toNat lo) rfl rfl (λw=>?_) H;obtain⟨hu,i,hi',hs⟩:=hT;have h1:¬lo<0:=by omega
  have h2:0<=lo+n:=by omega
  have h3:lo<=lo+n:=by omega
  have h4:lo+n<=(cap:Int):=by omega
  have h6:(lo+n).toNat-lo.toNat=n.toNat:=by omega
  have h7:max (lo+n) 0=lo+n:=by omega
  have h8:¬(lo+n).toNat=lo.toNat:=by omega
  have h9:lo+n-lo=n:=by omega
  have h10:¬n.toNat=0:=by omega
  simp[execOp,hx,hy,hz,hz2,Instr.sliceAt,Instr.slice,AGk hu,Instr.sliceBounds,Instr.sliceBound,asIntOf,AK3 hi',hs,hdV,h1,h2,h3,h4,h6,h7,h8,h9,h10,hb1,Zu]
theorem AVz{c:Zx α}{i:bC}{n:Nat}{L:List α}{o j:Int}{a:α}(hT:SlT P t el0 c.k)(HO:OwC c el h0 F v L)(hx:e.ev x=hdV (F.headD 0) c.k n o)(hi:e.ev i=.int κ j)(hb:0<=o/\0<=j/\j<n)(ha:gI L (o+j)=some a)(H:∀g,F=[g]->RL P B st ops rest (e.set d<|.pointer<|some ⟨g,(o+j).toNat*c.k,none⟩) h K):RL P B st ops (⟨some d,.indexAddr t x i,ty,pos,af,none⟩::rest) e h K:=by
 have h1:¬o<0:=by omega
 rcases HO with⟨rfl,_⟩|⟨g,Ls,rfl,_⟩;.obtain⟨m,_,hm⟩:=ACq ha;simp at hm
 .unfold hdV at hx;rw[if_neg h1]at hx;refine Ai9 hT hx hi hb.2.1 Wq ?_;have he:(⟨[g].headD 0,o.toNat*c.k,none⟩:Addr).add (j.toNat*c.k)=⟨g,(o+j).toNat*c.k,none⟩:=by rw[Zu,<-eI,show o.toNat+j.toNat=(o+j).toNat by omega];rfl
  rw[he];exact H g rfl
theorem A6v{k n:Nat}{o:Int}(hT:SlT P t el s)(hx:e.ev x=hdV g k n o)(ho:0<=o)(H:RL P B st ops rest (e.set d<|.int .i64 (n:Int)) h K):RL P B st ops (⟨some d,.call ⟨.builtin .len,#[x],#[t]⟩,ty,pos,af,none⟩::rest) e h K:=by unfold hdV at hx;rw[if_neg Wq]at hx;exact Ab8 hT hx H
end
end Go.QF
namespace Go.Proofs.YtgmdhndbcohgiaaGreatDoor
theorem Xg.frzT{l1 l':List Y6}(k:Xg h0 h l){em n:Nat}{Fm:List Nat}{vm:ab}{L:List Int}{AQ9:List Int}{M:List (List Int)}(er:Rep j l (aO cZ el F v L) (aC True) l1)(e:Rep i l1 (aO (cHd (F.headD 0) 2 n) em Fm vm AQ9) (aS2 cZ (Fm++F) vm M) l')(hij:i≠j)(hn:0<n)(ho:∀o∈AQ9,0<=o/\o.toNat+n<=L.length)(hM:(AQ9.map λo=>(L.drop o.toNat).take n)=M):Xg h0 h l'/\∀b∈Fm++F,AKf h b:=by
 subst hM;have e1:=er.2;have e0:l[i]?=some (aO (cHd (F.headD 0) 2 n) em Fm vm AQ9):=by have:=e.1;subst e1;grind
 have HL:OwC cZ el h F v L:=k.o (i:=j) ⟨er.1,rfl⟩;have HM:OwC (cHd (F.headD 0) 2 n) em h Fm vm AQ9:=k.o (i:=i) ⟨e0,rfl⟩;have hd:=k.dj (i:=i) (j:=j) ⟨e0,rfl⟩ ⟨er.1,rfl⟩ hij;refine⟨k.m er e hij (Yg.start HM.notD) (λG h' U d=>A6u (HM.upT U λb hb=>d b<|ae _ hb) (HL.upT U λb hb=>d b<|ap _ hb) hn ho) ?_ (λx hx=>?_) λx hx=>.inl hx,λb hb=>?_⟩;.exact bK.2 ⟨HM.nodup,HL.nodup,λa ha b hb he=>hd a ha<|he▸hb⟩
 .rcases ah.1 hx with hx|hx;.exact HM.lt x hx
  .exact HL.lt x hx
 .rcases ah.1 hb with hb|hb;.exact HM.notD b hb
  .exact HL.notD b hb
theorem Aew{o j n:Int}(h:0<=o/\0<=j/\j<n):0<=o/\0<=j/\j<(n.toNat:Int):=⟨h.1,h.2.1,Wq⟩
theorem Ane(g k n:Nat)(h:Ws):(cHd g k n).rep h (-1) [.slice none 0 0]:=by show[Value.slice none 0 0]=[hdV g k n<|-1];unfold hdV;rw[if_pos Wr]
theorem AXp(g k n:Nat)(o:Int):isOne (hdV g k n o)=true:=by unfold hdV;split<;>rfl
section
variable{P:aA}{B:Ws->Prop}{st:Bool}{ops:Array au}{rest:List au}{e:Env}{h:Ws}{K:Env->Ws->Prop}{d:Nat}{ty:bw}{pos:String}{af:Array Edge}
theorem Ahb{k:Nat}{n o:Int}(hT:SlT P t el s)(hx:e.ev x=hdV g k n.toNat o)(ho:0<=o/\0<=n)(H:RL P B st ops rest (e.set d<|.int .i64 n) h K):RL P B st ops (⟨some d,.call ⟨.builtin .len,#[x],#[t]⟩,ty,pos,af,none⟩::rest) e h K:=A6v hT hx ho.1 (by rw[Int.toNat_of_nonneg ho.2];exact H)
end
theorem Ahc:SlT Tryz.prog 102 34 1:=ALr Tryz.underlying102 Ww
theorem Av0:ZeT Tryz.prog 34 (.slice none 0 0) 24:=AFy Ww
end Go.Proofs.YtgmdhndbcohgiaaGreatDoor
namespace Go.QF
def FR(r:Option Nat):Fence:={cr with round:=r}
theorem Apz{r:Option Nat}{m:Nat}{args:Array ab}{w:bt}{R:Ending->bt->Prop}(h:Calls P f args w R):CallsIn (FR r) m P f args w R:=callsIn_wide (n:=m).2 h
structure AKy(D:List Deferred)(n:Nat)(e:Env)(a:Act):Prop where r:Rep n e {a with defers:=[]}d:a.defers=D
theorem AKy.eval{D:List Deferred}{n:Nat}{e:Env}{a:Act}(r:AKy D n e a):a.eval=e.ev:=r.r.eval
theorem AKy.put{D:List Deferred}{n:Nat}{e:Env}{a:Act}(r:AKy D n e a)(d:Option Nat)(v:ab)(hd:∀x,d=some x->x<n):AKy D n (e.put d v) (a.put d v):=by
 have h1:=r.r.put d v hd;have h2:=r.d;cases d with
 |none=>exact⟨h1,h2⟩|some d=>exact⟨h1,h2⟩
theorem AKy.yields{D:List Deferred}{n:Nat}{e:Env}{a:Act}(r:AKy D n e a)(ops:Array au):yielded ops a.tmps=ACn ops e:=r.r.yields ops
theorem AKy.of{n:Nat}{e:Env}{a:Act}(r:Rep n e a):AKy [] n e a:=⟨⟨r.size,rfl,r.get⟩,r.defers⟩
theorem AKy.rep{n:Nat}{e:Env}{a:Act}(r:AKy [] n e a):Rep n e a:=⟨r.r.size,r.d,r.r.get⟩
def APr(o:au):Bool:=match o.op with|.defer _=>false|_=>true
theorem AV0{ops:Array au}{o:au}{n m:Nat}{ro:Option Nat}{D:List Deferred}{e:Env}{a:Act}{w:bt}{K':Act->bt->Prop}(hi:ops[i]?=some o)(hnd:APr o=true)(hd:∀x,o.dst=some x->x<n)(r:AKy D n e a)(H:GOp P B st ops o e w.heap K)(hK:∀e' a' w',AKy D n e' a'->Same w w'->K e' w'.heap->K' a' w'):wpOpIn (FR ro) m P ops Q i K' a w:=by
 unfold wpOpIn;simp only[hi];unfold GOp at H;rw[r.yields ops];split
 .rename_i hw;rw[if_pos hw]at H;unfold Oper.wpIn;refine⟨λ_ _=>trivial,?_⟩;rw[Oper.semAt_eq _ _ _ λc hc=>by simp[APr,hc]at hnd,r.eval];have eff:∀{K:ab->Ws->Prop},ANs P e.ev o w.heap K->(∀v h',K v h'->∀a' w',AKy D n (e.put o.dst v) a'->Same w w'->w'.heap=h'->K' a' w')->o.uponIn (FR ro) m P a K' Q ((execOp e.ev o).run P w):=by
   intro K H hK;have H':=H w rfl;generalize(execOp e.ev o).run P w=res at H';cases res with
   |ok nx w'=>
     cases nx<;>simp only[AM0]at H'<;>simp only[Oper.uponIn];case value v=>exact hK _ _ H'.2 _ _ (r.put _ _ hd) H'.1 rfl
     case skip=>exact hK _ _ H'.2 _ _ (r.put _ _ hd) H'.1 rfl
     case enter f args=>
      refine⟨λhh=>by simp[FR,cr]at hh,(Apz H'.2).mono λen w''⟨v,he,hs,hk⟩=>?_⟩;subst he;exact hK _ _ hk _ _ (r.put _ _ hd) (H'.1.trans hs) rfl|halt x w'=>exact H'.elim
  unfold SOp at H;split at H;.obtain⟨v,hv,hk⟩:=H;rw[hv w];exact hK _ _ _ (r.put _ _ hd) (.refl w) hk
  .obtain⟨v,hv,hk⟩:=H;rw[hv w rfl];exact hK _ _ _ (r.put _ _ hd) (.refl w) hk
  .obtain⟨v,hb,hv,hk⟩:=H;rw[hv w hb];exact hK _ _ _ (r.put _ _ hd) (.refl w) hk
  .exact eff H.2 λv h' hk a' w' r' s' hh=>hK _ _ _ r' s' (by rw[hh];exact hk.2)
  .exact eff H λv h' hk a' w' r' s' hh=>hK _ _ _ r' s' (by rw[hh];exact hk)
 .rename_i hw;rw[if_neg hw]at H;exact⟨λ_ _=>trivial,hK _ _ _ (r.put _ _ hd) (.refl w) H⟩
section
variable{P:aA}{ops:Array au}{m:Nat}{ro:Option Nat}{D:List Deferred}
theorem Aex{n:Nat}(hok:AW8 n ops true=true)(hnd:∀(j:Nat)(o:au),ops[j]?=some o->APr o=true):∀(fuel:Nat)(R:List Nat)(listed:Array Bool)(e:Env)(a:Act)(w:bt)(K:Env->Ws->Prop),R.length=fuel->d7 (·<·) R->listed.size=ops.size->(∀j,j∈R↔j<ops.size/\listed.getD j true=false)->(∀j oj,listed.getD j false=true->ops[j]?=some oj->∀ed∈oj.after,bH .any ed=true->listed.getD ed.on false=true)->AKy D n e a->LI P B (AJu ops true) ops R e w.heap K->(∀e' a' w',AKy D n e' a'->Same w w'->K e' w'.heap->Q .normal a' w')->wpAnyIn (FR ro) m P .any ops Q fuel listed a w:=by
 intro fuel;induction fuel with
 |zero=>
   intro R listed e a w K hlen _ _ hmem _ r H hK;obtain rfl:R=[]:=ay.1 hlen;refine⟨?_,hK _ _ _ r (.refl w) H⟩;refine bW.2 λj hj=>?_;obtain⟨hjl,oj,hoj,_⟩:=mem_ready.1 hj;have:=(hmem j).2 ⟨(ao.1 hoj).1,hjl⟩;cases this|succ fuel ih=>
   intro R listed e a w K hlen hpw hsz hmem hcl r H hK;constructor;.intro hr;exfalso;cases R with
    |nil=>simp at hlen|cons j R=>
      obtain⟨hjs,hjl⟩:=(hmem j).1 (ak ..);obtain⟨oj,hoj⟩:∃oj,ops[j]?=some oj:=⟨ops[j],ax hjs⟩;have:j∈co .any ops listed:=mem_ready.2 ⟨hjl,oj,hoj,λed hed hbd=>by
       obtain⟨_,_,hd⟩:=AJb hok hoj;have hlt:=(hd rfl).1 ed hed hbd;cases hl:listed.getD ed.on false with|true=>rfl|false=>
         exfalso;have hs:ed.on<ops.size:=ba hlt hjs;have hm:ed.on∈j::R:=(hmem ed.on).2 ⟨hs,by
          have h':ed.on<listed.size:=by omega
          simp[h']at hl⊢;exact hl⟩;rcases aM.1 hm with he|he;.omega
         .have:=(aH.1 hpw).1 _ he;omega⟩;rw[hr]at this;cases this
   .intro i hi;obtain⟨hil,oi,hoi,hall⟩:=mem_ready.1 hi;have his:i<ops.size:=(ao.1 hoi).1;have hiR:i∈R:=(hmem i).2 ⟨his,hil⟩;obtain⟨R1,R2,rfl⟩:=bR hiR;obtain⟨hdi,hsi,hdri⟩:=AJb hok hoi;have hpw':=aG.1 hpw;have hb:LI P B (AJu ops true) ops (i::(R1++R2)) e w.heap K:=by
     refine LI.bubble hoi hsi R1 (λk hk=>?_) H;have hki:k<i:=hpw'.2.2 k hk i<|ak ..;have hks:k<ops.size:=ba hki his;obtain⟨ok,hok'⟩:∃ok,ops[k]?=some ok:=⟨ops[k],ax hks⟩;refine⟨ok,hok',(AJb hok hok').2.1,?_⟩;rcases(hdri rfl).2 k ok hki hok' with⟨nre,hre⟩|h
     .exfalso;have h1:listed.getD k false=true:=AFn (L:=λj=>listed.getD j false=true) hcl nre k i oi hoi hall hre;have h2:=((hmem k).1 (ae _ hk)).2;have hks':k<listed.size:=by omega
      simp[hks']at h1 h2;rw[h1]at h2;cases h2
     .exact h
    simp only[LI,hoi]at hb;refine AV0 hoi (hnd i oi hoi) hdi r hb λe' a' w' r' hs hk=>?_;have his':i<listed.size:=by omega
    refine ih (R1++R2) _ e' a' w' K ?_ ?_ ?_ ?_ ?_ r' hk λe2 a2 w2 r2 s2 k2=>hK _ _ _ r2 (hs.trans s2) k2;.simp at hlen⊢;omega
    .refine aG.2 ⟨hpw'.1,(aH.1 hpw'.2.1).2,λx hx y hy=>hpw'.2.2 x hx y<|aj _ hy⟩
    .simp[hsz]
    .intro j;have hm:=hmem j;constructor
     .intro hj;have hj':j∈R1++i::R2:=by
       rcases ah.1 hj with h|h;.exact ae _ h
       .exact ap _<|aj _ h
      obtain⟨h1,h2⟩:=hm.1 hj';have hne:i≠j:=by
       intro he;subst he;rcases ah.1 hj with h|h;.have:=hpw'.2.2 i h i<|ak ..;omega
       .have:=(aH.1 hpw'.2.1).1 i h;omega
      exact⟨h1,by rw[getD_set_ne true hne];exact h2⟩
     .rintro⟨h1,h2⟩;have hne:i≠j:=by
       intro he;subst he;simp[his']at h2
      rw[getD_set_ne true hne]at h2;have:=hm.2 ⟨h1,h2⟩;rcases ah.1 this with h|h;.exact ae _ h
      .rcases aM.1 h with h|h;.exact absurd h.symm hne
       .exact ap _ h
    .intro j oj hj hoj ed hed hbd;by_cases hij:i=j
     .subst hij;rw[hoi]at hoj;injection hoj with hoj;subst hoj;exact getD_set_true<|hall ed hed hbd
     .rw[getD_set_ne false hij]at hj;exact getD_set_true<|hcl j oj hj hoj ed hed hbd
theorem AUe{n:Nat}(rest:List Nat):∀(l:List au)(k:Nat)(e:Env)(a:Act)(w:bt)(K:Env->Ws->Prop),(∀(j:Nat)(o:au),l[j]?=some o->ops[k+j]?=some o/\APr o=true/\∀x,o.dst=some x->x<n)->AKy D n e a->RL P B false ops l e w.heap K->(∀e' a' w',AKy D n e' a'->Same w w'->K e' w'.heap->wpOpsIn (FR ro) m P ops Q rest a' w')->wpOpsIn (FR ro) m P ops Q (bx k l.length++rest) a w:=by intro l;induction l with|nil=>intro k e a w K _ r H hK;exact hK _ _ _ r (.refl w) H|cons o l ih=>intro k e a w K hl r H hK;rw[dO,dL,cq,wpOpsIn_cons];obtain⟨h1,h2,h3⟩:=hl 0 o rfl;refine AV0 h1 h2 h3 r H λe' a' w' r' hs hk=>?_;exact ih (k+1) e' a' w' K (λj o hj=>by have:=hl (j+1) o hj;rwa[<-cn,Nat.add_right_comm]at this) r' hk λe2 a2 w2 r2 s2 k2=>hK _ _ _ r2 (hs.trans s2) k2
theorem AXq{n:Nat}(hmx:P.follows .mixedOrders=true){draw:Bool}{e:Env}{a:Act}{w:bt}(hok:AW8 n ops draw=true)(hnd:∀(j:Nat)(o:au),ops[j]?=some o->APr o=true)(r:AKy D n e a)(H:RL P B (AJu ops draw) ops ops.toList e w.heap K)(hK:∀e' a' w',AKy D n e' a'->Same w w'->K e' w'.heap->Q .normal a' w'):(Code.region id ops draw).wpIn (FR ro) m P Q a w:=by cases draw with
 |true=>
   have HL:LI P B (AJu ops true) ops (aK ops.size) e w.heap K:=by
    rw[bz,<-dz];exact A4f ops.toList 0 W4 e _ H
   refine wpIn_region_any hmx (Aex hok hnd ops.size (aK ops.size) (cX ops.size false) e a {w with drawn:=w.drawn+1} K W4 du W4 λj=>by
     simp only[aV];constructor;.intro h;exact⟨h,by simp[h]⟩
     .exactλh=>h.1
    (λj oj hj _=>by
      exfalso;rcases cQ j ops.size with h'|h';.simp[h']at hj
      .simp[h']at hj) r HL λe' a' w' r' hs hk=>hK e' a' w' r' ⟨hs.os,hs.tape,hs.output⟩ hk)|false=>
   refine wpIn_region ?_;have:=AUe (ro:=ro) (m:=m) (Q:=Q) (D:=D) (n:=n) [] ops.toList 0 e a w K (λj o hj=>by
    have hj':ops[j]?=some o:=by simpa using hj
    exact⟨by simpa using hj',hnd j o hj',(AJb hok hj').1⟩) r H λe' a' w' r' s k=>hK _ _ _ r' s k;rw[dV,dz,<-bz]at this;exact this
end
def WI(P:aA):cj->(bX->Env->Ws->Prop)->Env->Ws->Prop|.skip,Q,e,h=>Q .normal e h|.region _ ops draw,Q,e,h=>∃B,RL P B (AJu ops draw) ops ops.toList e h (Q .normal)|.seq a b,Q,e,h=>WI P a (AEw (λe h=>WI P b Q e h) Q) e h|.cond c x y,Q,e,h=>∃b,e.ev c=.bool b/\(b=true->WI P x Q e h)/\(b=false->WI P y Q e h)|.block id c,Q,e,h=>WI P c (AIi id Q) e h|.exit id,Q,e,h=>Q (.exit id) e h|.ret,Q,e,h=>Q .ret e h|.label _,Q,e,h=>Q .normal e h|_,_,_,_=>False
def okI(n:Nat):cj->Bool|.region _ ops draw=>AW8 n ops draw&&ops.toList.all APr|.seq a b=>okI n a&&okI n b|.cond _ a b=>okI n a&&okI n b|.block _ c=>okI n c|.skip|.exit _|.ret|.label _=>true|_=>false
theorem WI.sound(hmx:P.follows .mixedOrders=true){n m:Nat}{ro:Option Nat}{D:List Deferred}{c:cj}:∀{Q:bX->Env->Ws->Prop}{Q':bX->Act->bt->Prop}{e:Env}{a:Act}{w:bt},okI n c=true->AKy D n e a->WI P c Q e w.heap->(∀x e' a' w',AKy D n e' a'->Same w w'->Q x e' w'.heap->Q' x a' w')->c.wpIn (FR ro) m P Q' a w:=by induction c with
 |skip=>intro Q Q' e a w _ r H hQ;exact wpIn_skip (hQ _ _ _ _ r (.refl w) H)|region id ops draw=>
   intro Q Q' e a w hok r H hQ;simp only[okI,am]at hok;obtain⟨B,H⟩:=H;exact AXq hmx hok.1 (λj o hj=>aP.1 hok.2 o<|ai<|by simpa using hj) r H λe' a' w' r' s k=>hQ _ _ _ _ r' s k|seq x y ihx ihy=>
   intro Q Q' e a w hok r H hQ;simp only[okI,am]at hok;refine wpIn_seq<|ihx hok.1 r H λex e' a' w' r' s k=>?_;cases ex<;>first|exact hQ _ _ _ _ r' s k|exact ihy hok.2 r' k λAe e2 a2 w2 r2 s2 k2=>hQ _ _ _ _ r2 (s.trans s2) k2
 |cond c x y ihx ihy=>
   intro Q Q' e a w hok r H hQ;simp only[okI,am]at hok;obtain⟨b,hb,h1,h2⟩:=H;refine wpIn_cond_split (t:=b) (by rw[r.eval];exact hb) (λhh=>ihx hok.1 r (h1 hh) hQ) λhh=>ihy hok.2 r (h2 hh) hQ|block id c ih=>
   intro Q Q' e a w hok r H hQ;refine wpIn_block<|ih hok r H λex e' a' w' r' s k=>?_;cases ex<;>first|exact hQ _ _ _ _ r' s k|skip
   rename_i id';by_cases hid:id'=id;.simp only[AIi,Exit.inBlock,hid,if_true]at k⊢;exact hQ _ _ _ _ r' s k
   .simp only[AIi,Exit.inBlock,hid,if_false]at k⊢;exact hQ _ _ _ _ r' s k|exit id=>intro Q Q' e a w _ r H hQ;exact wpIn_exit (hQ _ _ _ _ r (.refl w) H)|ret=>intro Q Q' e a w _ r H hQ;exact wpIn_ret (hQ _ _ _ _ r (.refl w) H)|label=>intro Q Q' e a w _ r H hQ;exact wpIn_label (hQ _ _ _ _ r (.refl w) H)|loop=>intro Q Q' e a w _ _ H;exact H.elim|rangeFunc=>intro Q Q' e a w _ _ H;exact H.elim|scope=>intro Q Q' e a w _ _ H;exact H.elim|goto=>intro Q Q' e a w _ _ H;exact H.elim|refuse=>intro Q Q' e a w _ _ H;exact H.elim
section
variable{P:aA}{Q:bX->Env->Ws->Prop}{e:Env}{h:Ws}
theorem BA3(H:Q .ret e h):WI P .ret Q e h:=H
theorem Ap0{a b:cj}(H:WI P a (AEw (λe h=>WI P b Q e h) Q) e h):WI P (.seq a b) Q e h:=H
theorem A1e{c:cj}(H:WI P c (AIi id Q) e h):WI P (.block id c) Q e h:=H
theorem Aao{l:List au}(H:RL P (λ_=>True) false l.toArray l e h (Q .normal)):WI P (.region id l.toArray false) Q e h:=⟨λ_=>True,H⟩
end
def Afn(K:Env->Ws->Prop):bX->Env->Ws->Prop|.normal=>K|_=>λ_ _=>False
def ASe(P:aA)(l:Nat)(args:List ab)(h:Ws)(K:ab->Ws->Prop):Prop:=∀w:bt,w.heap=h->∃f tmps assign body,(Instr.yield l args.toArray).run P w=.ok (.round l f tmps assign body) w/\RoundIn (FR none) 0 P l f tmps assign body w λen w'=>∃v,en=.returned v/\Same w w'/\K v w'.heap
def AK9(f:dx)(tmps:Array ab)(p q:Tmp)(assign body:cj)(r:Nat):Loop:={state:=.ready,pending:=none,fn:=f,tmps,params:=#[p,q],assign,body,defers:=r}
def Ap1(f:dx)(tmps:Array ab)(p q:Tmp)(assign body:cj)(r:Nat):Loop:={state:=.busy,pending:=none,fn:=f,tmps,params:=#[p,q],assign,body,defers:=r}
theorem AXr(w:bt)(l:Nat)(o:Obj):Same w (w.putObj l o):=⟨rfl,rfl,rfl⟩
theorem Asf(hmx:P.follows .mixedOrders=true){l n r f:Nat}{tmps:Array ab}{p q:Tmp}{v2:ab}{e0:Env}{K:ab->Ws->Prop}(hl:h[l]?=some (.loop<|AK9 f tmps p q assign body r))(hn:tmps.size=n)(he:∀t,tmps.getD t undef=e0 t)(hp:p<n/\q<n)(Ag:okI n assign=true)(Ah:okI n body=true)(H:WI P assign (Afn λe1 h1=>h1[l]?=some (.loop<|AK9 f tmps p q assign body r)/\WI P body (Afn λ_ h2=>h2[l]?=some (.loop<|Ap1 f tmps p q assign body r)/\K (.bool true) (h2.setIfInBounds l<|.loop<|AK9 f tmps p q assign body r)) e1 (h1.setIfInBounds l<|.loop<|Ap1 f tmps p q assign body r)) ((e0.set p v).set q v2) h):ASe P l [v,v2] h K:=by
 intro w hw;subst hw;refine⟨_,_,_,_,run_yield hl rfl,roundIn_of_wpIn trivial ?_⟩;have hrep:Rep n e0 {tmps:=tmps,defers:=[]}:=⟨hn,rfl,he⟩;have Ai:AKy [] n ((e0.set p v).set q v2) {tmps:=(tmps.setIfInBounds p v).setIfInBounds q v2,defers:=[]}:=AKy.of ((hrep.put (some p) v λx hx=>by cases hx;exact hp.1).put (some q) v2 λx hx=>by cases hx;exact hp.2);have htm:((AK9 f tmps p q assign body r).params.zip #[v,v2]).foldl (λtmps(x:Tmp×ab)=>match x with|(t,a)=>tmps.setIfInBounds t a) (AK9 f tmps p q assign body r).tmps=(tmps.setIfInBounds p v).setIfInBounds q v2:=by simp[AK9]
 have hz:([v,v2]:List ab).toArray=#[v,v2]:=rfl;rw[hz,htm];refine WI.sound (ro:=some l) hmx Ag Ai H λx e1 a1 w1 r1 s1 k1=>?_;cases x<;>first|exact k1.elim|skip
 obtain⟨k1,k2⟩:=k1;refine⟨_,run_beginRound k1 rfl,?_⟩;refine WI.sound (ro:=some l) hmx Ah r1 (w:=w1.putObj l<|.loop<|Ap1 f tmps p q assign body r) k2 λx e2 a2 w2 r2 s2 k2=>?_;cases x<;>first|exact k2.elim|skip
 obtain⟨k2,k3⟩:=k2;exact⟨_,_,run_endRound none k2,.bool true,rfl,(s1.trans<|AXr _ _ _).trans (s2.trans<|AXr _ _ _),k3⟩
theorem RL.frameT{ops:Array au}{l:List au}{e e0:Env}{T:Nat->Prop}(hl:∀o∈l,∀t,o.dst=some t->T t)(he:∀t,¬T t->e t=e0 t)(H:RL P B st ops l e h K):RL P B st ops l e h λe' h'=>K e' h'/\∀t,¬T t->e' t=e0 t:=(RL.frame0 H).mono λe' h' hk=>⟨hk.1,λt ht=>(hk.2 t λo ho hd=>ht<|hl o ho t hd).trans (he t ht)⟩
theorem A1f{Q:bX->Env->Ws->Prop}{e:Env}{l:Nat}{pre post:List au}{d:Tmp}{c:bC}{pos:String}{af:Array Edge}(hnd:((pre++post).all APr&&(pre++⟨some d,.call ⟨.value c,xs.toArray,ts⟩,ty,pos,af,none⟩::post).all ACk)=true)(H:RL P (λ_=>True) false (pre++⟨some d,.call ⟨.value c,xs.toArray,ts⟩,ty,pos,af,none⟩::post).toArray pre e h λe1 h1=>e1.ev c=.func (.yield l) #[] #[]/\∃l1,xs.map e1.ev=l1/\ASe P l l1 h1 λv h2=>RL P (λ_=>True) false (pre++⟨some d,.call ⟨.value c,xs.toArray,ts⟩,ty,pos,af,none⟩::post).toArray post (e1.set d v) h2 (Q .normal)):W P (.region id (pre++⟨some d,.call ⟨.value c,xs.toArray,ts⟩,ty,pos,af,none⟩::post).toArray false) Q e h:=by
 intro hmx n id' a w Q' hb r hw hQ;subst hw;rw[<-wpIn_wide (n:=1)];show(Code.region id' _ false).wpIn (FR none) 1 P Q' a w;generalize hops:pre++(⟨some d,.call ⟨.value c,xs.toArray,ts⟩,ty,pos,af,none⟩:au)::post=ops at*;have hat:∀(j:Nat)(o:au),ops[j]?=some o->∀x,o.dst=some x->x<n:=λj o hj=>(AK2 (ops:=ops.toArray) hb (j:=j)<|by simpa using hj).1;have hsz:aK ops.toArray.size=bx 0 pre.length++pre.length::(bx (pre.length+1) post.length++[]):=by rw[bz,<-hops];simp only[cM,ci,dO,dV];rw[<-cy,eD,dL]
 rw[am]at hnd;have hnd:=aP.1 hnd.1;refine wpIn_region ?_;rw[hsz];refine AUe (D:=[]) (n:=n) (B:=λ_=>True) _ pre 0 e a w _ (λj o hj=>?_) (AKy.of r) (RL.frameT (T:=λt=>∃o∈ops,o.dst=some t) (e0:=e) (λo ho t ht=>⟨o,by rw[<-hops];simp[ho],ht⟩) (λ_ _=>rfl) H) λe1 a1 w1 r1 s1 k1=>?_
 .have h1:ops[j]?=some o:=by rw[<-hops,ck (ar.1 hj).1];exact hj
  exact⟨by simpa using h1,hnd o<|ae _<|ai hj,hat j o h1⟩
 obtain⟨⟨hc,l1,hl1,HY⟩,hf1⟩:=k1;rw[wpOpsIn_cons];have hop:ops.toArray[pre.length]?=some ⟨some d,.call ⟨.value c,xs.toArray,ts⟩,ty,pos,af,none⟩:=by rw[<-hops];simp
 unfold wpOpIn;simp only[hop];rw[if_pos<|by rfl];refine⟨λ_ _=>trivial,?_⟩;obtain⟨f,tmps,assign,body,hy,HR⟩:=HY w1 rfl;have hrun:(execOp a1.eval ⟨some d,.call ⟨.value c,xs.toArray,ts⟩,ty,pos,af,none⟩).run P w1=.ok (.round l f tmps assign body) w1:=by rw[r1.eval];simp only[execOp,resolve,dN,hl1,hc,cG,pure,bind,Sem.bind,invoke,dH,Array.empty_append];exact hy
 show Oper.uponIn _ _ _ _ _ _ _ ((execOp a1.eval ⟨some d,.call ⟨.value c,xs.toArray,ts⟩,ty,pos,af,none⟩).run P w1);rw[hrun];refine⟨λ_=>aU 1,HR.mono λen w2 hen=>?_⟩;obtain⟨v,rfl,s2,k2⟩:=hen;have hdn:d<n:=hat pre.length _ (by simpa using hop) d rfl;have r2:AKy [] n (e1.set d v) (a1.put (some d) v):=r1.put (some d) v λx hx=>by cases hx;exact hdn
 refine AUe (D:=[]) (n:=n) (B:=λ_=>True) [] post (pre.length+1) (e1.set d v) _ w2 _ (λj o hj=>?_) r2 (RL.frameT (T:=λt=>∃o∈ops,o.dst=some t) (e0:=e) (λo ho t ht=>⟨o,by rw[<-hops];simp[ho],ht⟩) (λt ht=>?_) k2) λe3 a3 w3 r3 s3 k3=>?_
 .have h1:ops[pre.length+1+j]?=some o:=by rw[<-hops,List.getElem?_append_right Wq,show pre.length+1+j-pre.length=j+1 from by omega];exact hj
  exact⟨by simpa using h1,hnd o<|ap _<|ai hj,hat _ o h1⟩
 .rw[Env.set_other _ _ λhe=>ht ⟨_,by rw[<-hops];exact ap _<|ak ..,by rw[he]⟩];exact hf1 t ht
 .exact hQ e3 a3 w3 r3.rep ((s1.trans s2).trans s3) k3.1 λt ht=>k3.2 t λ⟨o,ho,hd⟩=>ht o (by simpa using ho) hd
def Anf(P:aA)(g:bC)(p q:Tmp)(assign body:cj)(n:Nat)(K:Nat->Env->Ws->Prop)(e:Env)(h:Ws):Prop:=∃(f:dx)(cl:List ab),e.ev g=.func (.func f) #[] cl.toArray/\∀(fn:dx)(tmps:Array ab),tmps.size=n->(∀t,tmps.getD t undef=e t)->∀(h1:Ws)(r b:Nat),Ext h h1->h.size<=r->h.size<=b->r<h1.size->b<h1.size->r≠b->h1[r]?=some (.deferred<|some [])->h1[b]?=some (.loop<|AK9 fn tmps p q assign body r)->W6 P f (.func (.yield b) #[] #[]::cl).toArray h1 λ_ h'=>h'[b]?=some (.loop<|AK9 fn tmps p q assign body r)/\K r e (h'.setIfInBounds b<|.loop {AK9 fn tmps p q assign body r with state:=.exhausted})
def BA4(P:aA)(rs:List dI)(r:Nat)(K:ab->Ws->Prop):bX->Env->Ws->Prop|.normal,e,h|.ret,e,h=>h[r]?=some (.deferred<|some [])/\∃v,AY6 P rs e (h.setIfInBounds r<|.deferred none) v/\K v (h.setIfInBounds r<|.deferred none)|_,_,_=>False
theorem Aj5(hmx:P.follows .mixedOrders=true){g:bC}{p q:Tmp}{n:Nat}{K:Nat->Env->Ws->Prop}{e1:Env}{a1:Act}{w1:bt}{Q':bX->Act->bt->Prop}(r1:Rep n e1 a1)(H:Anf P g p q assign body n K e1 w1.heap)(hQ:∀r e' a' w',AKy [{target:=.collected r,args:=#[]}] n e' a'->Same w1 w'->K r e' w'.heap->Q' .normal a' w'):(Code.block id<|.rangeFunc g #[p,q] assign body).wpIn cr 1 P Q' a1 w1:=by
 obtain⟨f2,cl,hg,HC⟩:=H;refine wpIn_block<|wpIn_rangeFunc λfid _=>?_;have Af:(w1.alloc<|.deferred<|some []).heap.size=w1.heap.size+1:=by show(w1.heap.push _).size=_;simp
 have hext:Ext w1.heap ((w1.alloc<|.deferred<|some []).alloc (.loop<|AK9 fid a1.tmps p q assign body w1.heap.size)).heap:=by
  show Ext w1.heap ((w1.heap.push _).push _);refine⟨by simp;omega,λk hk=>?_⟩;rw[dp (by simp;omega)];simp[Array.getElem_push_lt hk,hk]
 have h1:((w1.alloc<|.deferred<|some []).alloc (.loop<|AK9 fid a1.tmps p q assign body w1.heap.size)).heap[w1.heap.size]?=some (.deferred<|some []):=by
  show((w1.heap.push _).push _)[w1.heap.size]?=_;rw[dp W4];simp
 have h2:((w1.alloc<|.deferred<|some []).alloc (.loop<|AK9 fid a1.tmps p q assign body w1.heap.size)).heap[w1.heap.size+1]?=some (.loop<|AK9 fid a1.tmps p q assign body w1.heap.size):=by
  have:=World.alloc_heap_new (w1.alloc<|.deferred<|some [])<|.loop<|AK9 fid a1.tmps p q assign body w1.heap.size;rwa[Af]at this
 have hsz:((w1.alloc<|.deferred<|some []).alloc (.loop<|AK9 fid a1.tmps p q assign body w1.heap.size)).heap.size=w1.heap.size+2:=by show((w1.heap.push _).push _).size=_;simp
 obtain⟨⟨Ai,Aj,Ak,Am⟩,Ao⟩:=HC fid a1.tmps r1.size r1.get _ w1.heap.size (w1.heap.size+1) hext (aU _) (Nat.le_succ _) Wq Wq Wq h1 h2;have hcall:=AOb ⟨Ai,Aj,Ak,Am⟩ (.func (.yield<|w1.heap.size+1) #[] #[]::cl).toArray<|(w1.alloc<|.deferred<|some []).alloc (.loop<|AK9 fid a1.tmps p q assign body w1.heap.size);have heval:a1.eval g=.func (.func f2) #[] cl.toArray:=by rw[r1.eval];exact hg
 refine⟨_,_,_,{target:=.fn (.func f2) cl.toArray,args:=#[.func (.yield<|w1.heap.size+1) #[] #[]]},(w1.alloc<|.deferred<|some []).alloc (.loop<|AK9 fid a1.tmps p q assign body w1.heap.size),f2,(.func (.yield<|w1.heap.size+1) #[] #[]::cl).toArray,(w1.alloc<|.deferred<|some []).alloc (.loop<|AK9 fid a1.tmps p q assign body w1.heap.size),run_enterLoop_outer fid a1.tmps #[p,q] assign body,?_,λ_ _=>trivial,?_,λ_=>aU 1,?_⟩;.simp only[resolve,heval,cG,pure,bind,Sem.bind];rw[show(#[]++Array.map a1.eval #[Operand.const<|ej (Fn.yield<|w1.heap.size+1) #[] #[]]:Array ab)=#[.func (.yield<|w1.heap.size+1) #[] #[]]by simp;rfl];rfl
 .show(invoke (.fn (.func f2) cl.toArray) #[.func (.yield<|w1.heap.size+1) #[] #[]]).run P _=_;simp only[invoke];have:#[ej (.yield<|w1.heap.size+1) #[] #[]]++cl.toArray=(.func (.yield<|w1.heap.size+1) #[] #[]::cl).toArray:=by simp
  rw[this];exact hcall
 .refine(Apz (r:=none)<|Ao _ rfl).mono λen w2 hen=>?_;obtain⟨v,rfl,s2,k2,k3⟩:=hen;refine⟨none,_,run_endLoop k2 (by simp[AK9]),?_⟩;have Ar:Same w1 ((w1.alloc<|.deferred<|some []).alloc (.loop<|AK9 fid a1.tmps p q assign body w1.heap.size)):=⟨rfl,rfl,rfl⟩;have Au:AKy [{target:=.collected w1.heap.size,args:=#[]}] n e1 {a1 with defers:=[{target:=.collected w1.heap.size,args:=#[]}]++a1.defers}:=⟨⟨r1.size,rfl,r1.get⟩,by simp[r1.defers]⟩;exact hQ w1.heap.size e1 _ _ Au (Ar.trans<|s2.trans<|AXr _ _ _) k3
theorem Asg(hmx:P.follows .mixedOrders=true){g:bC}{p q:Tmp}{n:Nat}{K:Nat->Env->Ws->Prop}{e:Env}(hok:(okI n assign&&okI n body&&(bA p n&&bA q n))=true)(H:∃(f:dx)(cl:List ab),e.ev g=.func (.func f) #[] cl.toArray/\∀(h1:Ws)(r b:Nat)(ol ob oe:Obj),Ext h h1->h.size<=r->h.size<=b->r<h1.size->b<h1.size->r≠b->h1[r]?=some (.deferred<|some [])->h1[b]?=some ol->Agv ol=false->Agv ob=false->Agv oe=false->(∀(v v2:ab)(h2:Ws)(K':ab->Ws->Prop),h2[b]?=some ol->WI P assign (Afn λe1 h3=>h3[b]?=some ol/\WI P body (Afn λ_ h4=>h4[b]?=some ob/\K' (.bool true) (h4.setIfInBounds b ol)) e1 (h3.setIfInBounds b ob)) ((e.set p v).set q v2) h2->ASe P b [v,v2] h2 K')->W6 P f (.func (.yield b) #[] #[]::cl).toArray h1 λ_ h'=>h'[b]?=some ol/\K r e (h'.setIfInBounds b oe)):Anf P g p q assign body n K e h:=by obtain⟨f,cl,hg,H⟩:=H;simp only[am]at hok;refine⟨f,cl,hg,λfn tmps hn ht h1 r b hE h2 h3 h4 h5 hne hd hl=>?_⟩;exact H h1 r b _ (.loop<|Ap1 fn tmps p q assign body r) _ hE h2 h3 h4 h5 hne hd hl rfl rfl rfl λv v2 h2 K' hl2 HW=>Asf hmx hl2 hn ht (by have:=hok.2;simpa[bA,Nat.lt_iff_add_one_le]using this) hok.1.1 hok.1.2 HW
def Aj6:cj->Bool|.rangeFunc ..=>true|.seq a b=>Aj6 a||Aj6 b|.block _ c=>Aj6 c|_=>false
def WR(P:aA)(n:Nat):cj->(Nat->bX->Env->Ws->Prop)->(bX->Env->Ws->Prop)->Env->Ws->Prop|.seq a b,N,Q,e,h=>if Aj6 a=true then WR P n a (λr=>AEw (λe h=>WI P b (N r) e h)<|N r) (AEw (λe h=>W P b Q e h) Q) e h else W P a (AEw (λe h=>WR P n b N Q e h) Q) e h|.block _ (.rangeFunc g ps assign body),N,_,e,h=>∃p q,ps=#[p,q]/\Anf P g p q assign body n (λr e h=>N r .normal e h) e h|_,_,_,_,_=>False
def okR(n:Nat):cj->Bool|.seq a b=>bif Aj6 a then okR n a&&okI n b&&okC n b else okC n a&&okR n b|.block _ (.rangeFunc ..)=>true|_=>false
theorem A6w{n:Nat}{a b:cj}{N:Nat->bX->Env->Ws->Prop}{Q:bX->Env->Ws->Prop}{e:Env}(ha:Aj6 a=true)(H:WR P n a (λr=>AEw (λe h=>WI P b (N r) e h)<|N r) (AEw (λe h=>W P b Q e h) Q) e h):WR P n (.seq a b) N Q e h:=by unfold WR;rw[if_pos ha];exact H
theorem AWh{n:Nat}{a b:cj}{N:Nat->bX->Env->Ws->Prop}{Q:bX->Env->Ws->Prop}{e:Env}(ha:Aj6 a=false)(H:W P a (AEw (λe h=>WR P n b N Q e h) Q) e h):WR P n (.seq a b) N Q e h:=by unfold WR;rw[if_neg (by rw[ha];simp)];exact H
theorem A1g(hmx:P.follows .mixedOrders=true){n:Nat}{g:bC}{p q:Tmp}{N:Nat->bX->Env->Ws->Prop}{Q:bX->Env->Ws->Prop}{e:Env}(hok:(okI n assign&&okI n body&&(bA p n&&bA q n))=true)(H:∃(f:dx)(cl:List ab),e.ev g=.func (.func f) #[] cl.toArray/\∀(h1:Ws)(r b:Nat)(ol ob oe:Obj),Ext h h1->h.size<=r->h.size<=b->r<h1.size->b<h1.size->r≠b->h1[r]?=some (.deferred<|some [])->h1[b]?=some ol->Agv ol=false->Agv ob=false->Agv oe=false->(∀(v v2:ab)(h2:Ws)(K':ab->Ws->Prop),h2[b]?=some ol->WI P assign (Afn λe1 h3=>h3[b]?=some ol/\WI P body (Afn λ_ h4=>h4[b]?=some ob/\K' (.bool true) (h4.setIfInBounds b ol)) e1 (h3.setIfInBounds b ob)) ((e.set p v).set q v2) h2->ASe P b [v,v2] h2 K')->W6 P f (.func (.yield b) #[] #[]::cl).toArray h1 λ_ h'=>h'[b]?=some ol/\N r .normal e (h'.setIfInBounds b oe)):WR P n (.block id<|.rangeFunc g #[p,q] assign body) N Q e h:=⟨p,q,rfl,Asg hmx hok H⟩
theorem WR.sound{P:aA}(hmx:P.follows .mixedOrders=true){n:Nat}{c:cj}:∀{N:Nat->bX->Env->Ws->Prop}{Q:bX->Env->Ws->Prop}{Q':bX->Act->bt->Prop}{e:Env}{a:Act}{w:bt},okR n c=true->Rep n e a->WR P n c N Q e w.heap->(∀x e' a' w',Rep n e' a'->Same w w'->Q x e' w'.heap->Q' x a' w')->(∀r x e' a' w',AKy [{target:=.collected r,args:=#[]}] n e' a'->Same w w'->N r x e' w'.heap->Q' x a' w')->c.wpIn cr 1 P Q' a w:=by induction c with
 |seq x y ihx ihy=>
   intro N Q Q' e a w hok r H hQ hN;unfold WR at H;unfold okR at hok;by_cases hx:Aj6 x=true
   .rw[if_pos hx]at H;rw[hx]at hok;simp only[cond_true,am]at hok;refine wpIn_seq<|ihx hok.1.1 r H (λex e' a' w' r' s k=>?_) λrr ex e' a' w' r' s k=>?_;.cases ex<;>first|exact hQ _ _ _ _ r' s k|exact wpIn_wide.2<|W.sound hmx hok.2 r' k λAc e2 a2 w2 r2 s2 k2=>hQ _ _ _ _ r2 (s.trans s2) k2
    .cases ex<;>first|exact hN _ _ _ _ _ r' s k|exact WI.sound (ro:=none) hmx hok.1.2 r' k λAc e2 a2 w2 r2 s2 k2=>hN _ _ _ _ _ r2 (s.trans s2) k2
   .rw[if_neg hx]at H;rw[Bool.not_eq_true]at hx;rw[hx]at hok;simp only[cond_false,am]at hok;refine wpIn_seq<|wpIn_wide.2<|W.sound hmx hok.1 r H λex e' a' w' r' s k=>?_;cases ex<;>first|exact hQ _ _ _ _ r' s k|exact ihy hok.2 r' k (λAc e2 a2 w2 r2 s2 k2=>hQ _ _ _ _ r2 (s.trans s2) k2) λrr Ac e2 a2 w2 r2 s2 k2=>hN _ _ _ _ _ r2 (s.trans s2) k2
 |block id c ih=>
   intro N Q Q' e a w hok r H hQ hN;cases c<;>first|exact H.elim|skip
   obtain⟨p,q,rfl,H⟩:=H;exact Aj5 hmx r H λrr e' a' w' r' s k=>hN _ _ _ _ _ r' s k|skip=>intro N Q Q' e a w _ _ H;exact H.elim|region=>intro N Q Q' e a w _ _ H;exact H.elim|cond=>intro N Q Q' e a w _ _ H;exact H.elim|loop=>intro N Q Q' e a w _ _ H;exact H.elim|exit=>intro N Q Q' e a w _ _ H;exact H.elim|ret=>intro N Q Q' e a w _ _ H;exact H.elim|rangeFunc=>intro N Q Q' e a w _ _ H;exact H.elim|scope=>intro N Q Q' e a w _ _ H;exact H.elim|label=>intro N Q Q' e a w _ _ H;exact H.elim|goto=>intro N Q Q' e a w _ _ H;exact H.elim|refuse=>intro N Q Q' e a w _ _ H;exact H.elim
theorem Aj7(hmx:P.follows .mixedOrders=true){fn:Func}{c:cj}{rs:List dI}{n:Nat}{l:List ab}{K:ab->Ws->Prop}(hf:P.funcs[f]?=some fn)(hnm:(fn.name== "runtime.NumGoroutine")=false)(hb:fn.body=some c)(hr:fn.results=rs.toArray)(hnt:fn.ntmps=n)(hl:bZ l.length n=true)(hok:okR n c=true)(H:WR P n c (λr=>BA4 P rs r K) (APb P rs K) (AVo l) h):W6 P f l.toArray h K:=by
 refine⟨⟨fn,hf,hnm,by simp[hb]⟩,λw hw=>?_⟩;subst hw;have hl:=aw hl;rw[<-callsIn_wide (n:=1)];have hres:∀{e':Env}{a':Act}{w2:bt}{D:List Deferred}{v:ab},AKy D n e' a'->AY6 P rs e' w2.heap v->(results fn a'.tmps).run P w2=.ok v w2:=λr hv=>hv fn _ _ hr r.r.get rfl;refine callsIn_of_wp_marks hf hb trivial<|WR.sound hmx (n:=n) hok (e:=AVo l) ⟨?_,rfl,λt=>?_⟩ H (λx e1 a1 w1 r1 s1 k1=>?_) λr x e3 a3 w3 r3 s3 k3=>?_;.simp[hnt];omega
 .rw[Ab7];simp only[bn];rw[dw];split;.simp
  .rename_i hge;have hge':l.length<=t:=by simpa using hge
   rw[av hge'];simp only[Option.getD_none];rw[df];split<;>rfl
 .have early:∀{v:ab},AY6 P rs e1 w1.heap v->K v w1.heap->LeavesInM cr 1 P fn a1.tmps (λen w'=>∃v,en=.returned v/\Same w w'/\K v w'.heap) a1.defers .returning w1:=by
   intro v hv hk;rw[r1.defers];exact⟨v,hres (AKy.of r1) hv,v,rfl,s1,hk⟩
  cases x<;>first|exact k1.elim|(obtain⟨v,hv,hk⟩:=k1;exact early hv hk)
 .have fin:(w3.heap[r]?=some (.deferred<|some [])/\∃v,AY6 P rs e3 (w3.heap.setIfInBounds r<|.deferred none) v/\K v (w3.heap.setIfInBounds r<|.deferred none))->LeavesInM cr 1 P fn a3.tmps (λen w'=>∃v,en=.returned v/\Same w w'/\K v w'.heap) a3.defers .returning w3:=by
   rintro⟨hd,v,hv,hk⟩;rw[r3.d];refine⟨W4,.inl ⟨r,w3.putObj r<|.deferred none,rfl,run_takeDeferred hd,?_⟩⟩;exact⟨v,hres (w2:=w3.putObj r<|.deferred none) r3 hv,v,rfl,s3.trans<|AXr _ _ _,hk⟩
  cases x<;>first|exact k3.elim|exact fin k3
theorem Ash{l:List ab}(H:Sl h v l):SlK h 1 v (l.map λx=>[x]):=by obtain⟨a,cap,hv,hc⟩:=H;refine⟨a,cap,by grind,λi row hr=>?_⟩;grind
theorem Afo{l:List ab}(H:SlK h 1 v (l.map λx=>[x])):Sl h v l:=by obtain⟨a,cap,hv,hc⟩:=H;refine⟨a,cap,by grind,λi x hx=>?_⟩;obtain⟨b,o,ha,hb⟩:=hc i [x] (by simp[hx]);refine⟨b,o,ha,?_⟩;have:=hb 0 x rfl;grind
theorem Av1{L:List Int}(H:Sl h v (L.map<|.int κ)):SlC (cI κ) h v L:=by
 refine⟨L.map λa=>[.int κ a],?_,W4,λi cs a h1 h2=>?_⟩;.have:=Ash H;rwa[dr]at this
 .rw[aY,h2]at h1;injection h1 with h1;exact h1.symm
theorem BA6{L:List Int}(H:SlC (cI κ) h v L):Sl h v (L.map<|.int κ):=by
 obtain⟨Ls,h1,h2,h3⟩:=H;have:Ls=(L.map<|an κ).map λx=>[x]:=by
  apply aJ;intro i;by_cases hi:i<L.length
  .obtain⟨a,ha⟩:∃a,L[i]?=some a:=⟨L[i],aa hi⟩;obtain⟨cs,hcs⟩:∃cs,Ls[i]?=some cs:=⟨Ls[i]'Wq,aa _⟩;have:=h3 i cs a hcs ha;rw[hcs,dr,aY,ha];exact congrArg some this
  grind
 subst this;exact Afo h1
theorem A6x{M:List (List Int)}(H:Zv (cI .i64) h v M):Mat h v M:=by obtain⟨_,rs,h1,h2,h3⟩:=H;exact⟨rs,Afo h1,h2,λi r z hr hz=>BA6<|h3 i r z hr hz⟩
end Go.QF
