/-
  Texts of a proof, joined. Conditions stand in each statement.
-/
import Derived.Lib.SmallJoins
import Derived.Test.YtgmdhndbcohgiaaGreatDoorMTopGenera4
set_option linter.unusedVariables false
set_option linter.unusedSimpArgs false
open Go.Value renaming bool->aa
open Int renaming mul_le_mul_of_nonneg_right->ab,mul_le_mul_of_nonneg_left->ae,mul_nonneg->ah,tmod->ao,mul_emod->ap,mul_comm->aq,le_of_lt->ar,toNat_natCast->av,emod_eq_of_lt->ax,dvd_trans->aF,mul_nonneg_of_nonpos_of_nonpos->aG,le_trans->aI,eq_of_mul_eq_mul_left->aJ,emod_lt_of_pos->aL,mul_assoc->aM,toNat->aP,emod_nonneg->aV,natAbs_mul->ba,mul_le_mul->bc,mul_one->bh,pow_succ->bo,emod_eq_emod_iff_emod_sub_eq_zero->bt,mul_ediv_cancel_left->bx,dvd_of_emod_eq_zero->bz,mul_zero->bA,lt_trichotomy->bD,emod_emod->bE,one_mul->bG,zero_mul->bH,le_of_mul_le_mul_left->bJ,lt_or_le->bL,le_total->bM,mul_ediv_add_emod->bN,pow_add->bO,mul_pos->bP,add_mul->bR,zero_emod->bT,tdiv->bV,mul_left_comm->bX,nonneg_of_mul_nonneg_right->b9,mul_pow->ca,mul_neg->cb,ediv_nonneg->cg,mul_ediv_mul_of_pos_left->ci,tmod_eq_emod_of_nonneg->cn,tdiv_eq_ediv_of_nonneg->co,add_mul_emod_self_left->cq,emod_self->ct,pos_of_mul_pos_right->cu,emod_eq_zero_of_dvd->cv,dvd_refl->cC,add_zero->cE,pow_pos->cK,neg_mul->cL,mul_sub->cM,dvd_add->cO,ediv_le_ediv->cX,dvd_natAbs->de,pow_succ'->dh,sub_emod->dp,le_refl->dr
open Nat renaming zero_le->ai,le_trans->am,lt_or_ge->aw,le_refl->ay,mul_le_mul_right->bn,lt_succ_iff_lt_or_eq->bw,mul_le_mul->bC,lt_of_le_of_lt->bI,mul_assoc->bS,zero_add->bW,le_of_eq->cx,add_zero->cy,le_mul_of_pos_left->cF,eq_zero_or_pos->cR,lt_trichotomy->cT,le_of_lt->di
open Sum renaming inr->aj,inl->ak
open Bool renaming and_false->an,noConfusion->bZ,and_eq_true->b8
open List renaming replicate->au,map_cons->aA,mem_cons_of_mem->aH,mem_cons_self->aK,length_replicate->aU,getElem_mem->aY,range->be,map_nil->bU,map_append->ce,nodup_iff_pairwise_ne->cj,getElem?_eq_some_iff->cm,getElem?_eq_getElem->cr,getElem?_of_mem->cJ,mem_singleton->cQ,length_map->cW
open Go renaming Value->bK
open Prod renaming ext->cG,mk->df
set_option maxRecDepth 100000
set_option maxHeartbeats 40000000
open Go Go.QF
variable{h:Go.QF.Ws}{F A G A0:Go.QF.Wz}{x y a last K p q T a1 a5 a2 B Dm d Ac:Int}{ps:List Int}{fuel r i j k s l t D N q0:Nat}{f g:Nat->Int}{α:Type}{Aa v:bK}
namespace Go.Proofs.YtgmdhndbcohgiaaGreatDoor
abbrev ALf(fuel:Nat)(a3:W1)(Ac:Ys)(Aa:Int):Option (Int⊕Int×Int×Bool⊕Unit):=if Aa<(a3.length:Int)then(gI a3 Aa).bind λAd=>if¬(Ad.length:Int)=(Ac.length:Int)then some<|aj<|ak<|(0,0,false)else some<|ak<|W3<|Aa+1 else some<|aj<|aj<|()
def AD0(fuel:Nat)(a3:W1):Option (Int×Int×Bool):=(if(a3.length:Int)<1 then some (.inl (0,0,false))else if 16<(a3.length:Int)then some (.inl (0,0,false))else some<|.inr ():Option (Int×Int×Bool⊕Unit)).bind λex=>match ex with|.inl Ac=>some Ac|.inr _=>(gI a3 0).bind λAb=>(if(Ab.length:Int)<1 then some (.inl (0,0,false))else if 16<(Ab.length:Int)then some (.inl (0,0,false))else some<|.inr ():Option (Int×Int×Bool⊕Unit)).bind λex=>match ex with|.inl Ad=>some Ad|.inr _=>(iter (λs=>ALf fuel a3 Ab s) fuel 0).bind λex=>match ex with|.inl Ae=>some Ae|.inr _=>some ((a3.length:Int),(Ab.length:Int),true)
theorem ARh{a3:W1}{r:Int×Int×Bool}(H2:Zv (cI .i64) h Aa a3)(hp:AD0 fuel a3=some r):W6 Tryz.prog 93 #[Aa] h λx h'=>Ext h h'/\x=.tuple #[.int .i64 r.1,.int .i64 r.2.1,.bool r.2.2]:=by unfold AD0 at hp;refine cwf (l:=[_]) Tryz.func93 rfl rfl ?_;have ss:=ia (lz 2 65308 [])<|ia (lz 2 66060316 [])<|ia (lz 0 137170518172 [.i 28])<|trivial;exact zz (Xg.k0 h) hp
abbrev AKe(fuel:Nat)(a3:W1)(Ac:Ys)(Aa:Int):Option (Int⊕Int×Int×Bool⊕Unit):=if Aa<(a3.length:Int)then(gI a3 Aa).bind λAd=>if¬(Ad.length:Int)=(Ac.length:Int)then some<|aj<|ak<|(0,0,false)else some<|ak<|W3<|Aa+1 else some<|aj<|aj<|()
def Xy(fuel:Nat)(a3:W1):Option (Int×Int×Bool):=(if(a3.length:Int)<1 then some (.inl (0,0,false))else if 16<(a3.length:Int)then some (.inl (0,0,false))else some<|.inr ():Option (Int×Int×Bool⊕Unit)).bind λex=>match ex with|.inl Ac=>some Ac|.inr _=>(gI a3 0).bind λAb=>(if(Ab.length:Int)<1 then some (.inl (0,0,false))else if 16<(Ab.length:Int)then some (.inl (0,0,false))else some<|.inr ():Option (Int×Int×Bool⊕Unit)).bind λex=>match ex with|.inl Ad=>some Ad|.inr _=>(iter (λs=>AKe fuel a3 Ab s) fuel 0).bind λex=>match ex with|.inl Ae=>some Ae|.inr _=>some ((a3.length:Int),(Ab.length:Int),true)
theorem AJ7{a3:W1}{r:Int×Int×Bool}(H2:Zv cZ h Aa a3)(hp:Xy fuel a3=some r):W6 Tryz.prog 62 #[Aa] h λx h'=>Ext h h'/\x=.tuple #[.int .i64 r.1,.int .i64 r.2.1,.bool r.2.2]:=by unfold Xy at hp;refine cwf (l:=[_]) Tryz.func62 rfl rfl ?_;have ss:=ia (lz 2 65308 [])<|ia (lz 2 66060316 [])<|ia (lz 0 137170518172 [.i 28])<|trivial;exact zz (Xg.k0 h) hp
abbrev ANh(fuel:Nat)(a3:W1)(Ab:Int)(Af:Ys)(Aa:Int)(Ac:W1):Option (Int×W1⊕W1):=if Aa<(Af.length:Int)then(gI Ac Ab).bind λAd=>((gI a3 Ab).bind λAg=>(gI Ag Aa).bind λAh=>(ACu fuel Ah).bind λAi=>some<|Ai:Option Int).bind λAj=>(gI Ad Aa).bind λAk=>some<|ak (W3<|Aa+1,sI Ac Ab<|sI Ad Aa Aj)else some<|aj<|Ac 
abbrev ANi(fuel:Nat)(a3:W1)(Ae:Int)(Ab:Int)(Aa:Int)(Ac:W1):Option (Int×W1⊕W1):=if Aa<((au (aP Ae) ([]:List Int)).length:Int)then if 0<=Ab/\Ab<=100000000 then(gI Ac Aa).bind λAh=>(gI (sI Ac Aa<|au (aP Ab) (0:Int)) Aa).bind λAf=>(iter (λs=>ANh fuel a3 Aa Af s.1 s.2) fuel (0,sI Ac Aa<|au (aP Ab) (0:Int))).bind λ(Ag:W1)=>some<|ak (W3<|Aa+1,Ag)else none else some<|aj<|Ac 
def ACv(fuel:Nat)(a3:W1):Option (W1×Bool):=(AD0 fuel a3).bind λ(Aa,Ac,Ad)=>if(!Ad)=true then some ([],false)else(if 0<=Aa/\Aa<=100000000 then(iter (λs=>ANi fuel a3 Aa Ac s.1 s.2) fuel (0,au (aP Aa) ([]:List Int))).bind λ(Ae:W1)=>some Ae else none:Option W1).bind λAf=>some (Af,true)
theorem AM9{a3:W1}{r:W1×Bool}(H2:Zv (cI .i64) h Aa a3)(hp:ACv fuel a3=some r):W6 Tryz.prog 42 #[Aa] h λx h'=>Ext h h'/\∃(x0:bK)(F0:List Nat)(Ae:List LnA)(Af:List bK),x=.tuple #[x0,.bool r.2]/\Yv cZ 56 32 h' F0 Ae Af x0 r.1/\Sp h' h.size [F0]:=by unfold ACv at hp;refine cwf (l:=[_]) Tryz.func42 rfl rfl ?_;have ss:=ia (fs Tryz.func63 4 [.q 1 56 32 0])<|ia (lz 0 4398046495488 [.i 14,.m 0])<|ia (lz 0 2198889038336 [.s [1,2],.i 27,.m 0])<|ia (fs Tryz.func94 10 [])<|trivial;exact zz (Xg.k0 h) hp
abbrev ACc(fuel:Nat)(a3:W1)(Ac:Int)(Ad:W1)(Aa:Int):Option (Int⊕Int):=(if Aa<(a3.length:Int)then(gI Ad Aa).bind λAe=>(gI Ae Ac).bind λAf=>(ASs fuel Af).bind λAg=>if Ag=0 then some<|ak<|()else some<|aj<|()else some<|aj<|():Option (Unit⊕Unit)).bind λex=>match ex with|ak _=>some<|ak<|W3<|Aa+1|aj _=>some<|aj<|Aa 
abbrev ACd(fuel:Nat)(a3:W1)(Ad:Int)(Ag:Int)(Ah:Int)(Ae:Int)(Aa:Int)(Ab:W1):Option (Int×W1⊕W1):=if Aa<(a3.length:Int)then(gI Ab Ae).bind λAc=>(gI Ac Aa).bind λAi=>(ATe fuel Ah Ai).bind λAj=>(gI Ac Ad).bind λAk=>(gI Ab Ad).bind λAm=>(gI Am Aa).bind λAo=>(ATe fuel Ak Ao).bind λAp=>(Aqd fuel Aj Ap).bind λAq=>(Zz fuel Aq Ag).bind λ(Ar,Au,Av)=>some<|ak (W3<|Aa+1,sI Ab Ae<|sI Ac Aa Ar)else some<|aj<|Ab 
abbrev ACe(fuel:Nat)(a3:W1)(Ac:Int)(Ae:Int)(Af:Int)(Aa:Int)(Ad:W1):Option (Int×W1⊕W1):=if Aa<(a3.length:Int)then(iter (λs=>ACd fuel a3 Ac Ae Af Aa s.1 s.2) fuel (W3<|Ac+1,Ad)).bind λ(Ag:W1)=>some<|ak (W3<|Aa+1,Ag)else some<|aj<|Ad 
abbrev ACf(fuel:Nat)(a3:W1)(Ae:Bool)(Aa:Int)(Ab:W1)(Af:Int):Option (Bool×Int×W1×Int⊕Int⊕Bool×Int):=if Aa<(a3.length:Int)then((iter (λs=>ACc fuel a3 Aa Ab s) fuel Aa).bind λ(Ai:Int)=>some<|Ai:Option Int).bind λ(Ad:Int)=>if Ad=(a3.length:Int)then some<|aj<|ak<|0 else(if¬Ad=Aa then(gI Ab Ad).bind λAj=>(gI Ab Aa).bind λAk=>some<|(!Ae,sI (sI Ab Aa Aj) Ad Ak)else some<|(Ae,Ab):Option (Bool×W1)).bind λ((Am,Ag):Bool×W1)=>(gI Ag Aa).bind λAo=>(gI Ao Aa).bind λAh=>(iter (λs=>ACe fuel a3 Aa Af Ah s.1 s.2) fuel (W3<|Aa+1,Ag)).bind λ(Ap:W1)=>some<|ak (Am,W3<|Aa+1,Ap,Ah)else some<|aj<|aj<|(Ae,Af)
abbrev ACg(fuel:Nat)(a3:W1)(Aa:Int)(Ac:W1):Option (Int×W1⊕W1):=if Aa<(a3.length:Int)then(gI a3 Aa).bind λAd=>if 0<=(a3.length:Int)/\(a3.length:Int)<=100000000 then(gI Ac Aa).bind λAf=>(gI (sI Ac Aa<|au (aP (a3.length:Int)) (0:Int)) Aa).bind λAe=>if Ad.length=Ae.length/\0<Ae.length then some<|ak (W3<|Aa+1,sI (sI Ac Aa<|au (aP (a3.length:Int)) (0:Int)) Aa Ad)else none else none else some<|aj<|Ac 
def Zq(fuel:Nat)(a3:W1):Option Int:=if 0<=(a3.length:Int)/\(a3.length:Int)<=100000000 then(iter (λs=>ACg fuel a3 s.1 s.2) fuel (0,au (aP (a3.length:Int)) ([]:List Int))).bind λ(Ac:W1)=>(ACu fuel 1).bind λAd=>(iter (λs=>ACf fuel a3 s.1 s.2.1 s.2.2.1 s.2.2.2) fuel (false,0,Ac,Ad)).bind λex=>match ex with|.inl Ae=>some Ae|.inr (Af,Ab)=>if Af=true then(Aqe fuel Ab).bind λAg=>some Ag else(AFt fuel Ab).bind λAh=>some Ah else none
theorem ARg{a3:W1}{r:Int}(H2:Zv cZ h Aa a3)(hp:Zq fuel a3=some r):W6 Tryz.prog 95 #[Aa] h λx h'=>Ext h h'/\∃(x0:bK),x=x0/\ZZ h' x0 r:=by unfold Zq at hp;refine cwf (l:=[_]) Tryz.func95 rfl rfl ?_;have ss:=ia (lz 0 274875809888 [.i 21,.m 0])<|ia (lz 0 22300745198530623141535718272647261994385024 [.b 7,.i 40,.m 2,.z 1 0])<|ia (lz 1 1152903912420803584 [.i 10])<|ia (lz 0 1152903912420803584 [.i 10])<|ia (lz 3 288212783965667328 [])<|ia (lz 1 9671388110172959688097920 [.b 7,.m 2])<|ia (lz 0 5575186299632650833623772426640990780026880 [.i 12,.m 4])<|ia (lz 0 5575186299632021960083815453461342024916992 [.i 13,.m 4])<|ia (fl 14 25 1 6)<|trivial;exact zz (Xg.k0 h) hp
def AB1(fuel:Nat)(a3:W1):Option (Int×Bool):=(Xy fuel a3).bind λ(Ab,Ac,Ad)=>if(!Ad)=true then some (0,false)else if¬Ab=Ac then some (0,false)else(Zq fuel a3).bind λx32=>some (x32,true)
theorem ATc{a3:W1}{r:Int×Bool}(H2:Zv cZ h Aa a3)(hp:AB1 fuel a3=some r):W6 Tryz.prog 43 #[Aa] h λx h'=>Ext h h'/\∃(x0:bK),x=.tuple #[x0,.bool r.2]/\ZZ h' x0 r.1:=by unfold AB1 at hp;refine cwf (l:=[_]) Tryz.func43 rfl rfl ?_;exact zz (Xg.k0 h) hp
end Go.Proofs.YtgmdhndbcohgiaaGreatDoor
namespace Go.QF
def Abs(x b:Int):Prop:=-b<=x/\x<=b
theorem AVc{b:Int}(hx:Abs x a)(hy:Abs y b):Abs (x*y) (a*b):=by
 unfold Abs at*;have ha:0<=a:=by omega
 have hb:0<=b:=by omega
 have h1:0<=(a-x)*(b-y):=ah Wq Wq;have h2:0<=(a-x)*(b+y):=ah Wq Wq;have h3:0<=(a+x)*(b-y):=ah Wq Wq;have h4:0<=(a+x)*(b+y):=ah Wq Wq;grind
theorem Awz{b:Int}(hb:0<b)(hx:Abs x (b*y)):Abs (x.tdiv b) y:=by
 unfold Abs at*;rcases AQ8 x 0 with h|h
 .have h1:x.tdiv b=-(-x).tdiv b:=by simp_all
  have h2:(-x).tdiv b=-x/b:=co Wq;have h3:-x/b<=y:=by
   have:-x/b<=b*y/b:=cX hb Wq;rwa[bx _ Wq]at this
  have h4:0<=-x/b:=cg Wq Wq;omega
 .have h2:x.tdiv b=x/b:=co h;have h3:x/b<=y:=by
   have:x/b<=b*y/b:=cX hb Wq;rwa[bx _ Wq]at this
  have h4:0<=x/b:=cg h Wq;omega
def Adm(M:List (List Int)):Prop:=(1<=M.length/\M.length<=8)/\(∀z∈M,z.length=M.length)/\∀i j,i<M.length->j<M.length->ent M i j=ent M j i/\-262144<ent M i j/\ent M i j<262144
open Classical in noncomputable def AHa(M:List (List Int)):Bool:=decide (Adm M)
theorem AD5{M:List (List Int)}(h:Adm M):true=AHa M:=by simp[AHa,h]
theorem AAv{M:List (List Int)}(h:¬Adm M):false=AHa M:=by simp[AHa,h]
theorem Adn{M:List (List Int)}(h:AHa M=true):Adm M:=by simpa[AHa]using h
def AN1(m:Nat)(F:Wz):Prop:=(0<F 0 0/\F 0 0<65536)/\∀i,1<=i->i<m->2*F i 0<=F 0 0/\-2*F i 0<=F 0 0
instance(m:Nat)(F:Wz):Decidable (AN1 m F):=by
 unfold AN1;have:Decidable (∀i,1<=i->i<m->2*F i 0<=F 0 0/\-2*F i 0<=F 0 0):=decidable_of_iff (∀i,i<m->1<=i->2*F i 0<=F 0 0/\-2*F i 0<=F 0 0) ⟨λh i a b=>h i b a,λh i a b=>h i b a⟩;infer_instance
def APk(F:Wz)(last:Int):Wz:=λi j=>(F 0 0*F (i+1) (j+1)-F (i+1) 0*F 0 (j+1)).tdiv last
def AVu(F:Wz)(last:Int):Prop:=3*F 0 0*F 0 0<=4*(last*APk F last 0 0+F 1 0*F 1 0)
instance(F:Wz)(last:Int):Decidable (AVu F last):=by unfold AVu;infer_instance
def AN2:Nat->Wz->Int->Bool|0,_,_=>false|1,F,_=>decide (0<F 0 0/\F 0 0<=10000)|m+2,F,last=>decide (AN1 (m+2) F)&&(decide (AVu F last)&&AN2 (m+1) (APk F last) (F 0 0))
noncomputable def isRed(M:List (List Int)):Bool:=AHa M&&AN2 M.length (ent M) 1
structure Stg(m:Nat)(F:Wz)(last:Int)(K:Int):Prop where
 sym:∀i j,i<m->j<m->F i j=F j i
 bd:∀i j,i<m->j<m->Abs (F i j) (last*K)l1:1<=last
 l2:last<=65535
theorem Akr{m:Nat}(H:Stg (m+1) F last K)(hK:0<=K)(hs:AN1 (m+1) F):Stg m (APk F last) (F 0 0) (K+16384):=by
 have hd:=hs.1;have hcol:∀i,i<m->Abs (2*F (i+1) 0) (F 0 0):=λi hi=>by
  have:=hs.2 (i+1) Wq Wq;exact⟨Wq,Wq⟩
 refine⟨λi j hi hj=>?_,λi j hi hj=>?_,Wq,Wq⟩;.unfold APk;rw[H.sym (i+1) (j+1) Wq Wq,H.sym (i+1) 0 Wq Wq,H.sym 0 (j+1) Wq Wq,aq<|F 0<|i+1]
 .unfold APk;refine Awz (by have:=H.l1;omega) ?_;have h1:Abs (F 0 0*F (i+1) (j+1)) (F 0 0*(last*K)):=AVc ⟨Wq,Wq⟩<|H.bd _ _ Wq Wq;have h2:Abs (2*F (i+1) 0*(2*F 0 (j+1))) (F 0 0*F 0 0):=by
   refine AVc (hcol i hi) ?_;rw[H.sym 0 (j+1) Wq Wq];exact hcol j hj
  have h3:0<=F 0 0*(65536-F 0 0):=ah Wq Wq;have h4:0<=F 0 0*(last-1):=ah Wq (by have:=H.l1;omega);unfold Abs at*;grind
theorem Asx{M:List (List Int)}(h:Adm M):Stg M.length (ent M) 1 262144:=by refine⟨λi j hi hj=>(h.2.2 i j hi hj).1,λi j hi hj=>?_,Wq,Wq⟩;have:=h.2.2 i j hi hj;unfold Abs;omega
theorem AMt{m:Nat}(h:2<=m)(hs:¬AN1 m F):AN2 m F last=false:=by obtain⟨n,rfl⟩:∃n,m=n+2:=⟨m-2,Wq⟩;unfold AN2;grind
theorem ARq{m:Nat}(h:2<=m)(hs:¬AVu F last):AN2 m F last=false:=by obtain⟨n,rfl⟩:∃n,m=n+2:=⟨m-2,Wq⟩;unfold AN2;grind
theorem Asy{m:Nat}(h:2<=m)(hs:AN1 m F)(hl:AVu F last):AN2 m F last=AN2 (m-1) (APk F last) (F 0 0):=by obtain⟨n,rfl⟩:∃n,m=n+2:=⟨m-2,Wq⟩;rw[AN2,decide_eq_true hs,decide_eq_true hl];rfl
theorem Abu{m:Nat}(H:Stg m F last K)(hK0:0<=K)(hK:K<=393216)(hi:i<m)(hj:j<m):Abs (F i j) 34359738368:=by have h1:=H.bd i j hi hj;have h2:=(AY9 (a:=last) (b:=K) (A:=65535) (B:=393216) (by have:=H.l1;omega) H.l2 hK0 hK).2;unfold Abs at*;omega
end Go.QF
namespace Go.Proofs.YtgmdhndbcohgiaaGreatDoor
theorem AGu{c:Nat}{g:Nat->α}{q:Nat}(hq:q<c):((be c).map g)[q]?=some (g q):=by simp[hq]
section
variable{P:Program}{B:Ws->Prop}{st:Bool}{ops:Array Oper}{rest:List Oper}{e:Env}{h:Ws}{K:Env->Ws->Prop}
variable{d:Nat}{ty:TypeId}{pos:String}{af:Array Edge}
end
theorem Anw{M:List (List Int)}(HM:Mat h v M):W6 Tryz.prog 91 #[v] h λx h'=>h'=h/\x=.bool (AHa M):=by
 refine Xn (l:=[_]) mx Tryz.func91 rfl rfl rfl rfl rfl Ww (Xd<|ADt<|Wu<|AY8 AEx rfl HM (Xu<|Wx<|Xd<|Wu<|ABa rfl rfl (λAb=>?_) λAb=>?_))
 .refine Wu (X8 14 true Ww rfl rfl (X8 14 true Ww rfl rfl (Zk rfl (Xl<|X0 rfl (Xd<|Xu<|Xt<|Ze<|⟨_,Ya,?_⟩)))));first
   |exact⟨rfl,congrArg aa (AAv λhh=>by have:=hh.1;omega)⟩|exact⟨rfl,congrArg aa (AAv λhh=>by have:=hh.2.1 M[i]<|aY _;omega)⟩|exact⟨rfl,congrArg aa (AAv λhh=>by have:=hh.2.2 a b Wq Wq;omega)⟩|exact⟨rfl,congrArg aa<|AD5 ⟨⟨Wq,Wq⟩,hrows,λx y hx hy=>hall x y Wq hy⟩⟩
 .refine Wu<|Yh 14 false Ww rfl rfl (Wu<|Yh 14 false Ww rfl rfl (AN4 rfl rfl (λAc=>?_) λAc=>?_));.refine AAs rfl (Xl<|X0 rfl (Xd<|Xu<|Xt<|Ze<|⟨_,Ya,?_⟩));first
    |exact⟨rfl,congrArg aa (AAv λhh=>by have:=hh.1;omega)⟩|exact⟨rfl,congrArg aa (AAv λhh=>by have:=hh.2.1 M[i]<|aY _;omega)⟩|exact⟨rfl,congrArg aa (AAv λhh=>by have:=hh.2.2 a b Wq Wq;omega)⟩|exact⟨rfl,congrArg aa<|AD5 ⟨⟨Wq,Wq⟩,hrows,λx y hx hy=>hall x y Wq hy⟩⟩
  .refine AAs rfl (Xl<|Xi rfl (Xj<|Xr<|Wx<|Xd<|Wu<|AY8 AEx rfl HM (Wu<|Xl<|W8<|AB5 535822372 (λi:Nat=>[(20,.int .i64 (i:Int))]) (λk i h'=>h'=h/\k=M.length-i/\i<=M.length/\∀j(hj:j<M.length),j<i->M[j].length=M.length) Ww M.length 0 ?_ ⟨rfl,trivial⟩ ?_)));.exact⟨rfl,rfl,ai _,λj _ hj=>by omega⟩
   rintro k i s1 h⟨rfl,rfl,hi,hrow⟩;refine Xd<|ABa rfl rfl (λAd=>?_) λAd=>?_
   .refine Xl<|Wx<|X0 rfl (Xj<|Xr<|Wx<|W8<|Xd<|AT2 AEx rfl HM rfl (cr Wq) λaR rR haR hrR=>?_);refine Yf AIk rfl haR (ADt<|Wu<|At1 AFz rfl hrR (Wu<|Ajb rfl rfl (λAe=>?_) λAe=>?_))
    .refine Xl (X0 rfl (Xd<|Xu<|Xt<|ADr<|Ze<|Ze<|ADr<|Ze<|⟨_,Ya,?_⟩));first
      |exact⟨rfl,congrArg aa (AAv λhh=>by have:=hh.1;omega)⟩|exact⟨rfl,congrArg aa (AAv λhh=>by have:=hh.2.1 M[i]<|aY _;omega)⟩|exact⟨rfl,congrArg aa (AAv λhh=>by have:=hh.2.2 a b Wq Wq;omega)⟩|exact⟨rfl,congrArg aa<|AD5 ⟨⟨Wq,Wq⟩,hrows,λx y hx hy=>hall x y Wq hy⟩⟩
    .refine Xl<|Xi rfl (Xj<|q_b<|Xr<|W5<|AFp rfl Wq (Wu<|Xl ?_));exact⟨M.length-(i+1),i+1,Wq,⟨rfl,rfl,Wq,λj hj Af=>by rcases bw.1 Af with q|rfl;exact hrow j hj q;omega⟩,rfl,trivial⟩
   .refine Xl<|Wx<|Xi rfl (Y9<|Zj<|Zj<|AEo<|Xr<|Wx<|Wx ?_);have hrows:∀z∈M,z.length=M.length:=λz hz=>by obtain⟨j,hj,rfl⟩:=List.getElem_of_mem hz;exact hrow j hj Wq
    have Aa:Mat h v (Xw M.length M.length<|ent M):=Amm hrows▸HM;refine W5<|Wu<|AY8 AEx rfl Aa ?_;rw[Xh];refine Wu<|Xl<|W8<|AB5 4611686016279905220 (λa:Nat=>[(31,.int .i64 (a:Int))]) (λk a h'=>h'=h/\k=M.length-a/\a<=M.length/\∀x y,x<a->y<M.length->ent M x y=ent M y x/\-262144<ent M x y/\ent M x y<262144) Ww M.length 0 ?_ ⟨rfl,trivial⟩ ?_;.exact⟨rfl,rfl,ai _,λx y hx=>by omega⟩
    rintro k a s2 h⟨rfl,rfl,ha,hall⟩;refine Xd<|ABa rfl rfl (λAg=>?_) λAg=>?_
    .refine Xl<|Wx<|X0 rfl (Xj<|Xr<|Wx<|W8<|Xd<|Wu<|AT2 AEx rfl Aa rfl (ADe Wq) λaS rS haS hrS=>Yf AIk rfl haS (X4<|ADt<|Wu<|At1 AFz rfl hrS ?_));rw[cW,List.length_range];refine Wu<|Xl<|W8<|AB5 2305842734335787780 (λb:Nat=>[(38,.int .i64 (b:Int))]) (λk b h'=>h'=h/\k=M.length-b/\b<=M.length/\∀y,y<b->ent M a y=ent M y a/\-262144<ent M a y/\ent M a y<262144) Ww M.length 0 ?_ ⟨rfl,trivial⟩ ?_;.exact⟨rfl,rfl,ai _,λy hy=>by omega⟩
     rintro k b s3 h⟨rfl,rfl,hb,hrw⟩;refine Xd<|ABa rfl rfl (λAh=>?_) λAh=>?_
     .refine Xl<|Wx<|X0 rfl (Xj<|Xr<|Wx<|W8<|Xd<|Wu<|AQ6 AFz rfl hrS rfl (AGu Wq) λAp Ai=>Yf AJe rfl Ai (X4<|ADt<|Wu<|Wu<|Wu<|AT2 AEx rfl Aa rfl (ADe Wq) λaT rT haT hrT=>?_));refine Yf AIk rfl haT (Wu<|AQ6 AFz rfl hrT rfl (AGu Wq) λAq Aj=>Yf AJe rfl Aj (Ajb rfl rfl (λAk=>?_) λAk=>?_))
      .refine Wu (X8 52 true Ww rfl rfl (X8 52 true Ww rfl rfl (Zk rfl (Wu<|X8 56 true Ww rfl rfl (X8 56 true Ww rfl rfl (Zk rfl (Xl<|X0 rfl (Xd<|Xu<|Xt<|ADr<|Ze<|Ze<|ADr<|ADr<|Ze<|Ze<|ADr<|Ze<|⟨_,Ya,?_⟩))))))));first
        |exact⟨rfl,congrArg aa (AAv λhh=>by have:=hh.1;omega)⟩|exact⟨rfl,congrArg aa (AAv λhh=>by have:=hh.2.1 M[i]<|aY _;omega)⟩|exact⟨rfl,congrArg aa (AAv λhh=>by have:=hh.2.2 a b Wq Wq;omega)⟩|exact⟨rfl,congrArg aa<|AD5 ⟨⟨Wq,Wq⟩,hrows,λx y hx hy=>hall x y Wq hy⟩⟩
      .refine Wu<|Yh 52 false Ww rfl rfl (Wu<|Yh 52 false Ww rfl rfl (AS7 rfl rfl (λAm=>?_) λAm=>?_));.refine AAs rfl (Wu<|X8 56 true Ww rfl rfl (X8 56 true Ww rfl rfl (Zk rfl (Xl<|X0 rfl (Xd<|Xu<|Xt<|ADr<|Ze<|Ze<|ADr<|ADr<|Ze<|Ze<|ADr<|Ze<|⟨_,Ya,?_⟩)))));first
         |exact⟨rfl,congrArg aa (AAv λhh=>by have:=hh.1;omega)⟩|exact⟨rfl,congrArg aa (AAv λhh=>by have:=hh.2.1 M[i]<|aY _;omega)⟩|exact⟨rfl,congrArg aa (AAv λhh=>by have:=hh.2.2 a b Wq Wq;omega)⟩|exact⟨rfl,congrArg aa<|AD5 ⟨⟨Wq,Wq⟩,hrows,λx y hx hy=>hall x y Wq hy⟩⟩
       .refine AAs rfl (Wu<|Yh 56 false Ww rfl rfl (Wu<|Yh 56 false Ww rfl rfl (AT1 rfl rfl (λAo=>?_) λAo=>?_)))
        .refine AAs rfl (Xl<|X0 rfl (Xd<|Xu<|Xt<|ADr<|Ze<|Ze<|ADr<|ADr<|Ze<|Ze<|ADr<|Ze<|⟨_,Ya,?_⟩));first
          |exact⟨rfl,congrArg aa (AAv λhh=>by have:=hh.1;omega)⟩|exact⟨rfl,congrArg aa (AAv λhh=>by have:=hh.2.1 M[i]<|aY _;omega)⟩|exact⟨rfl,congrArg aa (AAv λhh=>by have:=hh.2.2 a b Wq Wq;omega)⟩|exact⟨rfl,congrArg aa<|AD5 ⟨⟨Wq,Wq⟩,hrows,λx y hx hy=>hall x y Wq hy⟩⟩
        .refine AAs rfl (Xl<|Xi rfl (Xj<|q_b<|Xr<|W5<|AFp rfl Wq (Wu<|Xl ?_)));exact⟨M.length-(b+1),b+1,Wq,⟨rfl,rfl,Wq,λy hy=>by rcases bw.1 hy with q|rfl;exact hrw y q;exact⟨Wq,Wq,Wq⟩⟩,rfl,trivial⟩
     .refine Xl<|Wx<|Xi rfl (Y9<|Zj<|Zj<|AEo<|q_b<|Xr<|W5<|AFp rfl Wq (Wu<|Xl ?_));exact⟨M.length-(a+1),a+1,Wq,⟨rfl,rfl,Wq,λx y hx hy=>by rcases bw.1 hx with q|rfl;exact hall x y q hy;exact hrw y Wq⟩,rfl,trivial⟩
    .refine Xl (Wx<|Xi rfl (Y9<|Zj<|Zj<|AEo<|Xr<|Xd<|Xu<|Xt<|⟨_,Ya,?_⟩));first
      |exact⟨rfl,congrArg aa (AAv λhh=>by have:=hh.1;omega)⟩|exact⟨rfl,congrArg aa (AAv λhh=>by have:=hh.2.1 M[i]<|aY _;omega)⟩|exact⟨rfl,congrArg aa (AAv λhh=>by have:=hh.2.2 a b Wq Wq;omega)⟩|exact⟨rfl,congrArg aa<|AD5 ⟨⟨Wq,Wq⟩,hrows,λx y hx hy=>hall x y Wq hy⟩⟩
theorem Aw0{m:Nat}:(Xw m m F).drop 1=Xw (m-1) m λi j=>F (i+1) j:=by refine List.ext_getElem (by simp[Xw]) λi h1 h2=>?_;simp[Xw,Nat.add_comm]
theorem Ado{m:Nat}(HM:Mat h v (Xw m m F))(hcap:AK4 v)(hm:1<=m)(Au:m<=8)(hfit:∀i,i<m->Abs (F i 0) 34359738368):W6 Tryz.prog 92 #[v] h λx h'=>h'=h/\x=.bool (decide (AN1 m F)):=by
 refine Xn (l:=[_]) mx Tryz.func92 rfl rfl rfl rfl rfl Ww (Xd<|ADt<|Wu<|AT2 (n:=0) AEx rfl HM rfl (ADe Wq) λAv Aw Ad Ae=>Yf AIk rfl Ad (AQ6 (n:=0) AFz rfl Ae rfl (AGu Wq) λAx Af=>Yf AJe rfl Af (Xu<|Wx<|Xd<|Wu<|AS7 rfl rfl (λAg=>?_) λAg=>?_)))
 .refine Wu (X8 13 true Ww rfl rfl (X8 13 true Ww rfl rfl (Zk rfl (Xl<|X0 rfl (Xd<|Xu<|Xt<|Ze<|⟨_,Ya,?_⟩)))));first
   |exact⟨rfl,congrArg aa (decide_eq_false λhh=>by have:=hh.1;omega).symm⟩|exact⟨rfl,congrArg aa (decide_eq_false λhh=>by have:=hh.2 (i+1) Wq Wq;omega).symm⟩|exact⟨rfl,congrArg aa (decide_eq_true ⟨⟨Wq,Wq⟩,λj h1 h2=>hall j h1 Wq⟩).symm⟩
 .refine Wu<|Yh 13 false Ww rfl rfl (Wu<|Yh 13 false Ww rfl rfl (AT1 rfl rfl (λAh=>?_) λAh=>?_))
  .refine AAs rfl (Xl<|X0 rfl (Xd<|Xu<|Xt<|Ze<|⟨_,Ya,?_⟩));first
    |exact⟨rfl,congrArg aa (decide_eq_false λhh=>by have:=hh.1;omega).symm⟩|exact⟨rfl,congrArg aa (decide_eq_false λhh=>by have:=hh.2 (i+1) Wq Wq;omega).symm⟩|exact⟨rfl,congrArg aa (decide_eq_true ⟨⟨Wq,Wq⟩,λj h1 h2=>hall j h1 Wq⟩).symm⟩
  .refine AAs rfl (Xl<|Xi rfl (Xj<|Xr<|Wx<|Xd<|Wu<|Ar0 (k:=1) AEx rfl HM hcap rfl (by rw[Xh];omega) λv1 Ai Ay=>?_));have HD:Mat h v1 (Xw (m-1) m λi j=>F (i+1) j):=Aw0 (m:=m)▸Ai;refine AY8 AEx rfl HD ?_;rw[Xh];refine Wu<|Xl<|W8<|AB5 549754765348 (λi:Nat=>[(20,.int .i64 (i:Int))]) (λk i h'=>h'=h/\k=m-1-i/\i<=m-1/\∀j,1<=j->j<i+1->2*F j 0<=F 0 0/\-2*F j 0<=F 0 0) Ww (m-1) 0 ?_ ⟨rfl,trivial⟩ ?_;.exact⟨rfl,rfl,ai _,λj h1 h2=>by omega⟩
   rintro k i s1 h⟨rfl,rfl,hi,hall⟩;refine Xd<|ABa rfl rfl (λAj=>?_) λAj=>?_
   .refine Xl<|Wx<|X0 rfl (Xj<|Xr<|Wx<|W8<|Xd<|AT2 AEx rfl HD rfl (ADe Wq) λAz A4 Ak Ac=>Yf AIk rfl Ak (Xu<|Wx ?_));have Am:=hfit (i+1) Wq;unfold Abs at Am;refine W5<|Wu<|AQ6 (n:=0) AFz rfl Ac rfl (AGu Wq) λA5 Ao=>Yf AJe rfl Ao (ALq rfl rfl Wq Wq (Wu<|AN4 rfl rfl (λAp=>?_) λAp=>?_));.refine Wu (X8 30 true Ww rfl rfl (X8 30 true Ww rfl rfl (X8 30 true Ww rfl rfl (X8 30 true Ww rfl rfl (X8 30 true Ww rfl rfl (X8 30 true Ww rfl rfl (Zk rfl (Xl<|X0 rfl (Xd<|Xu<|Xt<|ADr<|Ze<|Ze<|ADr<|Ze<|⟨_,Ya,?_⟩)))))))));first
      |exact⟨rfl,congrArg aa (decide_eq_false λhh=>by have:=hh.1;omega).symm⟩|exact⟨rfl,congrArg aa (decide_eq_false λhh=>by have:=hh.2 (i+1) Wq Wq;omega).symm⟩|exact⟨rfl,congrArg aa (decide_eq_true ⟨⟨Wq,Wq⟩,λj h1 h2=>hall j h1 Wq⟩).symm⟩
    .refine Wu<|Yh 30 false Ww rfl rfl (Wu<|Yh 30 false Ww rfl rfl (AQ6 (n:=0) AFz rfl Ac rfl (AGu Wq) λA6 Aq=>Yh 30 false Ww rfl rfl (Yf AJe rfl Aq (Yh 30 false Ww rfl rfl (ALq rfl rfl Wq Wq (Yh 30 false Ww rfl rfl (Wu<|Yh 30 false Ww rfl rfl (AN4 rfl rfl (λAr=>?_) λAr=>?_))))))))
     .refine AAs rfl (Xl<|X0 rfl (Xd<|Xu<|Xt<|ADr<|Ze<|Ze<|ADr<|Ze<|⟨_,Ya,?_⟩));first
       |exact⟨rfl,congrArg aa (decide_eq_false λhh=>by have:=hh.1;omega).symm⟩|exact⟨rfl,congrArg aa (decide_eq_false λhh=>by have:=hh.2 (i+1) Wq Wq;omega).symm⟩|exact⟨rfl,congrArg aa (decide_eq_true ⟨⟨Wq,Wq⟩,λj h1 h2=>hall j h1 Wq⟩).symm⟩
     .refine AAs rfl (Xl<|Xi rfl (Xj<|q_b<|Xr<|W5<|AFp rfl Wq (Wu<|Xl ?_)));exact⟨m-1-(i+1),i+1,Wq,⟨rfl,rfl,Wq,λj h1 h2=>by rcases bw.1 h2 with q|rfl;exact hall j h1 q;exact⟨Wq,Wq⟩⟩,rfl,trivial⟩
   .refine Xl (Wx<|Xi rfl (Y9<|Zj<|Zj<|AEo<|Xr<|Xd<|Xu<|Xt<|⟨_,Ya,?_⟩));first
     |exact⟨rfl,congrArg aa (decide_eq_false λhh=>by have:=hh.1;omega).symm⟩|exact⟨rfl,congrArg aa (decide_eq_false λhh=>by have:=hh.2 (i+1) Wq Wq;omega).symm⟩|exact⟨rfl,congrArg aa (decide_eq_true ⟨⟨Wq,Wq⟩,λj h1 h2=>hall j h1 Wq⟩).symm⟩
theorem Ahq{M:List (List Int)}(HM:Mat h v M)(hcap:AK4 v):W6 Tryz.prog 41 #[v] h λx h'=>Ext h h'/\x=.bool (isRed M):=by
 refine Xn (l:=[_]) mx Tryz.func41 rfl rfl rfl rfl rfl Ww (Xd<|Xu<|Wx<|Xd<|Wu<|Xf trivial rfl (Anw HM) λx1 h hk=>?_);obtain⟨rfl,rfl⟩:=hk;refine⟨trivial,?_⟩;cases Au:AHa M;.refine AM6 rfl (Xl<|X0 rfl (Xd<|Xu<|Xt<|Ze<|⟨_,Ya,?_⟩));first
   |exact⟨Ext.refl _,congrArg aa (show false=isRed M by unfold isRed;rw[show AHa M=false by assumption];rfl)⟩|exact⟨Ext.refl _,congrArg aa (show false=isRed M by unfold isRed;rw[hred,AMt Wq<|of_decide_eq_false (by assumption),an])⟩|exact⟨Ext.refl _,congrArg aa (show false=isRed M by unfold isRed;rw[hred,ARq Wq (by unfold AVu;omega),an])⟩
   | (obtain rfl:m=1:=by omega
      first
      |exact⟨Ext.refl _,congrArg aa (show true=isRed M by unfold isRed;rw[hred,<-AD5 hsm,AN2,decide_eq_true ⟨Wq,Wq⟩];rfl)⟩|exact⟨Ext.refl _,congrArg aa (show false=isRed M by unfold isRed;rw[hred,AN2,decide_eq_false Wq,an])⟩)
 .refine AM6 rfl (Xl<|Xi rfl (Xj<|Xr<|Xd<|Wu<|ADt<|Xu<|Wx<|W8 ?_));have hsm:=Adn Au;have Av:=Asx hsm;have Aw:Mat h v (Xw M.length M.length<|ent M):=Amm hsm.2.1▸HM;refine AB5 20282409603651670423947251255292 (λy:Nat×bK×Int×Wz=>[(3,y.2.1),(4,.int .i64 y.2.2.1)]) (λk y h'=>y.1=k/\Ext h h'/\1<=y.1/\y.1<=M.length/\Mat h' y.2.1 (Xw y.1 y.1 y.2.2.2)/\AK4 y.2.1/\Stg y.1 y.2.2.2 y.2.2.1 (262144+16384*(M.length-y.1))/\AN2 M.length (ent M) 1=AN2 y.1 y.2.2.2 y.2.2.1) Ww M.length (M.length,v,1,ent M) ?_ ⟨rfl,rfl,trivial⟩ ?_;.exact⟨rfl,Ext.refl _,hsm.1.1,ay _,Aw,hcap,by have e0:262144+16384*((M.length:Int)-(M.length:Int))=262144:=Wq;rw[e0];exact Av,rfl⟩
  rintro k⟨m,vs,last,F⟩s1 hq⟨rfl,XQ,Ay,hmn,HS,Aj,hstg,hred⟩;dsimp only at Ay hmn HS Aj hstg hred⊢;have h8:=hsm.1.2;have B8:=hstg.l1;have B9:=hstg.l2;have szq:=XQ.1;refine Wx<|Xd<|Wu<|AY8 AEx rfl HS ?_;rw[Xh];refine AN4 rfl rfl (λAz=>?_) λAz=>?_
  .refine Xl<|X0 rfl (Xj<|Xr<|W8<|Xd<|Wu<|AT2 (n:=0) AEx rfl HS rfl (ADe Wq) λCa Cb A4 A5=>Yf AIk rfl A4 (AQ6 (n:=0) AFz rfl A5 rfl (AGu Wq) λCd A6=>Yf AJe rfl A6 (Xu<|Wx<|Xd<|Wu<|Xf trivial rfl (Ado HS Aj Wq Wq λi hi=>Abu hstg Wq Wq hi Wq) λx4 hq hk=>?_)));obtain⟨rfl,rfl⟩:=hk;refine⟨trivial,?_⟩;cases Cf:decide (AN1 m F)
   .refine AM6 rfl (Xl<|X0 rfl (Xd<|Xu<|Xt<|Ze<|ADr<|Ze<|ADr<|Ze<|⟨_,Ya,?_⟩));first
     |exact⟨XQ,congrArg aa (show false=isRed M by unfold isRed;rw[show AHa M=false by assumption];rfl)⟩|exact⟨XQ,congrArg aa (show false=isRed M by unfold isRed;rw[hred,AMt Wq<|of_decide_eq_false (by assumption),an])⟩|exact⟨XQ,congrArg aa (show false=isRed M by unfold isRed;rw[hred,ARq Wq (by unfold AVu;omega),an])⟩
     | (obtain rfl:m=1:=by omega
        first
        |exact⟨XQ,congrArg aa (show true=isRed M by unfold isRed;rw[hred,<-AD5 hsm,AN2,decide_eq_true ⟨Wq,Wq⟩];rfl)⟩|exact⟨XQ,congrArg aa (show false=isRed M by unfold isRed;rw[hred,AN2,decide_eq_false Wq,an])⟩)
   .refine AM6 rfl (Xl<|Xi rfl (Xj<|Xr<|Xd<|Wu<|AY8 AEx rfl HS ?_));rw[Xh];have hsh:AN1 m F:=of_decide_eq_true (by assumption);refine AJd rfl rfl Wq Wq ?_;rw[show((m:Nat):Int)-1=((m-1:Nat):Int)by omega];refine BAh (ei:=tI) AEx Amj (λ_=>trivial) rfl rfl Wr Wq λb2 v2 h2 Ak E2 Ch hl2b=>?_;have Ci:=E2.1;have Z6:=(Ext.refl hq).trans E2;have X7:=XQ.trans E2;have HS_8:=HS.ext E2;refine Xu<|Wx<|Xd<|Wu<|Amo AEx rfl Ak.1 (Wu<|Xl<|W8<|AB5 1208925819614624879739776 (λi:Nat=>[(32,.int .i64 (i:Int))]) (λk i h'=>k=m-1-i/\i<=m-1/\Ext hq h'/\∃gs,AM8 h' tR tI (Array.size hq) b2 gs v2 (m-1)<|(be i).map λi=>(be<|m-1).map λj=>APk F last i j) Ww (m-1) 0 ?_ ⟨rfl,trivial⟩ ?_);.exact⟨rfl,ai _,E2,[],Ak⟩
    rintro k i s2 h3⟨rfl,hi,E3,gs,HP⟩;have X9:=XQ.trans E3;have Cm:=E3.1;have HS_11:=HS.ext E3;refine Xd<|ABa rfl rfl (λA8=>?_) λA8=>?_
    .refine Xl<|Wx<|X0 rfl (Xj<|Xr<|Wx<|W8<|Xd<|Wu<|ADt<|Wu<|Wu<|AFp rfl Wq (A5w AEx rfl HS E3 rfl (ADe Wq) λaR rR haR hrR=>Yf AIk rfl haR (Xu ?_)));refine Xd<|Wu<|Wu<|Wu<|Amo AEx rfl HP.1 (BAi AFz Amk (λ_=>trivial) rfl rfl Wr Wq λg4 v4 h4 A9 E4 Co Cp=>?_);have Cq:=E4.1;have Ba:=E3.trans E4;have Bb:=X9.trans E4;have HS_15:=HS_11.ext E4;have HP_16:=HP.ext E4;refine Az3 AEx rfl HP_16 rfl Wq ?_;have hglt:=HP.1.lt;have hblo:=HP.2 b2<|aK ..;refine Az4 AIk rfl rfl HP_16 W4 Wq A9 λhc=>by have:=hglt _ hc;omega Wq λh4b HPb U4=>?_;have Cr:=U4.1;have Ct:=Bb.thenUpd U4 (λk hk=>by have Ah:k=b2:=hk;omega);have Ao:=Ba.thenUpd U4 (λk hk=>by have Ah:k=b2:=hk;omega);have HS_20:=HS.ext Ao;refine ATj<|Wu<|Amo AEx rfl HPb.1 (Wu<|Xl<|W8<|AB5 604462909525839610642944 (λj:Nat=>[(48,.int .i64 (j:Int))]) (λk j h'=>k=m-1-j/\j<=m-1/\Ext hq h'/\AM8 h' tR tI (Array.size hq) b2 (gs++[g4]) v2 (m-1) ((be i).map (λi=>(be<|m-1).map λj=>APk F last i j)++[Aax (m-1) (APk F last i) (λ_=>0) j])) Ww (m-1) 0 ?_ ⟨rfl,trivial⟩ ?_);.exact⟨rfl,ai _,Ao,by rw[Arw,Arx];exact HPb⟩
     rintro k j s3 h5⟨rfl,hj,E5,HQ⟩;have Bc:=XQ.trans E5;have Cv:=E5.1;have HS_23:=HS.ext E5;refine Xd<|ABa rfl rfl (λBe=>?_) λBe=>?_;.refine Xl<|Wx<|X0 rfl (Xj<|Xr<|Wx<|W8<|Xd<|Wu<|Xu ?_);have hd:=hsh.1;have hfit:=λi j hi hj=>Abu hstg Wq Wq (i:=i) (j:=j) hi hj;have q1:=AVc (a:=65535) (b:=34359738368) (x:=F 0 0) (y:=F (i+1)<|j+1) ⟨Wq,Wq⟩<|hfit _ _ Wq Wq;have q2:=hsh.2 (i+1) Wq Wq;have q3:=hsh.2 (j+1) Wq Wq;rw[<-hstg.sym 0 (j+1) Wq Wq]at q3;have q4:=AVc (a:=32768) (b:=32768) (x:=F (i+1) 0) (y:=F 0<|j+1) ⟨Wq,Wq⟩ ⟨Wq,Wq⟩;unfold Abs at q1 q4;refine ALo Ww<|Wu<|Wu<|BAj AEx rfl HQ rfl (Ajj W4) λaQ rQ gQ haQ hgQ hrQ=>?_;refine Yf AIk rfl haQ (Wu<|Wu<|Wu<|Wu<|AFp rfl Wq (AQ6 AFz rfl (hrR.ext E5) rfl (AGu Wq) λCw Bj=>Yf AJe rfl Bj (ALq rfl rfl Wq Wq (Wu<|AQ6 (n:=0) AFz rfl (hrR.ext E5) rfl (AGu Wq) λCx Bl=>Yf AJe rfl Bl (Wu<|AT2 (n:=0) AEx rfl HS_23 rfl (ADe Wq) λaZ rZ haZ hrZ=>Yf AIk rfl haZ (Wu<|AFp rfl Wq (AQ6 AFz rfl hrZ rfl (AGu Wq) λCy Bm=>Yf AJe rfl Bm (ALq rfl rfl Wq Wq (AJd rfl rfl Wq Wq (Wu<|Ae3 rfl rfl Wq ?_))))))))));have hnf:=Abu (Akr (m:=m-1) (by rw[show m-1+1=m by omega];exact hstg) Wq (by rw[show m-1+1=m by omega];exact hsh)) Wq Wq (i:=i) (j:=j) Wq Wq;unfold Abs at hnf;rw[show IntKind.i64.wrap ((F 0 0*F (i+1) (j+1)-F (i+1) 0*F 0 (j+1)).tdiv last)=APk F last i j from Go.QF.wrap_small (by have:(F 0 0*F (i+1) (j+1)-F (i+1) 0*F 0 (j+1)).tdiv last=APk F last i j:=rfl;omega) (by have:(F 0 0*F (i+1) (j+1)-F (i+1) 0*F 0 (j+1)).tdiv last=APk F last i j:=rfl;omega)];refine AQ5 AFz rfl hrQ rfl (by rw[cW,AT3];omega) ?_;refine Az5 (Aax (m-1) (APk F last i) (λ_=>0)<|j+1) AJe rfl rfl HQ hgQ (Ajj W4) hrQ (by rw[AT3];omega) (Auc Wq rfl) λh6 Bn U6 C0=>?_;have C1:=U6.1;have C4:=Bc.thenUpd U6 (λk hk=>by have Ah:k=gQ:=hk;omega);have Ap:=E5.thenUpd U6 (λk hk=>by have Ah:k=gQ:=hk;omega);have HS_30:=HS.ext Ap;have Aq:=Bn;rw[Auf W4]at Aq;refine W0<|q_b<|Xr<|W5<|AFp rfl Wq (Wu<|Xl ?_);exact⟨m-1-(j+1),j+1,Wq,⟨rfl,Wq,Ap,Aq⟩,rfl,trivial⟩
     .refine Xl<|Wx<|Xi rfl (Y9<|Zj<|Zj<|AEo<|q_b<|Xr<|W5<|AFp rfl Wq (Wu<|Xl ?_));exact⟨m-1-(i+1),i+1,Wq,⟨rfl,Wq,E5,gs++[g4],by rw[Aub _ _ Wq]at HQ;rw[<-Amn];exact HQ⟩,rfl,trivial⟩
    .refine Xl<|Wx<|Xi rfl (Y9<|Zj<|Zj<|AEo<|Xr<|Wx ?_);obtain rfl:i=m-1:=by omega
     have Ar:AM8 h3 tR tI (Array.size hq) b2 gs v2 (Xw (m-1) (m-1)<|APk F last).length (Xw (m-1) (m-1)<|APk F last):=by rw[Xh];exact HP
     have HN:=Ar.mat;have hcapn:=Ar.cap;have Bo:=Akr (m:=m-1) (by rw[show m-1+1=m by omega];exact hstg) Wq (by rw[show m-1+1=m by omega];exact hsh);have hnx:Stg (m-1) (APk F last) (F 0 0) (262144+16384*(M.length-((m-1:Nat):Int))):=by rw[show 262144+16384*((M.length:Int)-((m-1:Nat):Int))=262144+16384*((M.length:Int)-(m:Int))+16384 by omega];exact Bo
     refine W5<|Wu<|AT2 (n:=1) AEx rfl HS_11 rfl (ADe Wq) λC5 C6 Bp Bq=>Yf AIk rfl Bp (AQ6 (n:=0) AFz rfl Bq rfl (AGu Wq) λC7 Br=>Yf AJe rfl Br (Xu<|Wx<|Wx ?_));have hd:=hsh.1;have hnf:=Abu hnx Wq Wq (i:=0) (j:=0) Wq Wq;have q5:=AVc (a:=65535) (b:=34359738368) (x:=last) (y:=APk F last 0 0) ⟨Wq,Wq⟩ hnf;have q2:=hsh.2 1 Wq Wq;have q6:=AVc (a:=32768) (b:=32768) (x:=F 1 0) (y:=F 1 0) ⟨Wq,Wq⟩ ⟨Wq,Wq⟩;have q7:=AY9 (a:=3*F 0 0) (b:=F 0 0) (A:=196605) (B:=65535) Wq Wq Wq Wq;unfold Abs at q5 q6;refine W5<|Wu<|Wu<|AT2 (n:=0) AEx rfl HN rfl (ADe Wq) λaN rN haN hrN=>Yf AIk rfl haN (AQ6 (n:=0) AFz rfl hrN rfl (AGu Wq) λaO haO=>Yf AJe rfl haO (ALq rfl rfl Wq Wq (Wu<|Wu<|ALq rfl rfl Wq Wq (Ago rfl rfl Wq Wq (ALq rfl rfl Wq Wq (Wu<|ALq rfl rfl Wq Wq (Wu<|ALq rfl rfl Wq Wq (ABa rfl rfl (λBv=>?_) λBv=>?_))))))));.refine Xl (X0 rfl (Xd<|Xu<|Xt<|Ze<|ADr<|Ze<|ADr<|Ze<|⟨_,Ya,?_⟩));first
       |exact⟨X9,congrArg aa (show false=isRed M by unfold isRed;rw[show AHa M=false by assumption];rfl)⟩|exact⟨X9,congrArg aa (show false=isRed M by unfold isRed;rw[hred,AMt Wq<|of_decide_eq_false (by assumption),an])⟩|exact⟨X9,congrArg aa (show false=isRed M by unfold isRed;rw[hred,ARq Wq (by unfold AVu;omega),an])⟩
       | (obtain rfl:m=1:=by omega
          first
          |exact⟨X9,congrArg aa (show true=isRed M by unfold isRed;rw[hred,<-AD5 hsm,AN2,decide_eq_true ⟨Wq,Wq⟩];rfl)⟩|exact⟨X9,congrArg aa (show false=isRed M by unfold isRed;rw[hred,AN2,decide_eq_false Wq,an])⟩)
     .refine Xl<|Xi rfl (Xj<|Xr ?_);have hlov:AVu F last:=by unfold AVu;omega
      have hredn:=Asy (last:=last) Wq hsh hlov;refine W5<|Wu<|Wu<|X4<|X4<|W0<|q_b<|Xr ?_;exact⟨m-1,(m-1,v2,F 0 0,APk F last),by first|omega|(dsimp only;omega),⟨rfl,X9,by first|omega|(dsimp only;omega),by first|omega|(dsimp only;omega),HN,hcapn,hnx,by rw[hred,hredn]⟩,rfl,rfl,trivial⟩
  .refine Xl<|Xi rfl (Y9<|Zj<|Zj<|AEo<|Xr<|Xd<|Wu<|AT2 (n:=0) AEx rfl HS rfl (ADe Wq) λC9 Da Bw Bx=>Yf AIk rfl Bw (AQ6 (n:=0) AFz rfl Bx rfl (AGu Wq) λDb By=>Yf AJe rfl By (AN4 rfl rfl (λBz=>?_) λBz=>?_)))
   .refine Wu<|Yh 110 true Ww rfl rfl (Wu<|Yh 110 true Ww rfl rfl (AT2 (n:=0) AEx rfl HS rfl (ADe Wq) λDc Dd B2 B3=>Yh 110 true Ww rfl rfl (Yf AIk rfl B2 (Yh 110 true Ww rfl rfl (AQ6 (n:=0) AFz rfl B3 rfl (AGu Wq) λDe B4=>Yh 110 true Ww rfl rfl (Yf AJe rfl B4 (Yh 110 true Ww rfl rfl (AS7 rfl rfl (λB5=>?_) λB5=>?_))))))))
    .refine Zk rfl (Xu<|Xt<|⟨_,Ya,?_⟩);first
      |exact⟨XQ,congrArg aa (show false=isRed M by unfold isRed;rw[show AHa M=false by assumption];rfl)⟩|exact⟨XQ,congrArg aa (show false=isRed M by unfold isRed;rw[hred,AMt Wq<|of_decide_eq_false (by assumption),an])⟩|exact⟨XQ,congrArg aa (show false=isRed M by unfold isRed;rw[hred,ARq Wq (by unfold AVu;omega),an])⟩
      | (obtain rfl:m=1:=by omega
         first|exact⟨XQ,congrArg aa (show true=isRed M by unfold isRed;rw[hred,<-AD5 hsm,AN2,decide_eq_true ⟨Wq,Wq⟩];rfl)⟩|exact⟨XQ,congrArg aa (show false=isRed M by unfold isRed;rw[hred,AN2,decide_eq_false Wq,an])⟩)
    .refine Zk rfl (Xu<|Xt<|⟨_,Ya,?_⟩);first
      |exact⟨XQ,congrArg aa (show false=isRed M by unfold isRed;rw[show AHa M=false by assumption];rfl)⟩|exact⟨XQ,congrArg aa (show false=isRed M by unfold isRed;rw[hred,AMt Wq<|of_decide_eq_false (by assumption),an])⟩|exact⟨XQ,congrArg aa (show false=isRed M by unfold isRed;rw[hred,ARq Wq (by unfold AVu;omega),an])⟩
      | (obtain rfl:m=1:=by omega
         first
         |exact⟨XQ,congrArg aa (show true=isRed M by unfold isRed;rw[hred,<-AD5 hsm,AN2,decide_eq_true ⟨Wq,Wq⟩];rfl)⟩|exact⟨XQ,congrArg aa (show false=isRed M by unfold isRed;rw[hred,AN2,decide_eq_false Wq,an])⟩)
   .refine Wu (X8 110 false Ww rfl rfl (X8 110 false Ww rfl rfl (X8 110 false Ww rfl rfl (X8 110 false Ww rfl rfl (X8 110 false Ww rfl rfl (X8 110 false Ww rfl rfl (AAs rfl (Xu<|Xt<|⟨_,Ya,?_⟩))))))));first
     |exact⟨XQ,congrArg aa (show false=isRed M by unfold isRed;rw[show AHa M=false by assumption];rfl)⟩|exact⟨XQ,congrArg aa (show false=isRed M by unfold isRed;rw[hred,AMt Wq<|of_decide_eq_false (by assumption),an])⟩|exact⟨XQ,congrArg aa (show false=isRed M by unfold isRed;rw[hred,ARq Wq (by unfold AVu;omega),an])⟩
     | (obtain rfl:m=1:=by omega
        first
        |exact⟨XQ,congrArg aa (show true=isRed M by unfold isRed;rw[hred,<-AD5 hsm,AN2,decide_eq_true ⟨Wq,Wq⟩];rfl)⟩|exact⟨XQ,congrArg aa (show false=isRed M by unfold isRed;rw[hred,AN2,decide_eq_false Wq,an])⟩)
end Go.Proofs.YtgmdhndbcohgiaaGreatDoor
namespace Go.QF
theorem ACl(f g:α->Int)(l:List α):X6 (l.map λx=>f x*g x)=X6 (l.map f)*X6 (l.map g):=by induction l with|nil=>simp[X6]|cons x l ih=>simp only[aA,X6,ih];simp only[aM,bX]
theorem Aa7(a:Int)(l:List Int):X6 (l.map λx=>a*x)=a^l.length*X6 l:=by induction l with|nil=>simp[X6]|cons x l ih=>simp only[aA,X6,ih,List.length_cons,bo];simp only[aM,bX,aq]
theorem AAx{f g:α->Int}{l:List α}(h:∀x∈l,f x=g x):X6 (l.map f)=X6 (l.map g):=by rw[List.map_congr_left h]
theorem Adp{β:Type}(f:α->β->Int)(l:List α)(t:List β):X6 (l.map λx=>X6<|t.map λy=>f x y)=X6 (t.map λy=>X6<|l.map λx=>f x y):=by induction l with
 |nil=>
   simp only[bU,X6];induction t with|nil=>rfl|cons y t ih=>simp only[aA,X6,<-ih];rfl
 |cons x l ih=>simp only[aA,X6,ih];rw[<-ACl]
theorem Aks{f g:α->Int}{l:List α}(h:∀x∈l,f x%p=g x%p):X6 (l.map f)%p=X6 (l.map g)%p:=by induction l with|nil=>rfl|cons x l ih=>
   simp only[aA,X6];rw[ap,h x<|aK ..,ih λy hy=>h y<|aH _ hy,<-ap]
theorem Adq{f:α->Int}{l:List α}(h:∀x∈l,f x=1∨f x=-1):X6 (l.map f)=1∨X6 (l.map f)=-1:=by induction l with
 |nil=>exact .inl rfl|cons x l ih=>
   simp only[aA,X6];rcases h x (aK ..)with h1|h1<;>rcases ih λy hy=>h y<|aH _ hy with h2|h2<;>rw[h1,h2]<;>simp
theorem A2n(n:Nat):(upN n).length=n:=by simp[upN]
theorem Adr(n:Nat):upN (n+1)=upN n++[(n:Int)+1]:=by simp[upN,List.range_succ]
theorem AOj(l t:List Int):X6 (l++t)=X6 l*X6 t:=by induction l with|nil=>simp[X6]|cons x l ih=>simp only[List.cons_append,X6,ih,aM]
def chi(n:Int):Int:=if n%2=0 then 1 else-1
theorem Aw1(n:Int):chi n=1∨chi n=-1:=by unfold chi;split<;>simp
theorem AVd(a b:Int):chi (a+b)=chi a*chi b:=by
 unfold chi;by_cases ha:a%2=0<;>by_cases hb:b%2=0;.rw[if_pos ha,if_pos hb,if_pos Wq];rfl
 .rw[if_pos ha,if_neg hb,if_neg Wq];rfl
 .rw[if_neg ha,if_pos hb,if_neg Wq];rfl
 .rw[if_neg ha,if_neg hb,if_pos Wq];rfl
theorem AZy{b:Int}(h:(a-b)%2=0):chi a=chi b:=by
 unfold chi;by_cases ha:a%2=0;.rw[if_pos ha,if_pos Wq]
 .rw[if_neg ha,if_neg Wq]
theorem count_le(M N:Nat)(h:N<=M):X6 ((upN M).map λl=>if l<=(N:Int)then-1 else 1)=chi N:=by induction M with
 |zero=>
   obtain rfl:N=0:=by omega
   rfl|succ M ih=>
   rw[Adr,ce,AOj];simp only[aA,bU,X6,bh];rcases aw M N with hlt|hge
   .obtain rfl:N=M+1:=by omega
    rw[if_pos Wq];have h2:X6 ((upN M).map λl=>if l<=((M+1:Nat):Int)then-1 else 1)=X6 ((upN M).map λl=>if l<=(M:Int)then-1 else 1):=AAx λx hx=>by have:=AIy.1 hx;rw[if_pos Wq,if_pos Wq]
    rw[h2];have key:∀K:Nat,X6 ((upN K).map λl=>if l<=(K:Int)then-1 else 1)=chi K:=by intro K;induction K with
     |zero=>rfl|succ K ihK=>
       rw[Adr,ce,AOj];simp only[aA,bU,X6,bh];have h3:X6 ((upN K).map λl=>if l<=((K+1:Nat):Int)then-1 else 1)=X6 ((upN K).map λl=>if l<=(K:Int)then-1 else 1):=AAx λx hx=>by have:=AIy.1 hx;rw[if_pos Wq,if_pos Wq]
       rw[h3,ihK,if_pos Wq];have:=AVd (K:Int) 1;rw[show((K+1:Nat):Int)=(K:Int)+1 by omega,this];rfl
    rw[key];have:=AVd (M:Int) 1;rw[show((M+1:Nat):Int)=(M:Int)+1 by omega,this];rfl
   .rw[ih hge,if_neg Wq,bh]
section
variable{p:Int}{m:Nat}
def gs(p:Int)(m:Nat)(a k:Int):Int:=if a*k%p<=m then 1 else-1
def gv(p:Int)(m:Nat)(a k:Int):Int:=if a*k%p<=m then a*k%p else p-a*k%p
def GS(p:Int)(m:Nat)(a:Int):Int:=X6<|(upN m).map (gs p m a)
theorem Aas(p:Int)(m:Nat)(a:Int):GS p m a=1∨GS p m a=-1:=Adq λx _=>by unfold gs;split<;>simp
theorem AOo(hp:Pr p){k:Int}(ha:a%p≠0)(hk:0<k)(hkp:k<p):a*k%p≠0:=by
 have h2:=hp.1;have h1:0<a%p:=by have:=aV a (show p≠0 by omega);omega
 have h3:=aL a (show 0<p by omega);have:=Aug hp h1 h3 hk hkp;rwa[ap,bE,<-ap]at this
theorem ASt(hp:Pr p){k:Int}(ha:a%p≠0)(hk:0<k)(hkp:k<p):1<=a*k%p/\a*k%p<p:=by have h2:=hp.1;have h1:=AOo hp ha hk hkp;have h3:=aV (a*k) (show p≠0 by omega);have h4:=aL (a*k) (show 0<p by omega);omega
theorem Aqf(hp:Pr p)(hm:p=2*m+1)(ha:a%p≠0):((upN m).map (gv p m a)).Perm (upN m):=by
 have hinj:∀k∈upN m,∀j∈upN m,gv p m a k=gv p m a j->k=j:=by
  intro k hk j hj he;have hk:=AIy.1 hk;have hj:=AIy.1 hj;have r1:=ASt hp ha (k:=k) Wq Wq;have r2:=ASt hp ha (k:=j) Wq Wq;by_cases hkj:k=j;.exact hkj
  .exfalso;unfold gv at he;have e1:a*k%p=a*j%p->False:=by
    intro h;have h3:a*(k-j)%p=0:=by rw[cM,dp,h,Int.sub_self];rfl
    rcases bD k j with hlt|heq|hgt
    .refine AOo hp ha (k:=j-k) Wq Wq ?_;rw[show a*(j-k)=-(a*(k-j))by rw[<-cb];congr 1;omega];exact cv<|Int.dvd_neg.2<|bz h3
    .exact hkj heq
    .exact AOo hp ha (k:=k-j) Wq Wq h3
   have e2:a*k%p+a*j%p=p->False:=by
    intro h;refine AOo hp ha (k:=k+j) Wq Wq ?_;rw[Int.mul_add,Int.add_emod,h,ct]
   split at he<;>split at he;.exact e1 he
   .exact e2 Wq
   .exact e2 Wq
   .exact e1 Wq
 refine Ajk _ _ ?_ (λx hx=>?_) W4;.rw[cj,List.pairwise_map];have hnd:=Arz m;rw[cj]at hnd;refine List.Pairwise.imp_of_mem (λ{x y}hx hy hxy he=>hxy<|hinj x hx y hy he) hnd
 .obtain⟨k,hk,rfl⟩:=List.mem_map.1 hx;have hk:=AIy.1 hk;have r1:=ASt hp ha (k:=k) Wq Wq;rw[AIy];unfold gv;split<;>omega
theorem Aqg(hp:Pr p)(hm:p=2*m+1)(ha:a%p≠0):a^m%p=GS p m a%p:=by
 have h2:=hp.1;refine Azz hp (upN m) λx hx=>by have:=AIy.1 hx;omega ?_;have h1:=Aa7 a<|upN m;rw[A2n]at h1;rw[<-h1];have h3:X6 ((upN m).map λk=>a*k)%p=X6 ((upN m).map λk=>gs p m a k*gv p m a k)%p:=by
  refine Aks λk hk=>?_;unfold gs gv;split;.rw[bG,bE]
  .rw[show(-1:Int)*(p-a*k%p)=a*k%p-p by omega,dp,bE,ct,Int.sub_zero,bE]
 rw[h3,ACl,Acj<|Aqf hp hm ha];rfl
theorem A47(hp:Pr p)(hm:p=2*m+1)(ha:a%p≠0)(hodd:a%2=1):GS p m a=X6 ((upN m).map λk=>chi<|a*k/p):=by
 have h2:=hp.1;have hpt:∀k∈upN m,chi k=chi (a*k/p)*chi (gv p m a k)*gs p m a k:=by
  intro k hk;have hk:=AIy.1 hk;have r1:=ASt hp ha (k:=k) Wq Wq;have hd:=bN (a*k) p;have par:chi (a*k)=chi k:=by
   refine AZy ?_;obtain⟨b,hb⟩:∃b,a=2*b+1:=⟨a/2,Wq⟩;rw[hb,bR,bG,aM];omega
  have parp:chi (p*(a*k/p))=chi (a*k/p):=by
   refine AZy ?_;rw[hm,bR,bG,aM];omega
  rw[<-par,<-hd,AVd,parp,aM];congr 1;.rw[hd]
  .unfold gv gs;split;.rw[bh]
   .have:chi (a*k%p)=chi (p-a*k%p)*chi 1:=by
     rw[<-AVd];exact AZy Wq
    rw[this];rfl
 have h3:X6 ((upN m).map chi)=X6 ((upN m).map λk=>chi<|a*k/p)*X6 ((upN m).map λk=>chi<|gv p m a k)*GS p m a:=by
  rw[AAx hpt,ACl (λk=>chi (a*k/p)*chi (gv p m a k))<|gs p m a,ACl];rfl
 have h4:X6 ((upN m).map λk=>chi<|gv p m a k)=X6 ((upN m).map chi):=by
  have:=Acj<|(Aqf hp hm ha).map chi;rw[List.map_map]at this;exact this
 rw[h4]at h3;have q1:=Adq (f:=chi) (l:=upN m) λx _=>Aw1 x;have q2:=Adq (f:=λk=>chi<|a*k/p) (l:=upN m) λx _=>Aw1 _;have q3:=Aas p m a;generalize X6 ((upN m).map chi)=A at h3 q1;generalize X6 ((upN m).map λk=>chi<|a*k/p)=B at h3 q2⊢;generalize GS p m a=Cc at h3 q3⊢;rcases q1 with rfl|rfl<;>rcases q2 with rfl|rfl<;>rcases q3 with rfl|rfl<;>first|rfl|(exfalso;revert h3;decide)
end
theorem Ads{n:Nat}(hp:0<p)(hq:q=2*n+1){k:Int}(hk:0<=k)(Ad:2*k<p):chi (q*k/p)=X6 ((upN n).map λl=>if p*l<=q*k then-1 else 1):=by
 have h0:0<=q*k:=ah Wq hk;have h1:0<=q*k/p:=cg h0 Wq;obtain⟨N,hN⟩:∃N:Nat,q*k/p=N:=⟨(q*k/p).toNat,Wq⟩;have hle:N<=n:=by
  rcases aw n N with h|h
  .exfalso;have h2:q*k/p*p<=q*k:=Int.ediv_mul_le _ Wq;rw[hN]at h2;have h3:((n:Int)+1)*p<=N*p:=ab Wq Wq;have h4:q*(2*k)<=q*(p-1):=ae Wq Wq;rw[cM,bh,bX]at h4;have h5:(2*(n:Int)+2)*p=q*p+p:=by rw[hq,bR,bR];omega
   have h6:(2*(n:Int)+2)*p=2*(((n:Int)+1)*p):=by rw[<-aM];congr 1
   omega
  .exact h
 rw[hN,<-count_le n N hle];refine AAx λl hl=>?_;have hiff:l<=(N:Int)↔p*l<=q*k:=by rw[<-hN,Int.le_ediv_iff_mul_le hp,aq]
 by_cases h:l<=(N:Int);.rw[if_pos h,if_pos<|hiff.1 h]
 .rw[if_neg h,if_neg λh'=>h<|hiff.2 h']
theorem Afx(n:Nat):X6 ((upN n).map λ_=>(-1:Int))=chi n:=by rw[<-count_le n n (ay _)];exact AAx λx hx=>by rw[if_pos (AIy.1 hx).2]
theorem Asz(n:Nat)(b:Int):X6 ((upN n).map λ_=>chi b)=chi (n*b):=by induction n with
 |zero=>simp[upN,X6,chi]|succ n ih=>
   rw[Adr,ce,AOj,ih];simp only[aA,bU,X6,bh];rw[<-AVd];congr 1;rw[show((n+1:Nat):Int)=(n:Int)+1 by omega,bR,bG]
theorem BCd{m n:Nat}(hp:Pr p)(hq:Pr q)(hm:p=2*m+1)(hn:q=2*n+1)(hne:p≠q):GS p m q*GS q n p=chi (m*n):=by
 have Aa:=hp.1;have Ab:=hq.1;have hqp:q%p≠0:=by
  intro h;rcases bD p q with hlt|heq|hgt;.exact hq.2 p Aa hlt h
  .exact hne heq
  .rw[ax Wq hgt]at h;omega
 have hpq:p%q≠0:=by
  intro h;rcases bD p q with hlt|heq|hgt;.rw[ax Wq hlt]at h;omega
  .exact hne heq
  .exact hp.2 q Ab hgt h
 rw[A47 hp hm hqp Wq,A47 hq hn hpq Wq];have e1:X6 ((upN m).map λk=>chi<|q*k/p)=X6 ((upN m).map λk=>X6<|(upN n).map λl=>if p*l<=q*k then-1 else 1):=AAx λk hk=>by have:=AIy.1 hk;exact Ads Wq hn Wq Wq
 have e2:X6 ((upN n).map λl=>chi<|p*l/q)=X6 ((upN n).map λl=>X6<|(upN m).map λk=>if q*k<=p*l then-1 else 1):=AAx λl hl=>by have:=AIy.1 hl;exact Ads Wq hm Wq Wq
 rw[e1,e2,Adp λl k=>if q*k<=p*l then(-1:Int)else 1,<-ACl];have e3:X6 ((upN m).map λk=>X6 ((upN n).map λl=>if p*l<=q*k then(-1:Int)else 1)*X6 ((upN n).map λl=>if q*k<=p*l then(-1:Int)else 1))=X6 ((upN m).map λ_=>chi n):=by
  refine AAx λk hk=>?_;rw[<-ACl,<-Afx n];refine AAx λl hl=>?_;have hk:=AIy.1 hk;have hl:=AIy.1 hl;have hno:p*l≠q*k:=by
   intro he;refine AOo hp hqp (k:=k) Wq Wq ?_;rw[<-he];exact Int.mul_emod_right p l
  by_cases h:p*l<=q*k;.rw[if_pos h,if_neg Wq];rfl
  .rw[if_neg h,if_pos Wq];rfl
 rw[e3,Asz]
theorem As0{m:Nat}(hp:Pr p)(hm:p=2*m+1)(hm1:1<=m):GS p m 2=if p%8=1∨p%8=7 then 1 else-1:=by
 have h1:GS p m 2=X6 ((upN m).map λk=>-1*if k<=((m/2:Nat):Int)then-1 else 1):=by
  refine AAx λk hk=>?_;have hk:=AIy.1 hk;unfold gs;rw[ax Wq Wq];by_cases h:2*k<=(m:Int);.rw[if_pos h,if_pos Wq];rfl
  .rw[if_neg h,if_neg Wq];rfl
 rw[h1,ACl (λ_=>-1) λk=>if k<=((m/2:Nat):Int)then-1 else 1,Afx,count_le m (m/2) Wq,<-AVd];unfold chi;obtain⟨j,r,hj,hr⟩:∃j r:Nat,m=4*j+r/\r<4:=⟨m/4,m%4,Wq,Wq⟩;have hd:m/2=2*j+r/2:=by omega
 rw[hd];by_cases h:p%8=1∨p%8=7
 .have:r=0∨r=3:=by omega
  rcases this with rfl|rfl;.rw[if_pos h,if_pos Wq]
  .rw[if_pos h,if_pos Wq]
 .have:r=1∨r=2:=by omega
  rcases this with rfl|rfl;.rw[if_neg h,if_neg Wq]
  .rw[if_neg h,if_neg Wq]
def lg(p a:Int):Int:=if a^((p-1)/2).toNat%p=0 then 0 else if a^((p-1)/2).toNat%p=1 then 1 else-1
def OPr(p:Int):Prop:=Pr p/\p%2=1
theorem OPr.half(h:OPr p):p=2*(((p-1)/2).toNat:Int)+1/\1<=((p-1)/2).toNat:=by have h1:=h.1.1;have h2:=h.2;omega
theorem OPr.three(h:OPr p):3<=p:=by have h1:=h.1.1;have h2:=h.2;omega
theorem AX5(hp:OPr p)(ha:a%p≠0):lg p a=GS p ((p-1)/2).toNat a:=by
 obtain⟨h1,h2⟩:=hp.half;have h3:=hp.three;have hg:=Aqg hp.1 h1 ha;unfold lg;rw[hg];rcases Aas p ((p-1)/2).toNat a with h|h;.rw[h,ax Wq Wq];rfl
 .rw[h];have:(-1:Int)%p=p-1:=by rw[show(-1:Int)=p-1+p*-1 by omega,cq,ax Wq Wq]
  rw[this,if_neg Wq,if_neg Wq]
theorem Ahr(ha:a%p=0):∀m:Nat,1<=m->a^m%p=0:=by intro m hm;obtain⟨k,rfl⟩:∃k,m=k+1:=⟨m-1,Wq⟩;rw[bo,ap,ha,bA,bT]
theorem APx(hp:OPr p)(ha:a%p=0):lg p a=0:=by unfold lg;rw[if_pos<|Ahr ha _ hp.half.2]
theorem Aw2(hp:OPr p)(ha:a%p≠0):lg p a=1∨lg p a=-1:=by rw[AX5 hp ha];exact Aas _ _ _
theorem AUm{b:Int}(hp:OPr p)(h:a%p=b%p):lg p a=lg p b:=by
 by_cases ha:a%p=0;.rw[APx hp ha,APx hp<|h▸ha]
 .rw[AX5 hp ha,AX5 hp<|h▸ha];refine AAx λk _=>?_;unfold gs;rw[ap a,h,<-ap]
theorem A7o(hp:OPr p):lg p (a%p)=lg p a:=AUm hp<|bE _ _
theorem BCe{b:Int}(hp:OPr p)(ha:a%p≠0)(hb:b%p≠0):a*b%p≠0:=by have h3:=hp.three;have h1:=aV b (show p≠0 by omega);have h2:=aL b (show 0<p by omega);have:=AOo hp.1 ha (k:=b%p) Wq h2;rwa[ap,bE,<-ap]at this
theorem AZz(hp:OPr p)(a b:Int):lg p (a*b)=lg p a*lg p b:=by
 by_cases ha:a%p=0;.rw[APx hp ha,APx hp (by rw[ap,ha,bH,bT]),bH]
 .by_cases hb:b%p=0;.rw[APx hp hb,APx hp (by rw[ap,hb,bA,bT]),bA]
  .obtain⟨h1,h2⟩:=hp.half;have h3:=hp.three;have hab:=BCe hp ha hb;rw[AX5 hp ha,AX5 hp hb,AX5 hp hab];have g1:=Aqg hp.1 h1 ha;have g2:=Aqg hp.1 h1 hb;have g3:=Aqg hp.1 h1 hab;rw[ca,ap,g1,g2,<-ap]at g3;have Ah:(-1:Int)%p=p-1:=by rw[show(-1:Int)=p-1+p*-1 by omega,cq,ax Wq Wq]
   have Ai:(1:Int)%p=1:=ax Wq Wq;rcases Aas p ((p-1)/2).toNat a with e1|e1<;>rcases Aas p ((p-1)/2).toNat b with e2|e2<;>rcases Aas p ((p-1)/2).toNat (a*b)with e3|e3<;>rw[e1,e2,e3]at g3⊢<;>first|rfl|(exfalso;simp only[bh,bG,cb,cL,Int.neg_neg,Ah,Ai]at g3;omega)
def e4(x y:Int):Int:=if x%4=3/\y%4=3 then-1 else 1
def e8(x:Int):Int:=if x%8=1∨x%8=7 then 1 else-1
theorem A7p(hp:OPr p):lg p 2=e8 p:=by obtain⟨h1,h2⟩:=hp.half;have h3:=hp.three;rw[AX5 hp (by rw[ax Wq Wq];omega),As0 hp.1 h1 h2];rfl
theorem Aw3(hp:OPr p)(hq:OPr q):lg p q=e4 p q*lg q p:=by
 by_cases hpq:p=q;.subst hpq;rw[APx hp<|ct,bA]
 .obtain⟨h1,_⟩:=hp.half;obtain⟨h2,_⟩:=hq.half;have Ae:q%p≠0:=by
   intro h;rcases bD p q with hlt|heq|hgt;.exact hq.1.2 p hp.1.1 hlt h
   .exact hpq heq
   .rw[ax (by have:=hq.three;omega) hgt]at h;have:=hq.three;omega
  have Af:p%q≠0:=by
   intro h;rcases bD p q with hlt|heq|hgt;.rw[ax (by have:=hp.three;omega) hlt]at h;have:=hp.three;omega
   .exact hpq heq
   .exact hp.1.2 q hq.1.1 hgt h
  have hr:=BCd hp.1 hq.1 h1 h2 hpq;rw[AX5 hp Ae,AX5 hq Af];have hc:chi ((((p-1)/2).toNat:Int)*(((q-1)/2).toNat:Int))=e4 p q:=by
   generalize hm:(((p-1)/2).toNat:Int)=m at h1⊢;generalize hn:(((q-1)/2).toNat:Int)=n at h2⊢;unfold chi e4;rw[ap];rcases(by omega:m%2=0∨m%2=1)with a|a<;>rcases(by omega:n%2=0∨n%2=1)with b|b<;>rw[a,b];.rw[if_pos Wr,if_neg Wq]
   .rw[if_pos Wr,if_neg Wq]
   .rw[if_pos Wr,if_neg Wq]
   .rw[if_neg Wr,if_pos Wq]
  rw[hc]at hr;rcases Aas p ((p-1)/2).toNat q with e1|e1<;>rcases Aas q ((q-1)/2).toNat p with e2|e2<;>rw[e1,e2]at hr⊢<;>rw[<-hr]<;>rfl
def Jb(ps:List Int)(a:Int):Int:=X6<|ps.map λp=>lg p a
def Aez(ps:List Int):Prop:=∀p∈ps,OPr p
theorem A7q(h:Aez ps)(a b:Int):Jb ps (a*b)=Jb ps a*Jb ps b:=by unfold Jb;rw[<-ACl];exact AAx λp hp=>AZz (h p hp) a b
theorem AUn(h:Aez ps):X6 ps%2=1/\1<=X6 ps:=by induction ps with
 |nil=>exact⟨rfl,dr _⟩|cons p ps ih=>
   obtain⟨h1,h2⟩:=ih λq hq=>h q<|aH _ hq;have hp:=h p<|aK ..;have h3:=hp.three;have h4:=hp.2;simp only[X6];refine⟨by rw[ap,h1,h4];rfl,?_⟩;have:=bc (show(1:Int)<=p by omega) h2 Wq Wq;simpa using this
theorem A2o(h:Aez ps)(hne:ps≠[]):3<=X6 ps:=by cases ps with|nil=>exact absurd rfl hne|cons p ps=>
   have h2:=(AUn (ps:=ps) λq hq=>h q<|aH _ hq).2;have h3:=(h p<|aK ..).three;have:=bc h3 h2 Wq Wq;simp only[X6];simpa using this
theorem Aw4(h:p∈ps):p∣X6 ps:=by induction ps with|nil=>cases h|cons q ps ih=>
   simp only[X6];rcases List.mem_cons.1 h with rfl|h;.exact Int.dvd_mul_right _ _
   .exact Int.dvd_mul_of_dvd_right<|ih h
theorem A7r(h:Aez ps)(a:Int):Jb ps (a%X6 ps)=Jb ps a:=AAx λp hp=>AUm (h p hp)<|Int.emod_emod_of_dvd a<|Aw4 hp
theorem A7s(hx:x%2=1)(hy:y%2=1):e8 (x*y)=e8 x*e8 y:=by unfold e8;rw[ap];rcases(by omega:x%8=1∨x%8=3∨x%8=5∨x%8=7)with a|a|a|a<;>rcases(by omega:y%8=1∨y%8=3∨y%8=5∨y%8=7)with b|b|b|b<;>rw[a,b]<;>rfl
theorem A7t{z:Int}(hy:y%2=1)(hz:z%2=1):e4 x (y*z)=e4 x y*e4 x z:=by unfold e4;rw[ap];rcases(by omega:x%4=0∨x%4=1∨x%4=2∨x%4=3)with a|a|a|a<;>rcases(by omega:y%4=1∨y%4=3)with b|b<;>rcases(by omega:z%4=1∨z%4=3)with c|c<;>rw[a,b,c]<;>rfl
theorem A2p(x y:Int):e4 x y=e4 y x:=by unfold e4;simp only[And.comm]
theorem A7u(h:Aez ps):Jb ps 2=e8 (X6 ps):=by induction ps with
 |nil=>rfl|cons p ps ih=>
   have hp:=h p<|aK ..;have ho:=AUn (ps:=ps) λq hq=>h q<|aH _ hq;have ih:=ih λq hq=>h q<|aH _ hq;unfold Jb at ih⊢;simp only[aA,X6];rw[ih,A7p hp,A7s hp.2 ho.1]
theorem Aqh(hp:OPr p)(qs:List Int):lg p (X6 qs)=X6 (qs.map λq=>lg p q):=by induction qs with
 |nil=>
   show lg p 1=1;unfold lg;have h3:=hp.three;rw[Int.one_pow,ax Wq Wq];rfl|cons q qs ih=>simp only[aA,X6];rw[AZz hp,ih]
theorem Aqi{qs:List Int}(h:Aez qs):X6 (qs.map λq=>e4 x q)=e4 x (X6 qs):=by induction qs with
 |nil=>simp[X6,e4]|cons q qs ih=>
   have ho:=AUn (ps:=qs) λr hr=>h r<|aH _ hr;simp only[aA,X6];rw[ih λr hr=>h r<|aH _ hr,A7t (h q<|aK ..).2 ho.1]
theorem Aw5{qs:List Int}(hp:Aez ps)(hq:Aez qs):Jb ps (X6 qs)=e4 (X6 qs) (X6 ps)*Jb qs (X6 ps):=by
 unfold Jb;have e1:X6 (ps.map λp=>lg p<|X6 qs)=X6 (ps.map λp=>e4 (X6 qs) p*X6 (qs.map λq=>lg q p)):=by
  refine AAx λp hpm=>?_;rw[Aqh<|hp p hpm,A2p,<-Aqi hq,<-ACl];exact AAx λq hqm=>Aw3 (hp p hpm)<|hq q hqm
 rw[e1,ACl,Aqi hp,Adp λp q=>lg q p];congr 1;exact AAx λq hqm=>(Aqh (hq q hqm) ps).symm
theorem A2q:∀(n:Nat)(a:Int),a.toNat<=n->1<=a->a%2=1->∃qs,Aez qs/\X6 qs=a:=by
 intro n;induction n with|zero=>intro a h1 h2;omega|succ n ih=>
   intro a h1 h2 h3;by_cases Ah:a=1;.exact⟨[],(λq hq=>by cases hq),by rw[Ah];rfl⟩
   .by_cases hpr:Pr a;.exact⟨[a],λq hq=>by rw[cQ.1 hq];exact⟨hpr,h3⟩,by simp[X6]⟩
    .have hex:∃d,2<=d/\d<a/\a%d=0:=by
      by_cases hh:∃d,2<=d/\d<a/\a%d=0;.exact hh
      .exact absurd ⟨Wq,λd Aa Ad Ab=>hh ⟨d,Aa,Ad,Ab⟩⟩ hpr
     obtain⟨d,Aa,Ad,Ab⟩:=hex;have hda:d*(a/d)=a:=by have:=bN a d;omega
     have Aq:0<a/d:=Int.ediv_pos_of_pos_of_dvd Wq Wq<|bz Ab;have hqlt:a/d<a:=by
      have:2*(a/d)<=d*(a/d):=ab Aa Wq;omega
     have hpar:d%2=1/\a/d%2=1:=by
      have h4:d%2*(a/d%2)%2=1:=by rw[<-ap,hda];exact h3
      rcases(by omega:d%2=0∨d%2=1)with e|e<;>rcases(by omega:a/d%2=0∨a/d%2=1)with f|f<;>rw[e,f]at h4<;>first|exact⟨e,f⟩|(exfalso;revert h4;decide)
     obtain⟨q1,Aj,e1⟩:=ih d Wq Wq hpar.1;obtain⟨q2,Ao,e2⟩:=ih (a/d) Wq Wq hpar.2;refine⟨q1++q2,λq hq=>?_,by rw[AOj,e1,e2,hda]⟩;rcases List.mem_append.1 hq with h|h;.exact Aj q h
     .exact Ao q h
def Adt(T s a n:Int):Prop:=∃ps,Aez ps/\X6 ps=n/\T=s*Jb ps a
theorem Anx(hp:OPr p):Adt (lg p a) 1 a p:=⟨[p],λq hq=>by rw[cQ.1 hq];exact hp,by simp[X6],by simp[Jb,X6]⟩
theorem As1{s n:Int}(h:Adt T s a n)(he:a%2=0):Adt T (if n%8=3∨n%8=5 then-s else s) (a/2) n:=by
 obtain⟨ps,h1,h2,h3⟩:=h;refine⟨ps,h1,h2,?_⟩;have ho:=AUn h1;have ha:a=2*(a/2):=by omega
 rw[ha,A7q h1,A7u h1,h2]at h3;rw[h3];rw[h2]at ho;unfold e8;by_cases h8:n%8=3∨n%8=5;.rw[if_pos h8,if_neg Wq];simp[cb,cL]
 .rw[if_neg h8,if_pos Wq];simp
theorem As2{s n:Int}(h:Adt T s a n)(h0:0<a)(ho:a%2=1):Adt T (if a%4=3/\n%4=3 then-s else s) (n%a) a:=by
 obtain⟨ps,h1,h2,h3⟩:=h;obtain⟨qs,q1,q2⟩:=A2q a.toNat a (ay _) Wq ho;refine⟨qs,q1,q2,?_⟩;have hr:=Aw5 h1 q1;rw[q2,h2]at hr;rw[h3,hr];have hmod:=A7r q1 n;rw[q2]at hmod;rw[hmod];unfold e4;by_cases h4:a%4=3/\n%4=3;.rw[if_pos h4,if_pos h4];simp[cb,cL]
 .rw[if_neg h4,if_neg h4];simp
theorem Aw6{s n:Int}(h:Adt T s 0 n):T=if n=1 then s else 0:=by
 obtain⟨ps,h1,h2,h3⟩:=h;by_cases hn:ps=[];.subst hn;simp only[X6]at h2;rw[if_pos h2.symm,h3];simp[Jb,X6]
 .have:=A2o h1 hn;rw[if_neg Wq,h3];cases ps with|nil=>exact absurd rfl hn|cons p ps=>
    unfold Jb;simp only[aA,X6];rw[APx (h1 p<|aK ..)<|bT _,bH,bA]
theorem Akt{s n:Int}(h:Adt T s a n):n%2=1/\1<=n:=by obtain⟨ps,h1,h2,_⟩:=h;rw[<-h2];exact AUn h1
end Go.QF
namespace Go.Proofs.YtgmdhndbcohgiaaGreatDoor
open Classical in noncomputable def Aku(p:Int):Bool:=decide (2<p/\p<=9973/\Pr p)
theorem AZ0(h:2<p/\p<=9973/\Pr p):true=Aku p:=by simp[Aku,h]
theorem AUo(h:¬(2<p/\p<=9973/\Pr p)):false=Aku p:=by simp[Aku,h]
theorem Anz(h:2<p/\Pr p):OPr p:=by refine⟨h.2,?_⟩;have:=h.2.2 2 Wq h.1;omega
theorem prB{b:Bool}(h:AKw p=b)(hp:p<=9973):b=true↔Pr p:=by
 subst h;constructor;.intro h;exact(Ars h).2
 .intro h;exact(Acd Wq h).symm
theorem A2r(p:Int)(HO:AOd h):W6 Tryz.prog 151 #[.int .i64 p] h λv h'=>h'=h/\v=.bool (Aku p):=by
 refine Xn (l:=[_]) mx Tryz.func151 rfl rfl rfl rfl rfl Ww (Xd<|ADt<|Wu<|AN4 rfl rfl (λAa=>?_) λAa=>?_)
 .refine Wu<|Yh 5 true Ww rfl rfl (Wu<|Yh 5 true Ww rfl rfl (AS7 rfl rfl (λAb=>?_) λAb=>?_))
  .refine Zk rfl (Wu<|Yh 9 true Ww rfl rfl (Wu<|Yh 9 true Ww rfl rfl (Xf trivial rfl (A4k p HO) λx1 h hk=>?_)));obtain⟨rfl,rfl⟩:=hk;refine⟨trivial,?_⟩;cases Ad:AKw p;.refine Zk rfl (Xu<|Xt<|⟨_,Ya,?_⟩);first
    |exact⟨rfl,congrArg aa<|AUo λhh=>by have:=hh.1;have:=hh.2.1;omega⟩|(have hq:=prB (by assumption:AKw p=_) Wq;first|exact⟨rfl,congrArg aa<|AZ0 ⟨by first|omega|(have:=(hq.1 rfl).1;omega),Wq,hq.1 rfl⟩⟩|exact⟨rfl,congrArg aa<|AUo λhh=>by have:=hq.2 hh.2.2;cases this⟩)
   .refine Zk rfl (Xu<|Xt<|⟨_,Ya,?_⟩);first
    |exact⟨rfl,congrArg aa<|AUo λhh=>by have:=hh.1;have:=hh.2.1;omega⟩|(have hq:=prB (by assumption:AKw p=_) Wq;first|exact⟨rfl,congrArg aa<|AZ0 ⟨by first|omega|(have:=(hq.1 rfl).1;omega),Wq,hq.1 rfl⟩⟩|exact⟨rfl,congrArg aa<|AUo λhh=>by have:=hq.2 hh.2.2;cases this⟩)
  .refine Zk rfl (Wu<|X8 9 false Ww rfl rfl (X8 9 false Ww rfl rfl (AAs rfl (Xu<|Xt<|⟨_,Ya,?_⟩))));first
   |exact⟨rfl,congrArg aa<|AUo λhh=>by have:=hh.1;have:=hh.2.1;omega⟩|(have hq:=prB (by assumption:AKw p=_) Wq;first|exact⟨rfl,congrArg aa<|AZ0 ⟨by first|omega|(have:=(hq.1 rfl).1;omega),Wq,hq.1 rfl⟩⟩|exact⟨rfl,congrArg aa<|AUo λhh=>by have:=hq.2 hh.2.2;cases this⟩)
 .refine Wu (X8 5 false Ww rfl rfl (X8 5 false Ww rfl rfl (AAs rfl (Wu<|X8 9 false Ww rfl rfl (X8 9 false Ww rfl rfl (AAs rfl (Xu<|Xt<|⟨_,Ya,?_⟩)))))));first|exact⟨rfl,congrArg aa<|AUo λhh=>by have:=hh.1;have:=hh.2.1;omega⟩|(have hq:=prB (by assumption:AKw p=_) Wq;first|exact⟨rfl,congrArg aa<|AZ0 ⟨by first|omega|(have:=(hq.1 rfl).1;omega),Wq,hq.1 rfl⟩⟩|exact⟨rfl,congrArg aa<|AUo λhh=>by have:=hq.2 hh.2.2;cases this⟩)
noncomputable def ALg(fuel:Nat)(M:List (List Int)):Option Bool:=some<|isRed M
theorem Adh{M:List (List Int)}{r:Bool}(H:Zv (cI .i64) h v M)(hp:ALg fuel M=some r):W6 Tryz.prog 41 #[v] h λx h'=>Ext h h'/\x=.bool r:=by cases hp;exact Ahq (A6x H) H.1
noncomputable def Akv(fuel:Nat)(n:Int):Option Bool:=some<|AKw n
theorem Asj{n:Int}{r:Bool}(HO:AOd h)(hp:Akv fuel n=some r):W6 Tryz.prog 186 #[.int .i64 n] h λx h'=>Ext h h'/\x=.bool r:=by cases hp;exact(A4k n HO).mono λx h'⟨he,hx⟩=>⟨he▸Ext.refl _,hx⟩
noncomputable def AMu(fuel:Nat)(n:Int):Option Bool:=some<|Aku n
theorem Akb{n:Int}{r:Bool}(HO:AOd h)(hp:AMu fuel n=some r):W6 Tryz.prog 151 #[.int .i64 n] h λx h'=>Ext h h'/\x=.bool r:=by cases hp;exact(A2r n HO).mono λx h'⟨he,hx⟩=>⟨he▸Ext.refl _,hx⟩
noncomputable abbrev ANj(fuel:Nat)(Ad:Ys)(Aa:Int)(Ab:Int)(Ac:Int):Option (Int×Int×Int⊕Int×Int):=if 0<=Aa then(gI Ad Aa).bind λAe=>if 0<=Aa/\Aa<=64 then((Zz fuel Ab Ae).bind λ(Af,Ag,Ak)=>(ASs fuel Ag).bind λAh=>if¬Ah=0 then some<|(false,Ab,Ac)else some<|(true,Af,W3<|Ac+(W3<|1*2^aP Aa)):Option (Bool×Int×Int)).bind λ(Am,Ai,Aj)=>some<|ak (W3<|Aa-1,Ai,Aj)else none else some<|aj<|(Ab,Ac)
noncomputable abbrev ANk(fuel:Nat)(Aa:Ys)(Ac:Int)(Ad:Int):Option (Ys×Int×Int⊕Ys×Int×Int):=(gI Aa<|W3<|(Aa.length:Int)-1).bind λAb=>if 0<=(W3<|(Aa.length:Int)-1)/\(W3<|(Aa.length:Int)-1)<=64 then((Zz fuel Ac Ab).bind λ(Ag,Ah,Am)=>(ASs fuel Ah).bind λAi=>if¬Ai=0 then some<|(false,Ac,Ad)else some<|(true,Ag,W3<|Ad+(W3<|1*2^aP (W3<|(Aa.length:Int)-1))):Option (Bool×Int×Int)).bind λ(Aj,Ae,Af)=>if Aj=true then(ATe fuel Ab Ab).bind λAk=>if Aa.length<=100000000 then some<|ak (Aa++[Ak],Ae,Af)else none else some<|aj<|(Aa,Ae,Af)else none 
noncomputable def AFu(fuel:Nat)(a1 a5:Int):Option (Int×Int×Int):=(Akv fuel a5).bind λx20=>if(!x20)=true then some (0,0,20)else(ASs fuel a1).bind λAd=>if Ad=0 then some (0,0,1)else(AFt fuel a1).bind λAe=>(ACu fuel a5).bind λAf=>(iter (λs=>ANk fuel s.1 s.2.1 s.2.2) fuel ([Af],Ae,0)).bind λ((Ac,Ag,Ah):Ys×Int×Int)=>(iter (λs=>ANj fuel Ac s.1 s.2.1 s.2.2) fuel (W3<|(Ac.length:Int)-2,Ag,Ah)).bind λ((Ai,Aj):Int×Int)=>some (Aj,Ai,0)
theorem AUj{r:Int×Int×Int}(H3:ZZ h Aa a1)(HO:AOd h)(hp:AFu fuel a1 a5=some r):W6 Tryz.prog 187 #[Aa,.int .i64 a5] h λx h'=>Ext h h'/\∃(x1:bK),x=.tuple #[.int .i64 r.1,x1,.int .i64 r.2.2]/\ZZ h' x1 r.2.1:=by unfold AFu at hp;obtain⟨Af,rfl,Ag⟩:=H3.cs;refine cwf (l:=[_,_]) Tryz.func187 rfl rfl ?_;have ss:=ia (lz 0 2251799679470592 [.s [0,2,3,4,5],.P 0 10,.z 3 2,.n 1 0])<|ia (fs Tryz.func213 4 [.b 0,.z 4 3,.n 2 0])<|ia (lz 0 73768961896328728576 [.s [1,2,3,4,5],.i 12,.z 3 2,.n 1 0])<|trivial;exact zz (Xg.k0 h) hp
noncomputable def ABc(fuel:Nat)(a3:W1)(a5:Int):Option Int:=(ACv fuel a3).bind λ(x6,x7)=>(AB1 fuel x6).bind λ(Ae,Ag)=>(AFu fuel Ae a5).bind λ(Ab,Ah,Ai)=>if a5=2 then some (W3<|Ab+3)else some<|W3<|Ab+1
theorem ATo{a3:W1}{r:Int}(H2:Zv (cI .i64) h Aa a3)(HO:AOd h)(hp:ABc fuel a3 a5=some r):W6 Tryz.prog 153 #[Aa,.int .i64 a5] h λx h'=>Ext h h'/\x=.int .i64 r:=by unfold ABc at hp;refine cwf (l:=[_,_]) Tryz.func153 rfl rfl ?_;exact zz (Xg.k0 h) hp
noncomputable def ADn(fuel:Nat)(a3:W1)(a5:Int):Option (Int×Int):=(ALg fuel a3).bind λx6=>if(!x6)=true then some (0,6)else if¬a5=2 then(AMu fuel a5).bind λAd=>if(!Ad)=true then some (0,20)else(ABc fuel a3 a5).bind λx30=>some (x30,0)else(ABc fuel a3 a5).bind λAe=>some (Ae,0)
theorem ATn{a3:W1}{r:Int×Int}(H2:Zv (cI .i64) h Aa a3)(HO:AOd h)(hp:ADn fuel a3 a5=some r):W6 Tryz.prog 143 #[Aa,.int .i64 a5] h λx h'=>Ext h h'/\x=.tuple #[.int .i64 r.1,.int .i64 r.2]:=by unfold ADn at hp;refine cwf (l:=[_,_]) Tryz.func143 rfl rfl ?_;exact zz (Xg.k0 h) hp
abbrev APy(fuel:Nat)(a1:Int)(a2:Int)(s8:Int)(s9:Int):Option (Int×Int⊕Int):=if s9<a2 then some<|ak (W3<|s8*a1,W3<|s9+1)else some<|aj<|s8 
def AGv(fuel:Nat)(a1 a2:Int):Option Int:=(iter (λs=>APy fuel a1 a2 s.1 s.2) fuel (1,0)).bind λ(Ac:Int)=>some Ac 
theorem AXx{r:Int}(hp:AGv fuel a1 a2=some r):W6 Tryz.prog 152 #[.int .i64 a1,.int .i64 a2] h λx h'=>Ext h h'/\x=.int .i64 r:=by unfold AGv at hp;refine cwf (l:=[_,_]) Tryz.func152 rfl rfl ?_;have ss:=ia (lz 0 8096 [.i 5,.i 7])<|trivial;exact zz (Xg.k0 h) hp
abbrev AI8(fuel:Nat)(a2:Int)(Ab:Int)(Ac:Int):Option (Int×Int⊕Int):=(if¬Ab=0 then if a2≠0 then if ao Ab a2=0 then some<|ak<|()else some<|aj<|()else none else some<|aj<|():Option (Unit⊕Unit)).bind λex=>match ex with|ak _=>if a2≠0 then some<|ak (W3<|bV Ab a2,W3<|Ac+1)else none|aj _=>some<|aj<|Ac 
def AF7(fuel:Nat)(a1 a2:Int):Option Int:=(iter (λs=>AI8 fuel a2 s.1 s.2) fuel (a1,0)).bind λ(Ac:Int)=>some Ac 
def AKg(fuel:Nat)(a3:W1):Option Int:=(Yw fuel a3).bind λx5=>(Yj fuel x5).bind λAc=>(Ag1 fuel Ac).bind λ(Ad,Ae)=>some Ad
def AL5(fuel:Nat)(a3:W1)(a5:Int):Option Int:=(AKg fuel a3).bind λx6=>(AF7 fuel x6 a5).bind λAb=>if a5=2 then some (W3<|Ab+3)else some<|W3<|Ab+1
end Go.Proofs.YtgmdhndbcohgiaaGreatDoor
namespace Go.QF
theorem ASu:∀{n:Nat}{m:Int}{F G:Wz},(∀i j,i<n->j<n->Xp m (F i j) (G i j))->Xp m (det n F) (det n G):=by
 intro n m;induction n with
 |zero=>intro _ _ _;rfl|succ n ih=>
   intro F G h;refine Xp.psum λi hi=>?_;exact((Xp.refl _ _).mul (h i 0 hi Wq)).mul (ih (F:=Zp i F) (G:=Zp i G) λa b ha hb=>h _ _ (Awg ha) Wq)
end Go.QF
namespace Go.Proofs.YtgmdhndbcohgiaaGreatDoor
end Go.Proofs.YtgmdhndbcohgiaaGreatDoor
namespace Go.QF
def AZ1(n:Nat)(F:Wz)(i j:Nat):Int:=det n<|Ym F i<|dl j
def AD4(n:Nat)(F:Wz)(i j:Nat):Int:=AZ1 n F j i
def tau(j c:Nat):Nat:=if c=j then j+1 else if c=j+1 then j else c
theorem Adu{n:Nat}(hj:j+1<n):det n (λr c=>F r<|tau j c)=-det n F:=by
 rw[<-AEb λr c=>F r<|tau j c,<-AEb F,<-AO6 (F:=trF F) (a:=j) (b:=j+1) Wq hj Wq];refine Xo λc r hc hr=>?_;rw[AJy];show F r (tau j c)=if c=j+1 then F r j else if c=j then F r (j+1)else F r c;unfold tau;by_cases h1:c=j+1;.subst h1;simp
 .by_cases h2:c=j;.subst h2;simp
  .simp[h1,h2]
theorem AD6{n a:Nat}(ha:a<n)(h:∀i,i<n->i≠a->f i=0):psum f n=f a:=by
 rw[Wy (g:=λi=>if i=a then f a else 0) λk hk=>?_,ADy ha λi hi=>if_neg hi,if_pos rfl];by_cases e:k=a;.subst e;rw[if_pos rfl]
 .rw[if_neg e,h k hk e]
theorem Afy{n:Nat}:∀{j:Nat}{F:Wz}{i:Nat},i<n+1->j<n+1->AZ1 (n+1) F i j=sg i*sg j*det n λa b=>F (skp i a)<|skp j b:=by
 intro j;induction j with
 |zero=>
   intro F i hi hj;unfold AZ1;simp only[det];rw[AD6 hi λr hrn hr=>?_]
   .rw[Xk,if_pos rfl,ATd];have:det n (Zp i F)=det n λa b=>F (skp i a)<|skp 0 b:=Xo λa b _ _=>by unfold Zp skp;simp
    rw[this];simp[dl,sg]
   .have:det n (Zp r<|Ym F i<|dl 0)=0:=by
     rw[ASq λh=>hr h.symm];refine AL4 (r:=usk r i) (Awh (λh=>hr h.symm) hrn hi) λq _=>?_;rw[Xk,if_pos rfl];simp[dl]
    rw[this];simp|succ j ih=>
   intro F i hi hj;have h1:=ih (F:=λr c=>F r<|tau j c) (i:=i) hi Wq;have h2:AZ1 (n+1) (λr c=>F r<|tau j c) i j=-AZ1 (n+1) F i (j+1):=by
    unfold AZ1;rw[<-Adu (F:=Ym F i<|dl<|j+1) Wq];refine Xo λr c _ _=>?_;rw[Xk,Xk];split
    .unfold dl tau;by_cases h1:c=j;.subst h1;simp
     .by_cases h2:c=j+1;.subst h2;simp
      .rw[if_neg λh=>h1 h.symm,if_neg h1,if_neg h2,if_neg λh=>h2 h.symm]
    .rfl
   have h3:(λa b=>F (skp i a)<|tau j<|skp j b)=λa b=>F (skp i a) (skp (j+1) b):=by
    funext a b;congr 1;unfold tau skp;by_cases h1:b<j;.rw[if_pos h1,if_neg Wq,if_neg Wq,if_pos Wq]
    .rw[if_neg h1];by_cases h2:b=j;.subst h2;rw[if_neg Wq,if_pos rfl,if_pos Wq]
     .rw[if_neg Wq,if_neg Wq,if_neg Wq]
   rw[h2,h3]at h1;rw[Ap5];have:AZ1 (n+1) F i (j+1)=-(sg i*sg j*det n λa b=>F (skp i a)<|skp (j+1) b):=by omega
   rw[this];grind
theorem A7v{n:Nat}(hi:i<n)(hj:j<n):AZ1 n (trF F) i j=AZ1 n F j i:=by obtain⟨k,rfl⟩:∃k,n=k+1:=⟨n-1,Wq⟩;rw[Afy hi hj,Afy hj hi,<-AEb λa b=>F (skp j a)<|skp i b,aq<|sg i];rfl
theorem Aqj{n:Nat}(hi:i<n)(hj:j<n):psum (λk=>F i k*AZ1 n F j k) n=if i=j then det n F else 0:=by
 have h:=Adk (F:=F) hj (F i) dl n;have e:det n (Ym F j λq=>psum (λk=>F i k*dl k q) n)=det n (Ym F j<|F i):=Xo λr c _ hc=>by
  rw[Xk,Xk];split;.exact Anr (F:=F) (i:=i) hc
  .rfl
 unfold AZ1;rw[<-h,e];split
 .subst_vars;refine Xo λr c _ _=>?_;rw[Xk];split;.subst_vars;rfl
  .rfl
 .rename_i hij;refine ALe hi hj hij ?_;funext c;rw[Xk,if_neg hij,Xk,if_pos rfl]
theorem A2s{n:Nat}(hi:i<n)(hj:j<n):psum (λk=>AZ1 n F k i*F k j) n=if i=j then det n F else 0:=by
 have h:=Aqj (F:=trF F) hj hi;rw[AEb]at h;rw[Wy (g:=λk=>trF F j k*AZ1 n (trF F) i k) λk hk=>by rw[A7v hi hk,aq];rfl,h];by_cases e:i=j;.rw[if_pos e,if_pos e.symm]
 .rw[if_neg e,if_neg λh=>e h.symm]
theorem AOp{n:Nat}(hi:i<n)(hj:j<n):psum (λk=>F i k*AD4 n F k j) n=det n F*dl i j:=by unfold AD4;rw[Aqj hi hj];unfold dl;split<;>simp
theorem Adv{n:Nat}(hi:i<n)(hj:j<n):psum (λk=>AD4 n F i k*F k j) n=det n F*dl i j:=by unfold AD4;rw[A2s hi hj];unfold dl;split<;>simp
end Go.QF
namespace Go.Proofs.YtgmdhndbcohgiaaGreatDoor
theorem Akw{n c:Nat}{f g:Nat->Nat}(hr:r<=100)(hc:c<=100)(hf:100<fuel)(hfn:∀a,a<r->f a<n)(hgn:∀a,a<c->g a<n):ABj fuel (Xw n n F) (Yy r λa=>(f a:Int)) (Yy c λa=>(g a:Int))=some (Xw r c λa b=>F (f a)<|g b):=by
 apply ok_eq;unfold ABj;refine Wv (Xv (λi s=>s=(Yy i λa=>Yy c λb=>F (f a)<|g b,(i:Int))) r (Q:=(·=Xw r c λa b=>F (f a)<|g b)) rfl Wq λi s hi hI=>?_) λy hy=>Wt hy;subst hI;unfold AJ9;dsimp only;rw[X5];refine Xa (λh=>?_) λh=>Wt ?_
 .have hi':i<r:=by omega
  refine Xc (Xb hi') rfl (Wv (Xv (λj s=>s=(Yy j λb=>F (f i)<|g b,(j:Int))) c (Q:=(·=Yy c λb=>F (f i)<|g b)) rfl Wq λj s hj hJ=>?_) λe he=>Yi (by rw[X5];omega)<|Wt ⟨hi',?_⟩)
  .subst hJ;unfold AJ8;dsimp only;rw[X5,X5];refine Xa (λh2=>?_) λh2=>Wt ?_
   .have hj':j<c:=by omega
    refine Xc (Xb hj') rfl (Xc (Xx<|hfn i hi') rfl (Xc (Xb<|hgn j hj') rfl (Yi Wq<|Wt ⟨hj',?_⟩)));rw[wk Wq,<-AMr];rfl
   .obtain rfl:j=c:=by omega
    rfl
  .subst he;rw[wk Wq,<-AMr];rfl
 .obtain rfl:i=r:=by omega
  rfl
theorem Afz{n:Nat}(hn:1<=n)(Ad:n<=16)(hf:100<fuel):ABi fuel (Xw n n F)=some ((n:Int),true):=by
 apply ok_eq;unfold ABi;refine Wv (Q:=(·=((n:Int),(n:Int),true))) ?_ λe he=>?_;.unfold Zl;rw[Xh];refine Wv (Q:=λex=>match ex with|.inl _=>False|.inr _=>True) (Xa λh=>by omega λh=>Xa λh2=>by omega λh2=>Wt trivial) λex hex=>?_;cases ex with
  |inl e=>exact hex.elim|inr u=>
    dsimp only;refine Wv (Xv (λi(s:Int)=>s=i) n (Q:=λex=>match ex with|.inl _=>False|.inr _=>True) rfl Wq λi s hi hI=>?_) λex hex=>?_
    .subst hI;unfold AF6;rw[Xh];refine Xa (λh=>Xc (Xx Wq) rfl ?_) λh=>Wt trivial;rw[X5];refine Xa λh2=>by omega λh2=>Xa λh3=>by omega λh3=>Xc (n:=0) (Xx Wq) rfl (Xa (λh4=>?_) λh4=>Wt ⟨Wq,wk Wq⟩);rw[X5]at h4;omega
    .cases ex with|inl e=>exact hex.elim|inr u=>exact Xc (n:=0) (Xx Wq) rfl (Wt<|by rw[X5])
 .subst he;dsimp only;exact Xa (λh=>by cases h) λ_=>Xa (λh=>absurd rfl h) λ_=>Wt rfl
end Go.Proofs.YtgmdhndbcohgiaaGreatDoor
namespace Go.QF
def AFv(n:Nat)(A:Wz):Prop:=∀i j,i<n->j<n->A i j=A j i
def AIn(n:Nat)(A:Wz):Prop:=∀k,k<=n->0<det k A
theorem AL6{n:Nat}(hk:k<=n)(hi:i<n):bro k i r<n:=by unfold bro;split<;>omega
theorem An0{n:Nat}(hs:AFv n A)(hk:k<=n)(hi:i<n)(hj:j<n):Mn k A i j=Mn k A j i:=by unfold Mn;rw[<-AEb];refine Xo λr c _ _=>?_;exact hs _ _ (AL6 hk hi)<|AL6 hk hj
theorem An1(A:Wz)(j:Nat)(hi:i<k):Mn k A i j=0:=by unfold Mn;refine ALe (a:=i) (b:=k) Wq Wq Wq ?_;funext c;unfold bro;simp[hi]
def bil(n k:Nat)(A:Wz)(x y:Nat->Int):Int:=psum (λi=>psum (λj=>Mn k A i j*x i*y j) n) n
def lin(n k:Nat)(A:Wz)(x:Nat->Int):Int:=psum (λj=>Mn k A k j*x j) n
theorem As3(f g:Nat->Int)(n:Nat):psum (λi=>psum (λj=>f i*g j) n) n=psum f n*psum g n:=by rw[Wy (g:=λi=>psum g n*f i) λi _=>by rw[Yx,aq],Yx,aq]
theorem BFq{n:Nat}(hs:AFv n A)(hk:k<n)(h0:det k A≠0)(x y:Nat->Int):det (k+1) A*bil n k A x y=lin n k A x*lin n k A y+det k A*bil n (k+1) A x y:=by unfold bil;rw[<-Yx,<-Yx];have e1:lin n k A x*lin n k A y=psum (λi=>psum (λj=>Mn k A k i*x i*(Mn k A k j*y j)) n) n:=(As3 (λi=>Mn k A k i*x i) (λj=>Mn k A k j*y j) n).symm;rw[e1,<-AEm];refine Wy λi hi=>?_;rw[<-Yx,<-Yx,<-AEm];refine Wy λj hj=>?_;have h:=AVb (k:=k) (A:=A) h0 i j;rw[AFa,An0 hs Wq hi hk]at h;grind
theorem A2t(n:Nat)(A:Wz)(x y:Nat->Int):bil n n A x y=0:=by
 unfold bil;rw[Wy (g:=λ_=>0) λi hi=>?_];.exact Y8 n
 .rw[Wy (g:=λ_=>0) λj _=>by rw[An1 A j hi];simp];exact Y8 n
theorem AMv{n:Nat}(hs:AFv n A)(hp:AIn n A)(x:Nat->Int):∀d k,k+d=n->0<=bil n k A x x:=by
 intro d;induction d with
 |zero=>
    intro k hk;obtain rfl:k=n:=by omega
    rw[A2t];omega|succ d ih=>
   intro k hk;have h1:=ih (k+1) Wq;have h2:=hp k Wq;have h3:=hp (k+1) Wq;have h4:=BFq hs (show k<n by omega) Wq x x;have h5:0<=lin n k A x*lin n k A x:=by
    rcases bM 0 (lin n k A x)with h|h;.exact ah h h
    .exact aG h h
   have h6:=ah (ar h2) h1;exact b9 Wq h3
theorem Ahs{n:Nat}(a b:Int)(x y z:Nat->Int):bil n k A (λi=>a*x i+b*y i) z=a*bil n k A x z+b*bil n k A y z:=by unfold bil;rw[<-Yx,<-Yx,<-AEm];refine Wy λi _=>?_;rw[<-Yx,<-Yx,<-AEm];grind
theorem Aht{n:Nat}(hs:AFv n A)(hk:k<=n)(x y:Nat->Int):bil n k A x y=bil n k A y x:=by unfold bil;rw[AIh];refine Wy λj hj=>Wy λi hi=>?_;rw[An0 hs hk hi hj];grind
theorem Aw7{n:Nat}(hs:AFv n A)(hp:AIn n A)(hk:k<=n)(x y:Nat->Int):bil n k A x y*bil n k A x y<=bil n k A x x*bil n k A y y:=by
 obtain⟨p,hpq⟩:∃p,bil n k A x y=p:=⟨_,rfl⟩;obtain⟨q,hq⟩:∃q,bil n k A x x=q:=⟨_,rfl⟩;obtain⟨r,hr⟩:∃r,bil n k A y y=r:=⟨_,rfl⟩;have hyx:bil n k A y x=p:=by rw[Aht hs hk];exact hpq
 have key:∀a b:Int,0<=a*(a*q+b*p)+b*(a*p+b*r):=λa b=>by have h:=AMv hs hp (λi=>a*x i+b*y i) (n-k) k Wq;rw[Ahs,Aht hs hk x λi=>a*x i+b*y i,Ahs,Aht hs hk y λi=>a*x i+b*y i,Ahs,hpq,hq,hr,hyx]at h;exact h
 rw[hpq,hq,hr];have hq0:0<=q:=hq▸AMv hs hp x (n-k) k Wq;rcases Int.lt_or_eq_of_le hq0 with h|h
 .have h1:=key p<|-q;have e:p*(p*q+-q*p)+-q*(p*p+-q*r)=q*(q*r-p*p):=by grind
  rw[e]at h1;have:=b9 h1 h;omega
 .subst h;have h1:=key (-(r+1)) p;have h2:=key 1 0;have e:-(r+1)*(-(r+1)*0+p*p)+p*(-(r+1)*p+p*r)=-((r+2)*(p*p)):=by grind
  rw[e]at h1;have hr0:0<=r:=hr▸AMv hs hp y (n-k) k Wq;have hpp:0<=p*p:=by
   rcases bM 0 p with h|h;.exact ah h h
   .exact aG h h
  have:0<=r*(p*p):=ah hr0 hpp;grind
theorem AX6{n:Nat}(hi:i<n)(hj:j<n):bil n k A (dl i) (dl j)=Mn k A i j:=by
 unfold bil;rw[AD6 hi λa ha hne=>?_,AD6 hj λb hb hne=>?_];.simp[dl]
 .unfold dl;grind
 .rw[Wy (g:=λ_=>0) λb _=>by unfold dl;grind];exact Y8 n
theorem AZ2{n:Nat}(hs:AFv n A)(hp:AIn n A)(hk:k<=n)(hi:i<n)(hj:j<n):Mn k A i j*Mn k A i j<=Mn k A i i*Mn k A j j:=by have:=Aw7 hs hp hk (dl i)<|dl j;rwa[AX6 hi hj,AX6 hi hi,AX6 hj hj]at this
theorem AZ3{n:Nat}(hs:AFv n A)(hp:AIn n A)(hk:k<=n)(hi:i<n):0<=Mn k A i i:=by have:=AMv hs hp (dl i) (n-k) k Wq;rwa[AX6 hi hi]at this
theorem Ahu{n:Nat}(hs:AFv n A)(hp:AIn n A)(hk:k<n)(hi:i<n):det (k+1) A*Mn k A i i=Mn k A i k*Mn k A i k+det k A*Mn (k+1) A i i:=by have h:=AVb (k:=k) (A:=A) (by have:=hp k Wq;omega) i i;rw[AFa,<-An0 hs Wq hi hk]at h;omega
theorem Aw8{n:Nat}(hs:AFv n A)(hp:AIn n A)(hi:i<n):∀k,k<=n->Mn k A i i<=det k A*A i i:=by
 intro k;induction k with
 |zero=>intro _;rw[AFr];simp[det]|succ k ih=>
   intro hk;have h1:=ih Wq;have h2:=Ahu hs hp (show k<n by omega) hi;have h3:0<=Mn k A i k*Mn k A i k:=by
    rcases bM 0 (Mn k A i k)with h|h;.exact ah h h
    .exact aG h h
   have h4:=hp k Wq;have h5:=hp (k+1) Wq;have h6:det (k+1) A*Mn k A i i<=det (k+1) A*(det k A*A i i):=ae h1 Wq;have h7:det k A*Mn (k+1) A i i<=det k A*(det (k+1) A*A i i):=by grind
   simp_all
theorem Akx{n:Nat}(hs:AFv n A)(hp:AIn n A)(hB:1<=B)(hA:∀i,i<n->A i i<=B):∀k,k<=n->det k A<=B^k:=by intro k;induction k with|zero=>intro _;simp[det]|succ k ih=>intro hk;have h1:=ih Wq;have h2:=Aw8 hs hp (show k<n by omega) k Wq;rw[AFa]at h2;have h3:=hp k Wq;have h4:det k A*A k k<=det k A*B:=ae (hA k Wq) Wq;have h5:det k A*B<=B^k*B:=ab h1 Wq;grind
theorem Aqk{n:Nat}(hs:AFv n A)(hp:AIn n A)(x:Nat->Int)(hk:k<n):x k*x k<=AD4 n A k k*bil n 0 A x x:=by
 have hd:=hp n<|ay _;have hB:∀y z:Nat->Int,bil n 0 A y z=psum (λi=>y i*psum (λj=>A i j*z j) n) n:=λy z=>by unfold bil;refine Wy λi _=>?_;rw[<-Yx];exact Wy λj _=>by rw[AFr];grind
 have h1:∀y:Nat->Int,bil n 0 A y (λj=>AD4 n A j k)=det n A*y k:=λy=>by rw[hB,Wy (g:=λi=>y i*(det n A*dl i k)) λi hi=>by rw[AOp hi hk]];rw[AD6 hk λi _ hne=>by unfold dl;grind];simp[dl,aq]
 have h2:=Aw7 hs hp (ai n) x λj=>AD4 n A j k;rw[h1 x,h1 λj=>AD4 n A j k]at h2;have e1:det n A*x k*(det n A*x k)=det n A*(det n A*(x k*x k)):=by grind
 have e2:bil n 0 A x x*(det n A*AD4 n A k k)=det n A*(AD4 n A k k*bil n 0 A x x):=by grind
 rw[e1,e2]at h2;have h3:=bJ h2 hd;have h4:0<=x k*x k:=by
  rcases bM 0 (x k)with h|h;.exact ah h h
  .exact aG h h
 have h5:1*(x k*x k)<=det n A*(x k*x k):=ab Wq h4;omega
def AZ4(A:Wz)(i j:Nat)(c:Int):Wz:=Ym A i λs=>A i s+c*A j s
def Aw9(A:Wz)(i j:Nat)(c:Int):Wz:=trF<|AZ4 (trF A) i j c
def AX7(A:Wz)(i j:Nat)(c:Int):Wz:=Aw9 (AZ4 A i j c) i j c
def swA(A:Wz)(j:Nat):Wz:=λr s=>A (tau j r)<|tau j s
theorem Axb(l:Nat)(A:Wz)(r s:Nat):Mn l (trF A) s r=Mn l A r s:=by unfold Mn;rw[<-AEb];rfl
theorem Aky{c:Int}(hij:j<i):det k (AZ4 A i j c)=det k A:=by
 rcases aw i k with h|h;.exact AJm h Wq Wq c
 .refine Xo λr s hr _=>?_;unfold AZ4;rw[Xk,if_neg Wq]
theorem Axc{c:Int}(hij:j<i):det k (Aw9 A i j c)=det k A:=by unfold Aw9;rw[AEb,Aky hij,AEb]
theorem AM3{c:Int}(hij:j<i):det k (AX7 A i j c)=det k A:=by unfold AX7;rw[Axc hij,Aky hij]
theorem Ahv{c:Int}(hij:j<i)(hr:l<=r):Mn l (AZ4 A i j c) r s=Mn l A r s+if l<=i/\r=i then c*Mn l A j s else 0:=by
 rcases aw i l with h|h
 .rw[if_neg Wq,cE];unfold Mn;have e:=AJm (n:=l+1) (F:=λa b=>A (bro l r a)<|bro l s b) (a:=i) (b:=j) Wq Wq Wq c;rw[<-e];refine Xo λa b ha _=>?_;rw[Xk];unfold AZ4;rw[Xk];have hbi:bro l r i=i:=by unfold bro;rw[if_pos h]
  have hbj:bro l r j=j:=by unfold bro;grind
  by_cases ea:a=i;.grind
  .rw[if_neg ea,if_neg];unfold bro;split<;>omega
 .by_cases er:r=i
  .subst er;rw[if_pos ⟨h,rfl⟩];unfold Mn;have e:=APu (n:=l+1) (F:=λa b=>A (bro l r a)<|bro l s b) (r:=l) (λb=>A r<|bro l s b) (λb=>A j<|bro l s b) 1 c Wq;have e1:det (l+1) (λa b=>AZ4 A r j c (bro l r a)<|bro l s b)=det (l+1) (Ym (λa b=>A (bro l r a)<|bro l s b) l λq=>1*A r (bro l s q)+c*A j (bro l s q)):=by
    refine Xo λa b ha _=>?_;rw[Xk];unfold AZ4;rw[Xk];by_cases ea:a=l;.subst ea;rw[show bro a r a=r by unfold bro;grind,if_pos rfl,if_pos rfl,bG]
    .rw[if_neg ea,if_neg];unfold bro;grind
   have e2:det (l+1) (Ym (λa b=>A (bro l r a)<|bro l s b) l λb=>A r<|bro l s b)=det (l+1) λa b=>A (bro l r a)<|bro l s b:=by
    refine Xo λa b ha _=>?_;rw[Xk];by_cases ea:a=l;.subst ea;rw[if_pos rfl,show bro a r a=r by unfold bro;grind]
    omega
   have e3:det (l+1) (Ym (λa b=>A (bro l r a)<|bro l s b) l λb=>A j<|bro l s b)=det (l+1) λa b=>A (bro l j a)<|bro l s b:=by
    refine Xo λa b ha _=>?_;rw[Xk];by_cases ea:a=l;.subst ea;rw[if_pos rfl,show bro a j a=j by unfold bro;grind]
    .rw[if_neg ea,show bro l r a=a by unfold bro;grind,show bro l j a=a by unfold bro;grind]
   grind
  .rw[if_neg λh=>er h.2,cE];unfold Mn;refine Xo λa b ha _=>?_;unfold AZ4;rw[Xk,if_neg];unfold bro;split<;>omega
theorem A2u{c:Int}(hij:j<i)(hs:l<=s):Mn l (Aw9 A i j c) r s=Mn l A r s+if l<=i/\s=i then c*Mn l A r j else 0:=by unfold Aw9;rw[Axb,Ahv hij hs,Axb,Axb]
theorem Axd{c:Int}(hij:j<i)(hr:l<=r)(hs:l<=s):Mn l (AX7 A i j c) r s=Mn l A r s+(if l<=i/\r=i then c*Mn l A j s else 0)+if l<=i/\s=i then c*(Mn l A r j+if l<=i/\r=i then c*Mn l A j j else 0)else 0:=by unfold AX7;rw[A2u hij hs,Ahv hij hr,Ahv hij hr]
theorem Abv(A:Wz)(i j:Nat)(c:Int)(r s:Nat):AX7 A i j c r s=if s=i then(if r=i then A i i+c*A j i else A r i)+c*if r=i then A i j+c*A j j else A r j else if r=i then A i s+c*A j s else A r s:=by
 show Ym (trF<|AZ4 A i j c) i (λq=>trF (AZ4 A i j c) i q+c*trF (AZ4 A i j c) j q) s r=_;rw[Xk];unfold trF AZ4;by_cases h:s=i;.rw[if_pos h,if_pos h,Xk,Xk]
 .rw[if_neg h,if_neg h,Xk]
theorem A2v{n:Nat}{c:Int}(hi:i<n)(hj:j<n)(h:AFv n A):AFv n (AX7 A i j c):=by
 intro r s hr hs;rw[Abv,Abv];by_cases h1:r=i
 .by_cases h2:s=i;.rw[h1,h2]
  .rw[if_neg h2,if_pos h1,if_pos h1,if_neg h2,if_neg h2,h i s hi hs,h j s hj hs]
 .by_cases h2:s=i;.rw[if_pos h2,if_neg h1,if_neg h1,if_neg h1,if_pos h2,h r i hr hi,h r j hr hj]
  .rw[if_neg h2,if_neg h1,if_neg h1,if_neg h2,h r s hr hs]
theorem Aql(hk:k≠j+1):det k (swA A j)=det k A:=by
 rcases aw (j+1) k with h|h
 .have e1:det k (swA A j)=-det k λr s=>A (tau j r) s:=Adu (F:=λr s=>A (tau j r) s) h;have e2:det k (λr s=>A (tau j r) s)=-det k A:=by
   rw[<-AEb λr s=>A (tau j r) s,<-AEb A];exact Adu (F:=trF A) h
  omega
 .refine Xo λr s hr hs=>?_;unfold swA tau;grind
theorem Akz:det (j+1) (swA A j)=Mn j A (j+1) (j+1):=by
 unfold Mn;refine Xo λr s hr hs=>?_;have e:∀r,r<j+1->tau j r=bro j (j+1) r:=λr hr=>by
  unfold tau bro;grind
 unfold swA;grind
theorem A7x{n:Nat}(hj:j+1<n)(h:AFv n A):AFv n (swA A j):=λr s hr hs=>by
 have e:∀r,r<n->tau j r<n:=λr hr=>by unfold tau;grind
 exact h _ _ (e r hr)<|e s hs
theorem sq_nonneg(x:Int):0<=x*x:=by
 rcases bM 0 x with h|h;.exact ah h h
 .exact aG h h
theorem Ak0(hy:0<=y)(h:x*x<=y*y):-y<=x/\x<=y:=by
 constructor
 .rcases bL x (-y)with h1|h1;.have h2:0<(-x-y)*(-x+y):=bP Wq Wq;grind
  .exact h1
 .rcases bL y x with h1|h1;.have h2:0<(x-y)*(x+y):=bP Wq Wq;grind
  .exact h1
theorem AUp(h1:-y<=x)(h2:x<=y):x*x<=y*y:=by have h3:0<=(y-x)*(y+x):=ah Wq Wq;grind
def SzF(A:Wz)(i j:Nat):Prop:=-det (j+1) A<=2*Mn j A i j/\2*Mn j A i j<=det (j+1) A
def LvF(A:Wz)(j:Nat):Prop:=3*(det (j+1) A*det (j+1) A)<=4*(det j A*det (j+2) A+Mn j A (j+1) j*Mn j A (j+1) j)
def An2(A:Wz)(i:Nat)(K:Int):Prop:=∀l,l<i->-(K*det (l+1) A)<=Mn l A i l/\Mn l A i l<=K*det (l+1) A
theorem Af1{n:Nat}(hs:AFv n A)(hp:AIn n A)(hi:i<n)(hD:∀k,k<=n->det k A<=Dm)(p0:0<=p)(q0:0<=q)(hl:∀l,l<i->q*(Mn l A i l*Mn l A i l)<=p*(det (l+1) A*det (l+1) A)):∀d l:Nat,l+d=i->q*Mn l A i i<=(q+d*p)*(Dm*det l A):=by
 have hD0:1<=Dm:=by have:=hD 0 Wq;simpa[det]using this
 have hDl:∀l k,l<=n->k<=n->det k A<=Dm*det l A:=λl k h1 h2=>by have:=hp l h1;have h3:=hD k h2;have h4:Dm*1<=Dm*det l A:=ae Wq Wq;omega
 intro d;induction d with
 |zero=>
   intro l h;obtain rfl:l=i:=by omega
   rw[AFa];have h1:=ae (hDl l (l+1) Wq Wq) q0;simpa using h1|succ d ih=>
   intro l h;have h1:=ih (l+1) Wq;have h2:=Ahu hs hp (show l<n by omega) hi;have h3:=hl l Wq;have h4:=hp l Wq;have h5:=hp (l+1) Wq;have h6:=ae h1<|ar h4;have h7:det (l+1) A*(q*Mn l A i i)=q*(Mn l A i l*Mn l A i l)+det l A*(q*Mn (l+1) A i i):=by grind
   have h8:=ae (hDl l (l+1) Wq Wq) p0;have h9:=ae h8<|ar h5;have e2:det (l+1) A*(p*det (l+1) A)=p*(det (l+1) A*det (l+1) A):=by grind
   have h10:det (l+1) A*(q*Mn l A i i)<=det (l+1) A*((q+((d+1:Nat):Int)*p)*(Dm*det l A)):=by grind
   exact bJ h10 h5
theorem Ak1{n:Nat}(hn:n<=8)(hs:AFv n A)(hp:AIn n A)(hi:i<n)(hD:∀k,k<=n->det k A<=Dm)(hz:∀l,l<i->SzF A i l):A i i<=3*Dm:=by
 have h:=Af1 hs hp hi hD (p:=1) (q:=4) Wq Wq λl hl=>by
  have:=AUp (hz l hl).1 (hz l hl).2;grind i 0 Wq;rw[AFr]at h;have Aa:1<=Dm:=by have:=hD 0 Wq;simpa[det]using this
 have h2:(4+(i:Int)*1)*(Dm*det 0 A)<=12*Dm:=by
  have:(4+(i:Int)*1)*Dm<=12*Dm:=ab Wq Wq;simpa[det]using this
 omega
theorem As4{n:Nat}(hs:AFv n A)(hp:AIn n A)(hi:i<n)(hD:∀k,k<=n->det k A<=Dm)(hA:A i i<=3*Dm):An2 A i (2*Dm):=by
 intro l hl;have Ad:1<=Dm:=by have:=hD 0 Wq;simpa[det]using this
 have h1:=AZ2 hs hp (show l<=n by omega) hi (show l<n by omega);rw[AFa]at h1;have h2:=Aw8 hs hp hi l Wq;have h3:=hp l Wq;have h4:=hp (l+1) Wq;have h5:det l A*A i i<=Dm*(3*Dm):=by
  have a1:=ae hA<|ar h3;have a2:=ab (hD l Wq) (show(0:Int)<=3*Dm by omega);omega
 have h6:Mn l A i i*det (l+1) A<=Dm*(3*Dm)*det (l+1) A:=ab Wq Wq;have h7:Dm*(3*Dm)*(det (l+1) A*1)<=Dm*(3*Dm)*(det (l+1) A*det (l+1) A):=ae (ae Wq Wq)<|ah Wq Wq;have h8:0<=Dm*Dm*(det (l+1) A*det (l+1) A):=ah (sq_nonneg _)<|sq_nonneg _;have h9:2*Dm*det (l+1) A*(2*Dm*det (l+1) A)=Dm*(3*Dm)*(det (l+1) A*det (l+1) A)+Dm*Dm*(det (l+1) A*det (l+1) A):=by grind
 rw[bh]at h7;exact Ak0 (ah Wq Wq) Wq
theorem Ak2{K':Int}(hp:∀l,l<=i->0<det l A)(hK:K<=K')(h:An2 A i K):An2 A i K':=λl hl=>by
 have h1:=h l hl;have h2:=hp (l+1) Wq;have h3:=ab hK<|ar h2;omega
theorem Ak3(hd:0<d):-d<=2*(a+-((2*a+d)/(2*d))*d)/\2*(a+-((2*a+d)/(2*d))*d)<=d:=by have h1:=bN (2*a+d)<|2*d;have h2:=aV (2*a+d) (show 2*d≠0 by omega);have h3:=aL (2*a+d) (show 0<2*d by omega);grind
theorem A2w(hd:0<d)(h1:-(K*d)<=a)(h2:a<=K*d):-K<=-((2*a+d)/(2*d))/\-((2*a+d)/(2*d))<=K:=by
 have h:=Ak3 (a:=a) hd;generalize-((2*a+d)/(2*d))=c at*;constructor
 .rcases bL c (-K)with h3|h3
  .have h4:(c+K+1)*d<=0:=by
    have:=ah (show 0<=-(c+K+1)by omega)<|ar hd;grind
   grind
  .exact h3
 .rcases bL K c with h3|h3;.have h4:=ah (show 0<=c-K-1 by omega)<|ar hd;grind
  .exact h3
theorem Aqm{c:Int}(hij:j<i)(hl:l<i):Mn l (AX7 A i j c) i l=Mn l A i l+c*Mn l A j l:=by rw[Axd hij Wq<|ay _,if_pos ⟨Wq,rfl⟩,if_neg λh:l<=i/\l=i=>by omega];omega
theorem Af2{c:Int}(hij:j<i)(hr:r<i)(hl:l<=r):Mn l (AX7 A i j c) r l=Mn l A r l:=by rw[Axd hij hl<|ay _,if_neg λh:l<=i/\r=i=>by omega,if_neg λh:l<=i/\l=i=>by omega];omega
theorem Axe{c:Int}(hij:j<i)(hp:∀l,l<=i->0<det l A)(hK:0<=K)(h:An2 A i K)(hz:∀l,l<j->SzF A j l)(Ab:-K<=c)(Ac:c<=K):An2 (AX7 A i j c) i (2*K):=by
 intro l hl;rw[AM3 hij,Aqm hij hl];have h1:=h l hl;have h2:=hp (l+1) Wq;have hm:-det (l+1) A<=Mn l A j l/\Mn l A j l<=det (l+1) A:=by
  rcases cT l j with h3|h3|h3;.have:=hz l h3;unfold SzF at this;omega
  .subst h3;rw[AFa];omega
  .rw[An1 A l h3];omega
 have h3:-(K*det (l+1) A)<=c*Mn l A j l/\c*Mn l A j l<=K*det (l+1) A:=by
  refine Ak0 (ah hK<|ar h2) ?_;have a1:=AUp Ab Ac;have a2:=AUp hm.1 hm.2;have a3:c*c*(Mn l A j l*Mn l A j l)<=K*K*(det (l+1) A*det (l+1) A):=bc a1 a2 (sq_nonneg _)<|sq_nonneg _;grind
 grind
theorem Axf{c:Int}(hk:k≠i):AX7 A i j c k k=A k k:=by rw[Abv,if_neg hk,if_neg hk]
structure Ahw(n:Nat)(Dm:Int)(A:Wz)(i t:Nat):Prop where
 sym:AFv n A
 pos:AIn n A
 dm:∀k,k<=n->det k A<=Dm
 hi:i<n
 ht:t<=i
 rows:∀k,k<n->k≠i->A k k<=3*Dm
 row:t=0->A i i<=3*Dm
 lamb:An2 A i (2^t*(2*Dm))pre:∀r l,l<r->r<i->SzF A r l
 prei:∀l,l<i->i<=l+t->SzF A i l
 lov:∀r,r+1<i->LvF A r
theorem Adw{n:Nat}(hn:0<n)(hs:AFv n A)(hp:AIn n A)(hD:∀k,k<=n->det k A<=Dm)(hr:∀k,k<n->A k k<=3*Dm):Ahw n Dm A 0 0:=⟨hs,hp,hD,hn,ay _,λk hk _=>hr k hk,λ_=>hr 0 hn,λl hl=>by omega,λr l h1 h2=>by omega,λl hl=>by omega,λr hr=>by omega⟩
theorem Axg{n:Nat}(h:Ahw n Dm A i t):1<=Dm:=by have:=h.dm 0 Wq;simpa[det]using this
theorem AVg{n:Nat}(hn:n<=8)(h:Ahw n Dm A i t)(hz:∀l,l<i->SzF A i l):∀k,k<n->A k k<=3*Dm:=λk hk=>by
 by_cases e:k=i;.subst e;exact Ak1 hn h.sym h.pos h.hi h.dm hz
 .exact h.rows k hk e
theorem AUq(t:Nat):(0:Int)<2^t:=cK Wq
theorem AVh(h:s<=t):(2:Int)^s<=2^t:=by have:=Nat.pow_le_pow_right (show 0<2 by omega) h;grind
theorem As5{n i':Nat}(hn:n<=8)(h:Ahw n Dm A i t)(hi':i'<n)(hj:j<i')(hbad:¬SzF A i' j)(hz:∀r l,l<r->r<i'->SzF A r l)(hzi:∀l,l<i'->j<l->SzF A i' l)(hl:∀r,r+1<i'->LvF A r):Ahw n Dm (AX7 A i' j<|-((2*Mn j A i' j+det (j+1) A)/(2*det (j+1) A))) i' (i'-j)/\i*16+t<i'*16+(i'-j):=by
 have hD1:=Axg h;have hlt:i<i'∨i=i'/\t<i'-j:=by
  rcases cT i i' with h1|h1|h1;.exact .inl h1
  .refine .inr ⟨h1,?_⟩;rcases aw t (i'-j)with h2|h2;.exact h2
   .subst h1;exact absurd (h.prei j hj Wq) hbad
  .exact absurd (h.pre i' j hj h1) hbad
 have hrows:∀k,k<n->k≠i'->A k k<=3*Dm:=λk hk hne=>by
  rcases hlt with h1|h1;.exact AVg hn h (λl hl=>hz i l hl h1) k hk
  .exact h.rows k hk Wq
 have hK0:0<=2^(i'-j-1)*(2*Dm):=ah (ar<|AUq _) Wq;have hp':∀l,l<=i'->0<det l A:=λl hl=>h.pos l Wq;have hlam:An2 A i' (2^(i'-j-1)*(2*Dm)):=by
  rcases hlt with h1|h1;.refine Ak2 hp' ?_<|As4 h.sym h.pos hi' h.dm<|AVg hn h (λl hl=>hz i l hl h1) i' hi';have:=ab (AVh<|ai<|i'-j-1) (show(0:Int)<=2*Dm by omega);simpa using this
  .obtain⟨rfl,h1⟩:=h1;exact Ak2 hp' (ab (AVh Wq) Wq) h.lamb
 have hd:=hp' (j+1) Wq;obtain⟨c1,c2⟩:=A2w hd (hlam j hj).1 (hlam j hj).2;have hrem:=Ak3 (a:=Mn j A i' j) hd;generalize hc:-((2*Mn j A i' j+det (j+1) A)/(2*det (j+1) A))=c at*;refine⟨⟨A2v hi' Wq h.sym,λk hk=>by rw[AM3 hj];exact h.pos k hk,λk hk=>by rw[AM3 hj];exact h.dm k hk,hi',Wq,λk hk hne=>by rw[Axf hne];grind,λh0=>by omega,?_,λr l h1 h2=>?_,λl h1 h2=>?_,λr hr=>?_⟩,by have:=h.ht;omega⟩
 .have:=Axe hj hp' hK0 hlam (λl hl=>hz j l hl hj) c1 c2;have e:2*(2^(i'-j-1)*(2*Dm))=2^(i'-j)*(2*Dm):=by rw[show i'-j=i'-j-1+1 by omega,bo];grind
  rwa[e]at this
 .unfold SzF;rw[AM3 hj,Af2 hj h2 Wq];exact hz r l h1 h2
 .unfold SzF;rw[AM3 hj,Aqm hj h1];rcases aw j l with h3|h3;.rw[An1 A l h3,bA,cE];exact hzi l h1 h3
  .obtain rfl:l=j:=by omega
   rw[AFa];exact hrem
 .unfold LvF;rw[AM3 hj,AM3 hj,AM3 hj,Af2 hj Wq Wq];exact hl r hr
def Ak4(n:Nat)(A:Wz):Int:=psum (λk=>det k A)<|n+1
theorem A2x{n:Nat}(hk:k<n)(hne:∀l,l≠k->f l=g l)(h:f k<g k):psum f n<psum g n:=by induction n with|zero=>omega|succ n ih=>
   simp only[psum];rcases aw k n with h1|h1;.grind
   .obtain rfl:k=n:=by omega
    rw[Wy (g:=g) λi hi=>hne i Wq];omega
theorem As6{n:Nat}(hn:n<=8)(h:Ahw n Dm A i t)(hj:j+1<n)(hbad:¬LvF A j)(hz:∀r l,l<r->r<=j+1->SzF A r l)(hl:∀r,r<j->LvF A r):Ahw n Dm (swA A j) 0 0/\Ak4 n (swA A j)<Ak4 n A:=by
 have hij:i<=j+1:=by
  rcases aw (j+1) i with h1|h1;.exact absurd (h.lov j h1) hbad
  .exact h1
 have hrest:=AVg hn h λl hl=>hz i l hl hij;have h1:=Ahu h.sym h.pos (show j<n by omega) hj;have p0:=h.pos j Wq;have p1:=h.pos (j+1) Wq;have p2:=h.pos (j+2) Wq;rw[show Mn (j+1) A (j+1) (j+1)=det (j+2) A from AFa _ _]at h1;have hlt:Mn j A (j+1) (j+1)<det (j+1) A:=by
  unfold LvF at hbad;have h2:det (j+1) A*(4*Mn j A (j+1) (j+1))<det (j+1) A*(3*det (j+1) A):=by grind
  have:=Int.lt_of_mul_lt_mul_left h2<|ar p1;omega
 have hpos:0<Mn j A (j+1) (j+1):=by have h3:=sq_nonneg<|Mn j A (j+1) j;have h4:=bP p0 p2;exact cu (a:=det (j+1) A) Wq p1
 have hdet:∀k,det k (swA A j)=if k=j+1 then Mn j A (j+1) (j+1)else det k A:=λk=>by
  by_cases e:k=j+1;.subst e;rw[if_pos rfl,Akz]
  .rw[if_neg e,Aql e]
 refine⟨Adw Wq (A7x hj h.sym) (λk hk=>?_) (λk hk=>?_) λk hk=>?_,?_⟩
 .rw[hdet];split;.exact hpos
  .exact h.pos k hk
 .rw[hdet];split;.have:=h.dm (j+1) Wq;omega
  .exact h.dm k hk
 .have e:tau j k<n:=by unfold tau;grind
  exact hrest _ e
 .exact A2x (k:=j+1) Wq λl hl=>by grind (by grind)
end Go.QF
namespace Go.Proofs.YtgmdhndbcohgiaaGreatDoor
theorem Ahx(k m:Nat):Yy k (λa=>((a:Nat):Int))++[((m:Nat):Int)]=Yy (k+1) λa=>((bro k m a:Nat):Int):=by rw[<-AMr,Yd (g:=λa=>((bro k m a:Nat):Int)) λa ha=>by unfold bro;rw[if_pos ha]];unfold bro;grind
theorem Aqn{m:Nat}(hk:k<=100)(hf:100<fuel):ABt fuel (k:Int) (m:Int)=some (Yy (k+1) λa=>((bro k m a:Nat):Int)):=by
 apply ok_eq;unfold ABt;refine Wv (Xv (λi s=>s=(Yy i λa=>((a:Nat):Int),((i:Nat):Int))/\i<=k) k (Q:=(·=Yy k λa=>((a:Nat):Int))) ⟨rfl,ai _⟩ Wq λi s hi hI=>?_) λe he=>?_
 .obtain⟨rfl,hik⟩:=hI;unfold AKk;dsimp only;refine Xa (λh=>Yi (by rw[X5];omega)<|Wt ⟨Wq,?_,Wq⟩) λh=>Wt ?_;.rw[wk Wq,AMr i λa=>((a:Nat):Int)];simp
  grind
 .subst he;refine Yi (by rw[X5];omega)<|Wt ?_;exact Ahx k m
theorem Adx{n:Nat}(hn:n<=8)(hi:i<n)(hj:j<n)(hb:∀i j,i<n->j<n->(F i j).natAbs<=mN n)(hf:100<fuel):AAi fuel (Xw n n F) (i:Int) (j:Int)=some (Mn j F i j):=by
 apply ok_eq;unfold AAi;refine Wv (Xv (λq s=>s=(Yy q λa=>((a:Nat):Int),Yy q λa=>((a:Nat):Int),((q:Nat):Int))/\q<=j) j (Q:=(·=(Yy j λa=>((a:Nat):Int),Yy j λa=>((a:Nat):Int)))) ⟨rfl,ai _⟩ Wq λq s hq hI=>?_) λe he=>?_
 .obtain⟨rfl,hqj⟩:=hI;unfold AKc;dsimp only;refine Xa (λh=>Yi (by rw[X5];omega)<|Yi (by rw[X5];omega)<|Wt ⟨Wq,?_,Wq⟩) λh=>Wt ?_;.rw[wk Wq,AMr q λa=>((a:Nat):Int)];simp
  grind
 .subst he;dsimp only;refine Yi (by rw[X5];omega)<|Yi (by rw[X5];omega) ?_;rw[Ahx,Ahx];refine Wv (Yc<|Akw (n:=n) Wq Wq hf (λa ha=>AL6 Wq hi) λa ha=>AL6 Wq hj) λx hx=>?_;subst hx;refine Wv (Yc<|AX2 hn Wq (λa b ha Aa=>hb _ _ (AL6 Wq hi)<|AL6 Wq hj) Wq) λy hy=>Wt hy
theorem AVi{n:Nat}(hk:k<=n)(hn:n<=8):Y4 fuel (Yy n λa=>det (a+1) F) (k:Int)=some (det k F):=by
 apply ok_eq;unfold Y4;refine Xa (λh=>?_) λh=>?_
 .obtain rfl:k=0:=by omega
  exact⟨1,rfl,by simp[det]⟩
 .obtain⟨q,rfl⟩:∃q,k=q+1:=⟨k-1,Wq⟩;refine Xc (n:=q) (Xb Wq) (by rw[wk Wq];omega)<|Wt rfl
theorem Af3{n:Nat}(Aa:1<=n)(hn:n<=8)(hb:∀i j,i<n->j<n->(F i j).natAbs<=mN n)(hf:100<fuel):AA7 fuel (Xw n n F)=some (Yy n λa=>det (a+1) F,true):=by
 apply ok_eq;unfold AA7;refine Wv (Yc<|Afz Aa Wq hf) λx hx=>?_;subst hx;dsimp only;refine Xa (λh=>absurd h Wr) λ_=>Wv (Xv (λk s=>s=(Yy k λa=>det (a+1) F,((k:Nat):Int))/\k<=n) n (Q:=(·=Yy n λa=>det (a+1) F)) ⟨rfl,ai _⟩ Wq λk s hk hI=>?_) λe he=>Wt (by rw[he]);obtain⟨rfl,hkn⟩:=hI;unfold AJl;dsimp only;refine Xa (λh=>?_) λh=>Wt ?_
 .have hk':k<n:=by omega
  refine Wv (Yc<|Aqn Wq hf) λr hr=>?_;subst hr;refine Wv (Yc<|Aqn Wq hf) λc hc=>?_;subst hc;refine Wv (Yc<|Akw (n:=n) Wq Wq hf (λa ha=>AL6 Wq hk') λa ha=>AL6 Wq hk') λx hx=>?_;subst hx;refine Wv (Yc<|AX2 hn Wq (λa b ha Ab=>hb _ _ (AL6 Wq hk')<|AL6 Wq hk') Wq) λy hy=>?_;subst hy;refine Yi (by rw[X5];omega)<|Wt ⟨Wq,?_,Wq⟩;rw[show(det (k+1) λa b=>F (bro k k a)<|bro k k b)=det (k+1) F from AFa k F,wk Wq,AMr k λa=>det (a+1) F];simp
 grind
theorem Ahy(a b:Int):cmpZ a b<=0↔a<=b:=by unfold cmpZ;omega
theorem Ady{n:Nat}(hn:n<=8)(hi:i<n)(hl:l<n)(hj:j<n)(hb:∀i j,i<n->j<n->(F i j).natAbs<=mN n):(Mn j F i l).natAbs<=gN n:=by
 have e:Mn j F i l=Mn j (λa b=>if a<n/\b<n then F a b else 0) i l:=by
  unfold Mn;refine Xo λa b ha Aa=>?_;dsimp only;rw[if_pos ⟨AL6 Wq hi,AL6 Wq hl⟩]
 rw[e];refine am (Anu (m:=mN n) (λa b=>?_) i l)<|Awu hn Wq;grind
theorem AUr{n:Nat}(hn:n<=8)(hk:k<=n)(hb:∀i j,i<n->j<n->(F i j).natAbs<=mN n):(det k F).natAbs<=gN n:=by
 rcases cR k with h|h;.subst h;have:=Awt n;simp only[det];omega
 .obtain⟨q,rfl⟩:∃q,k=q+1:=⟨k-1,Wq⟩;rw[<-AFa q F];exact Ady hn Wq Wq Wq hb
theorem A2y{n:Nat}(hn:n<=8)(hi:i<n)(hj:j<n)(hb:∀i j,i<n->j<n->(F i j).natAbs<=mN n)(hf:100<fuel):ADg fuel (Xw n n F) (Yy n λa=>det (a+1) F) (i:Int) (j:Int)=some (decide (2*((Mn j F i j).natAbs:Int)<=det (j+1) F)):=by apply ok_eq;unfold ADg;refine Wv (Q:=(·=2)) ⟨2,if_pos Wq,rfl⟩ λtwo h2=>?_;subst h2;refine Wv (Yc<|Adx hn hi hj hb hf) λx hx=>?_;subst hx;refine Wv (Yc (a:=((Mn j F i j).natAbs:Int)) rfl) λy hy=>?_;subst hy;refine Wv (Yc<|AZv (Awv n) (show(2:Int).natAbs<=gN n from am Wr<|Awt n) (by rw[Int.natAbs_natCast];exact Ady hn hi hj hj hb)) λw hw=>?_;subst hw;rw[wk Wq];refine Wv (Yc<|AVi (k:=j+1) Wq hn) λm hm=>?_;subst hm;refine Wv (Yc (a:=cmpZ (2*((Mn j F i j).natAbs:Int))<|det (j+1) F) rfl) λc hc=>Wt ?_;subst hc;exact decide_eq_decide.2<|Ahy _ _
theorem Aqo:2*((Mn j F i j).natAbs:Int)<=det (j+1) F↔SzF F i j:=by unfold SzF;omega
theorem psum_abs{f g:Nat->Int}{D:Nat}:∀(n:Nat),(∀a,a<n->(f a).natAbs<=D/\(g a).natAbs<=D)->(psum (λa=>f a*g a) n).natAbs<=n*(D*D)
 |0,_=>by simp[psum]|n+1,h=>by
   have h1:=psum_abs n λa ha=>h a Wq;have h2:=bC (h n Wq).1 (h n Wq).2;rw[<-ba]at h2;have e:(n+1)*(D*D)=n*(D*D)+D*D:=by grind
   simp only[psum];omega
theorem BCf{n:Nat}(hn:n<=16)(hD:16*(D*D)<Zm)(hb:∀a,a<n->(f a).natAbs<=D/\(g a).natAbs<=D)(hf:100<fuel):AEi fuel (Yy n f) (Yy n g)=some (psum (λa=>f a*g a) n):=by
 apply ok_eq;unfold AEi;refine Wv (Xv (λk s=>s=(((k:Nat):Int),psum (λa=>f a*g a) k)/\k<=n) n (Q:=(·=psum (λa=>f a*g a) n)) ⟨rfl,ai _⟩ Wq λk s hk hI=>?_) λe he=>Wt he;obtain⟨rfl,hkn⟩:=hI;unfold AL0;dsimp only;rw[X5];refine Xa (λh=>?_) λh=>Wt ?_
 .have hk':k<n:=by omega
  have h1:=psum_abs k λa ha=>hb a Wq;have h2:=bC (hb k hk').1 (hb k hk').2;have h3:k*(D*D)<=16*(D*D):=bn _ Wq;have h4:1*(D*D)<=16*(D*D):=bn _ Wq;refine Xc (Xb hk') rfl (Xc (Xb hk') rfl (Wv (Q:=(·=f k*g k)) ⟨_,if_pos Wq,rfl⟩ λx hx=>?_));subst hx;refine Wv (Q:=(·=psum (λa=>f a*g a) k+f k*g k)) ⟨_,if_pos ⟨Wq,by rw[ba];omega⟩,rfl⟩ λy hy=>Wt ⟨Wq,?_,Wq⟩;subst hy;rw[wk Wq];simp[psum]
 grind
theorem Adz{n:Nat}(hn:1<=n)(Ad:n<=16)(hf:100<fuel):Zl fuel (Xw n n F)=some ((n:Int),(n:Int),true):=by
 apply ok_eq;unfold Zl;rw[Xh];refine Wv (Q:=λex=>match ex with|.inl _=>False|.inr _=>True) (Xa λh=>by omega λh=>Xa λh2=>by omega λh2=>Wt trivial) λex hex=>?_;cases ex with
 |inl e=>exact hex.elim|inr u=>
   dsimp only;refine Wv (Xv (λi(s:Int)=>s=i) n (Q:=λex=>match ex with|.inl _=>False|.inr _=>True) rfl Wq λi s hi hI=>?_) λex hex=>?_
   .subst hI;unfold AF6;rw[Xh];refine Xa (λh=>Xc (Xx Wq) rfl ?_) λh=>Wt trivial;rw[X5];refine Xa λh2=>by omega λh2=>Xa λh3=>by omega λh3=>Xc (n:=0) (Xx Wq) rfl (Xa (λh4=>?_) λh4=>Wt ⟨Wq,wk Wq⟩);rw[X5]at h4;omega
   .cases ex with
    |inl e=>exact hex.elim|inr u=>exact Xc (n:=0) (Xx Wq) rfl (Wt<|by rw[X5])
theorem AGe{c:Nat}(h:∀i j,i<r->j<c->F i j=G i j):Xw r c F=Xw r c G:=by rw[ANd,ANd];exact Yd λi hi=>Yd λj hj=>h i j hi hj
def trS(F:Wz)(i j r c:Nat):Int:=if c<i∨c=i/\r<j then F c r else 0
theorem Aqp{n:Nat}(hn:1<=n)(Aa:n<=16)(hf:100<fuel):AAf fuel (Xw n n F)=some (Xw n n<|trF F,true):=by
 apply ok_eq;unfold AAf;refine Wv (Yc<|Adz hn Aa hf) λx hx=>?_;subst hx;dsimp only;refine Xa (λh=>absurd h Wr) λ_=>Wv (Yc<|Abt Wq Wq Wq) λO hO=>?_;subst hO;refine Wv (Xv (λi s=>s=(((i:Nat):Int),Xw n n<|trS F i 0)/\i<=n) n (Q:=(·=Xw n n (trF F))) ⟨?_,ai _⟩ Wq λi s hi hI=>?_) λe he=>Wt (by rw[he]);.rw[ACb n (0:Int),ACb];refine congrArg (df (0:Int)) ?_;rw[ANd];exact Yd λr _=>Yd λc _=>by unfold trS;omega
 .obtain⟨rfl,hin⟩:=hI;unfold AH7;dsimp only;rw[Xh];refine Xa (λh=>?_) λh=>Wt ?_
  .have hi':i<n:=by omega
   refine Xc (Xx hi') rfl (Wv (Xv (λj s=>s=(((j:Nat):Int),Xw n n<|trS F i j)/\j<=n) n (Q:=(·=Xw n n (trS F (i+1) 0))) ⟨rfl,ai _⟩ Wq λj s hj hJ=>?_) λe he=>Wt ⟨Wq,by rw[wk Wq,he];simp,Wq⟩);obtain⟨rfl,hjn⟩:=hJ;unfold AH6;dsimp only;rw[X5];refine Xa (λh2=>?_) λh2=>Wt ?_
   .have hj':j<n:=by omega
    refine Xc (Xx hj') rfl (Xc (Xx hi') rfl (Xc (Xb hj') rfl (Wv (Yc (a:=F i j) rfl) λy hy=>Xc (Xb hi') rfl (Wt ⟨Wq,?_,Wq⟩))));subst hy;rw[wk Wq,Adl];refine cG Wq<|AGe λr c hr hc=>?_;rw[Xk];unfold trS;grind
   .refine AGe λr c hr hc=>?_;unfold trS;omega
  .refine AGe λr c hr hc=>?_;unfold trS trF;omega
def muS(H:Wz)(i j r c:Nat):Int:=if r<i∨r=i/\c<j then H r c else 0
theorem Axh{n:Nat}(hn:1<=n)(Aa:n<=16)(hD:16*(D*D)<Zm)(hF:∀i j,i<n->j<n->(F i j).natAbs<=D)(hG:∀i j,i<n->j<n->(G i j).natAbs<=D)(hf:100<fuel):AEj fuel (Xw n n F) (Xw n n G)=some (Xw n n<|Xz n F G,true):=by
 apply ok_eq;unfold AEj;refine Wv (Yc<|Adz hn Aa hf) λx hx=>?_;subst hx;dsimp only;refine Wv (Yc<|Aqp hn Aa hf) λx hx=>?_;subst hx;dsimp only;rw[Xh,Xh];refine Wv (Q:=λex=>match ex with|.inl _=>False|.inr _=>True) (Xa (λh=>absurd h Wr) λ_=>Xa (λh=>absurd h Wr) λ_=>Xa (λh=>absurd rfl h) λ_=>Wt trivial) λex hex=>?_;cases ex with
 |inl e=>exact hex.elim|inr u=>
   dsimp only;rw[Xh];refine Wv (Yc<|Abt Wq Wq Wq) λO hO=>?_;subst hO;refine Wv (Xv (λi s=>s=(((i:Nat):Int),Xw n n<|muS (Xz n F G) i 0)/\i<=n) n (Q:=(·=Xw n n (Xz n F G))) ⟨?_,ai _⟩ Wq λi s hi hI=>?_) λe he=>Wt (by rw[he])
   .rw[ACb n (0:Int),ACb];refine congrArg (df (0:Int)) ?_;rw[ANd];exact Yd λr _=>Yd λc _=>by unfold muS;omega
   .obtain⟨rfl,hin⟩:=hI;unfold AL2;dsimp only;rw[Xh];refine Xa (λh=>?_) λh=>Wt ?_
    .have hi':i<n:=by omega
     refine Wv (Xv (λj s=>s=(((j:Nat):Int),Xw n n<|muS (Xz n F G) i j)/\j<=n) n (Q:=(·=Xw n n (muS (Xz n F G) (i+1) 0))) ⟨rfl,ai _⟩ Wq λj s hj hJ=>?_) λe he=>Wt ⟨Wq,by rw[wk Wq,he];simp,Wq⟩;obtain⟨rfl,hjn⟩:=hJ;unfold AL1;dsimp only;rw[Xh];refine Xa (λh2=>?_) λh2=>Wt ?_
     .have hj':j<n:=by omega
      refine Xc (Xx hi') rfl (Xc (Xx hi') rfl (Xc (Xx hj') rfl (Wv (Yc<|BCf (D:=D) Aa hD (λa ha=>⟨hF i a hi' ha,hG a j ha hj'⟩) hf) λy hy=>Xc (Xb hj') rfl (Wt ⟨Wq,?_,Wq⟩))));subst hy;rw[wk Wq,Adl];refine cG Wq<|AGe λr c hr hc=>?_;rw[Xk];unfold muS;by_cases h3:r=i
      .rw[if_pos h3];by_cases h4:c=j;.rw[if_pos h4,if_pos Wq,h3,h4];rfl
       .rw[if_neg h4];by_cases h5:c<j;.grind
        omega
      omega
     .refine AGe λr c hr hc=>?_;unfold muS;omega
    .refine AGe λr c hr hc=>?_;unfold muS;omega
theorem Aqq(a b:Int):cmpZ a b=0↔a=b:=by unfold cmpZ;omega
theorem A48{n:Nat}(Ae:n<=16)(hf:100<fuel):Ok (AAg fuel<|Xw n n F) λr=>r=true↔AFv n F:=by
 unfold AAg;refine Wv (Xv (λi s=>s=((i:Nat):Int)/\i<=n/\∀a b,b<a->a<i->F a b=F b a) n (Q:=λex=>match ex with|.inl e=>e=false/\¬AFv n F|.inr _=>AFv n F) ⟨rfl,ai _,λa b h1 h2=>by omega⟩ Wq λi s hi hI=>?_) λex hex=>?_
 .obtain⟨rfl,hin,hs⟩:=hI;unfold AH9;rw[Xh];refine Xa (λh=>?_) λh=>Wt ?_
  .have hi':i<n:=by omega
   refine Wv (Xv (λj s=>s=((j:Nat):Int)/\j<=i/\∀b,b<j->F i b=F b i) i (Q:=λex=>match ex with|.inl e=>e=false/\¬AFv n F|.inr _=>∀b,b<i->F i b=F b i) ⟨rfl,ai _,λb h1=>by omega⟩ Wq λj s hj hJ=>?_) λex hex=>?_
   .obtain⟨rfl,hji,hb⟩:=hJ;unfold AH8;refine Xa (λh2=>?_) λh2=>Wt ?_
    .have hj':j<i:=by omega
     refine Xc (Xx hi') rfl (Xc (Xb Wq) rfl (Xc (Xx Wq) rfl (Xc (Xb hi') rfl (Wv (Yc (a:=cmpZ (F i j)<|F j i) rfl) λc hc=>?_))));subst hc;refine Xa (λh3=>Wt ⟨rfl,λh4=>h3<|(Aqq _ _).2 (h4 i j hi' Wq)⟩) λh3=>Wt ⟨Wq,by rw[wk Wq];simp,Wq,λb Af=>?_⟩;rcases aw b j with h4|h4;.exact hb b h4
     .obtain rfl:b=j:=by omega
      exact(Aqq _ _).1 (Classical.not_not.1 h3)
    grind
   .cases ex with
    |inl e=>exact Wt hex|inr u=>exact Wt ⟨Wq,by rw[wk Wq];simp,Wq,λa b h1 h2=>by grind⟩
  .obtain rfl:i=n:=by omega
   intro a b ha hb;grind
 .cases ex with|inl e=>obtain⟨rfl,h⟩:=hex;exact Wt ⟨λh1=>bZ h1,λh1=>absurd h1 h⟩|inr u=>exact Wt ⟨λ_=>hex,λ_=>rfl⟩
theorem Aqr{n:Nat}(hn:1<=n)(Aa:n<=16)(hD:16*(D*D)<Zm)(hF:∀i j,i<n->j<n->(F i j).natAbs<=D)(hG:∀i j,i<n->j<n->(G i j).natAbs<=D)(hH:∀i j,i<n->j<n->(Xz n (trF G) F i j).natAbs<=D)(hf:100<fuel):Zo fuel (Xw n n F) (Xw n n G)=some (Xw n n<|Xz n (Xz n (trF G) F) G):=by
 apply ok_eq;unfold Zo;refine Wv (Yc<|Aqp hn Aa hf) λx hx=>?_;subst hx;dsimp only;have pr:∀{F G:Wz},(∀i j,i<n->j<n->(F i j).natAbs<=D)->(∀i j,i<n->j<n->(G i j).natAbs<=D)->Ok (Y3 fuel (Xw n n F)<|Xw n n G) (·=Xw n n (Xz n F G)):=λ{F G}hF hG=>by
  unfold Y3;refine Wv (Yc<|Axh hn Aa hD hF hG hf) λx hx=>?_;subst hx;exact Wt rfl
 refine Wv (pr (λi j hi hj=>hG j i hj hi) hF) λx hx=>?_;grind
theorem Aqs(a:Int):sigZ a<=0↔a<=0:=by unfold sigZ;omega
theorem BCg{n:Nat}(Ae:1<=n)(hn:n<=8)(hb:∀i j,i<n->j<n->(F i j).natAbs<=mN n)(hf:100<fuel):Ok (ABz fuel<|Xw n n F) λr=>r=true↔AFv n F/\AIn n F:=by
 unfold ABz;refine Wv (Yc<|Af3 Ae hn hb hf) λx hx=>?_;subst hx;dsimp only;refine Wv (Q:=λex=>match ex with|.inl e=>e=false/\¬AFv n F|.inr _=>AFv n F) (Xa (λh=>absurd h Wr) λ_=>Wv (A48 Wq hf) λr hr=>?_) λex hex=>?_
 .refine Xa (λh=>Wt ⟨rfl,λh1=>?_⟩) λh=>Wt<|hr.1 ?_;.grind
  grind
 .cases ex with
  |inl e=>obtain⟨rfl,h⟩:=hex;exact Wt ⟨λh1=>bZ h1,λh1=>absurd h1.1 h⟩|inr u=>
    dsimp only at hex⊢;have h0:∀k,k<=0->0<det k F:=λk hk=>by
     obtain rfl:k=0:=by omega
     simp[det]
    refine Wv (Xv (λi s=>s=((i:Nat):Int)/\i<=n/\∀k,k<=i->0<det k F) n (Q:=λex=>match ex with|.inl e=>e=false/\¬AIn n F|.inr _=>AIn n F) ⟨rfl,ai _,h0⟩ Wq λi s hi hI=>?_) λex Ad=>?_
    .obtain⟨rfl,hin,hp⟩:=hI;unfold AI6;rw[X5];refine Xa (λh=>?_) λh=>Wt ?_
     .have hi':i<n:=by omega
      refine Xc (Xb hi') rfl (Wv (Yc (a:=sigZ<|det (i+1) F) rfl) λc hc=>?_);subst hc;refine Xa (λh3=>Wt ⟨rfl,λh4=>?_⟩) λh3=>Wt ⟨Wq,by rw[wk Wq];simp,Wq,λk hk=>?_⟩;.have:=h4 (i+1) Wq;have:=(Aqs _).1 h3;omega
      .rcases aw k (i+1)with h4|h4;.grind
       .obtain rfl:k=i+1:=by omega
        rw[Aqs]at h3;omega
     .obtain rfl:i=n:=by omega
      exact hp
    .cases ex with
     |inl e=>obtain⟨rfl,h⟩:=Ad;exact Wt ⟨λh1=>bZ h1,λh1=>absurd h1.2 h⟩|inr u=>exact Wt ⟨λ_=>⟨hex,Ad⟩,λ_=>rfl⟩
theorem Ad0{n:Nat}(Ab:1<=n)(hn:n<=8)(hb:∀i j,i<n->j<n->(F i j).natAbs<=mN n)(hf:100<fuel):Ok (AAu fuel<|Xw n n F) λr=>r=0↔AFv n F/\AIn n F:=by
 unfold AAu;refine Wv (Yc<|Afz Ab Wq hf) λx hx=>?_;subst hx;dsimp only;refine Xa (λh=>absurd h Wr) λ_=>Xa λh=>by omega λ_=>Wv (A48 Wq hf) λr hr=>Xa (λh=>Wt ⟨λh1=>by omega,λh1=>?_⟩) λh=>Wv (BCg Ab hn hb hf) λq hq=>Xa (λh2=>Wt ⟨λh1=>by omega,λh1=>?_⟩) λh2=>Wt ⟨λ_=>hq.1 ?_,λ_=>rfl⟩;.grind
 .grind
 grind
theorem A2z{n:Nat}(hn:n<=8)(hb:∀i j,i<n->j<n->(F i j).natAbs<=mN n)(hf:100<fuel):ADh fuel (Xw n n F)=some (decide (det n F<=10000)):=by apply ok_eq;unfold ADh;refine Wv (Yc<|AX2 hn (ay _) hb Wq) λx hx=>?_;subst hx;refine Wv (Q:=(·=10000)) ⟨10000,if_pos Wq,rfl⟩ λy hy=>?_;subst hy;refine Wv (Yc (a:=cmpZ (det n F) 10000) rfl) λc hc=>Wt ?_;subst hc;exact decide_eq_decide.2<|Ahy _ _
def idS(i r c:Nat):Int:=if r=c/\r<i then 1 else 0
theorem Aqt{n:Nat}(hn:1<=n)(Ab:n<=16)(hf:100<fuel):AAt fuel (n:Int)=some (Xw n n dl,true):=by
 apply ok_eq;unfold AAt;refine Wv (Q:=λex=>match ex with|.inl _=>False|.inr _=>True) (Xa λh=>by omega λ_=>Xa λh=>by omega λ_=>Wt trivial) λex hex=>?_;cases ex with|inl e=>exact hex.elim|inr u=>
   dsimp only;refine Wv (Yc<|Abt Wq Wq Wq) λO hO=>?_;have Aa:O=Xw n n (idS 0):=by
    rw[hO,ACb n (0:Int),ACb,ANd];exact Yd λr _=>Yd λc _=>by unfold idS;omega
   have hlen:O.length=n:=by grind
   refine Wv (Xv (λi s=>s=(((i:Nat):Int),Xw n n<|idS i)/\i<=n) n (Q:=(·=Xw n n dl)) ⟨by rw[Aa];rfl,ai _⟩ Wq λi s hi hI=>?_) λe he=>Wt (by rw[he]);obtain⟨rfl,hin⟩:=hI;unfold AI5;dsimp only;rw[hlen];refine Xa (λh=>?_) λh=>Wt ?_
   .have hi':i<n:=by omega
    refine Xc (Xx hi') rfl (Wv (Q:=(·=1)) ⟨1,if_pos Wq,rfl⟩ λy hy=>Xc (Xb hi') rfl (Wt ⟨Wq,?_,Wq⟩));subst hy;rw[wk Wq,Adl];refine cG Wq<|AGe λr c hr hc=>?_;rw[Xk];unfold idS;omega
   .refine AGe λr c hr hc=>?_;unfold idS dl;omega
def toS(n:Nat)(F:Wz)(i:Nat):List (List Int):=Yy n λr=>if r<i then Yy n (F r)else[]
def toR(n:Nat)(F:Wz)(i j:Nat):List (List Int):=Yy n λr=>if r<i then Yy n (F r)else if r=i then Yy n λc=>if c<j then F i c else 0 else[]
theorem BCi{n:Nat}(hn:1<=n)(Ac:n<=16)(hb:∀i j,i<n->j<n->(F i j).natAbs<9223372036854775808)(hf:100<fuel):ACs fuel (Xw n n F)=some (Xw n n F,true):=by
 apply ok_eq;unfold ACs;refine Wv (Yc<|Adz hn Ac hf) λx hx=>?_;subst hx;dsimp only;refine Xa (λh=>absurd h Wr) λ_=>Yi Wq<|Wv (Xv (λi s=>s=(((i:Nat):Int),toS n F i)/\i<=n) n (Q:=λex=>match ex with|.inl _=>False|.inr e=>e=Xw n n F) ⟨?_,ai _⟩ Wq λi s hi hI=>?_) λex hex=>?_;.rw[av,ACb];exact congrArg (df (0:Int)) (Yd λr _=>by grind)
 .obtain⟨rfl,hin⟩:=hI;unfold AKb;dsimp only;rw[aU,av];refine Xa (λh=>Yi Wq ?_) λh=>Wt ?_
  .have hi':i<n:=by omega
   have e0:sI (toS n F i) (i:Int) (au n (0:Int))=toR n F i 0:=by
    rw[Yl];unfold toS;rw[AAd];refine Yd λr _=>?_;by_cases h1:r=i;.rw[if_pos h1,if_neg Wq,if_pos h1,ACb];grind
    grind
   refine Xc (n:=i) (Xb hi') rfl ?_;rw[e0];refine Xc (n:=i) (Xb hi') rfl ?_;rw[if_neg Wq,if_pos rfl];refine Wv (Xv (λj s=>s=(((j:Nat):Int),toR n F i j)/\j<=n) n (Q:=λex=>match ex with|.inl _=>False|.inr e=>e=toS n F (i+1)) ⟨rfl,ai _⟩ Wq λj s hj hJ=>?_) λex hex=>?_
   .obtain⟨rfl,hjn⟩:=hJ;unfold AKa;dsimp only;rw[X5];refine Xa (λh2=>?_) λh2=>Wt ?_
    .have hj':j<n:=by omega
     refine Xc (Xx hi') rfl (Xc (Xb hj') rfl (Wv (Q:=(·=(F i j,true))) ⟨_,if_pos<|hb i j hi' hj',rfl⟩ λy hy=>?_));subst hy;dsimp only;refine Xa (λh=>absurd h Wr) λ_=>Xc (n:=i) (Xb hi') rfl ?_;rw[if_neg Wq,if_pos rfl];refine Xc (Xb hj') rfl (Wt ⟨Wq,?_,Wq⟩);rw[wk Wq,Yl,Yl];refine cG Wq ?_;dsimp only;unfold toR;rw[AAd,AAd];refine Yd λr _=>?_;by_cases h1:r=i;.grind
     grind
    .refine Yd λr _=>?_;by_cases h1:r<i;.grind
     .rw[if_neg h1];by_cases h3:r=i;.rw[if_pos h3,if_pos Wq,h3];exact Yd λc hc=>by omega
      grind
   .cases ex with
    |inl e=>exact hex.elim|inr e=>exact Wt ⟨Wq,by rw[wk Wq,hex];simp,Wq⟩
  .refine Yd λr hr=>?_;rw[if_pos Wq];rfl
 .cases ex with
  |inl e=>exact hex.elim|inr e=>exact Wt (by rw[hex])
theorem AUs{S E:Type}{body:S->Option (S⊕E)}{Q:E->Prop}(I:S->Prop)(μ:S->Nat)(hs:∀s,I s->Ok (body s) λr=>match r with|.inl s'=>I s'/\μ s'<μ s|.inr e=>Q e):∀{fuel:Nat}{s0:S},I s0->μ s0<fuel->Ok (iter body fuel s0) Q:=by intro fuel;induction fuel with|zero=>omega|succ f ih=>intro s0 h0 hf;obtain⟨r,hr,hq⟩:=hs s0 h0;cases r with|inl s'=>obtain⟨e,he,hQ⟩:=ih hq.1 Wq;exact⟨e,by simp[iter,hr,he],hQ⟩|inr e=>exact⟨e,by simp[iter,hr],hq⟩
theorem AOk(a:Int):sigZ a=0↔a=0:=by unfold sigZ;omega
theorem Aqu(a:Int):sigZ a<0↔a<0:=by unfold sigZ;omega
theorem Axi{b:Int}(ha:a.natAbs<Zm)(hb:b.natAbs<Zm)(h0:b≠0):Zw fuel a b=some (a/b):=by apply ok_eq;unfold Zw;refine Wv (Yc (a:=(a/b,a%b,true))<|if_pos ⟨ha,hb,h0⟩) λx hx=>?_;subst hx;exact Wt rfl
theorem BCj{b:Int}(ha:a.natAbs<Zm)(hb:b.natAbs<Zm)(h0:b≠0):AEh fuel a b=some (a%b):=by apply ok_eq;unfold AEh;refine Wv (Yc (a:=(a/b,a%b,true))<|if_pos ⟨ha,hb,h0⟩) λx hx=>?_;subst hx;exact Wt rfl
theorem BCk{b:Int}(ha:a.natAbs<Zm)(hb:b.natAbs<Zm)(h0:b≠0)(hf:Zm<fuel):Ok (AEl fuel a b) λg=>0<g/\g∣a/\g∣b:=by
 unfold AEl;refine Wv (Yc (a:=(a.natAbs:Int)) rfl) λx hx=>Wv (Yc (a:=(b.natAbs:Int)) rfl) λy hy=>?_;subst hx;subst hy;refine Wv (AUs (λs:Int×Int=>0<=s.1/\0<=s.2/\s.1.natAbs<Zm/\s.2.natAbs<Zm/\(0<s.1∨0<s.2)/\∀d:Int,d∣s.1->d∣s.2->d∣a/\d∣b) (λs=>s.2.natAbs) (Q:=λg=>0<g/\g∣a/\g∣b) (λs hs=>?_) ⟨Wq,Wq,Wq,Wq,.inr Wq,λd h1 h2=>⟨de.1 h1,de.1 h2⟩⟩ Wq) λg hg=>Wt hg;obtain⟨u,v⟩:=s;obtain⟨h1,h2,h3,h4,h5,h6⟩:=hs;unfold AL3;dsimp only at h1 h2 h3 h4 h5 h6⊢;refine Wv (Yc (a:=sigZ v) rfl) λs hs=>?_;subst hs;refine Xa (λhv=>?_) λhv=>Wt ?_;.have Ad:v≠0:=λh=>hv<|(AOk v).2 h;refine Wv (Yc<|BCj h3 h4 Ad) λr hr=>Wt ?_;subst hr;have e1:=aV u Ad;have e2:=aL u (show 0<v by omega);refine⟨⟨h2,e1,h4,Wq,.inl Wq,λd d1 d2=>h6 d ?_ d1⟩,Wq⟩;have:=cO d2<|aF d1 ⟨u/v,rfl⟩;rwa[Int.emod_add_mul_ediv]at this
 .have Ad:v=0:=by
   rcases Decidable.em (sigZ v=0)with h|h;.exact(AOk v).1 h
   omega
  simp_all
def FrE(n d n' d':Int):Prop:=0<d'/\n'*d=n*d'/\n'.natAbs<=n.natAbs/\d'.natAbs<=d.natAbs
theorem A49{b:Int}(ha:a.natAbs<Zm)(hb:b.natAbs<Zm)(h0:b≠0)(hf:Zm<fuel):Ok (AC8 fuel a b) λr=>r.2=true/\FrE a b r.1.1 r.1.2:=by
 unfold AC8;refine Wv (Yc (a:=sigZ b) rfl) λs hs=>?_;subst hs;refine Xa (λh=>absurd ((AOk b).1 h) h0) λ_=>Wv (Q:=λe:Int×Int=>0<e.2/\e.1*b=a*e.2/\e.1.natAbs=a.natAbs/\e.2.natAbs=b.natAbs) (Wv (Yc (a:=sigZ b) rfl) λs hs=>?_) λe he=>?_
 .subst hs;refine Xa (λh=>?_) λh=>Wt ⟨?_,rfl,rfl,rfl⟩;.have:=(Aqu b).1 h;refine Wv (Yc (a:=-a) rfl) λx hx=>Wv (Yc (a:=-b) rfl) λy hy=>Wt ?_;grind
  .have:¬b<0:=λh2=>h<|(Aqu b).2 h2;omega
 .obtain⟨u,v⟩:=e;obtain⟨h1,h2,h3,h4⟩:=he;dsimp only at h1 h2 h3 h4⊢;refine Wv (BCk (a:=u) (b:=v) Wq Wq Wq hf) λg hg=>?_;obtain⟨g1,⟨u',rfl⟩,⟨v',rfl⟩⟩:=hg;have gn:g≠0:=by omega
  have hv':0<v':=cu h1 g1;have e1:(g*u').natAbs=g.natAbs*u'.natAbs:=ba _ _;have e2:(g*v').natAbs=g.natAbs*v'.natAbs:=ba _ _;have g2:1<=g.natAbs:=by omega
  have m1:=bn u'.natAbs g2;have m2:=bn v'.natAbs g2;have m3:=Nat.mul_le_mul_left g.natAbs (show 1<=v'.natAbs by omega);refine Wv (Yc<|Axi Wq Wq gn) λx hx=>Wv (Yc<|Axi Wq Wq gn) λy hy=>Wt ⟨rfl,?_⟩;subst hx;subst hy;rw[bx _ gn,bx _ gn];refine⟨hv',?_,by grind,by grind⟩;have:g*(u'*b)=g*(a*v'):=by grind
  exact aJ gn this
theorem Ahz{b:Int}(ha:a.natAbs<Zm)(hb:b.natAbs<Zm)(h0:b≠0)(hf:Zm<fuel):Ok (Y5 fuel a b) λr=>FrE a b r.1 r.2:=by unfold Y5;refine Wv (A49 ha hb h0 hf) λr hr=>?_;obtain⟨⟨x,y⟩,c⟩:=r;obtain⟨h1,h2⟩:=hr;dsimp only at h1 h2⊢;subst h1;exact Xa (λh=>absurd h Wr) λ_=>Wt h2
theorem A70{b:Int}(ha:a.natAbs<Zm)(hb:b.natAbs<Zm)(h0:b≠0)(hf:Zm<fuel):Ok (AB0 fuel a b) λr=>FrE a b r.1 r.2:=by unfold AB0;exact Wv (Ahz ha hb h0 hf) λr hr=>Wt hr
theorem Ak5{N D N' D':Int}(hD:0<D)(hD':0<D')(h:N*D'=N'*D):N/D=N'/D':=by rw[<-ci N D hD',h,aq D D',ci N' D' hD]
theorem A71{b:Int}(hab:4*(a.natAbs+b.natAbs)<Zm)(h0:0<b)(hf:Zm<fuel):Ok (ACa fuel a b) λr=>r=(2*a+b)/(2*b):=by
 have Ag:(1:Int).natAbs<Zm:=by omega
 have Ah:(2:Int).natAbs<Zm:=by omega
 unfold ACa;refine Wv (Q:=(·=(1,2))) ?_ λhh he=>?_;.unfold AFq;exact Wv (Q:=(·=1)) ⟨1,if_pos Wq,rfl⟩ λx hx=>Wv (Q:=(·=2)) ⟨2,if_pos Wq,rfl⟩ λy hy=>Wt (by rw[hx,hy])
 subst he;dsimp only;refine Wv (Q:=λr=>0<r.2/\r.1*(2*b)=(2*a+b)*r.2/\r.1.natAbs<Zm/\r.2.natAbs<Zm) ?_ λr hr=>?_
 .unfold AGd;refine Wv (Ahz Wq Wq Wq hf) λx hx=>Wv (Ahz (a:=1) (b:=2) Ag Ah Wq hf) λy hy=>?_;obtain⟨x1,x2⟩:=x;obtain⟨y1,y2⟩:=y;obtain⟨a1,a2,a3,a4⟩:=hx;obtain⟨b1,b2,b3,b4⟩:=hy;dsimp only at*;obtain rfl:y2=2:=by omega
  obtain rfl:y1=1:=by omega
  refine Wv (Yc (a:=x1*2)<|if_pos<|by grind) λu hu=>Wv (Yc (a:=1*x2)<|if_pos<|by grind) λv hv=>?_;subst hu;subst hv;refine Wv (Yc (a:=x1*2+1*x2)<|if_pos ⟨Wq,Wq⟩) λw hw=>Wv (Yc (a:=x2*2)<|if_pos<|by grind) λz hz=>?_;subst hw;subst hz;refine Wv (A49 Wq Wq Wq hf) λr hr=>Wt ?_;obtain⟨⟨r1,r2⟩,c⟩:=r;obtain⟨-,c1,c2,c3,c4⟩:=hr;dsimp only at*;refine⟨c1,?_,Wq,Wq⟩;have h1:x2*(r1*(2*b))=x2*((2*a+b)*r2):=by grind
  exact aJ (show x2≠0 by omega) h1
 .obtain⟨r1,r2⟩:=r;obtain⟨h1,h2,h3,h4⟩:=hr;dsimp only at*;unfold AE9;refine Wv (Q:=λr=>r=(2*a+b)/(2*b)) (Wv (Ahz h3 h4 Wq hf) λx hx=>?_) λz hz=>Wt hz;obtain⟨x1,x2⟩:=x;obtain⟨a1,a2,a3,a4⟩:=hx;dsimp only at*;refine Wv (Yc<|Axi Wq Wq Wq) λq hq=>Wt ?_;subst hq;refine Ak5 a1 Wq ?_;have h5:r2*(x1*(2*b))=r2*((2*a+b)*x2):=by grind
  exact aJ (show r2≠0 by omega) h5
theorem Axj{n:Nat}(hn:n<=8)(hj:j+1<n)(hb:∀i j,i<n->j<n->(F i j).natAbs<=mN n)(hf:100<fuel):Ok (ACt fuel (Xw n n F) (Yy n λa=>det (a+1) F) ((j+1:Nat):Int)) λr=>r=true↔LvF F j:=by
 show Ok _ λr:Bool=>r=true↔3*(det (j+1) F*det (j+1) F)<=4*(det j F*det (j+2) F+Mn j F (j+1) j*Mn j F (j+1) j);unfold ACt;have w1:W3 (((j+1:Nat):Int)-1)=(j:Int):=by rw[wk Wq];omega
 have w2:W3 (((j+1:Nat):Int)+1)=((j+2:Nat):Int):=by rw[wk Wq];omega
 rw[w1,w2];have hD:=Aws n;have bl:(Mn j F (j+1) j).natAbs<=gN n:=Ady hn Wq Wq Wq hb;have b0:(det j F).natAbs<=gN n:=AUr hn Wq hb;have b1:(det (j+1) F).natAbs<=gN n:=AUr hn Wq hb;have b2:(det (j+2) F).natAbs<=gN n:=AUr hn Wq hb;have p1:=bC b0 b2;have p2:=bC bl bl;have p3:=bC b1 b1;have e1:=ba (det j F)<|det (j+2) F;have e2:=ba (Mn j F (j+1) j)<|Mn j F (j+1) j;have e3:=ba (det (j+1) F)<|det (j+1) F;refine Wv (Yc<|Adx hn Wq Wq hb hf) λl hl=>?_;subst hl;refine Wv (Q:=(·=4)) ⟨4,if_pos Wq,rfl⟩ λx hx=>?_;subst hx;refine Wv (Yc<|AVi Wq hn) λx hx=>Wv (Yc<|AVi Wq hn) λy hy=>?_;subst hx;subst hy;refine Wv (Yc (a:=det j F*det (j+2) F)<|if_pos Wq) λx hx=>Wv (Yc (a:=Mn j F (j+1) j*Mn j F (j+1) j)<|if_pos Wq) λy hy=>?_;subst hx;subst hy;generalize det j F*det (j+2) F=P at*;generalize Mn j F (j+1) j*Mn j F (j+1) j=L at*;refine Wv (Yc (a:=P+L)<|if_pos Wq) λx hx=>Wv (Yc (a:=4*x)<|if_pos<|by grind) λy hy=>?_;subst hx;subst hy;refine Wv (Q:=(·=3)) ⟨3,if_pos Wq,rfl⟩ λx hx=>?_;subst hx;refine Wv (Yc<|AVi Wq hn) λx hx=>Wv (Yc<|AVi Wq hn) λy hy=>?_;subst hx;subst hy;refine Wv (Yc (a:=det (j+1) F*det (j+1) F)<|if_pos Wq) λx hx=>?_;subst hx;generalize det (j+1) F*det (j+1) F=S at*;refine Wv (Yc (a:=3*S)<|if_pos<|by grind) λx hx=>Wv (Yc (a:=cmpZ (4*(P+L)) x) rfl) λc hc=>Wt ?_;subst hx;subst hc;rw[decide_eq_true_iff];unfold cmpZ;omega
def ARr(A:Wz)(i j:Nat):Int:=-((2*Mn j A i j+det (j+1) A)/(2*det (j+1) A))
def AWt(A:Wz)(i j:Nat):Wz:=Ym dl j λq=>if q=i then ARr A i j else dl j q
def AUt(A:Wz)(i:Nat):Prop:=∀r l,l<r->r<i->SzF A r l
def AV4(A:Wz)(i:Nat):Prop:=∀r,r+1<i->LvF A r
def Axk(n:Nat)(A:Wz)(r:List (List Int)×Bool):Prop:=r=([],false)/\AUt A n/\AV4 A n∨(∃i j,j<i/\i<n/\¬SzF A i j/\AUt A i/\(∀l,l<i->j<l->SzF A i l)/\AV4 A i/\r=(Xw n n<|AWt A i j,true))∨∃j,j+1<n/\¬LvF A j/\AUt A (j+2)/\AV4 A (j+1)/\r=(Xw n n<|AB7 dl (j+1) j,true)
theorem A72{n:Nat}(Ah:1<=n)(hn:n<=8)(hp:AIn n A)(hb:∀i j,i<n->j<n->(A i j).natAbs<=mN n)(hf:Zm<fuel):Ok (ADx fuel<|Xw n n A) (Axk n A):=by
 have Ab:100<fuel:=bI Wr hf;have hD:=Aws n;unfold ADx;refine Wv (Yc<|Af3 Ah hn hb Ab) λx hx=>?_;subst hx;dsimp only;rw[Xh];refine Wv (Yc<|Aqt Ah Wq Ab) λx hx=>?_;subst hx;dsimp only;refine Wv (Xv (λi s=>s=(((i:Nat):Int),Xw n n dl)/\i<=n/\AUt A i/\AV4 A i) n (Q:=λex=>match ex with|.inl r=>Axk n A r|.inr _=>AUt A n/\AV4 A n) ⟨rfl,ai _,λr l h1 h2=>by omega,λr h=>by omega⟩ Wq λi s hi hI=>?_) λex hex=>?_
 .obtain⟨rfl,hin,hsz,hlv⟩:=hI;unfold ALd;dsimp only;rw[Xh];refine Xa (λh=>?_) λh=>Wt ?_
  .have hi':i<n:=by omega
   refine Wv (Xv (λk s=>s=((i:Int)-1-k,Xw n n dl)/\k<=i/\∀l,l<i->i<=l+k->SzF A i l) i (Q:=λex=>match ex with|.inl r=>Axk n A r|.inr e=>e=Xw n n dl/\∀l,l<i->SzF A i l) ⟨by rw[wk Wq];simp,ai _,λl h1 h2=>by omega⟩ Wq λk s hk hK=>?_) λex hex=>?_
   .obtain⟨rfl,hki,hz⟩:=hK;unfold ALc;dsimp only;refine Xa (λh2=>?_) λh2=>Wt ⟨rfl,λl hl=>hz l hl Wq⟩;obtain⟨j,hj⟩:∃j:Nat,(i:Int)-1-k=j:=⟨i-1-k,Wq⟩;rw[hj];have hji:j<i:=by omega
    refine Wv (Yc<|A2y hn hi' Wq hb Ab) λb Ag=>?_;subst Ag;refine Xa (λh3=>?_) λh3=>Wt ⟨Wq,?_,Wq,λl h4 h5=>?_⟩
    .have hbad:¬SzF A i j:=λh=>by rw[<-Aqo]at h;simp[h]at h3
     refine Xc (Xx Wq) rfl (Wv (Yc<|Adx hn hi' Wq hb Ab) λl hl=>?_);subst hl;rw[show W3 ((j:Int)+1)=((j+1:Nat):Int)by rw[wk Wq];omega];refine Wv (Yc<|AVi Wq hn) λd hd=>?_;subst hd;have bl:(Mn j A i j).natAbs<=gN n:=Ady hn hi' Wq Wq hb;have b1:(det (j+1) A).natAbs<=gN n:=AUr hn Wq hb;have hd:=hp (j+1) Wq;have hDD:gN n<=gN n*gN n:=cF _ Wq;refine Wv (A70 Wq Wq Wq hf) λq hq=>?_;obtain⟨x,y⟩:=q;obtain⟨q1,q2,q3,q4⟩:=hq;dsimp only at q1 q2 q3 q4⊢;refine Wv (A71 Wq q1 hf) λm hm=>Wv (Yc (a:=-m) rfl) λc hc=>?_;have Ao:c=ARr A i j:=by
      rw[hc,hm];unfold ARr;congr 1;refine Ak5 Wq Wq ?_;grind
     clear hm hc;refine Xc (Xb hi') rfl (Wt<|.inr<|.inl ⟨i,j,hji,hi',hbad,hsz,λl h4 h5=>hz l h4 Wq,hlv,?_⟩);rw[Yl,Yl,AAd,Ao,show(Yy n λq=>if q=i then ARr A i j else dl j q)=(be n).map λq=>if q=i then ARr A i j else dl j q from rfl,AGl];rfl
    .rw[wk Wq];grind
    .have hgood:SzF A i j:=by rw[<-Aqo];simpa using h3
     grind
   .cases ex with
    |inl r=>exact Wt hex|inr e=>
      obtain⟨rfl,hzi⟩:=hex;have hsz':AUt A (i+1):=λr l h1 h2=>by
       rcases aw r i with h3|h3;.exact hsz r l h1 h3
       grind
      dsimp only;have nx:W3 ((i:Int)+1)=((i+1:Nat):Int):=by rw[wk Wq];omega
      refine Xa (λh4=>?_) λh4=>Wt ⟨Wq,by rw[nx],Wq,hsz',λr hr=>by omega⟩;obtain⟨j,rfl⟩:∃j,i=j+1:=⟨i-1,Wq⟩;refine Wv (Axj hn hi' hb Ab) λb Ag=>?_;refine Xa (λh5=>?_) λh5=>Wt ⟨Wq,by rw[nx],Wq,hsz',λr hr=>?_⟩
      .have hbad:¬LvF A j:=λh=>by grind
       rw[show W3 (((j+1:Nat):Int)-1)=(j:Int)by rw[wk Wq];omega];refine Xc (Xx Wq) rfl (Xc (Xx hi') rfl (Wt<|.inr<|.inr ⟨j,hi',hbad,hsz',hlv,?_⟩));rw[Yl,Yl,show Yy n (dl j)=(be n).map (dl j)from rfl,show Yy n (dl<|j+1)=(be n).map (dl<|j+1)from rfl,AGl,AGl];rfl
      .have hgood:LvF A j:=Ag.1 (by simpa using h5);rcases aw r j with h6|h6;.exact hlv r Wq
       grind
  grind
 .cases ex with
  |inl r=>exact Wt hex|inr u=>exact Wt<|.inl ⟨rfl,hex⟩
end Go.Proofs.YtgmdhndbcohgiaaGreatDoor
namespace Go.QF
def PrI(p:Int):Prop:=2<=p/\∀x y:Int,p∣x*y->p∣x∨p∣y
theorem PrI.ne(hp:PrI p):p≠0:=by have:=hp.1;omega
theorem PrI.cancel{u:Int}(hp:PrI p)(hu:¬p∣u):∀(m:Nat){x:Int},p^m∣u*x->p^m∣x:=by
 intro m;induction m with|zero=>grind|succ m ih=>
   intro x h;have h1:p∣u*x:=aF ⟨p^m,by grind⟩ h;rcases hp.2 _ _ h1 with h2|h2;.grind
   .obtain⟨y,rfl⟩:=h2;obtain⟨z,hz⟩:=h;have h3:p*(u*y)=p*(p^m*z):=by grind
    obtain⟨w,hw⟩:=ih ⟨z,aJ hp.ne h3⟩;exact⟨w,by grind⟩
theorem PrI.ndvd_mul{u v:Int}(hp:PrI p)(hu:¬p∣u)(hv:¬p∣v):¬p∣u*v:=λh=>(hp.2 _ _ h).elim hu hv
theorem PrI.ndvd_pow{p u:Int}(hp:PrI p)(hu:¬p∣u):∀m:Nat,¬p∣u^m
 |0=>λh=>by
   have h1:=hp.1;obtain⟨k,hk⟩:=h;simp only[Int.pow_zero]at hk;have h2:k≠0:=by grind
   have:0<k∨k<0:=by omega
   rcases this with h|h;.have:=ab h1 (show 0<=k by omega);omega
   .have:=Int.mul_neg_of_pos_of_neg (show 0<p by omega) h;omega|m+1=>by rw[bo];exact hp.ndvd_mul (hp.ndvd_pow hu m) hu
theorem Yb{a b:Nat}(h:a<=b):p^a∣p^b:=⟨p^(b-a),by rw[<-bO];congr 1;omega⟩
theorem AKr{m:Int}(h:Xp m x y)(hd:d∣m)(hy:d∣y):d∣x:=by have h1:m∣x-y:=bz<|bt.1 h;have h2:=cO (aF hd h1) hy;grind
theorem ACw{m:Int}(h:m∣x-y):Xp m x y:=bt.2<|cv h
theorem AEy{m:Int}(h:Xp m x y):m∣x-y:=bz<|bt.1 h
theorem Xp.down{m:Int}(h:Xp m x y)(hd:d∣m):Xp d x y:=ACw<|aF hd<|AEy h
theorem AJz{m:Int}:Xp m x 0↔m∣x:=⟨λh=>by simpa using AEy h,λh=>ACw<|by simpa using h⟩
theorem AX8{d:Int}{f:Nat->Int}:∀{n:Nat},(∀i,i<n->d∣f i)->d∣psum f n|0,_=>⟨0,by simp[psum]⟩|n+1,h=>by simp only[psum];exact cO (AX8 λi hi=>h i Wq)<|h n Wq
theorem An3{n:Nat}{S:Wz}(hi:i<n)(hz:∀r c,r<=i->i<=c->c<n->p∣S r c):p∣det n S:=by
 let Z:Wz:=λr c=>if r<=i/\i<=c then 0 else S r c;have h1:Xp p (det n S) (det n Z):=ASu λr c hr hc=>by
  show Xp p (S r c) (if r<=i/\i<=c then 0 else S r c);split;.next h=>exact AJz.2<|hz r c h.1 h.2 hc
  .exact Xp.refl _ _
 obtain⟨m,rfl⟩:∃m,n=i+1+m:=⟨n-i-1,Wq⟩;have h2:det (i+1+m) Z=0:=by
  rw[<-AEb,AOn (T:=trF Z) λa b ha _ hb=>?_];.rw[AL4 (n:=i+1) (r:=i) Wq λq hq=>?_,bH];show(if q<=i/\i<=i then(0:Int)else _)=0;omega
  .show(if b<=i/\i<=a then(0:Int)else _)=0;omega
 rw[h2]at h1;exact AJz.1 h1
theorem Ah0{n:Nat}{S:Wz}(hk:k<=n)(hz:∀r c,r<k->k<=c->c<n->p∣S r c):Xp p (det n S) (det k S*det (n-k) (shF k S)):=by
 let Z:Wz:=λr c=>if r<k/\k<=c then 0 else S r c;have h1:Xp p (det n S) (det n Z):=ASu λr c hr hc=>by
  show Xp p (S r c) (if r<k/\k<=c then 0 else S r c);split;.next h=>exact AJz.2<|hz r c h.1 h.2 hc
  .exact Xp.refl _ _
 obtain⟨m,rfl⟩:∃m,n=k+m:=⟨n-k,Wq⟩;refine h1.trans<|Xp.of_eq ?_;rw[<-AEb,AOn (T:=trF Z) λa b ha _ hb=>?_,show k+m-k=m by omega]
 .congr 1;.rw[<-AEb S];refine Xo λa b ha hb=>?_;show(if b<k/\k<=a then(0:Int)else _)=_;rw[if_neg Wq];rfl
  .rw[<-AEb (shF k S)];refine Xo λa b ha hb=>?_;show(if k+b<k/\k<=k+a then(0:Int)else _)=_;rw[if_neg Wq];rfl
 .show(if b<k/\k<=a then(0:Int)else _)=0;omega
structure Jd(n K:Nat)(p:Int)(e:Nat->Nat)(a D:Wz):Prop where
 asc:∀i j,i<=j->j<n->e i<=e j
 lt:∀i,i<n->e i<K
 ent:∀i j,i<n->j<n->Xp (p^K) (D i j) (p^e i*a i j)blk:∀i j,i<n->j<n->e i≠e j->a i j=0
 sym:∀i j,i<n->j<n->a i j=a j i
 inv:∃(c:Wz)(u:Nat->Int),(∀i k,i<n->k<n->e i≠e k->c i k=0)/\(∀i,i<n->¬p∣u i)/\∀i j,i<n->j<n->psum (λk=>c i k*a k j) n=u i*dl i j
def Car(n K:Nat)(p:Int)(D S D':Wz):Prop:=∀i j,i<n->j<n->Xp (p^K) (Xz n (trF S) (Xz n D S) i j) (D' i j)
theorem AE5(c:Int)(f:Nat->Int)(n:Nat):c*psum f n=psum (λi=>c*f i) n:=(Yx c f n).symm
theorem AJn(c:Int)(f:Nat->Int)(n:Nat):psum f n*c=psum (λi=>f i*c) n:=by rw[aq,AE5];grind
theorem Aqv{n K:Nat}{D S D':Wz}(H:Car n K p D S D')(hi:i<n)(hj:j<n):Xp (p^K) (det n S*Xz n D S i j) (psum (λk=>AD4 n S k i*D' k j) n):=by
 have h1:Xp (p^K) (psum (λk=>AD4 n S k i*Xz n (trF S) (Xz n D S) k j) n) (psum (λk=>AD4 n S k i*D' k j) n):=Xp.psum λk hk=>(Xp.refl _ _).mul (H k j hk hj);refine Xp.trans (Xp.of_eq ?_) h1;have h2:psum (λk=>AD4 n S k i*Xz n (trF S) (Xz n D S) k j) n=psum (λl=>psum (λk=>S l k*AD4 n S k i) n*Xz n D S l j) n:=by
  rw[Wy (f:=λk=>AD4 n S k i*Xz n (trF S) (Xz n D S) k j) (g:=λk=>psum (λl=>AD4 n S k i*(S l k*Xz n D S l j)) n) λk _=>AE5 _ _ _,AIh];exact Wy λl _=>by rw[AJn];grind
 rw[h2,Wy (g:=λl=>Xz n D S l j*(det n S*dl i l)) λl hl=>by rw[AOp hl hi,aq];unfold dl;grind];rw[AD6 hi λl hl hne=>by unfold dl;grind];unfold dl;grind
theorem Axl{n K:Nat}{e:Nat->Nat}{a D S:Wz}(J:Jd n K p e a D)(hi:i<n):Xp (p^K) (Xz n D S i j) (p^e i*Xz n a S i j):=by unfold Xz;rw[AE5];exact Xp.psum λk hk=>((J.ent i k hi hk).mul (Xp.refl _ _)).trans (Xp.of_eq<|by grind)
theorem A73{n K:Nat}{f:Nat->Nat}{b D' R:Wz}(J:Jd n K p f b D')(hj:j<n):Xp (p^K) (psum (λk=>R k i*D' k j) n) (p^f j*psum (λk=>R k i*b k j) n):=by
 rw[AE5];refine Xp.psum λk hk=>?_;by_cases h:f k=f j;.exact((Xp.refl _ _).mul (J.ent k j hk hj)).trans (Xp.of_eq (by rw[h];grind))
 .exact((Xp.refl _ _).mul (J.ent k j hk hj)).trans (Xp.of_eq (by rw[J.blk k j hk hj h];simp))
section
variable{n K:Nat}{p:Int}{e f:Nat->Nat}{a b D D' S:Wz}
theorem A74(J:Jd n K p e a D)(J':Jd n K p f b D')(H:Car n K p D S D')(hi:i<n)(hj:j<n):Xp (p^K) (p^e i*(det n S*Xz n a S i j)) (p^f j*psum (λk=>AD4 n S k i*b k j) n):=by refine Xp.trans (Xp.of_eq ?_)<|(Xp.trans ((Xp.refl _<|det n S).mul (Axl J (S:=S) (j:=j) hi).symm)<|Aqv H hi hj).trans (A73 J' hj);grind
theorem ASw(hp:PrI p)(m:Nat):p^m≠0:=Int.pow_ne_zero hp.ne
theorem An4(p:Int){a b:Nat}(h:a<=b):p^b=p^a*p^(b-a):=by rw[<-bO];congr 1;omega
theorem Abw(hp:PrI p)(hS:¬p∣det n S)(J:Jd n K p e a D)(J':Jd n K p f b D')(H:Car n K p D S D')(hi:i<n)(hj:j<n)(hlt:e i<f j):p^(f j-e i)∣S i j:=by
 have hX:∀k,k<n->e k=e i->p^(f j-e i)∣Xz n a S k j:=λk hk hek=>by have h1:=A74 J J' H hk hj;rw[hek]at h1;have h2:p^f j∣p^e i*(det n S*Xz n a S k j):=AKr h1 (Yb<|di<|J'.lt j hj) ⟨_,rfl⟩;rw[An4 p<|di hlt]at h2;obtain⟨z,hz⟩:=h2;rw[aM]at hz;exact hp.cancel hS _ ⟨z,aJ (ASw hp _) hz⟩
 obtain⟨c,u,hc,hu,hca⟩:=J.inv;refine hp.cancel (hu i hi) _ ?_;have h3:u i*S i j=psum (λk=>c i k*Xz n a S k j) n:=by
  unfold Xz;rw[Wy (g:=λk=>psum (λl=>c i k*(a k l*S l j)) n) λk _=>AE5 _ _ _,AIh,Wy (g:=λl=>S l j*(u i*dl i l)) λl hl=>by rw[<-hca i l hi hl,AE5];grind];rw[AD6 hi λl hl hne=>by unfold dl;grind];unfold dl;grind
 rw[h3];refine AX8 λk hk=>?_;by_cases h:e i=e k;.exact aF (hX k hk h.symm) ⟨c i k,aq _ _⟩
 simp_all
theorem Axm(hp:PrI p)(hS:¬p∣det n S)(J:Jd n K p e a D)(J':Jd n K p f b D')(H:Car n K p D S D')(hi:i<n):f i<=e i:=by
 rcases aw (e i) (f i)with hlt|h;.exfalso;refine hS<|An3 hi λr c hr hc hcn=>?_;have h1:=J.asc r i hr hi;have h2:=J'.asc i c hc hcn;have h3:=Abw hp hS J J' H (i:=r) (j:=c) Wq hcn Wq;exact aF ⟨p^(f c-e r-1),by rw[<-dh];congr 1;omega⟩ h3
 .exact h
theorem Ak6:det n (AD4 n S)*det n S=det n S^n:=by
 rw[<-ADf,Xo (F:=Xz n (AD4 n S) S) (G:=λi j=>det n S*dl i j) λi j hi hj=>Adv hi hj];have:∀(m:Nat)(d:Int),ABo (λ_=>d) m=d^m:=λm d=>by induction m with|zero=>simp[ABo]|succ m ih=>simp only[ABo];grind
 rw[ARp (F:=λi j=>det n S*dl i j) λc i hc hci hi=>by show det n S*dl i c=0;unfold dl;grind,<-this];exact ANe λi hi=>by unfold dl;grind
theorem Ak7(hp:PrI p)(hS:¬p∣det n S):¬p∣det n (AD4 n S):=λh=>hp.ndvd_pow hS n<|Ak6 (S:=S)▸aF h ⟨_,rfl⟩
theorem Axn(hp:PrI p)(hd:¬p∣d)(J:Jd n K p e a D):Jd n K p e (λi j=>d*a i j) λi j=>d*D i j:=by refine⟨J.asc,J.lt,λi j hi hj=>((Xp.refl _ d).mul (J.ent i j hi hj)).trans (Xp.of_eq<|by grind),λi j hi hj h=>by rw[J.blk i j hi hj h,bA],λi j hi hj=>by rw[J.sym i j hi hj],?_⟩;obtain⟨c,u,h1,h2,h3⟩:=J.inv;refine⟨c,λi=>d*u i,h1,λi hi=>hp.ndvd_mul hd<|h2 i hi,λi j hi hj=>?_⟩;rw[Wy (g:=λk=>d*(c i k*a k j)) λk _=>by grind,Yx,h3 i j hi hj,aM]
theorem AAy{B C:Wz}(i j:Nat):Xz n (Xz n A B) C i j=Xz n A (Xz n B C) i j:=by
 unfold Xz;rw[Wy (g:=λk=>psum (λl=>A i l*B l k*C k j) n) λk _=>AJn _ _ _,AIh];exact Wy λl _=>by
  rw[AE5];grind
theorem Ak8(H:Car n K p D S D'):Car n K p D' (AD4 n S) λi j=>det n S*det n S*D i j:=λi j hi hj=>by
 have h1:Xp (p^K) (Xz n (trF<|AD4 n S) (Xz n D'<|AD4 n S) i j) (Xz n (λr c=>det n S*Xz n D S r c) (AD4 n S) i j):=by rw[<-AAy];unfold Xz;exact Xp.psum λk hk=>((Aqv H hi hk).symm).mul (Xp.refl _ _)
 refine h1.trans<|Xp.of_eq ?_;have h2:Xz n (λr c=>det n S*Xz n D S r c) (AD4 n S) i j=det n S*Xz n (Xz n D S) (AD4 n S) i j:=by unfold Xz;rw[AE5];grind
 rw[h2,AAy];have h3:Xz n D (Xz n S<|AD4 n S) i j=det n S*D i j:=by show psum (λk=>D i k*Xz n S (AD4 n S) k j) n=_;rw[Wy (g:=λk=>D i k*(det n S*dl k j)) λk hk=>by rw[show Xz n S (AD4 n S) k j=_ from AOp hk hj]];rw[AD6 hj λl hl hne=>by unfold dl;grind];unfold dl;grind
 rw[h3];grind
theorem Abx(hp:PrI p)(hS:¬p∣det n S)(J:Jd n K p e a D)(J':Jd n K p f b D')(H:Car n K p D S D')(hi:i<n):e i=f i:=by have h1:=Axm hp hS J J' H hi;have h2:=Axm hp (Ak7 hp hS) J' (Axn hp (hp.ndvd_mul hS hS) J) (Ak8 H) hi;omega
theorem Aat{n m:Nat}(h:k+m<=n)(hz:∀i,i<n->i<k∨k+m<=i->g i=0):psum g n=psum (λr=>g<|k+r) m:=by
 obtain⟨t,rfl⟩:∃t,n=k+m+t:=⟨n-(k+m),Wq⟩;have h1:∀t,k+m+t<=k+m+t->True:=λ_ _=>trivial;have split:∀(x y:Nat),psum g (x+y)=psum g x+psum (λr=>g<|x+r) y:=by intro x y;induction y with
  |zero=>simp[psum]|succ y ih=>rw[<-Nat.add_assoc];simp only[psum];rw[ih];omega
 rw[split,split,Wy (g:=λ_=>0) (n:=k) λi hi=>hz i Wq<|.inl hi,Y8,Wy (f:=λr=>g<|k+m+r) (g:=λ_=>0) (n:=t) λi hi=>hz _ Wq<|.inr Wq,Y8];omega
def Cut(n:Nat)(e:Nat->Nat)(k:Nat):Prop:=k<=n/\∀r c,r<k->k<=c->c<n->e r<e c
theorem Aqw(hp:PrI p)(hS:¬p∣det n S)(J:Jd n K p e a D)(J':Jd n K p f b D')(H:Car n K p D S D')(C:Cut n e k){c:Nat}(hr:r<k)(hc:k<=c)(hcn:c<n):p∣S r c:=by have h1:=C.2 r c hr hc hcn;rw[Abx hp hS J J' H hcn]at h1;have h3:=Abw hp hS J J' H (i:=r) (j:=c) Wq hcn h1;exact aF ⟨p^(f c-e r-1),by rw[<-dh];congr 1;omega⟩ h3
theorem An5(hp:PrI p)(hS:¬p∣det n S)(J:Jd n K p e a D)(J':Jd n K p f b D')(H:Car n K p D S D'){m:Nat}(C:Cut n e k)(C':Cut n e (k+m)):¬p∣det m (shF k S):=λh=>by have h1:=Ah0 (S:=S) C.1 λr c hr hc hcn=>Aqw hp hS J J' H C hr hc hcn;have h2:=Ah0 (n:=n-k) (k:=m) (S:=shF k S) (p:=p) (by have:=C'.1;omega) λr c hr hc hcn=>Aqw hp hS J J' H C' (r:=k+r) (c:=k+c) Wq Wq Wq;have h3:p∣det (n-k) (shF k S):=AKr h2 (cC p)<|aF h ⟨_,rfl⟩;exact hS<|AKr h1 (cC p)<|aF h3 ⟨det k S,aq _ _⟩
theorem Af4(hp:PrI p)(hS:¬p∣det n S)(J:Jd n K p e a D)(J':Jd n K p f b D')(H:Car n K p D S D'){m:Nat}(C:Cut n e k)(C':Cut n e (k+m))(hc:∀i,k<=i->i<k+m->e i=e k)(hj:j<m)(hl:l<m):Xp p (b (k+j)<|k+l) (Xz m (trF<|shF k S) (Xz m (shF k a)<|shF k S) j l):=by
 have hn:=C'.1;have hm:0<m:=by omega
 have hjn:k+j<n:=by omega
 have hln:k+l<n:=by omega
 have hej:=hc (k+j) Wq Wq;have hel:=hc (k+l) Wq Wq;have hfj:=Abx hp hS J J' H hjn;have hfl:=Abx hp hS J J' H hln;have hK:=J.lt (k+j) hjn;have hd:p^(e k+1)∣p^K:=Yb Wq;have h1:Xp (p^(e k+1)) (p^e k*b (k+j) (k+l)) (psum (λi=>S i (k+j)*(p^e i*Xz n a S i (k+l))) n):=by have h2:=(H (k+j) (k+l) hjn hln).trans (J'.ent (k+j) (k+l) hjn hln);rw[<-hfj,hej]at h2;refine(h2.symm.down hd).trans ?_;exact Xp.psum λi hi=>(Xp.refl _ _).mul ((Axl J hi).down hd)
 have h2:∀i,i<n->Xp (p^(e k+1)) (S i (k+j)*(p^e i*Xz n a S i (k+l))) (if e i=e k then p^e k*(S i (k+j)*Xz n a S i (k+l))else 0):=λi hi=>by
  split;.next h=>rw[h];exact Xp.of_eq (by grind)
  .next h=>
   refine AJz.2 ?_;rcases aw (e k) (e i)with h3|h3;.exact aF (Yb (p:=p)<|show e k+1<=e i by omega) ⟨S i (k+j)*Xz n a S i (k+l),by grind⟩
   .have h4:e i<e k:=by omega
    have h5:=Abw hp hS J J' H (i:=i) (j:=k+j) hi hjn Wq;rw[<-hfj,hej]at h5;have h6:p^(e k-e i)∣Xz n a S i (k+l):=by
     refine AX8 λq hq=>?_;by_cases hq2:e i=e q;.have h7:=Abw hp hS J J' H (i:=q) (j:=k+l) hq hln Wq;rw[<-hfl,hel,<-hq2]at h7;exact aF h7 ⟨a i q,aq _ _⟩
     .rw[J.blk i q hi hq hq2,bH];simp_all
    obtain⟨x,hx⟩:=h5;obtain⟨y,hy⟩:=h6;rw[hx,hy];refine aF (Yb (p:=p)<|show e k+1<=e i+(e k-e i)+(e k-e i)by omega) ⟨x*y,?_⟩;rw[bO,bO];grind
 have h3:=h1.trans<|Xp.psum h2;have hw:∀i,i<n->i<k∨k+m<=i->e i≠e k:=λi hi h=>by
  rcases h with h|h;.have:=C.2 i k h (ay k) Wq;omega
  .have:=C'.2 k i Wq h hi;omega
 rw[Aat (k:=k) (m:=m) hn λi hi h=>if_neg<|hw i hi h]at h3;rw[Wy (g:=λr=>p^e k*(S (k+r) (k+j)*Xz n a S (k+r) (k+l))) λr hr=>if_pos<|hc (k+r) Wq Wq,Yx]at h3;have h4:Xp p (b (k+j)<|k+l) (psum (λr=>S (k+r) (k+j)*Xz n a S (k+r) (k+l)) m):=by refine ACw ?_;obtain⟨z,hz⟩:=AEy h3;rw[bo,<-cM,aM]at hz;exact⟨z,aJ (ASw hp _) hz⟩
 refine h4.trans<|Xp.of_eq ?_;refine Wy λr hr=>?_;show _=S (k+r) (k+j)*_;congr 1;exact Aat (g:=λq=>a (k+r) q*S q (k+l)) hn λi hi h=>by rw[J.blk (k+r) i Wq hi (by grind),bH]
theorem As7(hp:PrI p)(hS:¬p∣det n S)(J:Jd n K p e a D)(J':Jd n K p f b D')(H:Car n K p D S D'){m:Nat}(C:Cut n e k)(C':Cut n e (k+m))(hc:∀i,k<=i->i<k+m->e i=e k):∃s,¬p∣s/\Xp p (det m<|shF k b) (s*s*det m (shF k a)):=by refine⟨_,An5 hp hS J J' H C C',?_⟩;refine(ASu λj l hj hl=>Af4 hp hS J J' H C C' hc hj hl).trans (Xp.of_eq ?_);rw[ADf,ADf,AEb];grind
theorem As8{m:Nat}{x:Nat->Int}(hs:∀i j,i<m->j<m->A i j=A j i)(he:∀i,i<m->(2:Int)∣A i i):(2:Int)∣psum (λi=>x i*psum (λj=>A i j*x j) m) m:=by
 have key:∀t,t<=m->(2:Int)∣psum (λi=>x i*psum (λj=>A i j*x j) t) t:=by intro t;induction t with|zero=>intro _;exact⟨0,rfl⟩|succ t ih=>
    intro ht;obtain⟨z,hz⟩:=ih Wq;obtain⟨w,hw⟩:=he t Wq;have h1:psum (λi=>x i*psum (λj=>A i j*x j) (t+1)) t=psum (λi=>x i*psum (λj=>A i j*x j) t) t+x t*psum (λi=>A t i*x i) t:=by rw[AE5,<-AEm];exact Wy λi hi=>by simp only[psum];grind
    have h2:psum (λi=>x i*psum (λj=>A i j*x j) (t+1)) (t+1)=psum (λi=>x i*psum (λj=>A i j*x j) (t+1)) t+x t*psum (λj=>A t j*x j) (t+1):=rfl;have h3:psum (λj=>A t j*x j) (t+1)=psum (λj=>A t j*x j) t+A t t*x t:=rfl;rw[h2,h1,h3,hz,hw];grind
 grind
theorem An6(hp:PrI 2)(hS:¬(2:Int)∣det n S)(J:Jd n K 2 e a D)(J':Jd n K 2 f b D')(H:Car n K 2 D S D'){m:Nat}(C:Cut n e k)(C':Cut n e (k+m))(hc:∀i,k<=i->i<k+m->e i=e k)(he:∀i,k<=i->i<k+m->(2:Int)∣a i i):∀i,k<=i->i<k+m->(2:Int)∣b i i:=λi h1 h2=>by
 obtain⟨j,rfl⟩:∃j,i=k+j:=⟨i-k,Wq⟩;refine AKr (Af4 hp hS J J' H C C' hc (j:=j) (l:=j) Wq Wq) (cC 2) ?_;exact As8 (A:=shF k a) (x:=λr=>shF k S r j) (λr q hr hq=>J.sym (k+r) (k+q) (by have:=C'.1;omega) (by have:=C'.1;omega)) λr hr=>he (k+r) Wq Wq
end
end Go.QF
namespace Go.Proofs.YtgmdhndbcohgiaaGreatDoor
theorem Axp{S E:Type}{body:S->Option (S⊕E)}{Q:E->Prop}(I:Nat->S->Prop)(hs:∀k s,I k s->Ok (body s) λr=>match r with|.inl s'=>∃k',k'<k/\I k' s'|.inr e=>Q e):∀{fuel k:Nat}{s0:S},I k s0->k<fuel->Ok (iter body fuel s0) Q:=by intro fuel;induction fuel with|zero=>omega|succ f ih=>intro k s0 h0 hf;obtain⟨r,hr,hq⟩:=hs k s0 h0;cases r with|inl s'=>obtain⟨k',h1,h2⟩:=hq;obtain⟨e,he,hQ⟩:=ih h2 Wq;exact⟨e,by simp[iter,hr,he],hQ⟩|inr e=>exact⟨e,by simp[iter,hr],hq⟩
theorem Ak9{n:Nat}(hj:j<i)(hi:i<n)(hs:s<n)(X:Nat->Int):psum (λk=>X k*AWt A i j k s) n=X s+if s=i then ARr A i j*X j else 0:=by
 have h1:∀k,X k*AWt A i j k s=X k*dl k s+if k=j then if s=i then ARr A i j*X j else 0 else 0:=λk=>by
  unfold AWt;rw[Xk];split;.next h=>
   subst h;split;.next h2=>subst h2;unfold dl;grind
   .simp
  .simp
 rw[Wy λk _=>h1 k,AEm,AKq X hs,AD6 (a:=j) Wq λk _ hk=>if_neg hk,if_pos rfl]
theorem Ala{n:Nat}(hj:j<i)(hi:i<n)(hr:r<n)(hs:s<n):Xz n (Xz n (trF<|AWt A i j) A) (AWt A i j) r s=AX7 A i j (ARr A i j) r s:=by
 have h2:∀k,Xz n (trF<|AWt A i j) A r k=A r k+if r=i then ARr A i j*A j k else 0:=λk=>by
  show psum (λl=>AWt A i j l r*A l k) n=_;rw[Wy (g:=λl=>A l k*AWt A i j l r) λl _=>aq _ _];exact Ak9 hj hi hr λl=>A l k
 show psum (λk=>Xz n (trF<|AWt A i j) A r k*AWt A i j k s) n=_;rw[Ak9 hj hi hs λk=>Xz n (trF<|AWt A i j) A r k];rw[h2,h2,Abv];grind
theorem Ah1(j k s:Nat):AB7 dl (j+1) j k s=dl (tau j k) s:=by rw[AJy];unfold tau;grind
theorem Aqx(j k:Nat):tau j (tau j k)=k:=by unfold tau;grind
theorem A75{n:Nat}(hj:j+1<n)(hk:k<n):tau j k<n:=by unfold tau;grind
theorem Aqy{n:Nat}(hj:j+1<n)(hs:s<n)(X:Nat->Int):psum (λk=>X k*AB7 dl (j+1) j k s) n=X (tau j s):=by
 rw[AD6 (a:=tau j s) (A75 hj hs) λk hk hne=>?_];.rw[Ah1,Aqx];unfold dl;grind
 .rw[Ah1];unfold dl;rw[if_neg λh=>hne<|by rw[<-h,Aqx]];simp
theorem Aqz{n:Nat}(hj:j+1<n)(hr:r<n)(hs:s<n):Xz n (Xz n (trF<|AB7 dl (j+1) j) A) (AB7 dl (j+1) j) r s=swA A j r s:=by show psum (λk=>Xz n (trF<|AB7 dl (j+1) j) A r k*AB7 dl (j+1) j k s) n=_;rw[Aqy hj hs λk=>Xz n (trF<|AB7 dl (j+1) j) A r k];show psum (λl=>AB7 dl (j+1) j l r*A l (tau j s)) n=_;rw[Wy (g:=λl=>A l (tau j s)*AB7 dl (j+1) j l r) λl _=>aq _ _];exact Aqy hj hr λl=>A l<|tau j s
theorem ACx{n:Nat}{A' B B':Wz}(hA:∀k,k<n->A i k=A' i k)(hB:∀k,k<n->B k j=B' k j):Xz n A B i j=Xz n A' B' i j:=Wy λk hk=>by grind
theorem ASx{n:Nat}{T U:Wz}(i j:Nat):trF (Xz n T U) i j=Xz n (trF U) (trF T) i j:=Wy λk _=>aq _ _
def ALm(n:Nat)(A0 T A:Wz):Prop:=∀i j,i<n->j<n->A i j=Xz n (trF T) (Xz n A0 T) i j
theorem AOq{n:Nat}{T U B:Wz}(H:ALm n A0 T A)(K:∀i j,i<n->j<n->Xz n (Xz n (trF U) A) U i j=B i j):ALm n A0 (Xz n T U) B:=λi j hi hj=>by
 rw[<-K i j hi hj,AAy];have h1:Xz n (trF U) (Xz n A U) i j=Xz n (trF U) (Xz n (trF T)<|Xz n A0<|Xz n T U) i j:=by refine ACx (λ_ _=>rfl) λk hk=>?_;rw[ACx (A':=Xz n (trF T)<|Xz n A0 T) (λl hl=>H k l hk hl) λ_ _=>rfl,AAy];refine ACx (λ_ _=>rfl) λl hl=>?_;rw[AAy]
 rw[h1,<-AAy];exact ACx (λk _=>(ASx i k).symm) λ_ _=>rfl
theorem ASy{n:Nat}:ALm n A dl A:=λi j hi hj=>by
 show _=psum (λk=>dl k i*Xz n A dl k j) n;rw[Wy (g:=λk=>Xz n A dl k j*dl k i) λk _=>aq _ _,AKq (λk=>Xz n A dl k j) hi];exact(Anr hj).symm
theorem AX9{n:Nat}{T:Wz}(H:ALm n A0 T A):det n A=det n T*det n T*det n A0:=by rw[Xo H,ADf,ADf,AEb];grind
def dmN(n:Nat):Int:=if n<=6 then 2^59 else 9^8
def bdN(n:Nat):Int:=if n<=6 then 2^194 else 2^97
theorem AZ6(n:Nat):9^8<=dmN n/\dmN n<=2^59:=by unfold dmN;split<;>decide
theorem A76(n:Nat):(bdN n).natAbs<=mN n:=by unfold bdN mN;split<;>decide
theorem A5a{m n:Nat}{D:Int}(hn:n<=m+1)(hk:k<=m)(hD:0<=D):(1+(k:Int)*(2^(n-1)*(2*D)*(2^(n-1)*(2*D))))*D<=(1+(m:Int)*(2^m*(2*D)*(2^m*(2*D))))*D:=by have p0:0<=2^(n-1)*(2*D):=ah (ar<|AUq _) Wq;have h0:(2:Int)^(n-1)*(2*D)<=2^m*(2*D):=ab (AVh Wq) Wq;have h1:=bc h0 h0 p0 Wq;have h2:=bc (show(k:Int)<=m by omega) h1 (ah p0 p0) Wq;exact ab Wq hD
theorem A77{n:Nat}(hn:n<=8)(hk:k<n):(1+(k:Int)*(2^(n-1)*(2*dmN n)*(2^(n-1)*(2*dmN n))))*dmN n<=bdN n:=by
 unfold dmN bdN;rcases aw 6 n with h|h;.rw[if_neg Wq,if_neg Wq];exact aI (A5a (m:=7) Wq Wq Wr) Wr
 .rw[if_pos h,if_pos h];exact aI (A5a (m:=5) Wq Wq Wr) Wr
theorem A78(n:Nat):3*dmN n<=bdN n:=by unfold dmN bdN;split<;>decide
theorem A20{n:Nat}(hn:n<=8)(h:Ahw n (dmN n) A i t):∀k,k<n->A k k<=bdN n:=λk hk=>by
 by_cases e:k=i
 .subst e;have hd:=(AZ6 n).1;have h1:=Af1 (p:=2^(n-1)*(2*dmN n)*(2^(n-1)*(2*dmN n))) (q:=1) h.sym h.pos h.hi h.dm (sq_nonneg _) Wr λl hl=>by
   have h2:=h.lamb l hl;have h3:(2:Int)^t*(2*dmN n)<=2^(n-1)*(2*dmN n):=ab (AVh (by have:=h.ht;omega)) Wq;have h4:=h.pos (l+1) Wq;have h5:=ab h3<|ar h4;have h6:=AUp (x:=Mn l A k l) (y:=2^(n-1)*(2*dmN n)*det (l+1) A) Wq Wq;grind k 0 Wq;rw[AFr,show det 0 A=1 from rfl,bG,bh]at h1;exact aI h1<|A77 hn hk
 .exact aI (h.rows k hk e)<|A78 n
theorem Alb{n:Nat}(hs:AFv n A)(hp:AIn n A)(hB:∀k,k<n->A k k<=B)(hi:i<n)(hj:j<n):-B<=A i j/\A i j<=B:=by have h1:=AZ2 (k:=0) hs hp (ai _) hi hj;simp only[AFr]at h1;have p1:=AZ3 (k:=0) hs hp (ai _) hi;have p2:=AZ3 (k:=0) hs hp (ai _) hj;simp only[AFr]at p1 p2;have h2:=bc (hB i hi) (hB j hj) p2<|aI p1<|hB i hi;exact Ak0 (aI p1<|hB i hi)<|aI h1 h2
theorem Ah2{n:Nat}(hs:AFv n A)(hp:AIn n A)(hB:∀k,k<n->A k k<=B)(hi:i<n)(hj:j<n):(A i j).natAbs<=B.natAbs:=by have:=Alb hs hp hB hi hj;omega
def Ad1:Nat:=(2^158)^10
theorem Alc:16*(Ad1*Ad1)<Zm:=by decide
def Af5:Nat:=(2^220)^5
theorem BCl{n:Nat}{T:Wz}(hn:n<=8)(hE:∀i j,(A0 i j).natAbs<=2^60)(hs:AFv n A0)(hp:AIn n A0)(H:ALm n A0 T A)(hB:∀k,k<n->A k k<=bdN n)(hk:k<n)(hs2:s<n):(T k s).natAbs<=Af5:=by
 have h1:=Aqk hs hp (λr=>T r s) hk;have h2:bil n 0 A0 (λr=>T r s) (λr=>T r s)=A s s:=by rw[H s s hs2 hs2];show _=psum (λi=>T i s*psum (λj=>A0 i j*T j s) n) n;unfold bil;refine Wy λi _=>?_;rw[<-Yx];exact Wy λj _=>by rw[AFr];grind
 rw[h2]at h1;have h3:(AD4 n A0 k k).natAbs<=dBd (2^60) 9:=by
  refine am (Abr (m:=2^60) λi j=>?_)<|ANf Wr Wq;rw[Xk];split;.unfold dl;split<;>decide
  .exact hE i j
 have h4:AD4 n A0 k k*A s s<=(dBd (2^60) 9:Nat)*bdN n:=by
  have p0:0<=A s s:=by have:A s s=bil n 0 A0 (λr=>T r s) λr=>T r s:=h2.symm;rw[this];exact AMv hs hp _ n 0 Wq
  have b1:AD4 n A0 k k<=(dBd (2^60) 9:Nat):=by omega
  have b2:=ab b1 p0;have b3:=ae (hB s hs2) (show(0:Int)<=(dBd (2^60) 9:Nat)by omega);omega
 have h5:((dBd (2^60) 9:Nat):Int)*bdN n<=(Af5:Int)*(Af5:Int):=by unfold bdN;split<;>decide
 have h6:=Ak0 (x:=T k s) (y:=(Af5:Int)) Wq<|aI (aI h1 h4) h5;omega
structure AYa(n:Nat)(A:Wz):Prop where
 sym:AFv n A
 pos:AIn n A
 sz:AUt A n
 lv:AV4 A n
 dt:det n A<=10000
structure RSt(n:Nat)(A0 A T:Wz)(i t:Nat):Prop where
 inv:Ahw n (dmN n) A i t
 car:ALm n A0 T A
 dt:det n A=det n A0
def BFt(n:Nat)(A0:Wz)(k:Nat)(s:List (List Int)×List (List Int)):Prop:=∃A T i t,RSt n A0 A T i t/\s=(Xw n n A,Xw n n T)/\k=(Ak4 n A).toNat*128+(128-(16*i+t))
theorem Aq0{n:Nat}(hp:AIn n A):0<=Ak4 n A:=by
 have:∀m,m<=n+1->0<=psum (λk=>det k A) m:=λm=>by induction m with
  |zero=>intro _;exact dr _|succ m ih=>intro h;have h1:=ih Wq;have h2:=hp m Wq;simp only[psum];omega
 exact this _<|ay _
theorem A21{n:Nat}(hd:∀k,k<=n->det k A<=dmN n):Ak4 n A<=(n+1:Nat)*dmN n:=by
 have:∀m,m<=n+1->psum (λk=>det k A) m<=(m:Nat)*dmN n:=λm=>by induction m with
  |zero=>intro _;simp[psum]|succ m ih=>intro h;have h1:=ih Wq;have h2:=hd m Wq;simp only[psum];grind
 exact this _<|ay _
theorem As9{n:Nat}(hn:n<=8)(hj:j<i)(hi:i<n)(hp:AIn n A)(hb:∀i j,i<n->j<n->(A i j).natAbs<=mN n):(ARr A i j).natAbs<=3*gN n:=by have b1:(Mn j A i j).natAbs<=gN n:=Ady hn hi Wq Wq hb;have b2:(det (j+1) A).natAbs<=gN n:=AUr hn Wq hb;have hd:=hp (j+1) Wq;unfold ARr;rw[Int.natAbs_neg];have:=Int.natAbs_ediv_le_natAbs (2*Mn j A i j+det (j+1) A)<|2*det (j+1) A;omega
theorem Af6{n:Nat}(Ac:1<=n)(hn:n<=8)(hs:AFv n A0)(hp:AIn n A0)(hE:∀i j,(A0 i j).natAbs<=2^60)(hD:∀k,k<=n->det k A0<=dmN n)(hr:∀k,k<n->A0 k k<=3*dmN n)(hdt:det n A0<=10000)(hf:Zm<fuel):Ok (ABk fuel<|Xw n n A0) λr=>∃A T,r=(Xw n n A,Xw n n T,0)/\AYa n A/\ALm n A0 T A/\det n A=det n A0/\∀k,k<n->A k k<=3*dmN n:=by
 have Ad:100<fuel:=bI Wr hf;have Ar:100000000<fuel:=bI Wr hf;have Aj:∀i j,i<n->j<n->(A0 i j).natAbs<=mN n:=λi j _ _=>am (hE i j)<|am Wr<|Akq n;unfold ABk;refine Wv (Ad0 Ac hn Aj Ad) λv hv=>?_;have Ao:=hv.2 ⟨hs,hp⟩;subst Ao;refine Xa (λh=>absurd rfl h) λ_=>Wv (Yc<|A2z hn Aj Ad) λb hb=>?_;subst hb;refine Xa (λh=>by simp[hdt]at h) λ_=>?_;refine Wv (Yc<|Aqb (A:=Xw n n A0) (by rw[Xh];omega) λz hz=>by rw[AW9 z hz];omega (by rw[Xh];omega)) λx hx=>?_;subst hx;rw[Xh];refine Wv (Yc<|Aqt Ac Wq Ad) λx hx=>?_;subst hx;dsimp only;refine Wv (Axp (BFt n A0) (Q:=λr=>∃A T,r=(Xw n n A,Xw n n T,0)/\AYa n A/\ALm n A0 T A/\det n A=det n A0/\∀k,k<n->A k k<=3*dmN n) (λk s hI=>?_) (k:=(Ak4 n A0).toNat*128+128) ⟨A0,dl,0,0,⟨Adw Ac hs hp hD hr,ASy,rfl⟩,rfl,rfl⟩ ?_) λr hr=>Wt hr
 .obtain⟨A,T,i,t,R,rfl,rfl⟩:=hI;have L:=R.inv;have hbd:=A20 hn L;have hb:∀i j,i<n->j<n->(A i j).natAbs<=mN n:=λi j hi hj=>am (Ah2 L.sym L.pos hbd hi hj)<|A76 n;have hT:∀k s,k<n->s<n->(T k s).natAbs<=Af5:=λk s hk Ab=>BCl hn hE hs hp R.car hbd hk Ab;have hTD:Af5<=Ad1:=by decide
  have hg:=Awt n;have hgm:=BB9 n;have Ap:=Akq n;have hMD:mN n<=Ad1:=am (am (cF _<|show 0<24*gN n by omega)<|cx<|bS 24 (gN n)<|mN n) hgm;have hGD:3*gN n<=Ad1:=am (am (show 3*gN n<=24*gN n by omega)<|Nat.le_mul_of_pos_right _<|Nat.lt_of_lt_of_le Wr Ap)<|am (cx<|bS 24 (gN n)<|mN n) hgm;unfold AKd;refine Wv (A72 Ac hn L.pos hb hf) λr hr=>?_;have prod:∀{U:Wz},(∀i j,i<n->j<n->(U i j).natAbs<=3*gN n)->Zo fuel (Xw n n A) (Xw n n U)=some (Xw n n<|Xz n (Xz n (trF U) A) U)/\Y3 fuel (Xw n n T) (Xw n n U)=some (Xw n n<|Xz n T U):=λ{U}hU=>by
   have Ak:∀i j,i<n->j<n->(U i j).natAbs<=Ad1:=λi j hi hj=>am (hU i j hi hj) hGD;refine⟨Aqr Ac Wq Alc (λi j hi hj=>am (hb i j hi hj) hMD) Ak (λi j hi hj=>?_) Ad,?_⟩
   .have h3:(Xz n (trF U) A i j).natAbs=(psum (λl=>U l i*A l j) n).natAbs:=rfl;have h4:∀l,l<n->(U l i).natAbs<=3*gN n/\(A l j).natAbs<=mN n:=λl hl=>⟨hU l i hl hi,hb l j hl hj⟩;have h5:(psum (λl=>U l i*A l j) n).natAbs<=n*(3*gN n*mN n):=by
     refine QF.psum_abs λl hl=>?_;rw[ba];exact bC (h4 l hl).1 (h4 l hl).2
    have h6:n*(3*gN n*mN n)<=8*(3*gN n*mN n):=bn _ hn;have h7:8*(3*gN n*mN n)<=Ad1:=am (cx<|by rw[bS 3,<-bS 8]) hgm;omega
   .unfold Y3;rw[Axh Ac Wq Alc (λi j hi hj=>am (hT i j hi hj) hTD) Ak Ad];rfl
  rcases hr with⟨rfl,hsz,hlv⟩|⟨i',j,hji,hi',hbad,hsz,hzi,hlv,rfl⟩|⟨j,hj,hbad,hsz,hlv,rfl⟩;.dsimp only;refine Xa (λ_=>?_) λh=>absurd rfl h;have hrest:=AVg hn L λl hl=>hsz i l hl L.hi;refine Wv (Yc<|BCi Ac Wq (λi j hi hj=>bI (Ah2 L.sym L.pos hrest hi hj) (by have:=AZ6 n;omega)) Ad) λx hx=>Wt ?_;subst hx;exact⟨A,T,rfl,⟨L.sym,L.pos,hsz,hlv,by rw[R.dt];exact hdt⟩,R.car,R.dt,hrest⟩
  .dsimp only;refine Xa (λh=>absurd h Wr) λ_=>?_;have hU:∀r s,r<n->s<n->(AWt A i' j r s).natAbs<=3*gN n:=λr s hr Ab=>by
    have hdl:∀a b,(dl a b).natAbs<=3*gN n:=λa b=>by unfold dl;split<;>omega
    unfold AWt;rw[Xk];split
    .split;.exact As9 hn hji hi' L.pos hb
     .exact hdl _ _
    .exact hdl _ _
   obtain⟨e1,e2⟩:=prod hU;refine Wv (Yc e1) λx hx=>Wv (Yc e2) λy hy=>Wt ?_;subst hx;subst hy;obtain⟨L2,hm⟩:=As5 hn L hi' hji hbad hsz hzi hlv;have hsum:Ak4 n (AX7 A i' j<|ARr A i' j)=Ak4 n A:=Wy λk _=>AM3 hji;refine⟨_,?_,AX7 A i' j<|ARr A i' j,Xz n T<|AWt A i' j,i',i'-j,⟨L2,AOq R.car λr s hr Ab=>Ala hji hi' hr Ab,by rw[AM3 hji];exact R.dt⟩,?_,rfl⟩;.omega
   .rw[AGe λr s hr Ab=>Ala hji hi' hr Ab]
  .dsimp only;refine Xa (λh=>absurd h Wr) λ_=>?_;have hU:∀r s,r<n->s<n->(AB7 dl (j+1) j r s).natAbs<=3*gN n:=λr s hr Ab=>by rw[Ah1];unfold dl;split<;>omega
   obtain⟨e1,e2⟩:=prod hU;refine Wv (Yc e1) λx hx=>Wv (Yc e2) λy hy=>Wt ?_;subst hx;subst hy;obtain⟨L2,hm⟩:=As6 hn L hj hbad (λr l h1 h2=>hsz r l h1 Wq) λr hr=>hlv r Wq;refine⟨_,?_,swA A j,Xz n T<|AB7 dl (j+1) j,0,0,⟨L2,AOq R.car λr s hr Ab=>Aqz hj hr Ab,by rw[Aql Wq];exact R.dt⟩,?_,rfl⟩;.have h1:=Aq0 L.pos;have h2:=Aq0 L2.pos;have:=L.hi;have:=L.ht;omega
   .rw[AGe λr s hr Ab=>Aqz hj hr Ab]
 .have h1:=A21 hD;have h2:((n+1:Nat):Int)*dmN n<=9*dmN n:=ab Wq (by have:=AZ6 n;omega);have h3:9*dmN n<=9*2^59:=ae (AZ6 n).2 Wr;have h4:9*2^59*128+128<Zm:=by decide
  omega
def part(n i:Nat)(G:Wz):List (List Int):=Yy n λr=>if r<i then Yy n (G r)else[]
theorem AGw{n:Nat}(hr:r<i)(hn:r<n):(part n i G)[r]?=some (Yy n<|G r):=by unfold part;rw[Xb hn,if_pos hr]
theorem AOl{n:Nat}(hn:i<n):(part n i G)[i]?=some []:=by unfold part;rw[Xb hn,if_neg<|Nat.lt_irrefl i]
theorem AJo{n:Nat}(hr:r<i):(part n i G).set r (Yy n g)=part n i (Ym G r g):=by
 unfold part;rw[AAd];refine Yd λk _=>?_;by_cases h:k=r;.subst h;rw[if_pos rfl,if_pos hr,Yu]
 .rw[if_neg h,ACo _ _ h]
theorem AL7{n:Nat}:(part n i G).set i (Yy n g)=part n (i+1) (Ym G i g):=by
 unfold part;rw[AAd];refine Yd λk _=>?_;by_cases h:k=i;.subst h;rw[if_pos rfl,if_pos Wq,Yu]
 .rw[if_neg h,ACo _ _ h];grind
theorem AJ0(n:Nat)(G:Wz):part n n G=Xw n n G:=by unfold part;rw[ANd];exact Yd λk hk=>if_pos hk
theorem AJ1(n:Nat)(G:Wz):au n ([]:List Int)=part n 0 G:=by rw[ACb];exact Yd λk _=>(if_neg Wq).symm
theorem ASz{L:List Int}{q:Nat}(hq:q<4611686018427387904):Ok (if(L.length:Int)<=((q:Nat):Int)then some ((0:Int),((q:Nat):Int))else(gI L<|W3<|(W3<|((q:Nat):Int)+1)-1).bind λx=>some (W3 x,W3<|((q:Nat):Int)+1)) λe=>∃p:Nat,e.2=(p:Int)/\p<=q+1:=by
 refine Xa (λh=>Wt ⟨q,rfl,Wq⟩) λh=>?_;have hl:q<L.length:=by omega
 refine Xc (n:=q) (cr hl) (by rw[Zh (x:=(q:Int)+1) Wq Wq,wk Wq];omega)<|Wt ⟨q+1,?_,Wq⟩;rw[Zh (x:=(q:Int)+1) Wq Wq];omega
theorem ARs(x:Int)(m:Nat)(hm:0<m):0<=ao (W3<|IntKind.wrap .u8 x) (m:Int)/\ao (W3<|IntKind.wrap .u8 x) (m:Int)<m:=by
 have h1:IntKind.wrap .u8 x=x%256:=by rw[IntKind.wrap_u8]
 rw[h1];have a1:=aV x (show(256:Int)≠0 by decide);have a2:=aL x (show(0:Int)<256 by decide);rw[wk Wq,cn a1];exact⟨aV _ Wq,aL _ Wq⟩
def dgF(f:Nat->Int)(r c:Nat):Int:=if c=r then f r else 0
theorem BCm{L:List Int}(hN:W3 (1+ao (W3 a1) Ac)=(N:Int))(Af:N<=8)(Ag:q0<=1000)(hf:100<fuel):Ok (iter (λs=>ADl fuel a1 L Ac s.1 s.2.1 s.2.2) fuel (0,(q0:Int),au (aP<|W3<|1+ao (W3 a1) Ac) ([]:List Int))) λe=>∃(q:Nat)(f:Nat->Int),e=((q:Int),Xw N N<|dgF f)/\q<=q0+N/\∀r,r<N->1<=f r/\f r<=6:=by
 refine Xv (λi s=>∃(q:Nat)(f:Nat->Int),s=(((i:Nat):Int),(q:Int),part N i<|dgF f)/\i<=N/\q<=q0+i/\∀r,r<i->1<=f r/\f r<=6) N ⟨q0,λ_=>0,by rw[hN,av,AJ1 N<|dgF λ_=>0];rfl,Wq,Wq,λr hr=>by omega⟩ Wq λi s hi hI=>?_;obtain⟨q,f,rfl,hiN,hq,Ad⟩:=hI;unfold ADl;dsimp only;rw[aU,hN,av];refine Xa (λh=>Yi Wq ?_) λh=>Wt ?_
 .have hi':i<N:=by omega
  refine Xc (AOl hi') rfl ?_;rw[Yl,ACb N (0:Int),AL7];refine Xc (AGw Wq hi') rfl ?_;rw[Yu];refine Wv (Q:=λe:Int×Int=>0<=e.1/\e.1<6/\∃p:Nat,e.2=(p:Int)/\p<=q+1) (Wv (ASz (L:=L) (q:=q) Wq) λe he=>?_) λe he=>Xc (Xb hi') rfl (Wt ⟨Wq,?_⟩);.exact Wt ⟨(ARs _ 6 Wr).1,(ARs _ 6 Wr).2,he⟩
  .obtain⟨h1,h2,p,h3,h4⟩:=he;refine⟨p,λr=>if r=i then 1+e.1 else f r,?_,Wq,Wq,λr hr=>?_⟩
   .rw[Zh (x:=(i:Int)+1) Wq Wq,Zh (x:=1+e.1) Wq Wq,h3,Yl,Yl,AAd,AJo Wq];refine congrArg (λz=>(((i+1:Nat):Int),(p:Int),z))<|Yd λr hr=>?_;split
    .refine Yd λc hc=>?_;rw[Xk];unfold dgF;dsimp only;split;.omega
     .next h=>rw[Xk,if_neg h]
    .rfl
   grind
 .obtain rfl:i=N:=by omega
  exact⟨q,f,by rw[AJ0],Wq,Ad⟩
theorem A79{L:List Int}(hN:W3 (1+ao (W3 a1) Ac)=(N:Int))(Af:N<=8)(Ag:q0<=1000)(hf:100<fuel):Ok (iter (λs=>ADb fuel a1 L Ac s.1 s.2.1 s.2.2) fuel (0,(q0:Int),au (aP<|W3<|1+ao (W3 a1) Ac) ([]:List Int))) λe=>∃(q:Nat)(f:Nat->Int),e=((q:Int),Xw N N<|dgF f)/\q<=q0+N/\∀r,r<N->1<=f r/\f r<=9:=by
 refine Xv (λi s=>∃(q:Nat)(f:Nat->Int),s=(((i:Nat):Int),(q:Int),part N i<|dgF f)/\i<=N/\q<=q0+i/\∀r,r<i->1<=f r/\f r<=9) N ⟨q0,λ_=>0,by rw[hN,av,AJ1 N<|dgF λ_=>0];rfl,Wq,Wq,λr hr=>by omega⟩ Wq λi s hi hI=>?_;obtain⟨q,f,rfl,hiN,hq,Ad⟩:=hI;unfold ADb;dsimp only;rw[aU,hN,av];refine Xa (λh=>Yi Wq ?_) λh=>Wt ?_
 .have hi':i<N:=by omega
  refine Xc (AOl hi') rfl ?_;rw[Yl,ACb N (0:Int),AL7];refine Xc (AGw Wq hi') rfl ?_;rw[Yu];refine Wv (Q:=λe:Int×Int=>0<=e.1/\e.1<9/\∃p:Nat,e.2=(p:Int)/\p<=q+1) (Wv (ASz (L:=L) (q:=q) Wq) λe he=>?_) λe he=>Xc (Xb hi') rfl (Wt ⟨Wq,?_⟩);.exact Wt ⟨(ARs _ 9 Wr).1,(ARs _ 9 Wr).2,he⟩
  .obtain⟨h1,h2,p,h3,h4⟩:=he;refine⟨p,λr=>if r=i then 1+e.1 else f r,?_,Wq,Wq,λr hr=>?_⟩
   .rw[Zh (x:=(i:Int)+1) Wq Wq,Zh (x:=1+e.1) Wq Wq,h3,Yl,Yl,AAd,AJo Wq];refine congrArg (λz=>(((i+1:Nat):Int),(p:Int),z))<|Yd λr hr=>?_;split
    .refine Yd λc hc=>?_;rw[Xk];unfold dgF;dsimp only;split;.omega
     .next h=>rw[Xk,if_neg h]
    .rfl
   grind
 .obtain rfl:i=N:=by omega
  exact⟨q,f,by rw[AJ0],Wq,Ad⟩
theorem A8a{L:List Int}(hN:W3 (1+ao (W3 a1) Ac)=(N:Int))(Af:N<=8)(Ag:q0<=1000)(hf:100<fuel):Ok (iter (λs=>ADc fuel a1 L Ac s.1 s.2.1 s.2.2) fuel (0,(q0:Int),au (aP<|W3<|1+ao (W3 a1) Ac) ([]:List Int))) λe=>∃(q:Nat)(f:Nat->Int),e=((q:Int),Xw N N<|dgF f)/\q<=q0+N/\∀r,r<N->1<=f r/\f r<=1:=by
 refine Xv (λi s=>∃(q:Nat)(f:Nat->Int),s=(((i:Nat):Int),(q:Int),part N i<|dgF f)/\i<=N/\q<=q0+i/\∀r,r<i->1<=f r/\f r<=1) N ⟨q0,λ_=>0,by rw[hN,av,AJ1 N<|dgF λ_=>0];rfl,Wq,Wq,λr hr=>by omega⟩ Wq λi s hi hI=>?_;obtain⟨q,f,rfl,hiN,hq,Ad⟩:=hI;unfold ADc;dsimp only;rw[aU,hN,av];refine Xa (λh=>Yi Wq ?_) λh=>Wt ?_
 .have hi':i<N:=by omega
  refine Xc (AOl hi') rfl ?_;rw[Yl,ACb N (0:Int),AL7];refine Xc (AGw Wq hi') rfl ?_;rw[Yu];refine Wv (Q:=λe:Int×Int=>0<=e.1/\e.1<1/\∃p:Nat,e.2=(p:Int)/\p<=q+1) (Wv (ASz (L:=L) (q:=q) Wq) λe he=>?_) λe he=>Xc (Xb hi') rfl (Wt ⟨Wq,?_⟩);.exact Wt ⟨(ARs _ 1 Wr).1,(ARs _ 1 Wr).2,he⟩
  .obtain⟨h1,h2,p,h3,h4⟩:=he;refine⟨p,λr=>if r=i then 1+e.1 else f r,?_,Wq,Wq,λr hr=>?_⟩
   .rw[Zh (x:=(i:Int)+1) Wq Wq,Zh (x:=1+e.1) Wq Wq,h3,Yl,Yl,AAd,AJo Wq];refine congrArg (λz=>(((i+1:Nat):Int),(p:Int),z))<|Yd λr hr=>?_;split
    .refine Yd λc hc=>?_;rw[Xk];unfold dgF;dsimp only;split;.omega
     .next h=>rw[Xk,if_neg h]
    .rfl
   grind
 .obtain rfl:i=N:=by omega
  exact⟨q,f,by rw[AJ0],Wq,Ad⟩
theorem A8b{L:List Int}(hN:W3 (1+ao (W3 a1) Ac)=(N:Int))(Af:N<=8)(Ag:q0<=1000)(hf:100<fuel):Ok (iter (λs=>ADd fuel a1 L Ac s.1 s.2.1 s.2.2) fuel (0,(q0:Int),au (aP<|W3<|1+ao (W3 a1) Ac) ([]:List Int))) λe=>∃(q:Nat)(f:Nat->Int),e=((q:Int),Xw N N<|dgF f)/\q<=q0+N/\∀r,r<N->1<=f r/\f r<=2:=by
 refine Xv (λi s=>∃(q:Nat)(f:Nat->Int),s=(((i:Nat):Int),(q:Int),part N i<|dgF f)/\i<=N/\q<=q0+i/\∀r,r<i->1<=f r/\f r<=2) N ⟨q0,λ_=>0,by rw[hN,av,AJ1 N<|dgF λ_=>0];rfl,Wq,Wq,λr hr=>by omega⟩ Wq λi s hi hI=>?_;obtain⟨q,f,rfl,hiN,hq,Ad⟩:=hI;unfold ADd;dsimp only;rw[aU,hN,av];refine Xa (λh=>Yi Wq ?_) λh=>Wt ?_
 .have hi':i<N:=by omega
  refine Xc (AOl hi') rfl ?_;rw[Yl,ACb N (0:Int),AL7];refine Xc (AGw Wq hi') rfl ?_;rw[Yu];refine Wv (Q:=λe:Int×Int=>0<=e.1/\e.1<2/\∃p:Nat,e.2=(p:Int)/\p<=q+1) (Wv (ASz (L:=L) (q:=q) Wq) λe he=>?_) λe he=>Xc (Xb hi') rfl (Wt ⟨Wq,?_⟩);.exact Wt ⟨(ARs _ 2 Wr).1,(ARs _ 2 Wr).2,he⟩
  .obtain⟨h1,h2,p,h3,h4⟩:=he;refine⟨p,λr=>if r=i then 1+e.1 else f r,?_,Wq,Wq,λr hr=>?_⟩
   .rw[Zh (x:=(i:Int)+1) Wq Wq,Zh (x:=1+e.1) Wq Wq,h3,Yl,Yl,AAd,AJo Wq];refine congrArg (λz=>(((i+1:Nat):Int),(p:Int),z))<|Yd λr hr=>?_;split
    .refine Yd λc hc=>?_;rw[Xk];unfold dgF;dsimp only;split;.omega
     .next h=>rw[Xk,if_neg h]
    .rfl
   grind
 .obtain rfl:i=N:=by omega
  exact⟨q,f,by rw[AJ0],Wq,Ad⟩
theorem A8c{L:List Int}{F0:Wz}(Ag:N<=8)(Ah:q0<=1000)(Ad:∀i j,i<N->j<N->(F0 i j).natAbs<=9)(hf:100<fuel):Ok (iter (λs=>ADm fuel L (Xw N N F0) s.1 s.2.1 s.2.2) fuel (0,(q0:Int),Xw N N F0)) λe=>∃(q:Nat)(F:Wz),e=((q:Int),Xw N N F)/\q<=q0+8*N/\∀i j,i<N->j<N->(F i j).natAbs<=9:=by
 refine Xv (λi s=>∃(q:Nat)(F:Wz),s=(((i:Nat):Int),(q:Int),Xw N N F)/\i<=N/\q<=q0+8*i/\∀i j,i<N->j<N->(F i j).natAbs<=9) N ⟨q0,F0,rfl,Wq,Wq,Ad⟩ Wq λi s hi hI=>?_;obtain⟨q,F,rfl,hiN,hq,hF⟩:=hI;unfold ADm;dsimp only;rw[Xh];refine Xa (λh=>?_) λh=>Wt ⟨q,F,rfl,Wq,hF⟩;have hi':i<N:=by omega
 refine Wv (Xv (λj s=>∃(p:Nat)(F:Wz),s=(((j:Nat):Int),(p:Int),Xw N N F)/\j<=i/\p<=q+j/\∀i j,i<N->j<N->(F i j).natAbs<=9) i (Q:=λe=>∃(p:Nat)(F:Wz),e=((p:Int),Xw N N F)/\p<=q+i/\∀i j,i<N->j<N->(F i j).natAbs<=9) ⟨q,F,rfl,Wq,Wq,hF⟩ Wq λj s hj hJ=>?_) λe he=>?_
 .obtain⟨p,F,rfl,hji,hp,hF⟩:=hJ;unfold AGt;dsimp only;refine Xa (λh=>?_) λh=>Wt ⟨p,F,rfl,Wq,hF⟩;have hj':j<i:=by omega
  refine Xc (Xx hi') rfl (Wv (ASz (L:=L) (q:=p) Wq) λe he=>Xc (Xb Wq) rfl ?_);obtain⟨p2,h3,h4⟩:=he;rw[Yl,Yl,AAd,show(Yy N λc=>if c=j then ao e.1 3 else F i c)=(be N).map λc=>if c=j then ao e.1 3 else F i c from rfl,AGl];refine Xc (Xx Wq) rfl (Xc (Xx hi') rfl (Xc (Xb Wq) rfl (Xc (Xb hi') rfl (Wt ⟨Wq,p2,?_⟩))));generalize Af:(Ym F i λc=>if c=j then ao e.1 3 else F i c)=F1;have hv:(ao e.1 3).natAbs<=9:=by grind
  have hF1b:∀i j,i<N->j<N->(F1 i j).natAbs<=9:=λa b ha hb=>by
   subst Af;rw[Xk];split
   .split;.exact hv
    grind
   grind
  refine⟨Ym F1 j λc=>if c=i then F1 i j else F1 j c,?_,Wq,Wq,λa b ha hb=>?_⟩;.rw[wk Wq,h3,Yl,Yl,AAd,show(Yy N λc=>if c=i then F1 i j else F1 j c)=(be N).map λc=>if c=i then F1 i j else F1 j c from rfl,AGl];rfl
  .rw[Xk];split
   .split;.grind
    grind
   grind
 .obtain⟨p,F,rfl,hp,hF⟩:=he;exact Wt ⟨Wq,p,F,by rw[wk Wq];rfl,Wq,Wq,hF⟩
theorem Aq1{b:Bool}(Ag:1<=N)(Ah:N<=8)(hf:100<fuel):Ok (AB9 fuel (N:Int) b) λe=>∃F,e=Xw N N F/\∀i j,i<N->j<N->(F i j).natAbs<=2:=by
 unfold AB9;refine Yi Wq ?_;rw[av];refine Wv (Xv (λi s=>∃G:Wz,s=(((i:Nat):Int),part N i G)/\i<=N/\∀r c,(G r c).natAbs<=2) N (Q:=λe=>∃F,e=Xw N N F/\∀i j,i<N->j<N->(F i j).natAbs<=2) ⟨λ_ _=>0,by rw[AJ1 N λ_ _=>0];rfl,Wq,λ_ _=>ai _⟩ Wq λi s hi hI=>?_) λe he=>Wt he;obtain⟨G,rfl,hiN,hG⟩:=hI;unfold ALb;dsimp only;rw[aU,av];refine Xa (λh=>Yi Wq ?_) λh=>Wt ?_
 .have hi':i<N:=by omega
  refine Xc (AOl hi') rfl ?_;rw[Yl,ACb N (0:Int),AL7];refine Xc (AGw Wq hi') rfl ?_;rw[Yu];refine Xc (Xb hi') rfl ?_;rw[Yl,Yl,AAd,AJo Wq];have Ab:∀r c,(Ym (Ym G i λx=>0) i (λc=>if c=i then 2 else 0) r c).natAbs<=2:=λr c=>by
   rw[Xk];split;.split<;>decide
   .rw[Xk];grind
  generalize(Ym (Ym G i λx=>0) i λc=>if c=i then 2 else 0)=G1 at Ab;have wi:W3 ((i:Int)+1)=((i+1:Nat):Int):=by rw[wk Wq];omega
  refine Wv (Q:=λk=>k=(i:Int)-1∨k=(i:Int)-2) ?_ λk hk=>?_;.have w1:W3 ((i:Int)-1)=(i:Int)-1:=wk Wq;have w2:W3 ((i:Int)-2)=(i:Int)-2:=wk Wq;rw[w1,w2];exact Xa (λ_=>Xa (λ_=>Xa (λ_=>Wt<|.inr rfl) λ_=>Wt<|.inl rfl) λ_=>Wt<|.inl rfl) λ_=>Wt<|.inl rfl
  .refine Xa (λh=>?_) λh=>Wt ⟨Wq,G1,by rw[wi],Wq,Ab⟩;obtain⟨k,rfl⟩:∃q:Nat,k=q:=⟨k.toNat,Wq⟩;have hki:k<i:=by omega
   refine Xc (AGw Wq hi') rfl (Xc (AGw Wq Wq) rfl (Xc (Xb Wq) rfl ?_));rw[Yl,Yl,AAd,AJo Wq];have Af:∀r c,(Ym G1 i (λc=>if c=k then-1 else G1 i c) r c).natAbs<=2:=λr c=>by
    rw[Xk];grind
   generalize(Ym G1 i λc=>if c=k then-1 else G1 i c)=G2 at Af;refine Xc (AGw Wq Wq) rfl (Xc (Xb hi') rfl (Wt ⟨Wq,Ym G2 k λc=>if c=i then-1 else G2 k c,?_,Wq,λr c=>?_⟩));.rw[wi,Yl,Yl,AAd,AJo Wq]
   .rw[Xk];grind
 .obtain rfl:i=N:=by omega
  exact⟨G,AJ0 _ _,λa b _ _=>hG a b⟩
theorem Axr{n B:Nat}(hB:B<9223372036854775808)(h:∀i j,i<n->j<n->(F i j).natAbs<=B):∀z∈Xw n n F,∀x∈z,-9223372036854775808<=x/\x<=9223372036854775807:=λz hz x hx=>by
 obtain⟨i,hi⟩:=cJ hz;have hin:i<n:=by have:=(cm.1 hi).1;rwa[Xh]at this
 rw[Xx hin]at hi;cases hi;obtain⟨j,hj⟩:=cJ hx;have hjn:j<n:=by have:=(cm.1 hj).1;rwa[X5]at this
 rw[Xb hjn]at hj;grind
theorem A22{n:Nat}(hn:1<=n)(Aa:n<=16):okM (Xw n n F)=true:=by have hc:AM7 (Xw n n F)=n:=Aua hn;unfold okM;rw[decide_eq_true_iff,Xh,hc];exact⟨hn,Aa,λz hz=>by rw[AW9 z hz];omega⟩
theorem Ad2{n:Nat}(hn:1<=n)(Aa:n<=16)(h:∀i j,i<n->j<n->(F i j).natAbs<=9223372036854775807)(hf:17<fuel):Yw fuel (Xw n n F)=some (Xw n n F):=by rw[BB8 (Axr Wr h) hf,if_pos<|A22 hn Aa]
theorem A8d{n:Nat}(Ab:1<=n)(hn:n<=8)(hb:∀i j,i<n->j<n->(F i j).natAbs<=1000000)(hf:100<fuel):Ok (AEk fuel<|Xw n n F) λr=>r=true↔AFv n F/\AIn n F/\det n F<=10000:=by have Ac:∀i j,i<n->j<n->(F i j).natAbs<=mN n:=λi j hi hj=>am (hb i j hi hj)<|am Wr<|Akq n;unfold AEk;refine Wv (Yc<|Ad2 Ab Wq (λi j hi hj=>am (hb i j hi hj) Wr) Wq) λx hx=>?_;subst hx;refine Wv (Ad0 Ab hn Ac hf) λv hv=>Xa (λh=>?_) λh=>Wt<|Iff.intro (λh2=>nomatch h2) λh2=>absurd (hv.2 ⟨h2.1,h2.2.1⟩) h;have h1:=hv.1 h;refine Wv (Yc<|AX2 hn (ay _) Ac Wq) λd hd=>Wv (Q:=(·=10000)) ⟨10000,if_pos Wq,rfl⟩ λt ht=>Wv (Yc (a:=cmpZ d t) rfl) λc hc=>Wt ?_;subst hd;subst ht;subst hc;rw[decide_eq_true_iff,Ahy];grind
theorem A8e{n:Nat}(hn:n<=8)(h:∀r,r<n->1<=f r/\f r<=2):AFv n (dgF f)/\AIn n (dgF f)/\det n (dgF f)<=10000:=by
 have hd:∀k,k<=n->det k (dgF f)=ABo f k:=λk hk=>by
  rw[ARp (F:=dgF f) λc i hc hci hi=>by unfold dgF;omega];exact ANe λi _=>by unfold dgF;rw[if_pos rfl]
 have hb:∀k,k<=n->0<ABo f k/\ABo f k<=2^k:=λk=>by induction k with|zero=>intro _;simp[ABo]|succ k ih=>
    intro hk;have h1:=ih Wq;have h2:=h k Wq;simp only[ABo];refine⟨bP h1.1 Wq,?_⟩;rw[bo];exact bc h1.2 h2.2 Wq<|ar<|AUq k
 refine⟨λi j hi hj=>?_,λk hk=>by grind,?_⟩;.unfold dgF;grind
 .rw[hd n<|ay n];have:=(hb n<|ay n).2;have h2:=AVh hn;omega
structure A5b(n:Nat)(A:Wz):Prop where
 n1:1<=n
 n8:n<=8
 sym:AFv n A
 pos:AIn n A
 bd:∀i j,i<n->j<n->(A i j).natAbs<=9
 dt:det n A<=10000
theorem Aq2{n m:Nat}(h:∀r,r<n->1<=f r/\f r<=(m:Int)):∀i j,i<n->j<n->(dgF f i j).natAbs<=m:=λi j hi hj=>by
 unfold dgF;grind
theorem A8f{most:Int}{L L2:List Int}(h1:0<=a1/\a1<256)(hm:1<=most/\most<=8)(hf:100<fuel):Ok (Zd fuel a1 a2 L L2 most) λr=>∃n A,r=Xw n n A/\A5b n A/\(n:Int)=1+ao a1 most:=by
 have t1:=aV a1 (show most≠0 by omega);have t2:=aL a1 (show 0<most by omega);have t3:ao a1 most=a1%most:=cn h1.1;have hN:W3 (1+ao (W3 a1) most)=((1+a1%most).toNat:Int):=by rw[Zh (x:=a1) Wq Wq,t3,wk Wq];omega
 generalize hNN:(1+a1%most).toNat=N at hN;have Ad:1<=N:=by omega
 have Ab:N<=8:=by omega
 unfold Zd;refine Yi Wq<|Wv (Q:=λe=>∃(q:Nat)(F:Wz),e=(Xw N N F,(q:Int))/\q<=200/\∀i j,i<N->j<N->(F i j).natAbs<=9) (Wv (Q:=λ_=>True) ?_ λk _=>Xa (λ_=>?_) λ_=>Xa (λ_=>?_) λ_=>Xa (λ_=>?_) λ_=>Xa (λ_=>?_) λ_=>?_) λe he=>?_;.exact Xa (λ_=>Wt trivial) λ_=>Xa (λ_=>Wt trivial) λ_=>Xa (λ_=>Wt trivial) λ_=>Wt trivial
 .refine Wv (Q:=λe=>∃(q:Nat)(F:Wz),e=(Xw N N F,(q:Int))/\q<=200/\∀i j,i<N->j<N->(F i j).natAbs<=9) (Wv (Q:=λe=>∃(q:Nat)(f:Nat->Int),e=(Xw N N<|dgF f,(q:Int))/\q<=8/\∀r,r<N->1<=f r/\f r<=6) (Yi (by rw[hN];omega)<|Wv (BCm (q0:=0) (L:=L) hN Ab Wq hf) λe he=>Wt ?_) λe he=>?_) λe he=>Wt he;.obtain⟨q,f,rfl,h2,h3⟩:=he;grind
  .obtain⟨q,f,rfl,h2,h3⟩:=he;refine Wv (A8c (L:=L) (q0:=q) Ab Wq (λi j hi hj=>am (Aq2 (m:=6) h3 i j hi hj) Wr) hf) λe he=>Wt ?_;obtain⟨q,F,rfl,h4,h5⟩:=he;grind
 .rw[hN];refine Wv (Aq1 Ad Ab hf) λF hF=>?_;obtain⟨F,rfl,hF⟩:=hF;refine Xc (n:=0) (Xx Wq) rfl (Xc (n:=0) (Xb Wq) rfl (Wv (Q:=λe:Int×Int=>0<=e.1/\e.1<3/\∃p:Nat,e.2=(p:Int)/\p<=0+1) (Wv (ASz (L:=L) (q:=0) Wq) λe he=>Wt ⟨(ARs _ 3 Wr).1,(ARs _ 3 Wr).2,he⟩) λe he=>Wt ?_));obtain⟨c1,c2,p,c3,c4⟩:=he;have c5:=hF 0 0 Wq Wq;refine⟨p,Ym F 0 λc=>if c=0 then F 0 0+e.1 else F 0 c,?_,Wq,λi j hi hj=>?_⟩;.rw[c3,wk Wq];refine congrArg (λz=>(z,(p:Int))) ?_;show(Xw N N F).set 0 ((Yy N<|F 0).set 0 (F 0 0+e.1))=_;rw[AAd];exact AGl
  .rw[Xk];split;.grind
   grind
 .rw[hN];refine Wv (Aq1 Ad Ab hf) λF hF=>?_;obtain⟨F,rfl,hF⟩:=hF;have w1:W3 ((N:Int)-1)=((N-1:Nat):Int):=by rw[wk Wq];omega
  rw[w1];refine Xc (Xx Wq) rfl (Xc (Xb Wq) rfl (Wv (Q:=λe:Int×Int=>0<=e.1/\e.1<2/\∃p:Nat,e.2=(p:Int)/\p<=0+1) (Wv (ASz (L:=L) (q:=0) Wq) λe he=>Wt ⟨(ARs _ 2 Wr).1,(ARs _ 2 Wr).2,he⟩) λe he=>Wt ?_));obtain⟨c1,c2,p,c3,c4⟩:=he;have c5:=hF (N-1) (N-1) Wq Wq;refine⟨p,Ym F (N-1) λc=>if c=N-1 then F (N-1) (N-1)+e.1 else F (N-1) c,?_,Wq,λi j hi hj=>?_⟩;.rw[c3,wk Wq,Yl,Yl];refine congrArg (λz=>(z,(p:Int))) ?_;rw[AAd];exact AGl
  .rw[Xk];split
   .split;.omega
    grind
   grind
 .refine Wv (Q:=λe=>∃(q:Nat)(F:Wz),e=(Xw N N F,(q:Int))/\q<=200/\∀i j,i<N->j<N->(F i j).natAbs<=9) (Yi (by rw[hN];omega)<|Wv (A79 (q0:=0) (L:=L) hN Ab Wq hf) λe he=>Wt ?_) λe he=>Wt he;obtain⟨q,f,rfl,h2,h3⟩:=he;exact⟨q,dgF f,rfl,Wq,λi j hi hj=>Aq2 (m:=9) h3 i j hi hj⟩
 .refine Wv (Q:=λe=>∃(q:Nat)(F:Wz),e=(Xw N N F,(q:Int))/\q<=200/\∀i j,i<N->j<N->(F i j).natAbs<=9) (Yi (by rw[hN];omega)<|Wv (A8a (q0:=0) (L:=L) hN Ab Wq hf) λe he=>Wt ?_) λe he=>Wt he;obtain⟨q,f,rfl,h2,h3⟩:=he;exact⟨q,dgF f,rfl,Wq,λi j hi hj=>am (Aq2 (m:=1) h3 i j hi hj) Wr⟩
 .obtain⟨q,F,rfl,h2,h3⟩:=he;dsimp only;refine Wv (A8d Ad Ab (λi j hi hj=>am (h3 i j hi hj) Wr) hf) λb hb=>Xa (λhn=>?_) λhn=>Wt ?_
  .refine Wv (Q:=λe=>∃f:Nat->Int,e.1=Xw N N (dgF f)/\∀r,r<N->1<=f r/\f r<=2) (Yi (by rw[hN];omega)<|Wv (A8b (q0:=q) (L:=L) hN Ab Wq hf) λe he=>Wt ?_) λe he=>Wt ?_;.grind
   .obtain⟨f,h4,h5⟩:=he;obtain⟨d1,d2,d3⟩:=A8e Ab h5;exact⟨N,dgF f,h4,⟨Ad,Ab,d1,d2,λi j hi hj=>am (Aq2 (m:=2) h5 i j hi hj) Wr,d3⟩,by rw[t3];omega⟩
  .have hg:AFv N F/\AIn N F/\det N F<=10000:=hb.1 (by simpa using hn);exact⟨N,F,rfl,⟨Ad,Ab,hg.1,hg.2.1,h3,hg.2.2⟩,by rw[t3];omega⟩
theorem Axs(h1:LvF A k)(h2:SzF A (k+1) k)(hp:0<det (k+1) A):det (k+1) A*det (k+1) A<=2*(det k A*det (k+2) A):=by unfold LvF at h1;unfold SzF at h2;have h3:2*Mn k A (k+1) k*(2*Mn k A (k+1) k)<=det (k+1) A*det (k+1) A:=AUp Wq h2.2;grind
theorem AHb{x y:Int}(h0:0<=x)(h:x<=y):∀k:Nat,x^k<=y^k
 |0=>by simp|k+1=>by
   rw[bo,bo];exact bc (AHb h0 h k) h h0<|aI (Int.pow_nonneg h0)<|AHb h0 h k
def tri:Nat->Nat|0=>0|k+1=>tri k+(k+1)
theorem An7{n:Nat}(hp:AIn n A)(hs:AUt A n)(hl:AV4 A n):∀k,k+1<=n->det k A^(k+1)<=det (k+1) A^k*2^tri k:=by intro k;induction k with
 |zero=>intro _;simp[det,tri]|succ k ih=>
   intro hk;have ih:=ih Wq;have p0:=hp k Wq;have p1:=hp (k+1) Wq;have p2:=hp (k+2) Wq;have h1:=Axs (hl k Wq) (hs (k+1) k Wq Wq) p1;generalize det k A=a at*;generalize det (k+1) A=b at*;generalize det (k+2) A=c at*;have h2:(b*b)^(k+1)<=(2*(a*c))^(k+1):=AHb (ar<|bP p1 p1) h1 _;rw[ca,ca,ca]at h2;have h3:a^(k+1)*c^(k+1)<=b^k*2^tri k*c^(k+1):=ab ih<|ar<|cK p2;have h4:2^(k+1)*(a^(k+1)*c^(k+1))<=2^(k+1)*(b^k*2^tri k*c^(k+1)):=ae h3<|ar<|AUq _;have h5:=aI h2 h4;have e1:b^(k+1)*b^(k+1)=b^k*b^(k+1+1):=by grind
   have e2:(2:Int)^(k+1)*(b^k*2^tri k*c^(k+1))=b^k*(c^(k+1)*2^tri (k+1)):=by
    have:(2:Int)^tri (k+1)=2^tri k*2^(k+1):=by rw[<-bO];rfl
    rw[this];grind
   rw[e1,e2]at h5;exact bJ h5<|cK p1
def dU:Nat->Int|8=>10000|7=>35777|6=>64000|5=>57243|4=>25600|_=>10000
theorem BCn(k:Nat):dU k<=64000:=by unfold dU;split<;>omega
theorem A5c(k:Nat):10000<=dU k:=by unfold dU;split<;>omega
theorem A23:∀k,k<8->dU (k+1)^k*2^tri k<(dU k+1)^(k+1):=by decide
theorem Ata{n:Nat}(hn:n<=8)(hp:AIn n A)(hs:AUt A n)(hl:AV4 A n)(hd:det n A<=10000):∀m k,k+m=n->det k A<=dU k:=by
 intro m;induction m with
 |zero=>
    intro k hk;obtain rfl:k=n:=by omega
    exact aI hd (A5c _)|succ m ih=>
   intro k hk;have h1:=ih (k+1) Wq;have h2:=An7 hp hs hl k Wq;have p0:=hp k Wq;have p1:=hp (k+1) Wq;rcases bL (dU k) (det k A)with h|h
   .exfalso;have h3:(dU k+1)^(k+1)<=det k A^(k+1):=AHb (by have:=A5c k;omega) Wq _;have h4:det (k+1) A^k*2^tri k<=dU (k+1)^k*2^tri k:=ab (AHb (ar p1) h1 k)<|ar<|AUq _;have h5:=A23 k Wq;omega
   .exact h
theorem AYb{n:Nat}(hn:n<=8)(R:AYa n A)(hk:k<=n):0<det k A/\det k A<=64000:=⟨R.pos k hk,aI (Ata hn R.pos R.sz R.lv R.dt (n-k) k Wq)<|BCn k⟩
theorem AYc{n:Nat}(hn:n<=8)(R:AYa n A)(hi:i<n)(hj:j<n):-192000<=A i j/\A i j<=192000:=Alb R.sym R.pos (λk hk=>Ak1 (Dm:=64000) hn R.sym R.pos hk (λk hk=>(AYb hn R hk).2) λl hl=>R.sz k l hl hk) hi hj
structure RB(n:Nat)(A:Wz)(k:Nat):Prop where
 pos:∀j,k<j->j<=n->0<det j A
 lt:∀j,k<j->j<n->det j A<65536
 sz:∀l i,k<=l->l<i->i<n->SzF A i l
 lv:∀l,k<=l->l+1<n->LvF A l
 dt:det n A<=10000
theorem A8g{m:Nat}(h0:0<det k A)(hF:∀i j,i<m+1->j<m+1->F i j=Mn k A (k+i) (k+j))(hi:i<m)(hj:j<m):APk F (det k A) i j=Mn (k+1) A (k+1+i) (k+1+j):=by unfold APk;rw[hF 0 0 Wq Wq,hF (i+1) (j+1) Wq Wq,hF (i+1) 0 Wq Wq,hF 0 (j+1) Wq Wq,cy,AVb Wq,Int.mul_tdiv_cancel_left _ Wq];grind
theorem Ald{n:Nat}:∀(m k:Nat)(F:Wz),k+m=n->1<=m->0<det k A->(∀i j,i<m->j<m->F i j=Mn k A (k+i) (k+j))->(AN2 m F (det k A)=true↔RB n A k):=by
 intro m;induction m with
 |zero=>omega|succ m ih=>
   intro k F hk _ h0 hF;have Ad:F 0 0=det (k+1) A:=by rw[hF 0 0 Wq Wq];exact AFa k A
   cases m with
   |zero=>
     obtain rfl:k+1=n:=hk;show decide (0<F 0 0/\F 0 0<=10000)=true↔_;rw[decide_eq_true_iff,Ad];exact⟨λh=>⟨λj h1 h2=>by grind,λj h1 h2=>by omega,λl i h1 h2 h3=>by omega,λl h1 h2=>by omega,h.2⟩,λh=>⟨h.pos (k+1) Wq<|ay _,h.dt⟩⟩|succ m=>
     have hN:∀i j,i<m+1->j<m+1->APk F (det k A) i j=Mn (k+1) A (k+1+i) (k+1+j):=λi j hi hj=>A8g h0 hF hi hj;have hS:AN1 (m+1+1) F↔(0<det (k+1) A/\det (k+1) A<65536)/\∀i,k<i->i<n->SzF A i k:=by
      unfold AN1;rw[Ad];refine and_congr_right λ_=>⟨λh i h1 h2=>?_,λh i h1 h2=>?_⟩
      .have h3:=h (i-k) Wq Wq;rw[hF (i-k) 0 Wq Wq,show k+(i-k)=i by omega]at h3;unfold SzF;grind
      .have h3:=h (k+i) Wq Wq;unfold SzF at h3;grind
     have hL:AVu F (det k A)↔LvF A k:=by
      unfold AVu LvF;rw[Ad,hN 0 0 Wq Wq,cy,AFa (k+1) A,hF 1 0 Wq Wq,cy];grind
     show(decide (AN1 (m+1+1) F)&&(decide (AVu F<|det k A)&&AN2 (m+1) (APk F<|det k A) (F 0 0)))=true↔_;rw[b8,b8,decide_eq_true_iff,decide_eq_true_iff,hS,hL,Ad];constructor
     .rintro⟨⟨⟨h1,h2⟩,h3⟩,h4,h5⟩;have R:=(ih (k+1) _ Wq Wq h1 hN).1 h5;refine⟨λj a b=>?_,λj a b=>?_,λl i a b c=>?_,λl a b=>?_,R.dt⟩
      .by_cases e:j=k+1;.grind
       .exact R.pos j Wq b
      .by_cases e:j=k+1;.grind
       .exact R.lt j Wq b
      .by_cases e:l=k;.grind
       .exact R.sz l i Wq b c
      .by_cases e:l=k;.grind
       .exact R.lv l Wq b
     .intro R;have h1:=R.pos (k+1) Wq Wq;exact⟨⟨⟨h1,R.lt (k+1) Wq Wq⟩,λi a b=>R.sz k i (ay k) a b⟩,R.lv k (ay k) Wq,(ih (k+1) _ Wq Wq h1 hN).2 ⟨λj a b=>R.pos j Wq b,λj a b=>R.lt j Wq b,λl i a b c=>R.sz l i Wq b c,λl a b=>R.lv l Wq b,R.dt⟩⟩
def AS0(M:List (List Int)):Prop:=(1<=M.length/\M.length<=8)/\(∀z∈M,z.length=M.length)/\AYa M.length (ent M)
theorem AZ7(M:List (List Int)):isRed M=true↔AS0 M:=by
 unfold isRed;rw[b8];constructor
 .rintro⟨h1,h2⟩;have S:=Adn h1;have R:=(Ald (A:=ent M) (n:=M.length) M.length 0 (ent M) Wq S.1.1 (by simp[det]) λi j _ _=>by rw[AFr,bW,bW]).1 (by simpa[det]using h2);refine⟨S.1,S.2.1,λi j hi hj=>(S.2.2 i j hi hj).1,λk hk=>?_,λr l h3 h4=>R.sz l r (ai _) h3 h4,λl hl=>R.lv l (ai _) hl,R.dt⟩;rcases cR k with h|h;.subst h;simp[det]
  .exact R.pos k h hk
 .rintro⟨h1,h2,R⟩;refine⟨(AD5 ⟨h1,h2,λi j hi hj=>⟨R.sym i j hi hj,?_,?_⟩⟩).symm,?_⟩;.have:=AYc h1.2 R hi hj;omega
  .have:=AYc h1.2 R hi hj;omega
  .have h3:=(Ald (A:=ent M) (n:=M.length) M.length 0 (ent M) Wq h1.1 (by simp[det]) λi j _ _=>by rw[AFr,bW,bW]).2 ⟨λj _ hj=>R.pos j hj,λj _ hj=>by have:=AYb h1.2 R (k:=j) Wq;omega,λl i _ a b=>R.sz i l a b,λl _ hl=>R.lv l hl,R.dt⟩;simpa[det]using h3
open Go.ChangeShapes Go.WideShapes Go.ChangeAt Go.RowKit
theorem Atb:Tryz.prog.cellsOf 24=4:=by kernel_rfl
theorem Ale{H:Type}{enc:TypeId×bK->H}{W:World}{r:Reach}{b0:Nat}{d:DataW H}{p:List MemPlace}(hv:Value.okWide Tryz.prog W r b0 24 v)(h:DataW.Trod enc Tryz.prog W 0 (λ_=>true) true 24 v d p):∃(g k:Int)(lv bv:bK)(Z Y:List Int),v=.agg #[.int .u8 g,.int .u8 k,lv,bv]/\SlC (cI .i8) W.heap lv Z/\SlC (cI .i8) W.heap bv Y/\(0<=g/\g<256)/\(0<=k/\k<256)/\(∀z∈Z,-128<=z/\z<=127)/\∀z∈Y,-128<=z/\z<=127:=by
 obtain⟨cs,rfl,hsz⟩:=okWide_struct Tryz.underlying24 hv;rw[Atb]at hsz;obtain⟨l⟩:=cs;match l,hsz with
 |[c0,c1,c2,c3],_=>obtain⟨fuel,hf⟩:=h;obtain⟨y0,y1,y2,y3,n,_,_,h0,h1,h2,h3⟩:=Joins.trod_struct4 Tryz.underlying24 hf;simp[Value.cells,Auj,Auk]at h0 h1 h2 h3;obtain⟨x0,e0,_,w0⟩:=DataW.trod_int Tryz.underlying5 h0;obtain⟨x1,e1,_,w1⟩:=DataW.trod_int Tryz.underlying5 h1;simp at e0 e1;subst e0;subst e1;have b0:=wf_u8 w0;have b1:=wf_u8 w1;obtain⟨Z,HZ,hZ⟩:=Aul h2;obtain⟨Y,HY,hY⟩:=Aul h3;exact⟨x0,x1,c2,c3,Z,Y,rfl,Av1 HZ,Av1 HY,Wq,Wq,hZ,hY⟩
end Go.Proofs.YtgmdhndbcohgiaaGreatDoor
namespace Go.Proofs.YtgmdhndbcohgiaaGreatDoor
abbrev AK0(fuel:Nat)(a3:W1)(Ab:Int):Option (Int⊕Bool⊕Unit):=if Ab<(a3.length:Int)then(gI a3 Ab).bind λAc=>(gI a3 0).bind λAd=>if¬(Ac.length:Int)=(Ad.length:Int)then some<|aj<|ak<|false else some<|ak<|W3<|Ab+1 else some<|aj<|aj<|()
def AEe(fuel:Nat)(a3:W1):Option Bool:=(if(a3.length:Int)<1 then some (.inl false)else if 16<(a3.length:Int)then some (.inl false)else(gI a3 0).bind λAb=>if(Ab.length:Int)<1 then some (.inl false)else if 16<(Ab.length:Int)then some (.inl false)else some<|.inr ():Option (Bool⊕Unit)).bind λex=>match ex with|.inl Ac=>some Ac|.inr _=>(iter (λs=>AK0 fuel a3 s) fuel 0).bind λex=>match ex with|.inl Ad=>some Ad|.inr _=>some true 
theorem AWq{a3:W1}{r:Bool}(H2:Zv (cI .i64) h Aa a3)(hp:AEe fuel a3=some r):W6 Tryz.prog 172 #[Aa] h λx h'=>Ext h h'/\x=.bool r:=by unfold AEe at hp;refine cwf (l:=[_]) Tryz.func172 rfl rfl ?_;have ss:=ia (lz 2 134217700 [])<|ia (lz 0 2198486384660 [.i 29])<|trivial;exact zz (Xg.k0 h) hp
def AFk(fuel:Nat)(a3:W1):Option Bool:=(AEe fuel a3).bind λx5=>if x5=true then(gI a3 0).bind λAc=>if(a3.length:Int)=(Ac.length:Int)then some (decide ((a3.length:Int)<=8))else some false else some false
theorem AWp{a3:W1}{r:Bool}(H2:Zv (cI .i64) h Aa a3)(hp:AFk fuel a3=some r):W6 Tryz.prog 214 #[Aa] h λx h'=>Ext h h'/\x=.bool r:=by unfold AFk at hp;refine cwf (l:=[_]) Tryz.func214 rfl rfl ?_;exact zz (Xg.k0 h) hp
def AAj(fuel:Nat)(a1:Int):Option Int:=if a1<2 then some 1 else if 2147483647<a1 then some 1 else some 0
theorem APd{r:Int}(hp:AAj fuel a1=some r):W6 Tryz.prog 173 #[.int .i64 a1] h λx h'=>Ext h h'/\x=.int .i64 r:=by unfold AAj at hp;refine cwf (l:=[_]) Tryz.func173 rfl rfl ?_;exact zz (Xg.k0 h) hp
abbrev AIo(fuel:Nat)(a5:Int)(Ad:Int)(Ae:Ys)(Ab:Int)(Ac:W1):Option (Int×W1⊕W1):=if Ab<(Ae.length:Int)then(gI Ae Ab).bind λAg=>(gI Ac Ad).bind λAf=>if a5≠0 then if a5≠0 then(gI Af Ab).bind λAh=>some<|ak (W3<|Ab+1,sI Ac Ad<|sI Af Ab<|ao (W3<|ao Ag a5+a5) a5)else none else none else some<|aj<|Ac 
abbrev AIp(fuel:Nat)(a3:W1)(a5:Int)(Aa:Int)(Ac:W1):Option (Int×W1⊕W1):=if Aa<(a3.length:Int)then(gI a3 Aa).bind λAb=>if 0<=(Ab.length:Int)/\(Ab.length:Int)<=100000000 then(gI Ac Aa).bind λAg=>(iter (λs=>AIo fuel a5 Aa Ab s.1 s.2) fuel (0,sI Ac Aa<|au (aP (Ab.length:Int)) (0:Int))).bind λ(Af:W1)=>some<|ak (W3<|Aa+1,Af)else none else some<|aj<|Ac 
def ABd(fuel:Nat)(a3:W1)(a5:Int):Option W1:=if 0<=(a3.length:Int)/\(a3.length:Int)<=100000000 then(iter (λs=>AIp fuel a3 a5 s.1 s.2) fuel (0,au (aP (a3.length:Int)) ([]:List Int))).bind λ(Ac:W1)=>some Ac else none
theorem ATq{a3:W1}{r:W1}(H2:Zv (cI .i64) h Aa a3)(hp:ABd fuel a3 a5=some r):W6 Tryz.prog 174 #[Aa,.int .i64 a5] h λx h'=>Ext h h'/\∃(x0:bK)(F0:List Nat)(Af:List LnA)(Ag:List bK),x=x0/\Yv (cI .i64) 76 2 h' F0 Af Ag x0 r/\Sp h' h.size [F0]:=by unfold ABd at hp;refine cwf (l:=[_,_]) Tryz.func174 rfl rfl ?_;have ss:=ia (lz 0 281474976678848 [.i 15,.m 0])<|ia (lz 0 140737219920640 [.s [1],.i 28,.m 0])<|trivial;exact zz (Xg.k0 h) hp
def ADo(fuel:Nat)(a3:W1)(a5:Int):Option (W1×Int):=(AEe fuel a3).bind λx6=>if(!x6)=true then some ([],3)else(AAj fuel a5).bind λAc=>if¬Ac=0 then some ([],Ac)else(ABd fuel a3 a5).bind λx30=>some (x30,0)
theorem ATp{a3:W1}{r:W1×Int}(H2:Zv (cI .i64) h Aa a3)(hp:ADo fuel a3 a5=some r):W6 Tryz.prog 144 #[Aa,.int .i64 a5] h λx h'=>Ext h h'/\∃(x0:bK)(F0:List Nat)(Af:List LnA)(Ag:List bK),x=.tuple #[x0,.int .i64 r.2]/\Yv (cI .i64) 76 2 h' F0 Af Ag x0 r.1/\Sp h' h.size [F0]:=by unfold ADo at hp;refine cwf (l:=[_,_]) Tryz.func144 rfl rfl ?_;exact zz (Xg.k0 h) hp
abbrev APz(fuel:Nat)(a2:Int)(Ac:Int)(Ab:Int):Option (Int×Int⊕Int×Int):=if a2≠0 then if ao Ab a2=0 then if a2≠0 then some<|ak (W3<|Ac+1,W3<|bV Ab a2)else none else some<|aj<|(Ac,Ab)else none 
def AGx(fuel:Nat)(a1 a2:Int):Option Xe:=(iter (λs=>APz fuel a2 s.1 s.2) fuel (0,a1)).bind λ((Ac,Ad):Int×Int)=>some (Ac,1,Ad,0,0)
theorem AXw{r:Xe}(hp:AGx fuel a1 a2=some r):W6 Tryz.prog 191 #[.int .i64 a1,.int .i64 a2] h λx h'=>Ext h h'/\x=.agg #[.int .i64 r.1,.int .i64 r.2.1,.int .i64 r.2.2.1,.int .i64 r.2.2.2.1,.int .i64 r.2.2.2.2]:=by unfold AGx at hp;refine cwf (l:=[_,_]) Tryz.func191 rfl rfl ?_;have ss:=ia (lz 0 4194048 [.u 0 0 2])<|trivial;exact zz (Xg.k0 h) hp
def AFl(fuel:Nat)(a1 a2:Int):Option Int:=if a2≠0 then if a2≠0 then some (ao (W3<|ao a1 a2+a2) a2)else none else none
theorem AWr{r:Int}(hp:AFl fuel a1 a2=some r):W6 Tryz.prog 193 #[.int .i64 a1,.int .i64 a2] h λx h'=>Ext h h'/\x=.int .i64 r:=by unfold AFl at hp;refine cwf (l:=[_,_]) Tryz.func193 rfl rfl ?_;exact zz (Xg.k0 h) hp
abbrev AP0(fuel:Nat)(Ac:Int)(Aa:Int)(Ab:Int):Option (Int×Int⊕Int×Int):=if ao Aa 2=0 then if ao Ac 8=3 then some<|ak (W3<|bV Aa 2,W3<|0-Ab)else if ao Ac 8=5 then some<|ak (W3<|bV Aa 2,W3<|0-Ab)else some<|ak (W3<|bV Aa 2,Ab)else some<|aj<|(Aa,Ab)
abbrev AP1(fuel:Nat)(Ad:Int)(Aa:Int)(Ae:Int):Option (Int×Int×Int⊕Int×Int):=if¬Ad=0 then(iter (λs=>AP0 fuel Aa s.1 s.2) fuel (Ad,Ae)).bind λ((Ab,Ac):Int×Int)=>(if ao Ab 4=3 then if ao Aa 4=3 then some<|W3<|0-Ac else some<|Ac else some<|Ac:Option Int).bind λ(Af:Int)=>if Ab≠0 then some<|ak (ao Aa Ab,Ab,Af)else none else some<|aj<|(Aa,Ae)
def AJp(fuel:Nat)(a1 a2:Int):Option Int:=(iter (λs=>AP1 fuel s.1 s.2.1 s.2.2) fuel (a1,a2,1)).bind λ((Ac,Ad):Int×Int)=>if¬Ac=1 then some 0 else some Ad 
theorem AXy{r:Int}(hp:AJp fuel a1 a2=some r):W6 Tryz.prog 194 #[.int .i64 a1,.int .i64 a2] h λx h'=>Ext h h'/\x=.int .i64 r:=by unfold AJp at hp;refine cwf (l:=[_,_]) Tryz.func194 rfl rfl ?_;have ss:=ia (lz 0 137438953443 [.i 0,.i 1,.i 5])<|ia (lz 0 8388385 [.i 0,.i 5])<|ia (lz 1 8581546016 [.i 5])<|trivial;exact zz (Xg.k0 h) hp
abbrev AJq(fuel:Nat)(a1:Int)(Ab:Int)(Aa:Int):Option (Int×Int⊕Int×Int⊕Int×Int):=if ao Ab 2=0 then if ao a1 2=0 then some<|aj<|ak<|(0,0)else((AFl fuel a1 8).bind λAd=>if Ad=3 then some<|W3<|0-Aa else if Ad=5 then some<|W3<|0-Aa else some<|Aa:Option Int).bind λ(Ae:Int)=>some<|ak (W3<|bV Ab 2,Ae)else some<|aj<|aj<|(Ab,Aa)
def AD7(fuel:Nat)(a1 a2:Int):Option (Int×Int):=(if a1< -2147483647 then some (.inl (0,1))else if 2147483647<a1 then some (.inl (0,1))else if a2< -2147483647 then some (.inl (0,1))else if 2147483647<a2 then some (.inl (0,1))else some<|.inr ():Option (Int×Int⊕Unit)).bind λex=>match ex with|.inl Ad=>some Ad|.inr _=>if a2=0 then if a1=1 then some (1,0)else if a1=-1 then some (1,0)else some (0,0)else(if a2<0 then if a1<0 then some (W3<|0-a2,-1)else some (W3<|0-a2,1)else some (a2,1):Option (Int×Int)).bind λ((Ae,Af):Int×Int)=>(iter (λs=>AJq fuel a1 s.1 s.2) fuel (Ae,Af)).bind λex=>match ex with|.inl Ag=>some Ag|.inr (Ac,Ah)=>(AFl fuel a1 Ac).bind λAi=>(AJp fuel Ai Ac).bind λAj=>some (W3<|Ah*Aj,0)
theorem AUi{r:Int×Int}(hp:AD7 fuel a1 a2=some r):W6 Tryz.prog 155 #[.int .i64 a1,.int .i64 a2] h λx h'=>Ext h h'/\x=.tuple #[.int .i64 r.1,.int .i64 r.2]:=by unfold AD7 at hp;refine cwf (l:=[_,_]) Tryz.func155 rfl rfl ?_;have ss:=ia (lz 2 4194096 [])<|ia (lz 1 67645734978 [.i 1,.i 6])<|ia (lz 0 18014329790005490 [.i 1,.i 6])<|ia (lz 1 4499201580859584 [.i 6])<|trivial;exact zz (Xg.k0 h) hp
noncomputable abbrev AKl(fuel:Nat)(a1:Int)(a8:List Xe)(Ae:List Xm)(Ad:Int):Option (List Xm×Int⊕List Xm×Bool⊕List Xm):=if Ad<(a8.length:Int)then(gI a8 Ad).bind λAa=>(if¬Aa.2.1=1 then some<|ak<|([],false)else if Aa.1<0 then some<|ak<|([],false)else if 60<Aa.1 then some<|ak<|([],false)else if¬Aa.2.2.2.1=0 then some<|ak<|([],false)else if¬Aa.2.2.2.2=0 then some<|ak<|([],false)else if a1≠0 then if ao Aa.2.2.1 a1=0 then some<|ak<|([],false)else some<|aj<|()else none:Option (List Xm×Bool⊕Unit)).bind λex=>match ex with|ak Ai=>some<|aj<|ak<|Ai|aj _=>(if 0<Ad then(gI a8<|W3<|Ad-1).bind λAj=>if Aa.1<Aj.1 then some<|ak<|([],false)else some<|aj<|()else some<|aj<|():Option (List Xm×Bool⊕Unit)).bind λex=>match ex with|ak Ak=>some<|aj<|ak<|Ak|aj _=>(if Ad=0 then if Ae.length<=100000000 then some<|Ae++[(Aa.1,0,1,false,0)]else none else(gI a8<|W3<|Ad-1).bind λAm=>if Am.1<Aa.1 then if Ae.length<=100000000 then some<|Ae++[(Aa.1,0,1,false,0)]else none else some<|Ae:Option (List Xm)).bind λ(Ac:List Xm)=>if a1≠0 then(AD7 fuel (ao Aa.2.2.1 a1) a1).bind λ(Ao,Ap)=>(gI Ac<|W3<|(Ac.length:Int)-1).bind λAb=>(gI (sI Ac (W3<|(Ac.length:Int)-1) (Ab.1,W3<|Ab.2.1+1,Ab.2.2.1,Ab.2.2.2.1,Ab.2.2.2.2))<|W3<|(Ac.length:Int)-1).bind λAg=>some<|ak (sI (sI Ac (W3<|(Ac.length:Int)-1) (Ab.1,W3<|Ab.2.1+1,Ab.2.2.1,Ab.2.2.2.1,Ab.2.2.2.2)) (W3<|(Ac.length:Int)-1) (Ag.1,Ag.2.1,W3<|Ag.2.2.1*Ao,Ag.2.2.2.1,Ag.2.2.2.2),W3<|Ad+1)else none else some<|aj<|aj<|Ae 
noncomputable def AAz(fuel:Nat)(a1:Int)(a4:W1)(a8:List Xe):Option (List Xm×Bool):=((AMu fuel a1).bind λAc=>if(!Ac)=true then some (.inl ([],false))else if(a8.length:Int)<1 then some (.inl ([],false))else if 8<(a8.length:Int)then some (.inl ([],false))else some<|.inr ():Option (List Xm×Bool⊕Unit)).bind λex=>match ex with|.inl Ad=>some Ad|.inr _=>(iter (λs=>AKl fuel a1 a8 s.1 s.2) fuel ([],0)).bind λex=>match ex with|.inl Ae=>some Ae|.inr Af=>some (Af,true)
theorem AQl{Ab:bK}{a4:W1}{Ad:bK}{a8:List Xe}{r:List Xm×Bool}(H3:Zv (cI .i64) h Ab a4)(H7:SlC Ajn h Ad a8)(HO:AOd h)(hp:AAz fuel a1 a4 a8=some r):W6 Tryz.prog 103 #[.agg #[.int .i64 a1,Ab,Ad]] h λx h'=>Ext h h'/\∃(x0:bK)(F0:List Nat),x=.tuple #[x0,.bool r.2]/\OwC AJw 184 h' F0 x0 r.1/\Sp h' h.size [F0]:=by unfold AAz at hp;refine cwf (l:=[_]) Tryz.func103 rfl rfl ?_;have ss:=ia (lz 2 67107852 [])<|ia (lz 0 2722258935367507707706996859453608821756 [.N 2 184,.P 0 4,.i 29])<|ia (lz 2 36893488130239234060 [])<|ia (lz 2 604426016319167168249868 [])<|ia (lz 1 633824695651204893433764249616 [.P 1 4])<|trivial;exact zz (Xg.k0 h) hp
end Go.Proofs.YtgmdhndbcohgiaaGreatDoor
