/-
  Texts of a proof, joined. Conditions stand in each statement.
-/
import Derived.Test.YtgmdhndbcohgiaaGreatDoorMTopGenera8
set_option linter.unusedVariables false
set_option linter.unusedSimpArgs false
open Option renaming bind_some->aa
open Nat renaming lt_or_ge->ab,le_refl->ae,zero_le->ax,not_lt_zero->aG,pow_succ->aK,le_trans->aM,pow_le_pow_right->bh,mul_le_mul->bz,add_comm->bA,add_assoc->ck,one_le_two_pow->cn,lt_of_le_of_lt->co,zero_add->ct,sub_self->cu,pow_add->cy,le_of_lt->cR,le_of_ble_eq_true->cX,one_mul->de,strongRecOn->dy,pow_pos->dE,pow_mul->dF,pow_mod->dH,mul_mod->dI,add_mul->dJ
open Int renaming mul_le_mul_of_nonneg_left->ah,tmod_eq_emod_of_nonneg->ai,pow_add->aj,toNat_natCast->am,tmod->an,pow_succ->ao,dvd_trans->aq,mul_le_mul_of_nonneg_right->au,emod_lt_of_pos->av,mul_comm->aw,pow_pos->ay,one_mul->aA,emod_nonneg->aI,dvd_of_emod_eq_zero->aL,add_zero->aP,toNat->aU,zero_mul->aY,mul_zero->ba,le_of_lt->bc,mul_ediv_cancel_left->be,mul_assoc->bn,natAbs_mul->bt,dvd_refl->bw,pos_of_mul_pos_right->bx,mul_emod->bC,pow_zero->bI,le_trans->bJ,eq_of_mul_eq_mul_left->bL,le_of_dvd->bM,emod_eq_zero_of_dvd->bN,emod_emod_of_dvd->bR,mul_le_mul->bU,tmod_lt_of_pos->bV,tdiv_eq_ediv_of_nonneg->bW,emod_eq_of_lt->bX,lt_or_le->bZ,pow_ne_zero->b8,natCast_add->b9,mul_eq_zero->ca,pow_one->ce,mul_one->cg,mul_nonneg->ci,toNat_of_nonneg->cj,mul_nonpos_of_nonpos_of_nonneg->cq,add_emod->cv,dvd_sub->cC,dvd_add->cE,pow_succ'->cK,mul_tdiv_cancel_left->cM,tmod_eq_zero_of_dvd->cO,dvd_of_tmod_eq_zero->cP,one_pow->df,le_refl->dh,lt_tmod_of_pos->dq,natCast_mul->dz,tdiv->dC,emod_def->dD,pow_mul->dL,mul_pos->dM,mul_add->dN
open List renaming mem_singleton->ak,replicate->ap,mem_append->ar,getElem?_append_left->aF,getElem?_eq_getElem->aH,map_cons->aV,getElem?_append_right->bo,pairwise_append->bE,mem_of_getElem?->bG,cons_append->bH,getElem?_eq_some_iff->bK,mem_cons->bP,pairwise_cons->bT,mem_cons_of_mem->cb,take_add_one->cr,length_eq_zero_iff->cL,length_singleton->cT,length_replicate->cW,mem_append_left->cY,length_append->di,set_append->dr,range_succ->du,map_append->dw,range->dK
open Sum renaming inl->aJ,inr->bO
open Classical renaming byContradiction->bD,not_not->cQ
open BitVec renaming toNat_ofInt->bS,ofInt->cm,toNat_and->dp
open Go.Value renaming slice->cx,bool->cG
open Go renaming Value->cF
set_option maxRecDepth 100000
set_option maxHeartbeats 40000000
open Go Go.QF
variable{S A F G B H T T' G' D1:Go.QF.Wz}{x y q a d p s D t most:Int}{body:Int×List (List Int)->Option (Int×List (List Int)⊕List (List Int))}{fuel E f l k i j r K P:Nat}{g v w:Nat->Int}{α:Type}
namespace Go.Proofs.YtgmdhndbcohgiaaGreatDoor
abbrev ATg(fuel:Nat)(Ae:List<|Unit×List Ys)(Ab:Int)(Aa:Int)(Ac:W1):Option (Int×W1⊕W1):=if Aa<Ab then(gI Ac Ab).bind λAd=>(gI Ae Aa).bind λAf=>(gI Af.2<|W3<|Ab-Aa).bind λAg=>(gI Ag 0).bind λAh=>(gI Ad Aa).bind λAi=>some<|aJ (W3<|Aa+1,sI Ac Ab<|sI Ad Aa Ah)else some<|bO<|Ac 
abbrev AId(fuel:Nat)(a3:W1)(Ad:List<|Unit×List Ys)(Aa:Int)(Ab:Ys)(Ac:W1):Option (Int×Ys×W1⊕Ys×W1):=if Aa<(a3.length:Int)then(gI Ad Aa).bind λAf=>(gI Af.2 0).bind λAg=>(gI Ag 0).bind λAh=>(gI Ab<|W3<|Aa+1).bind λAj=>if 0<=Aa/\Aa<=100000000 then(gI Ac Aa).bind λAk=>(iter (λs=>ATg fuel Ad Aa s.1 s.2) fuel (0,sI Ac Aa<|ap (aU Aa) (0:Int))).bind λ(Ai:W1)=>some<|aJ (W3<|Aa+1,sI Ab (W3<|Aa+1) Ah,Ai)else none else some<|bO<|(Ab,Ac)
abbrev AKv(fuel:Nat)(Ae:Ys)(Af:W1)(Ag:Int)(Aa:Int):Option (Int⊕Unit):=if 0<=Aa then((gI Af Ag).bind λAh=>(gI Ah Aa).bind λAb=>(gI Ae<|W3<|Aa+1).bind λAc=>(AV5 fuel Ab Ab).bind λAd=>((ARw fuel Ad Ac).bind λAi=>if Ai<=0 then(Aqe fuel Ad).bind λAj=>(ARw fuel Aj Ac).bind λAk=>if Ak<=0 then some<|aJ<|()else some<|bO<|()else some<|bO<|():Option (Unit⊕Unit)).bind λex=>match ex with|aJ _=>some<|()|bO _=>none:Option Unit).bind λ(_:Unit)=>some<|aJ<|W3<|Aa-1 else some<|bO<|()
abbrev AEf(fuel:Nat)(Ab:Ys)(Ad:W1)(Af:W1)(Aa:Int):Option (Int⊕Unit):=if Aa<(Af.length:Int)then(iter (λs=>AKv fuel Ab Ad Aa s) fuel<|W3<|Aa-1).bind λ(_:Unit)=>((gI Ab Aa).bind λAe=>(gI Ad Aa).bind λAg=>(gI Ag<|W3<|Aa-1).bind λAc=>(gI Ab<|W3<|Aa-1).bind λAh=>(gI Ab<|W3<|Aa+1).bind λAi=>(ATe fuel Ah Ai).bind λAj=>(ATe fuel Ac Ac).bind λAk=>(AV5 fuel Aj Ak).bind λAm=>(Zz fuel Am Ae).bind λ(Ao,A5,A6)=>(ACu fuel 1).bind λAp=>(ACu fuel 1).bind λAq=>some<|(Ae,Ac,Ao,Ap,0,0,Aq):Option (Int×Int×Int×Int×Int×Int×Int)).bind λ(Ar,A7,Au,A8,A9,Ba,Bb)=>((ACu fuel 4).bind λAv=>(ACu fuel 3).bind λAw=>(ATe fuel Av Au).bind λAx=>(ATe fuel Aw Ar).bind λAy=>(ARw fuel Ax Ay).bind λAz=>some<|decide (Az<0):Option Bool).bind λA4=>if(!A4)=true then some<|aJ<|W3<|Aa+1 else none else some<|bO<|()
def AB3(fuel:Nat)(a3:W1):Option (W1×W1×Int):=(AH3 fuel a3).bind λ(x5,x6)=>if¬x6=0 then some ([],[],x6)else(ACu fuel 10000).bind λAf=>(ARw fuel x5 Af).bind λAg=>if 0<Ag then some ([],[],7)else((AAw fuel a3).bind λ(Ah,Au)=>if(0<=W3 ((a3.length:Int)+1)/\W3 ((a3.length:Int)+1)<=100000000)/\0<=(a3.length:Int)/\(a3.length:Int)<=100000000 then(ACu fuel 1).bind λAi=>(gI (ap (aU<|W3<|(a3.length:Int)+1) (0:Int)) 0).bind λAv=>(iter (λs=>AId fuel a3 Ah s.1 s.2.1 s.2.2) fuel (0,sI (ap (aU<|W3<|(a3.length:Int)+1) (0:Int)) 0 Ai,ap (aU (a3.length:Int)) ([]:List Int))).bind λ((Aj,Ak):Ys×W1)=>(AD8 fuel (a3.length:Int)).bind λ(Am,Aw)=>some (Aj,Ak,Am)else none:Option (Ys×W1×W1)).bind λ(Ao,Ap,Ac)=>((iter (λs=>AEf fuel Ao Ap Ac s) fuel 1).bind λ(_:Unit)=>some ():Option Unit).bind λ(_:Unit)=>(AB6 fuel Ac).bind λ(Ad,Ax)=>(ABm fuel a3 Ad).bind λ(Aq,Ay)=>(AB2 fuel Aq).bind λ(Ar,Az)=>some (Ar,Ad,0)
theorem Aa2{h:Ws}{Dh:cF}{a3:W1}{r:W1×W1×Int}(H2:Zv cZ h Dh a3)(hp:AB3 fuel a3=some r):W6 Tryz.prog 8 #[Dh] h λx h'=>Ext h h'/\∃(x0:cF)(F0:List Nat)(Ga:List LnA)(Gb:List cF)(x1:cF)(F1:List Nat)(Gc:List LnA)(Gd:List cF),x=.tuple #[x0,x1,.int .i64 r.2.2]/\Yv (cI .i64) 76 2 h' F0 Ga Gb x0 r.1/\Yv cZ 56 32 h' F1 Gc Gd x1 r.2.1/\Sp h' h.size [F0,F1]:=by
 unfold AB3 at hp;refine cwf (l:=[_]) Tryz.func8 rfl rfl (Xd<|X4<|X4<|ADt<|Wu ?_);have K0:=Xg.k0 h;obtain⟨⟨x5,x6⟩,Ge,Bn⟩:=Xq hp;dsimp only at Bn;refine AZl rfl (AV1 (H2.ext K0.x) Ge) λOy Oz E9 Gg=>?_;obtain⟨O0,rfl,Gh⟩:=Gg;obtain⟨O1,rfl,Gi⟩:=Gh.cs;refine Wu<|ABx rfl rfl (ABx rfl rfl (AK8 ((K0.e E9).az Gi) [.bool false,.slice none 0 0] AEz λO2 Gj O3 Dp=>AMd Dp p0 (X3 Gj) (Dp.z p1) λBo Be=>Xu<|Wx<|Xd<|Wu<|Avv rfl rfl (Xl<|⟨_,rfl,λBp=>?_,λBp=>?_⟩)));.refine Xd<|Wu<|X4<|X4<|Xu<|Xt<|Ze ?_;have Bf:=Xg.anil2 cZ 56 32<|Xg.anil2 (cI .i64) 76 2 Be;obtain rfl:=AA2<|AMb Bn Bp;exact⟨_,Ame,Bf.x,_,_,_,_,_,_,_,_,rfl,Bf.o2 p1,Bf.o2 p0,Bf.s.sel [1,0] Wr⟩
 .refine Xj<|Xr<|Wx<|Wx<|AAr (λh'=>Yg [] Bo h') Ww ?_;have Dq:Yg [] Bo Bo:=Yg.start all_nil;refine AXm (Be.z p1) Dq (Be.b p0) ?_;obtain⟨O4,Gk,Gl⟩:=Xq<|AMc Bn Bp;refine AXn Be Dq (ALz Gk) λO5 O6 O7 Bq Gm=>?_;obtain⟨O8,Gn,Dr⟩:=Xq Gl;refine A4s Bq Gm (Ano (Bq.z p2).2 (Bq.z p0).2 Gn) λO9 Pa Bg Pb=>Avt rfl rfl (Xl<|⟨_,rfl,λBr=>?_,λBr=>?_⟩);.refine Xd<|X4<|X4<|Xu<|Xt<|Ze ?_;have Bh:=Xg.anil2 cZ 56 32<|Xg.anil2 (cI .i64) 76 2 Bg;obtain rfl:=AA2<|AMb Dr Br;exact⟨_,Ame,Bh.x,_,_,_,_,_,_,_,_,rfl,Bh.o2 p1,Bh.o2 p0,Bh.s.sel [1,0] Wr⟩
  .refine Xj<|Xr<|Xd<|Wu ?_;obtain⟨Gp,Gq,Ds⟩:=Xq<|AMc Dr Br;refine Xf (K':=λxr h'=>∃x:Nat×Ys×cF×LnA×W1×cF×LnA×LnN×LvA×W1×cF×LnA×LnN×LvA,(x.2.1,x.2.2.2.2.1,x.2.2.2.2.2.2.2.2.2.1)=Gp/\xr=(.pointer<|some ⟨x.1,0,none⟩)/\Xg h h' (aB 59 x.1 [x.2.2.1,x.2.2.2.2.2.1,x.2.2.2.2.2.2.2.2.2.2.1,.func (.func 58) #[.pointer<|some ⟨x.1,0,none⟩] #[]]::aO cZ 32 x.2.2.2.1 x.2.2.1 x.2.1::aO2 cZ 56 32 x.2.2.2.2.2.2.1 x.2.2.2.2.2.2.2.1 x.2.2.2.2.2.2.2.2.1 x.2.2.2.2.2.1 x.2.2.2.2.1::aO2 cZ 56 32 x.2.2.2.2.2.2.2.2.2.2.2.1 x.2.2.2.2.2.2.2.2.2.2.2.2.1 x.2.2.2.2.2.2.2.2.2.2.2.2.2 x.2.2.2.2.2.2.2.2.2.2.1 x.2.2.2.2.2.2.2.2.2.1::Bg.L)) trivial rfl ?_ λPc Pd Gr=>?_
   .refine cwf (l:=[_]) Tryz.func20 rfl rfl (Xd<|ADt<|Wu<|AWe AA0 rfl H2 (ADt<|Wu ?_));obtain⟨⟨Gt,Pe⟩,Gu,Dt⟩:=Xq Gq;dsimp only at Dt;refine AZl rfl (AN8 (H2.ext Bg.x) Gu) λPf Pg Gv Gw=>?_;obtain⟨Gx,Gy,Gz,rfl,G3,G4⟩:=Gw;have Du:=Bg.n Gv [aX cHM fzM 34 Gy Gz Gx Gt] G4 ⟨G3,trivial⟩;simp only[bH,List.nil_append]at Du;refine Wu<|ABx rfl rfl (ABx rfl rfl (X4<|Xu<|Wx ?_));obtain⟨G5,G6⟩:=ifN Dt;refine BCq (a3.length:Int) Du rfl G5 Ww Ww Ww Ww λDv G7 Aw Am G8 G9 Pj Bt=>?_;obtain⟨_,_,_,Hb⟩:=(Bt.o p1).rd.shape;obtain⟨_,_,_,Hc⟩:=(Bt.o2 p0).rd.shape;refine AE8 (v:=.agg #[Aw,Am,.slice none 0 0,.nilFunc]) (λ_=>by subst Hb;subst Hc;kernel_rfl)<|Aan Bt [Aw,Am,.slice none 0 0,.nilFunc] λDw Bu Pl Bv=>Xu<|Wx<|AAr (λh'=>Yg [] Bu h') Ww ?_;have Dx:Yg [] Bu Bu:=Yg.start all_nil;refine Wu<|AOc rfl (ASc ASd rfl (AAm AB8 rfl Dx (λh' hb=>((Bv.b p0).ext hb.ext).cell (i:=0) rfl) ?_));obtain⟨Hd,He,Hf⟩:=Xq G6;refine AXn Bv Dx (ALz He) λPm Pn Pp Az Pq=>?_;obtain⟨Ps,Dy,Hg⟩:=Xq Hf;refine AIz ABg rfl (Bv.o p2) rfl Dy λPt Hh=>AT9 (APp Ye (cZ.klen<|Az.z p0) rfl rfl (cZ.one<|Az.z p0)) (Az.o p3) Hh Dy (Az.z p0) λPu Hj Dz=>Xl<|Wx<|Xd<|Wu<|Wu<|Xl<|W8 ?_;have Pw:=Dz.size;have Bw:=(Az.uO p3 Dz Hj).sel [1,2,3,4,5,6,7] Wr;dsimp only[AE4,AG9]at Bw;refine Ac4 4835703278458515625083264 (λx:Int×Ys×W1×LnA×LnN×LvA=>(x.1,x.2.1,x.2.2.1)) ((0,sI (ap (aU<|W3<|(a3.length:Int)+1) (0:Int)) 0 Hd,ap (aU (a3.length:Int)) ([]:List Int),[G7],G8,G9):Int×Ys×W1×LnA×LnN×LvA) Hg (λx=>[(30,.int .i64 x.1)]) (λx=>(Bw.L.set 2<|aO cZ 32 [Dv] Aw x.2.1).set 1 (aO2 cZ 56 32 x.2.2.2.1 x.2.2.2.2.1 x.2.2.2.2.2 Am x.2.2.1)) Bw ⟨rfl,trivial⟩ ?_;rintro⟨A4,Hk,Hl,Hn,Bx,D0⟩Px Py Pz A5 By Ho;unfold AId at By;refine Xd<|AF5 rfl rfl (Xl<|Wx<|⟨_,rfl,λBz=>?_,λBz=>?_⟩)
    .refine Xj<|Xr<|Wx<|W8<|Xd<|Wu<|Xu<|Wx<|Avs<|Wu<|AOc rfl (Aj3 ASd AB8 (A5.b p0) 0 rfl (Wu<|AFo rfl rfl (Wu<|Wu ?_)));obtain⟨P0,Hq,Hr⟩:=Xq<|AMb By Bz;refine Apy Ahc rfl (A5.ox p3) rfl Hq λP1 P4 P5 P6 Hs Ht Hu Hv=>?_;obtain⟨rfl,P7⟩:=Hu;refine Yf AJ5 rfl (Hv 0 _ rfl) ?_;obtain⟨P8,Hw,Hx⟩:=Xq Hr;refine ARd AA0 rfl (AQj (A5.ox p3) Hs Ht) rfl Hw λP9 Qa Qb Hy Hz=>Yf AB8 rfl Hy ?_;obtain⟨Qc,H9,Ia⟩:=Xq Hx;refine ALw (c:=cZ) ABg rfl Hz rfl H9 λQd Qe Qf Ib Ic=>?_;have Ao:=A5.az Ib;refine AK5 (c:=cZ) Ye rfl (Ao.z p0) (λj u hu=>Ic j u hu) ?_;obtain⟨Qg,D4,Id⟩:=Xq Ia;refine AIz ABg rfl (Ao.o p3) rfl D4 λQh Ie=>AT9 (APp Ye (cZ.klen<|Ao.z p0) rfl rfl (cZ.one<|Ao.z p0)) (Ao.o p3) Ie D4 (Ao.z p0) λB2 If Ih=>Xl<|Wx<|AAr (λh'=>Yg [] B2 h') Ww ?_;have B3:=Ao.uO p3 Ih If;have B4:Yg [] B2 B2:=Yg.start all_nil;refine Wu<|AOc rfl (ASc AXo rfl (AAm AJ5 rfl B4 (λh' hb=>((B3.b p1).ext hb.ext).cell (i:=1) rfl) (Wu<|Wu ?_)));obtain⟨Ii,Ij⟩:=ifN Id;refine AZf ABg AEz rfl B4 (λ_ E=>B4.thenE E) rfl rfl Wr Ii λD5 Ik Qi Il D6 Im Io=>?_;have Qj:=D6.1;have Bi:=B3.no D6 (AFj Im Io) Il;obtain⟨Qk,D7,Ip⟩:=Xq Ij;refine AT8 AA0 rfl (B3.o2 p2) rfl D7 λIq Ql Ir Qm Qn=>Au0 AB8 (Bi.o2 p3) D7 Ir rfl rfl (Bi.o p0) (Bi.dj p0 p3 Wr) λQo Is D8 It=>ATj<|Wu<|Wu<|Xl<|W8 ?_;have Qp:=D8.size;have B5:=(Bi.m2 p0 p3 Wr D8 Is λz hz=>.inl<|It z hz).sel [2,3,4,5,6,7,8] Wr;dsimp only[AE4,AG9]at B5;refine Ac5 2417851495114070273556736 Ip (λx=>[(57,.int .i64 x.1)]) (λx=>B5.L.set 1<|aO2 cZ 56 32 (Iq::(Bx.set (aU A4) [D5]).flatten) (Bx.set (aU A4) [D5]) (D0.set (aU A4) Ik) Am x.2) B5 ⟨rfl,trivial⟩ ?_;rintro⟨Qq,Qr⟩Qs Qt Qu Ax B6 Iu;unfold ATg at B6;refine Xd<|AF5 rfl rfl (Xl<|Wx<|⟨_,rfl,λB7=>?_,λB7=>?_⟩);.refine Xj<|Xr<|Wx<|W8<|Xd<|Wu<|Xu<|Avs<|Wu<|AOc rfl (Aj3 AXo AJ5 (Ax.b p0) 1 rfl (Wu ?_));obtain⟨Qv,B8,Iv⟩:=Xq<|AMb B6 B7;refine Avr AA0 AB8 (Ax.o2 p1) B8 λ_ Qw Iw=>Wu<|Wu<|Wu ?_;obtain⟨Qx,Ix,Iy⟩:=Xq Iv;refine Apy Ahc rfl (Ax.ox p3) rfl Ix λQy Qz Q0 Q1 Iz I0 I1 I2=>?_;obtain⟨rfl,Q2⟩:=I1;refine Yf AJ5 rfl (I2 0 _ rfl) (Wu<|Wu<|AOr rfl rfl ?_);obtain⟨Q3,I3,I4⟩:=Xq Iy;refine ARd AA0 rfl (AQj (Ax.ox p3) Iz I0) rfl I3 λQ4 Q6 Q7 I5 I6=>Yf AB8 rfl I5 ?_;obtain⟨Q8,I7,I8⟩:=Xq I4;refine ALw (c:=cZ) ABg rfl I6 rfl I7 λQ9 Rc Rd Ja Jc=>?_;have Ap:=Ax.az Ja;refine AK5 (c:=cZ) Ye rfl (Ap.z p0) (λj u hu=>Jc j u hu) ?_;obtain⟨Re,D9,Je⟩:=Xq I8;refine Agw (m:=A4) ABg rfl (Ap.o2 p2) Iw B8 rfl D9 λRf Jf=>Ams (m:=A4) (APp Ye (cZ.klen<|Ap.z p0) rfl rfl (cZ.one<|Ap.z p0)) (Ap.o2 p2) Jf B8 D9 (Ap.z p0) λRg Jg Jh=>W0<|q_b<|Xr<|W5<|AFo rfl rfl (Wu<|Xl ?_);exact⟨_,(AA2 Je).symm,(Ap.uO2 p2 Jh Jg).sel [1,2,3,4,5,6,7] Wr,rfl,trivial⟩
     .exact zy Ax (Iu _ (AA2<|AMc B6 B7).symm) Ds
    .refine Y9<|Zj<|Zj<|AEo<|Xr<|Xd<|Wu<|Wu ?_;obtain⟨⟨Ji,Rh⟩,Jj,Ea⟩:=Xq<|Ho _ (AA2<|AMc By Bz).symm;dsimp only at Ea;refine AZl rfl (ANa Jj) λRi Rj Jk Jl=>?_;obtain⟨B9,Jm,Jn,Jo,rfl,Jp,Jq⟩:=Jl;refine Wu<|ABx rfl rfl (ABx rfl rfl (AOc rfl (ASc Abo rfl ?_)));have Ca:=A5.no2 Jk Jq Jp;refine ARc [Aw,Am,B9,.nilFunc] AJ5 rfl rfl (Ca.o2 p0).isOne (Ca.b p1) (cX rfl) rfl λRm Jr Js=>ATj<|Wu<|Wu<|BA1 rfl (AOc rfl (ASc Ag8 rfl ?_));have Eb:=Ca.sb p1 Js Jr rfl;refine ARc [Aw,Am,B9,.func (.func 58) #[.pointer<|some ⟨Dw,0,none⟩] #[]] Ana rfl rfl rfl (Eb.b p1) (cX rfl) rfl λRn Jt Ju=>ATj<|Wu<|Xu<|Xt<|⟨_,Ya,((Dw,Hk,Aw,[Dv],Hl,Am,Hn,Bx,D0,Ji,B9,Jm,Jn,Jo):Nat×Ys×cF×LnA×W1×cF×LnA×LnN×LvA×W1×cF×LnA×LnN×LvA),?_,rfl,?_⟩;.exact AA2 Ea
     .exact(Eb.sb p1 Ju Jt rfl).sel [1,3,2,0,5,6,7] Wr
   obtain⟨⟨Jv,Ro,Rq,Rr,Rs,Rt,Ru,Rv,Rw,Rx,Ry,Rz,R3,R4⟩,Jw,rfl,Cb⟩:=Gr;refine⟨trivial,?_⟩;subst Jw;refine ADt<|Wu ?_;obtain⟨Jx,Jy,Ec⟩:=Xq Ds;refine Xf (K':=λxr h'=>∃x:Unit,()=Jx/\xr=.tuple #[]/\Xg h h' Cb.L) trivial rfl ?_ λR5 R6 Jz=>?_
   .refine cwf (l:=[_]) Tryz.func21 rfl rfl (Xd<|Xu<|W8<|Ac5 549755813884 Jy (λx=>[(2,.int .i64 x)]) (λx=>Cb.L) Cb ⟨rfl,trivial⟩ ?_);rintro Cd R7 R8 R9 A6 Ce J0;unfold AEf at Ce;refine Wx<|Xd<|Wu<|Wu<|AOc rfl (Aj3 Abo AJ5 (A6.b p0) 2 rfl (AWe AA0 rfl (A6.o2 p3).rd (AF5 rfl rfl (Xl<|⟨_,rfl,λCf=>?_,λCf=>?_⟩))))
    .refine Xj<|Xr<|W8<|Wx<|Xd<|Wu<|AOr rfl rfl (Xu<|W8<|Ac5 33538056 (AMb Ce Cf) (λx=>[(3,.int .i64 x)]) (λx=>A6.L) A6 ⟨rfl,trivial⟩ ?_);rintro J1 Sa Cg Sb Ad Ch J2;unfold AKv at Ch;refine Wx<|Xd<|Wu<|Avu rfl rfl (Xl<|⟨_,rfl,λCi=>?_,λCi=>?_⟩)
     .refine Xj<|Xr<|Wx<|W8<|W5<|Wu<|AOc rfl (Aj3 Ag8 Ana (Ad.b p0) 3 rfl (Wu<|Wu ?_));obtain⟨J3,J4,J5⟩:=Xq<|AMb Ch Ci;refine A1b (l:=[.int .i64 Cd,.int .i64 J1]) (bd:=[.pointer<|some ⟨Jv,0,none⟩]) (K':=λxr h'=>∃x:Unit,()=J3/\xr=.tuple #[]/\Xg h h' Ad.L) trivial rfl rfl ?_ λSc Sd J6=>?_
      .refine cwf (l:=[_,_,_]) Tryz.func58 rfl rfl (Wx ?_);have Ag:Yg [] Cg Cg:=Yg.start all_nil;refine AXj (B:=λh'=>Yg [] Cg h') 18 [⟨6,32,[.bool false,.slice none 0 0]⟩,⟨7,32,[.bool false,.slice none 0 0]⟩] (λ_ _ U E=>U.thenE E) Ww Ag (Ac1 rfl rfl AEz rfl AEz rfl λ_ _ U E=>U.thenE E)<|h_l rfl (Wu<|W0<|h_l rfl (AOc rfl (W0<|h_l rfl (ASc AXo rfl (W0<|h_l rfl (AAm AJ5 rfl Ag (λh' hb=>((Ad.b p0).ext hb.ext).cell (i:=1) rfl) (W0<|h_l rfl (Wu<|W0<|h_l rfl ?_))))))));obtain⟨Se,Cj,J7⟩:=Xq J4;refine AT8 AA0 rfl (Ad.o2 p2) rfl Cj λSf Sg Sh J8 J9=>W0<|h_l rfl (AAm AB8 rfl Ag (λh' hb=>Yq J9 hb.ext) (W0<|h_l rfl (Wu<|W0<|h_l rfl ?_)));obtain⟨Si,Ed,Ka⟩:=Xq J7;refine Agw (m:=Cd) ABg rfl (Ad.o2 p2) J8 Cj rfl Ed λSj Kb=>W0<|h_l rfl ?_;obtain⟨Kc,Ee,Kd⟩:=(Ad.o2 p2).cells Kb Cj Ed;refine AWd (c:=cZ) Ye rfl Ee Ag (λh' hb j u hu=>Yq (Kd j u hu) hb.ext) (W0<|h_l rfl (Wu<|W0<|h_l rfl (AOc rfl (W0<|h_l rfl (ASc ASd rfl (W0<|h_l rfl (AAm AB8 rfl Ag (λh' hb=>((Ad.b p0).ext hb.ext).cell (i:=0) rfl) (W0<|h_l rfl (Wu<|W0<|h_l rfl (AFo rfl rfl (W0<|h_l rfl ?_)))))))))));obtain⟨Sk,Ef,Ke⟩:=Xq Ka;refine AIz ABg rfl (Ad.o p1) rfl Ef λSm Kf=>W0<|h_l rfl ?_;obtain⟨Kg,Eg,Kh⟩:=(Ad.o p1).cells Kf Ef;refine AWd (c:=cZ) Ye rfl Eg Ag (λh' hb j u hu=>Yq (Kh j u hu) hb.ext) (W0<|Afi λKi Ck=>A0z λSn So Eh Ei Kj Kk Kl Sq Sr=>b_w ?_);have Ss:=Ck.1;have Ej:=Ag.thenE Ck;have Ek:=((Ad.az<|cZ.upT Ee Ag).az (cZ.upT Eg Ag)).e Ck;have Cm:=AZk Kk Kl Eh.lt Ei.lt Kj;have A7:=((Ad.nb2 Ej.ext Cm Eh Ei).az (Ek.z p1)).az (Ek.z p0);refine AAn Kc Ye (cZ.klen<|A7.z p1) (cZ.klen<|X3 Ki) rfl rfl (cZ.one<|A7.z p1) (A7.b p2) λKm El Cn=>?_;have St:=Cn.1;have Em:=Ej.then (El.stA Cn (AJg (A7.b p2) rfl) rfl)<|AWc (Cm.loAll 0 rfl) Wq;have A8:=A7.sb p2 Cn El rfl;refine W0 ⟨Em,?_⟩;refine b_w<|AAn Kg Ye (cZ.klen<|A8.z p0) (cZ.klen<|X3 Km) rfl rfl (cZ.one<|A8.z p0) (A8.b p3) λSu En Co=>?_;have Sv:=Co.1;have Aq:=A8.sb p3 Co En rfl;refine W0 ⟨Em.then (En.stA Co (AJg (A8.b p3) rfl) rfl)<|AWc (Cm.loAll 1 rfl) Wq,?_⟩;refine Aps<|Xr<|Xd<|Ac3 (Aq.z p1) (Aq.b p2)<|Ac3 (Aq.z p1) (Aq.b p2) ?_;obtain⟨Sw,Kp,Kr⟩:=Xq Ke;refine Asb Aq (Ann (Aq.z p1).2 (Aq.z p1).2 Kp) λSx Sy S5 Kt=>AK8 Kt [.bool false,.slice none 0 0] AEz λS6 Ku S7 Eo=>AMd Eo p0 (X3 Ku) (Eo.z p1) λTa Ep=>Xl ?_;obtain⟨Kv,Kw,Er⟩:=Xq Kr;refine A05 70334384439296 (λx:Unit=>[]) (λx h'=>(bO<|())=Kv/\Xg h h' (AE4 Ep.L [2,3,4,5,6,7,8,9,10,11,12])) ?_ ?_;.exact zy Ep Kw Er
       rintro⟨⟩Tb Tc⟨Kx,Td⟩;subst Kx;refine Wx ?_;cases Er
      obtain⟨⟨⟩,Ky,rfl,Kz⟩:=J6;refine⟨trivial,?_⟩;subst Ky;exact zz Kz J5
     .refine Y9<|Zj<|Zj<|AEo<|Xr<|Xd<|Wu<|Wu ?_;obtain⟨K8,K9,La⟩:=Xq<|J2 _ (AA2<|AMc Ch Ci).symm;refine Xf (K':=λxr h'=>∃x:Int×LvA×Int×LvA×Int×LvA×Int×LvA×Int×LvA×Int×LvA×Int×LvA,(x.1,x.2.2.1,x.2.2.2.2.1,x.2.2.2.2.2.2.1,x.2.2.2.2.2.2.2.2.1,x.2.2.2.2.2.2.2.2.2.2.1,x.2.2.2.2.2.2.2.2.2.2.2.2.1)=K8/\xr=.agg (x.2.1++(x.2.2.2.1++(x.2.2.2.2.2.1++(x.2.2.2.2.2.2.2.1++(x.2.2.2.2.2.2.2.2.2.1++(x.2.2.2.2.2.2.2.2.2.2.2.1++x.2.2.2.2.2.2.2.2.2.2.2.2.2)))))).toArray/\Xg h h' (aZ x.2.1 x.1::aZ x.2.2.2.1 x.2.2.1::aZ x.2.2.2.2.2.1 x.2.2.2.2.1::aZ x.2.2.2.2.2.2.2.1 x.2.2.2.2.2.2.1::aZ x.2.2.2.2.2.2.2.2.2.1 x.2.2.2.2.2.2.2.2.1::aZ x.2.2.2.2.2.2.2.2.2.2.2.1 x.2.2.2.2.2.2.2.2.2.2.1::aZ x.2.2.2.2.2.2.2.2.2.2.2.2.2 x.2.2.2.2.2.2.2.2.2.2.2.2.1::Ad.L)) trivial rfl ?_ λTe Tf Lb=>?_
      .refine cwf (l:=[_,_]) Tryz.func59 rfl rfl (Xd<|AK8 Ad [.bool false,.slice none 0 0,.bool false,.slice none 0 0,.bool false,.slice none 0 0,.bool false,.slice none 0 0,.bool false,.slice none 0 0,.bool false,.slice none 0 0,.bool false,.slice none 0 0] Anb λTg Cp Th Ah=>Xl<|Wx ?_);have Ai:Yg [] Cp Cp:=Yg.start all_nil;refine AXj (B:=λh'=>Yg [] Cp h') 18 [⟨5,32,[.bool false,.slice none 0 0]⟩,⟨6,32,[.bool false,.slice none 0 0]⟩] (λ_ _ U E=>U.thenE E) Ww Ai (Ac1 rfl rfl AEz rfl AEz rfl λ_ _ U E=>U.thenE E)<|h_l rfl (Wu<|W0<|h_l rfl (AOc rfl (W0<|h_l rfl (ASc ASd rfl (W0<|h_l rfl (AAm AB8 rfl Ai (λh' hb=>((Ah.b p1).ext hb.ext).cell (i:=0) rfl) (W0<|h_l rfl (Wu<|W0<|h_l rfl ?_))))))));obtain⟨Ld,Es,Le⟩:=Xq K9;refine AIz ABg rfl (Ah.o p2) rfl Es λTi Lf=>W0<|h_l rfl ?_;obtain⟨Cq,Et,Lg⟩:=(Ah.o p2).cells Lf Es;refine AWd (c:=cZ) Ye rfl Et Ai (λh' hb j u hu=>Yq (Lg j u hu) hb.ext) (W0<|h_l rfl (Wu<|W0<|h_l rfl (AOc rfl (W0<|h_l rfl (ASc AXo rfl (W0<|h_l rfl (AAm AJ5 rfl Ai (λh' hb=>((Ah.b p1).ext hb.ext).cell (i:=1) rfl) (W0<|h_l rfl (Wu<|W0<|h_l rfl ?_)))))))));obtain⟨Tj,Cr,Li⟩:=Xq Le;refine AT8 AA0 rfl (Ah.o2 p3) rfl Cr λTk Tl Tm Lj Lk=>W0<|h_l rfl (AAm AB8 rfl Ai (λh' hb=>Yq Lk hb.ext) (W0<|h_l rfl (Wu<|W0<|h_l rfl (AOr rfl rfl (W0<|h_l rfl ?_)))));obtain⟨Ll,Eu,Lm⟩:=Xq Li;refine Agw (m:=Cd) ABg rfl (Ah.o2 p3) Lj Cr rfl Eu λTn Lo=>W0<|h_l rfl ?_;obtain⟨Ct,Ev,Lq⟩:=(Ah.o2 p3).cells Lo Cr Eu;refine AWd (c:=cZ) Ye rfl Ev Ai (λh' hb j u hu=>Yq (Lq j u hu) hb.ext) (W0<|Afi λLr Cu=>A0z λTo Tp Ew Ey Lv Lw Lx Tq Tr=>b_w ?_);have Ts:=Cu.1;have Ez:=Ai.thenE Cu;have Fa:=((Ah.az<|cZ.upT Et Ai).az (cZ.upT Ev Ai)).e Cu;have Cv:=AZk Lw Lx Ew.lt Ey.lt Lv;have A9:=((Ah.nb2 Ez.ext Cv Ew Ey).az (Fa.z p1)).az (Fa.z p0);refine AAn Cq Ye (cZ.klen<|A9.z p1) (cZ.klen<|X3 Lr) rfl rfl (cZ.one<|A9.z p1) (A9.b p2) λLy Fb Cw=>?_;have Tt:=Cw.1;have Fc:=Ez.then (Fb.stA Cw (AJg (A9.b p2) rfl) rfl)<|AWc (Cv.loAll 0 rfl) Wq;have Ba:=A9.sb p2 Cw Fb rfl;refine W0 ⟨Fc,?_⟩;refine b_w<|AAn Ct Ye (cZ.klen<|Ba.z p0) (cZ.klen<|X3 Ly) rfl rfl (cZ.one<|Ba.z p0) (Ba.b p3) λCx Fd Cy=>?_;have Tu:=Cy.1;have Af:=Ba.sb p3 Cy Fd rfl;refine W0 ⟨Fc.then (Fd.stA Cy (AJg (Ba.b p3) rfl) rfl)<|AWc (Cv.loAll 1 rfl) Wq,?_⟩;refine Aps<|Xr<|Wx ?_;have Ak:Yg [] Cx Cx:=Yg.start all_nil;refine Abl (B:=λh'=>Yg [] Cx h') 21 [⟨7,32,[.bool false,.slice none 0 0]⟩] (λ_ _ U E=>U.thenE E) Ww Ak (Avl rfl AEz rfl λ_ _ U E=>U.thenE E)<|h_l rfl (Wu<|W0<|h_l rfl (AOc rfl (W0<|h_l rfl (ASc ASd rfl (W0<|h_l rfl (AAm AB8 rfl Ak (λh' hb=>((Af.b p5).ext hb.ext).cell (i:=0) rfl) (W0<|h_l rfl (Wu<|W0<|h_l rfl (AOr rfl rfl (W0<|h_l rfl ?_))))))))));obtain⟨Tv,Fe,Lz⟩:=Xq Lm;refine AIz ABg rfl (Af.o p6) rfl Fe λTw L9=>W0<|h_l rfl ?_;obtain⟨Tx,Ff,Ma⟩:=(Af.o p6).cells L9 Fe;refine AWd (c:=cZ) Ye rfl Ff Ak (λh' hb j u hu=>Yq (Ma j u hu) hb.ext) (W0<|h_l rfl (Wu<|W0<|h_l rfl (AOc rfl (W0<|h_l rfl (ASc ASd rfl (W0<|h_l rfl (AAm AB8 rfl Ak (λh' hb=>((Af.b p5).ext hb.ext).cell (i:=0) rfl) (W0<|h_l rfl (Wu<|W0<|h_l rfl (AFo rfl rfl (W0<|h_l rfl ?_)))))))))));obtain⟨Tz,Fg,Mb⟩:=Xq Lz;refine AIz ABg rfl (Af.o p6) rfl Fg λT0 Mc=>W0<|h_l rfl ?_;obtain⟨T3,Fh,Md⟩:=(Af.o p6).cells Mc Fg;refine AWd (c:=cZ) Ye rfl Fh Ak (λh' hb j u hu=>Yq (Md j u hu) hb.ext) (W0<|h_e rfl λT4 Cz=>?_);have T5:=Cz.1;have C0:=((Af.az<|cZ.upT Ff Ak).az (cZ.upT Fh Ak)).e Cz;obtain⟨T6,Me,Mf⟩:=Xq Mb;refine AXn C0 (Ak.thenE Cz) (Adg (C0.z p1).2 (C0.z p0).2 Me) λT7 T8 Mg C1 C4=>W0 ⟨Mg,?_⟩;refine h_l rfl (AXm (C1.z p3) C4 (Af.b p3)<|W0<|h_l rfl (AXm (C1.z p3) C4 (Af.b p3)<|W0<|h_e rfl λT9 C5=>?_));have Ua:=C5.1;have C6:=C1.e C5;obtain⟨Ub,Mh,Mi⟩:=Xq Mf;refine AXn C6 (C4.thenE C5) (Adg (C6.z p3).2 (C6.z p3).2 Mh) λUc Ud Mj Mk Ml=>W0 ⟨Mj,?_⟩;refine h_e rfl λUe C7=>?_;have Uf:=C7.1;have C8:=Mk.e C7;obtain⟨Ug,Mm,Mo⟩:=Xq Mi;refine AXn C8 (Ml.thenE C7) (Ann (C8.z p1).2 (C8.z p0).2 Mm) λMq Uh Mr Ms Mt=>W0 ⟨Mr,?_⟩;refine Afi λMu C9=>BAs λUi Fi Mv Uj=>?_;have Uk:=C9.1;have Bb:=Ms.e C9;have Bj:=(((((Af.nb (Mt.thenE C9).ext (AFj Mv Fi.lt) Fi).az (Bb.z p4)).az (Bb.z p3)).az (Bb.z p2)).az (Bb.z p1)).az (Bb.z p0);refine AAn Mq Ye (cZ.klen<|Bj.z p0) (cZ.klen<|X3 Mu) rfl rfl (cZ.one<|Bj.z p0) (Bj.b p5) λUl Mw Fj=>ATj ?_;have Um:=Fj.1;have Ar:=Bj.sb p5 Fj Mw rfl;refine Ac3 (Ar.z p0) (Ar.b p5)<|Ac3 (Ar.z p7) (Ar.b p8) ?_;obtain⟨⟨Mx,Uo,Up⟩,My,Fk⟩:=Xq Mo;dsimp only at Fk;refine AZl rfl (Afp (Ar.z p0).2 (Ar.z p7).2 My) λUq Ur Mz M0=>?_;obtain⟨Us,Ut,rfl,M1,M2⟩:=M0;obtain⟨Fl,rfl,M4⟩:=M1.cs;obtain⟨Uu,rfl,M5⟩:=M2.cs;refine Wu<|ABx rfl rfl (ABx rfl rfl (ABx rfl rfl (AK8 (((Ar.e Mz).az M4).az M5) [.bool false,.slice none 0 0] AEz λUv Uw Ux M6=>AK8 M6 [.bool false,.slice none 0 0] AEz λUy M7 Uz Fo=>AMd Fo p1 (X3 M7) (Fo.z p3) λM8 Fp=>AMd Fp p0 (X3 M8) (Fp.z p2) λDa Au=>Xu<|Wx<|AAr (λh'=>Yg [] Da h') Ww ?_)));have Bl:Yg [] Da Da:=Yg.start all_nil;refine AXm (Au.z p11) Bl (Au.b p12)<|AXm (Au.z p10) Bl (Au.b p13)<|AXm (Au.z p3) Bl (Au.b p1) ?_;obtain⟨M9,Na,Nb⟩:=Xq Fk;refine AXn Au Bl (ALz Na) λFq Nc U0 Ft Nd=>AE8 AUb<|AE8 (Aj4 (Ft.z p0)<|X3 Nc)<|AE8 AUb ?_;obtain⟨Nf,Ng,Nh⟩:=Xq Nb;refine AXn Ft Nd (ALz Ng) λFu Ac U3 Aa U8=>AE8 (Aj4 (X3 Ac)<|Aa.z p0)<|AE8 (Ase (Aa.z p13) (Aa.z p12) (Aa.z p5) (Aa.z p1) (X3 Ac) (X3 Ac)<|Aa.z p0)<|AAn (Cq++(Ct++(Fl++(Fq++([cG false,cx none 0 0]++([cG false,cx none 0 0]++Fu)))))) Ag9 (ALl (cZ.klen<|Aa.z p13)<|ALl (cZ.klen<|Aa.z p12)<|ALl (cZ.klen<|Aa.z p5)<|ALl (cZ.klen<|Aa.z p1)<|ALl (cZ.klen<|X3 Ac)<|ALl (cZ.klen<|X3 Ac)<|cZ.klen<|Aa.z p0) (ALl (cZ.klen<|X3 Ac)<|ALl (cZ.klen<|X3 Ac)<|ALl (cZ.klen<|X3 Ac)<|ALl (cZ.klen<|X3 Ac)<|ALl (cZ.klen<|X3 Ac)<|ALl (cZ.klen<|X3 Ac)<|cZ.klen<|X3 Ac) rfl rfl (Aaz (cZ.one<|Aa.z p13)<|Aaz (cZ.one<|Aa.z p12)<|Aaz (cZ.one<|Aa.z p5)<|Aaz (cZ.one<|Aa.z p1)<|Aaz (cZ.one<|X3 Ac)<|Aaz (cZ.one<|X3 Ac)<|cZ.one<|Aa.z p0) (Aa.b p16) λNi Nj Fv=>Xl<|Xt ?_;have Va:=Fv.1;have Fw:=(Aa.sb p16 Fv Nj rfl).az (X3 Ni);have Aj:=Fw.az<|Fw.z p0;refine⟨_,ABy Ag9 (ALl (cZ.klen<|Aj.z p15)<|ALl (cZ.klen<|Aj.z p14)<|ALl (cZ.klen<|Aj.z p7)<|ALl (cZ.klen<|Aj.z p3)<|ALl (cZ.klen<|Aj.z p0)<|ALl (cZ.klen<|Aj.z p0)<|cZ.klen<|Aj.z p2) rfl (Aj.b p18),((Ld,Cq,Ll,Ct,Mx,Fl,M9,Fq,0,[cG false,cx none 0 0],0,[cG false,cx none 0 0],Nf,Fu):Int×LvA×Int×LvA×Int×LvA×Int×LvA×Int×LvA×Int×LvA×Int×LvA),?_,rfl,?_⟩;.exact AA2 Nh
       .exact Aj.sel [15,14,7,3,1,0,2,19,20,21,22,23,24,25] Wr
      obtain⟨⟨Vb,Fx,Vc,Nk,Vd,Fy,Ve,Nl,Vf,Nm,Vg,Nn,Vh,Np⟩,Nq,rfl,Nr⟩:=Lb;refine⟨trivial,?_⟩;subst Nq;refine AK8 Nr [.bool false,.slice none 0 0,.bool false,.slice none 0 0,.bool false,.slice none 0 0,.bool false,.slice none 0 0,.bool false,.slice none 0 0,.bool false,.slice none 0 0,.bool false,.slice none 0 0] Anb λVi Av Vj Ab=>AAn (Fx++(Nk++(Fy++(Nl++(Nm++(Nn++Np)))))) Ag9 (ALl (cZ.klen<|Ab.z p1)<|ALl (cZ.klen<|Ab.z p2)<|ALl (cZ.klen<|Ab.z p3)<|ALl (cZ.klen<|Ab.z p4)<|ALl (cZ.klen<|Ab.z p5)<|ALl (cZ.klen<|Ab.z p6)<|cZ.klen<|Ab.z p7) (ALl (cZ.klen<|X3 Av)<|ALl (cZ.klen<|X3 Av)<|ALl (cZ.klen<|X3 Av)<|ALl (cZ.klen<|X3 Av)<|ALl (cZ.klen<|X3 Av)<|ALl (cZ.klen<|X3 Av)<|cZ.klen<|X3 Av) rfl rfl (Aaz (cZ.one<|Ab.z p1)<|Aaz (cZ.one<|Ab.z p2)<|Aaz (cZ.one<|Ab.z p3)<|Aaz (cZ.one<|Ab.z p4)<|Aaz (cZ.one<|Ab.z p5)<|Aaz (cZ.one<|Ab.z p6)<|cZ.one<|Ab.z p7) (Ab.b p0) λVk Ns Nt=>Xl<|Wx<|Xd ?_;have Fz:=Ab.sb p0 Nt Ns rfl;obtain⟨Nu,Nv,F4⟩:=Xq La;refine Xf (K':=λxr h'=>∃x:Bool,x=Nu/\xr=.bool x/\Xg h h' Fz.L) trivial rfl ?_ λVl Vm Nw=>?_
      .refine cwf (l:=[_]) Tryz.func60 rfl rfl (Xd<|ADt ?_);obtain⟨Vn,Ny,Nz⟩:=Xq Nv;refine Asb Fz (ALz Ny) λVo Vp Vs N0=>?_;obtain⟨Vt,N3,N4⟩:=Xq Nz;refine Asb N0 (ALz N3) λVu Vv Vw N5=>AK8 N5 [.bool false,.slice none 0 0] AEz λVx Vy Vz N6=>AK8 N6 [.bool false,.slice none 0 0] AEz λV1 N7 V4 F6=>AMd F6 p1 (X3 N7) (F6.z p3) λN8 F7=>AMd F7 p0 (X3 N8) (F7.z p2) λDb Ae=>Xl<|Wx<|AAr (λh'=>Yg [] Db h') Ww ?_;have Dc:Yg [] Db Db:=Yg.start all_nil;refine AXm (Ae.z p3) Dc (Ae.b p1)<|Wu<|AOc rfl (AA8 (fs:=2) Apx Ww Wr rfl (AEa Fy Ye (cZ.klen<|Ae.z p7) rfl Dc (λh' hb=>bpX (bpL<|bpR (bpR (bp0<|(Ae.b p4).ext hb.ext)<|cZ.klen<|Ae.z p5)<|cZ.klen<|Ae.z p6) rfl) ?_));obtain⟨V5,N9,Oa⟩:=Xq N4;refine AXn Ae Dc (Adg (Ae.z p3).2 (Ae.z p7).2 N9) λV6 V8 V9 Bc Dd=>AXm (Bc.z p3) Dd (Ae.b p0)<|Wu<|AOc rfl (AA8 (fs:=2) Apw Ww Wr rfl (AEa Fx Ye (cZ.klen<|Bc.z p6) rfl Dd (λh' hb=>bpX (bpL<|bp0<|(Ae.b p4).ext hb.ext) rfl) ?_));obtain⟨Wa,Ob,Oc⟩:=Xq Oa;refine AXn Bc Dd (Adg (Bc.z p3).2 (Bc.z p6).2 Ob) λWb Wc Wd De Od=>?_;obtain⟨Oe,Og,Oh⟩:=Xq Oc;refine A4s De Od (Ano (De.z p1).2 (De.z p0).2 Og) λWe Wf Oi Wg=>AF5 rfl rfl (Xu<|Xt<|⟨_,Ya,(decide (Oe<0):Bool),?_,rfl,?_⟩);.exact AA2 Oh
       .exact Oi.sel [6,7,8,9,10,11,12,13,14,15,16,17,18,19,20] Wr
      obtain⟨Wh,Oj,rfl,Ol⟩:=Nw;refine⟨trivial,?_⟩;subst Oj;refine AM6 rfl (Xl<|⟨_,rfl,λDf=>?_,λDf=>?_⟩);.refine Xd<|Wu<|AFo rfl rfl (Xu<|Y9<|Zj<|AEo<|Xr ?_);exact⟨_,(AA2<|ifT F4 Df).symm,Ol.sel [8,9,10,11,12,13,14] Wr,rfl,trivial⟩
      .refine Xj<|Xr<|Wx ?_;have Om:=Ajp F4 Df;cases Om
    .exact zy A6 (J0 _ (AA2<|AMc Ce Cf).symm) Ec
   obtain⟨⟨⟩,On,rfl,Dg⟩:=Jz;refine⟨trivial,?_⟩;subst On;refine ATj<|Wu<|AOc rfl (Aj3 Abo AJ5 (Dg.b p0) 2 rfl ?_);obtain⟨⟨Wi,Wj⟩,Oo,F8⟩:=Xq Ec;dsimp only at F8;refine AZl rfl (AMi (Dg.o2 p3).rd Oo) λWk Wl Oq Ot=>?_;obtain⟨Wm,Wn,Wo,Wp,rfl,Ou,Ov⟩:=Ot;refine Wu<|ABx rfl rfl (ABx rfl rfl (X4<|Xu ?_));exact zz (Dg.no2 Oq Ov Ou) F8
theorem AQ0{S E:Type}{body:S->Option (S⊕E)}{n:Nat}{s:S}:iter body (n+1) s=match body s with|none=>none|some (.inl s')=>iter body n s'|some (.inr e)=>some e:=rfl
theorem wk'(h:-9223372036854775808<=x)(h2:x<=9223372036854775807):W3 x=x:=Zh h h2
def Sz(x:Int):Prop:=x.natAbs<9223372036854775808
theorem BFv:9223372036854775808*9223372036854775808<Zm:=by decide+kernel
theorem Axx(h:Sz x)(h2:Sz y):x.natAbs*y.natAbs<Zm:=co (bz (cR h)<|cR h2) BFv
theorem szB(h:Sz x):x.natAbs<Zm:=by have:=Axx h (y:=1) (by unfold Sz;decide);simpa using this
theorem Ah3(h:Sz x)(h2:Sz y):ATe f x y=some (x*y):=if_pos<|Axx h h2
theorem A24{z w:Int}(h:Sz x)(h2:Sz y)(h3:Sz z)(h4:Sz w):Aqd f (x*y) (z*w)=some (x*y-z*w):=if_pos ⟨by rw[bt];exact Axx h h2,by rw[bt];exact Axx h3 h4⟩
theorem A25(h:Sz x)(h2:Sz y):AV5 f x y=some (x+y):=if_pos ⟨szB h,szB h2⟩
theorem A8j(h:Sz x):AYo f x=some (x,true):=if_pos (by unfold Sz at h;omega)
theorem sgS(h:0<x):ASs f x=some 1:=by show some (Ig.sigZ x)=_;unfold Ig.sigZ;rw[if_neg Wq,if_neg Wq]
theorem cmE:ARw f x x=some 0:=by show some (Ig.cmpZ x x)=_;unfold Ig.cmpZ;simp
theorem cmL(h:x<=y):∃v,ARw f x y=some v/\v<=0:=⟨_,rfl,by unfold Ig.cmpZ;split<;>(try split)<;>omega⟩
theorem cmG(h:y<=x):∃v,ARw f x y=some v/\¬v<0:=⟨_,rfl,by unfold Ig.cmpZ;split<;>(try split)<;>omega⟩
theorem cmQ:∃v,ARw f x y=some v/\(0<v↔y<x):=⟨_,rfl,by unfold Ig.cmpZ;split<;>(try split)<;>omega⟩
theorem dvS(h:Sz x)(hy:Sz y)(h0:y≠0)(e:x=y*q):Zz f x y=some (q,0,true):=by unfold Sz at h hy;refine(if_pos ⟨Wq,Wq,h0⟩).trans ?_;subst e;rw[be _ h0,Int.mul_emod_right]
section
variable{f:Nat}
theorem sh(zy:Sz y)(zx:Sz x)(h:-y<=2*x/\2*x<=y):∃t t' v v',AV5 f x x=some t/\ARw f t y=some v/\v<=0/\Aqe f t=some t'/\ARw f t' y=some v'/\v'<=0:=by obtain⟨v,h1,h2⟩:=cmL (f:=f) (x:=x+x) (y:=y) Wq;obtain⟨v',h3,h4⟩:=cmL (f:=f) (x:=-(x+x)) (y:=y) Wq;exact⟨_,_,v,v',A25 zx zx,h1,h2,rfl,h3,h4⟩
theorem pj{l w:Int}(zl:Sz l)(zx:Sz x)(h:x+l*l=w):AV5 f x (l*l)=some w:=by rw[<-h];exact if_pos ⟨szB zx,by rw[bt];exact Axx zl zl⟩
theorem zn1:Sz 1:=by unfold Sz;decide
theorem zn0:Sz 0:=by unfold Sz;decide
theorem zn3:Sz 3:=by unfold Sz;decide
theorem zn4:Sz 4:=by unfold Sz;decide
theorem st3{b c e g:Int}(za:Sz a)(zb:Sz b)(zc:Sz c)(zd:Sz d)(ze:Sz e)(zg:Sz g)(zp:Sz p)(zq:Sz q)(zs:Sz s)(P:0<a)(P2:0<p)(Ab:Zz (f+9) (a*d-b*b) 1=some (p,0,true))(Ac:Zz (f+9) (a*e-b*c) 1=some (q,0,true))(c10:Zz (f+9) (a*e-c*b) 1=some (q,0,true))(c11:Zz (f+9) (a*g-c*c) 1=some (s,0,true))(cD:Zz (f+9) (p*s-q*q) a=some (D,0,true)):AAw (f+9) [[a,b,c],[b,d,e],[c,e,g]]=some ([((),[[a,b,c],[b,d,e],[c,e,g]]),((),[[p,q],[q,s]]),((),[[D]])],true):=by
 have s1:ACi (f+9) [[a,b,c],[b,d,e],[c,e,g]]=some (3,true):=by kernel_rfl
 have s2:iter (λs=>AGg (f+9) [[a,b,c],[b,d,e],[c,e,g]] 3 s.1 s.2.1 s.2.2) (f+9) (0,ap (aU<|W3<|3*3) (0:Int),ap (aU 3) (-1:Int))=some ([a,b,c,b,d,e,c,e,g],[0,3,6]):=by kernel_rfl
 unfold AAw;rw[s1];simp only[aa];rw[if_neg Wr,if_pos Wr,if_pos Wr,s2];simp only[aa,ACu];rw[if_pos Wr];simp only[aa];repeat(rw[AQ0];simp[AGj,AGi,AGh,AFm,Ah3,A24,za,zb,zc,zd,ze,zg,zp,zq,zs,gI,sI,wk',sgS,P,P2,Ab,Ac,c10,c11,cD,ap,Int.max_def])
theorem de3{b c e g:Int}(P:0<a)(P2:0<p)(P3:0<D)(hS:AAw (f+9) [[a,b,c],[b,d,e],[c,e,g]]=some ([((),[[a,b,c],[b,d,e],[c,e,g]]),((),[[p,q],[q,s]]),((),[[D]])],true)):AAk (f+9) [[a,b,c],[b,d,e],[c,e,g]]=some true:=by
 have s1:ACi (f+9) [[a,b,c],[b,d,e],[c,e,g]]=some (3,true):=by kernel_rfl
 unfold AAk;rw[s1,hS];simp;repeat(rw[AQ0];simp[AFe,AFc,AFd,gI,wk',cmE,sgS,P,P2,P3])
theorem va3{b c e g:Int}(hD:AAk (f+9) [[a,b,c],[b,d,e],[c,e,g]]=some true):ABf (f+9) [[a,b,c],[b,d,e],[c,e,g]]=some 0:=by
 have s1:AAq (f+9) [[a,b,c],[b,d,e],[c,e,g]]=some (3,3,true):=by kernel_rfl
 unfold ABf;rw[s1,hD];simp;repeat(rw[AQ0];simp[AH2,AH1,gI,wk',cmE])
theorem dt3{b c e g:Int}(za:Sz a)(zb:Sz b)(zc:Sz c)(zd:Sz d)(ze:Sz e)(zg:Sz g)(zp:Sz p)(zq:Sz q)(zs:Sz s)(P:0<a)(P2:0<p)(P3:0<D)(Ac:Zz (f+9) (a*d-b*b) 1=some (p,0,true))(Ad:Zz (f+9) (a*e-b*c) 1=some (q,0,true))(c10:Zz (f+9) (a*e-c*b) 1=some (q,0,true))(c11:Zz (f+9) (a*g-c*c) 1=some (s,0,true))(cD:Zz (f+9) (p*s-q*q) a=some (D,0,true)):AB1 (f+9) [[a,b,c],[b,d,e],[c,e,g]]=some (D,true):=by
 have s1:Xy (f+9) [[a,b,c],[b,d,e],[c,e,g]]=some (3,3,true):=by kernel_rfl
 have s2:iter (λs=>ACg (f+9) [[a,b,c],[b,d,e],[c,e,g]] s.1 s.2) (f+9) (0,ap (aU 3) ([]:List Int))=some [[a,b,c],[b,d,e],[c,e,g]]:=by kernel_rfl
 have h:Zq (f+9) [[a,b,c],[b,d,e],[c,e,g]]=some D:=by
  unfold Zq;simp[ap]at s2⊢;rw[s2];simp[ACu];repeat(rw[AQ0];simp[ACf,ACc,ACe,ACd,AFt,Ah3,A24,za,zb,zc,zd,ze,zg,zp,zq,zs,gI,sI,wk',sgS,P,P2,P3,Ac,Ad,c10,c11,cD])
 unfold AB1;rw[s1];simp[h]
theorem mu3{b c e g:Int}(za:Sz a)(zb:Sz b)(zc:Sz c)(zd:Sz d)(ze:Sz e)(zg:Sz g):AEu (f+9) [[a,b,c],[b,d,e],[c,e,g]] [[1,0,0],[0,1,0],[0,0,1]]=some ([[a,b,c],[b,d,e],[c,e,g]],true)/\AEu (f+9) [[1,0,0],[0,1,0],[0,0,1]] [[a,b,c],[b,d,e],[c,e,g]]=some ([[a,b,c],[b,d,e],[c,e,g]],true):=by
 have s1:Xy (f+9) [[a,b,c],[b,d,e],[c,e,g]]=some (3,3,true):=by kernel_rfl
 have s2:Xy (f+9) [[1,0,0],[0,1,0],[0,0,1]]=some (3,3,true):=by kernel_rfl
 unfold AEu;rw[s1,s2];simp[ap];constructor;all_goals repeat(rw[AQ0];simp[AKu,AKt,AKs,Ah3,A25,zn0,zn1,za,zb,zc,zd,ze,zg,gI,sI,wk',ap])
theorem ti3{b c e g:Int}(za:Sz a)(zb:Sz b)(zc:Sz c)(zd:Sz d)(ze:Sz e)(zg:Sz g):AB2 (f+9) [[a,b,c],[b,d,e],[c,e,g]]=some ([[a,b,c],[b,d,e],[c,e,g]],true):=by
 have s1:Xy (f+9) [[a,b,c],[b,d,e],[c,e,g]]=some (3,3,true):=by kernel_rfl
 unfold AB2;rw[s1];simp[ap];repeat(rw[AQ0];simp[AE7,AE6,A8j,za,zb,zc,zd,ze,zg,gI,sI,wk',ap])
theorem re3{b c e g:Int}(za:Sz a)(zb:Sz b)(zc:Sz c)(zd:Sz d)(ze:Sz e)(zg:Sz g)(zp:Sz p)(zq:Sz q)(zs:Sz s)(zD:Sz D)(P:0<a)(P2:0<p)(P3:0<D)(e1:a*d-b*b=p)(e2:a*e-b*c=q)(e3:a*g-c*c=s)(e4:p*s-q*q=a*D)(r1:-a<=2*b/\2*b<=a)(r2:-a<=2*c/\2*c<=a)(r3:-p<=2*q/\2*q<=p)(l1:3*a<=4*d)(l2:3*p<=4*s)(zad:Sz (a*d))(zps:Sz (p*s))(zaD:Sz (a*D)):AB3 (f+9) [[a,b,c],[b,d,e],[c,e,g]]=if 10000<D then some ([],[],7)else some ([[a,b,c],[b,d,e],[c,e,g]],[[1,0,0],[0,1,0],[0,0,1]],0):=by
 have Ag:Zz (f+9) (a*d-b*b) 1=some (p,0,true):=dvS (by rw[e1];exact zp) zn1 Wr (by rw[e1,aA]);have Ab:Zz (f+9) (a*e-b*c) 1=some (q,0,true):=dvS (by rw[e2];exact zq) zn1 Wr (by rw[e2,aA]);have c10:Zz (f+9) (a*e-c*b) 1=some (q,0,true):=by rw[aw c b];exact Ab
 have c11:Zz (f+9) (a*g-c*c) 1=some (s,0,true):=dvS (by rw[e3];exact zs) zn1 Wr (by rw[e3,aA]);have cD:Zz (f+9) (p*s-q*q) a=some (D,0,true):=dvS (by rw[e4];exact zaD) za Wq e4;have hS:=st3 za zb zc zd ze zg zp zq zs P P2 Ag Ab c10 c11 cD;have hV:=va3<|de3 P P2 P3 hS;have hG:AH3 (f+9) [[a,b,c],[b,d,e],[c,e,g]]=some (D,0):=by
  unfold AH3;rw[hV,dt3 za zb zc zd ze zg zp zq zs P P2 P3 Ag Ab c10 c11 cD];rfl
 have hI:AD8 (f+9) 3=some ([[1,0,0],[0,1,0],[0,0,1]],true):=by kernel_rfl
 have hT:AB6 (f+9) [[1,0,0],[0,1,0],[0,0,1]]=some ([[1,0,0],[0,1,0],[0,0,1]],true):=by kernel_rfl
 have hR:AG1 (f+9) [[1,0,0],[0,1,0],[0,0,1]]=some (3,true):=by kernel_rfl
 have hH:AAq (f+9) [[1,0,0],[0,1,0],[0,0,1]]=some (3,3,true):=by kernel_rfl
 have hF:ABm (f+9) [[a,b,c],[b,d,e],[c,e,g]] [[1,0,0],[0,1,0],[0,0,1]]=some ([[a,b,c],[b,d,e],[c,e,g]],0):=by
  obtain⟨m1,m2⟩:=mu3 (f:=f) za zb zc zd ze zg;unfold ABm;rw[hV,hH,hR,hT,m1];simp[m2]
 obtain⟨v,hv,Ap⟩:=cmQ (f:=f+9) (x:=D) (y:=10000);have hL:iter (λs_1=>AId (f+9) [[a,b,c],[b,d,e],[c,e,g]] [((),[[a,b,c],[b,d,e],[c,e,g]]),((),[[p,q],[q,s]]),((),[[D]])] s_1.fst s_1.snd.fst s_1.snd.snd) (f+9) (0,[1,0,0,0],[[],[],[]])=some ([1,a,p,D],[[],[b],[c,q]]):=by kernel_rfl
 obtain⟨t1,t1',v1,v1',x1,x2,x3,x4,x5,x6⟩:=sh (f:=f+9) za zb r1;obtain⟨t2,t2',v2,v2',y1,y2,y3,y4,y5,y6⟩:=sh (f:=f+9) za zc r2;obtain⟨t3,t3',v3,v3',u1,u2,u3,u4,u5,u6⟩:=sh (f:=f+9) zp zq r3;have p1:AV5 (f+9) p (b*b)=some (a*d):=pj zb zp Wq;have p2:AV5 (f+9) (a*D) (q*q)=some (p*s):=pj zq zaD Wq;have d1:Zz (f+9) (a*d) a=some (d,0,true):=dvS zad za Wq rfl;have d2:Zz (f+9) (p*s) p=some (s,0,true):=dvS zps zp Wq rfl;obtain⟨w1,k1,k2⟩:=cmG (f:=f+9) l1;obtain⟨w2,k3,k4⟩:=cmG (f:=f+9) l2;have hB:iter (λs=>AEf (f+9) [1,a,p,D] [[],[b],[c,q]] [[1,0,0],[0,1,0],[0,0,1]] s) (f+9) 1=some ():=by repeat(rw[AQ0];simp[AEf,AKv,x1,x2,x3,x4,x5,x6,y1,y2,y3,y4,y5,y6,u1,u2,u3,u4,u5,u6,p1,p2,d1,d2,k1,k2,k3,k4,Ah3,ACu,za,zb,zc,zd,zp,zq,zs,zD,zn1,zn3,zn4,gI,sI,wk'])
 unfold AB3;rw[hG,hS];simp[ACu,hv,Ap,ap,wk',gI,sI,hI,hL,hB,hT,hF,ti3 za zb zc zd ze zg]
end
theorem Aq3{n:Nat}(hn:n<=8)(R:AYa n A)(hk:k<=n)(hi:i<n)(hj:j<n):(Mn k A i j).natAbs<=12288000000:=by
 have h1:=AZ2 R.sym R.pos hk hi hj;have b:∀i,i<n->Mn k A i i<=12288000000:=λi hi=>by
  have h2:=Aw8 R.sym R.pos hi k hk;have h3:=AYb hn R hk;have h4:=AYc hn R hi hi;have h5:det k A*A i i<=det k A*192000:=ah h4.2 Wq;omega
 have p:=λi(hi:i<n)=>AZ3 R.sym R.pos hk hi;have h2:=bU (b i hi) (b j hj) (p j hj) Wq;have:=Ak0 (x:=Mn k A i j) (y:=12288000000) Wq<|bJ h1 h2;omega
theorem Axy{n:Nat}(Aq:1<=n)(hn:n<=8)(R:AYa n A)(hf:100<fuel):Zq fuel (Xw n n A)=some (det n A):=by
 apply ok_eq;unfold Zq;rw[Xh];refine Yi Wq ?_;rw[am];refine Wv (Xv (λi s=>s=(((i:Nat):Int),part n i A)/\i<=n) n (Q:=(·=Xw n n A)) ⟨by rw[AJ1 n A];rfl,ax _⟩ Wq λi s hi hI=>?_) λe he=>?_
 .obtain⟨rfl,hin⟩:=hI;unfold ACg;dsimp only;rw[Xh];refine Xa (λh=>Xc (Xx Wq) rfl (Yi Wq<|Xc (AOl Wq) rfl ?_)) λh=>Wt ?_
  .have hi':i<n:=by omega
   rw[am,Yl,ACb n (0:Int),AL7];refine Xc (AGw Wq hi') rfl (Yi (by rw[X5,X5];omega)<|Wt ⟨hi',?_,Wq⟩);rw[wk Wq,Yl,AJo Wq,AU9,AMs];grind
  .obtain rfl:i=n:=by omega
   exact AJ0 _ _
 subst he;refine Wv (Q:=(·=1)) ⟨1,if_pos Wq,rfl⟩ λone h1=>?_;subst h1;refine Wv (Xv (λk s=>∃G,s=(false,((k:Int),Xw n n G,det k A))/\k<=n/\∀r c,k<=r->r<n->k<=c->c<n->G r c=Mn k A r c) n (Q:=λex=>match ex with|.inl e=>False|.inr (neg,last)=>neg=false/\last=det n A) ⟨A,rfl,ax _,λr c _ _ _ _=>(AFr A r c).symm⟩ Wq λk s hk hI=>?_) λex hex=>?_
 .obtain⟨G,rfl,hkn,hG⟩:=hI;unfold ACf;dsimp only;rw[Xh];refine Xa (λh=>?_) λh=>Wt ⟨rfl,?_⟩
  .have hk':k<n:=by omega
   have hGk:G k k=det (k+1) A:=by rw[hG k k Wq hk' Wq hk',AFa]
   have hpos:0<det (k+1) A:=R.pos (k+1) Wq;have hlast:=AYb hn R (k:=k) Wq;refine Wv (Q:=(·=(k:Int))) (Wv (Xv (λ_ s=>s=(k:Int)) 0 (Q:=(·=(k:Int))) rfl Wq λi s hi hI=>?_) λe he=>Wt he) λe he=>?_
   .subst hI;unfold ACc;rw[Xh];refine Wv (Q:=λex=>match ex with|.inl _=>False|.inr _=>True) (Xa (λh2=>Xc (Xx hk') rfl (Xc (Xb hk') rfl (Wv (Yc (a:=sigZ<|G k k) rfl) λsg hsg=>Xa (λh3=>?_) λh3=>Wt trivial))) λh2=>absurd h h2) λex hex=>?_;.exfalso;rw[hsg]at h3;have:=(AOk _).1 h3;omega
    .cases ex with
     |inl u=>exact hex.elim|inr u=>exact Wt rfl
   .subst he;refine Xa λh2=>by omega λ_=>Wv (Q:=(·=(false,Xw n n G))) (Xa (λh2=>absurd rfl h2) λ_=>Wt rfl) λr hr=>?_;subst hr;dsimp only;refine Xc (Xx hk') rfl (Xc (Xb hk') rfl ?_);rw[wk Wq];have hq:∀r c,k<r->r<n->k<c->c<n->bQ k G (det k A) r c=Mn (k+1) A r c:=λr c h1 h2 h3 h4=>by
     unfold bQ;rw[hGk,hG r c Wq h2 Wq h4,hG r k Wq h2 Wq hk',hG k c Wq hk' Wq h4,<-AFa k A,AVb Wq,be _ Wq]
    have habs:∀r c,k<=r->r<n->k<=c->c<n->(G r c).natAbs<=12288000000:=λr c h1 h2 h3 h4=>by rw[hG r c h1 h2 h3 h4];exact Aq3 hn R Wq h2 h4
    refine Wv (Xv (λi s=>s=(((k+1+i:Nat):Int),Xw n n<|bF k G (det k A) (k+1+i)<|k+1)/\k+1+i<=n) (n-(k+1)) (Q:=(·=Xw n n (bF k G (det k A) n<|k+1))) ⟨by rw[Nat.add_zero,Akn];simp,Wq⟩ Wq λi s hi hI=>?_) λa3 Ag=>?_
    .obtain⟨rfl,hin⟩:=hI;unfold ACe;dsimp only;rw[Xh];obtain⟨q,hqe⟩:∃q,k+1+i=q:=⟨_,rfl⟩;rw[hqe]at hin⊢;refine Xa (λh3=>?_) λh3=>Wt ?_
     .have hqn:q<n:=by omega
      rw[wk Wq];refine Wv (Xv (λj s=>s=(((k+1+j:Nat):Int),Xw n n<|bF k G (det k A) q<|k+1+j)/\k+1+j<=n) (n-(k+1)) (Q:=(·=Xw n n (bF k G (det k A) q n))) ⟨W4,Wq⟩ Wq λj s hj hJ=>?_) λa4 Ah=>Wt ?_
      .obtain⟨rfl,hjn⟩:=hJ;unfold ACd;dsimp only;rw[Xh];obtain⟨c,hc⟩:∃c,k+1+j=c:=⟨_,rfl⟩;rw[hc]at hjn⊢;refine Xa (λh4=>?_) λh4=>Wt ?_
       .have hcn:c<n:=by omega
        have a1:=habs k k Wq hk' Wq hk';have a2:=habs q c Wq hqn Wq hcn;have a3:=habs q k Wq hqn Wq hk';have a4:=habs k c Wq hk' Wq hcn;have m1:=bz a1 a2;have m2:=bz a3 a4;have hB:12288000000*12288000000<Zm:=by decide
        refine Xc (Xx hqn) rfl (Xc (Xb hcn) rfl ?_);rw[A45];refine Wv (Yc (a:=G k k*G q c)<|if_pos Wq) λx1 Ak=>Xc (Xb hk') rfl (Xc (Xx hk') rfl (Xc (Xb hcn) rfl ?_));subst Ak;rw[A44,Aqa];refine Wv (Yc (a:=G q k*G k c)<|if_pos Wq) λx2 Am=>?_;subst Am;refine Wv (Yc (a:=G k k*G q c-G q k*G k c)<|if_pos ⟨by rw[bt];omega,by rw[bt];omega⟩) λx3 Ao=>?_;subst Ao;have hnum:G k k*G q c-G q k*G k c=det k A*Mn (k+1) A q c:=by rw[hGk,hG q c Wq hqn Wq hcn,hG q k Wq hqn Wq hk',hG k c Wq hk' Wq hcn,<-AFa k A,AVb Wq]
        have m3:(det k A*Mn (k+1) A q c).natAbs<=64000*12288000000:=by
         rw[bt];exact bz Wq<|Aq3 hn R Wq hqn hcn
        refine Wv (Q:=λx=>x.1=bQ k G (det k A) q c) ⟨_,if_pos ⟨by rw[hnum];omega,Wq,Wq⟩,rfl⟩ λx4 Ap=>Wt ⟨Wq,?_,Wq⟩;rw[Ap,wk Wq,Adl,Awo k G (det k A) Wq Wq];grind
       grind
      .subst Ah;refine⟨Wq,?_,Wq⟩;rw[wk Wq];congr 1;.omega
       .refine AJv λr c hr hc=>?_;rw[Awn k n G (det k A) q hc,<-ck,hqe]
     grind
    .subst Ag;refine Wt ⟨hk',bF k G (det k A) n<|k+1,?_,Wq,λr c h1 h2 h3 h4=>?_⟩;.rw[hGk];rfl
     .have:bF k G (det k A) n (k+1) r c=bQ k G (det k A) r c:=by unfold bF;omega
      grind
  grind
 .match ex,hex with
  |.inl e,hex=>exact hex.elim|.inr (neg,last),hex=>
    obtain⟨rfl,rfl⟩:=hex;dsimp only;exact Xa (λh=>nomatch h) λ_=>Wt rfl
theorem Ad4{n:Nat}(hn:1<=n)(Ab:n<=16)(hf:100<fuel):AD0 fuel (Xw n n F)=some ((n:Int),(n:Int),true)/\Xy fuel (Xw n n F)=some ((n:Int),(n:Int),true):=by
 constructor<;>
 .apply ok_eq;first|unfold AD0|unfold Xy
  rw[Xh];refine Wv (Q:=λex=>match ex with|.inl _=>False|.inr _=>True) (Xa λh=>by omega λh=>Xa λh2=>by omega λh2=>Wt trivial) λex hex=>?_;cases ex with
  |inl e=>exact hex.elim|inr u=>
    dsimp only;refine Xc (n:=0) (Xx Wq) rfl ?_;rw[X5];refine Wv (Q:=λex=>match ex with|.inl _=>False|.inr _=>True) (Xa λh=>by omega λh=>Xa λh2=>by omega λh2=>Wt trivial) λex hex=>?_;cases ex with|inl e=>exact hex.elim|inr u=>
      dsimp only;refine Wv (Xv (λi(s:Int)=>s=i) n (Q:=λex=>match ex with|.inl _=>False|.inr _=>True) rfl Wq λi s hi hI=>?_) λex hex=>?_
      .subst hI;first|unfold ALf|unfold AKe
       rw[Xh];refine Xa (λh=>Xc (Xx Wq) rfl ?_) λh=>Wt trivial;rw[X5,X5];exact Xa (λh2=>absurd rfl h2) λ_=>Wt ⟨Wq,wk Wq⟩
      .cases ex with|inl e=>exact hex.elim|inr u=>exact Wt rfl
theorem Aq4{n:Nat}(hn:1<=n)(Aa:n<=16)(hb:∀i j,i<n->j<n->(F i j).natAbs<=9223372036854775807)(hf:100<fuel):ACv fuel (Xw n n F)=some (Xw n n F,true):=by
 apply ok_eq;unfold ACv;refine Wv (Yc (Ad4 hn Aa hf).1) λx hx=>?_;subst hx;dsimp only;refine Xa (λh=>nomatch h) λ_=>Wv (Q:=(·=Xw n n F)) (Yi Wq ?_) λe he=>Wt (by rw[he]);rw[am];refine Wv (Xv (λi s=>s=(((i:Nat):Int),part n i F)/\i<=n) n (Q:=(·=Xw n n F)) ⟨by rw[AJ1 n F];rfl,ax _⟩ Wq λi s hi hI=>?_) λe he=>Wt he;obtain⟨rfl,hin⟩:=hI;unfold ANi;dsimp only;rw[cW,am];refine Xa (λh=>Yi Wq<|Xc (AOl Wq) rfl ?_) λh=>Wt ?_
 .have hi':i<n:=by omega
  rw[Yl,ACb n (0:Int),AL7];refine Xc (AGw Wq hi') rfl ?_;rw[Yu];refine Wv (Xv (λj s=>s=(((j:Nat):Int),part n (i+1)<|Ym F i λc=>if c<j then F i c else 0)/\j<=n) n (Q:=(·=part n (i+1) F)) ⟨?_,ax _⟩ Wq λj s hj hJ=>?_) λe he=>Wt ⟨hi',?_,Wq⟩;.grind
  .obtain⟨rfl,hjn⟩:=hJ;unfold ANh;dsimp only;rw[X5];refine Xa (λh=>?_) λh=>Wt ?_
   .have hj':j<n:=by omega
    refine Xc (AGw Wq hi') rfl ?_;rw[Yu];have:=hb i j hi' hj';refine Wv (Q:=(·=F i j)) (Xc (Xx hi') rfl (Xc (Xb hj') rfl (Wv (Q:=(·=F i j)) ⟨_,if_pos Wq,rfl⟩ λx hx=>Wt hx))) λx hx=>?_;subst hx;refine Xc (Xb hj') rfl (Wt ⟨Wq,?_,Wq⟩);rw[wk Wq,Yl,Yl,AAd,AJo Wq,AU9];grind
   .obtain rfl:j=n:=by omega
    unfold part;refine Yd λr hr=>?_;split;.refine Yd λc hc=>?_;rw[Xk];grind
    .rfl
  .rw[he,wk Wq];rfl
 .obtain rfl:i=n:=by omega
  exact AJ0 _ _
def Ae0(d p e:Int):Prop:=∃(k:Nat)(r:Int),e=k/\d=r*p^k/\¬p∣r
theorem Abz{b:Int}(hp:2<=p)(ha:Ae0 d p a)(hb:Ae0 d p b):a=b:=by
 have key:∀(k l:Nat)(r s:Int),k<l->r*p^k=s*p^l->p∣r:=λk l r s hkl h=>by
  obtain⟨m,rfl⟩:∃m,l=k+1+m:=⟨l-k-1,Wq⟩;rw[aj,aj,ce]at h;have h1:p^k*r=p^k*(p*(s*p^m)):=by grind
  exact⟨_,bL (b8 Wq) h1⟩
 obtain⟨k,r,rfl,h1,h2⟩:=ha;obtain⟨l,s,rfl,h3,h4⟩:=hb;grind
theorem AVj{r:Int}(hp:2<=p)(hr:0<r)(hd:d<=10000)(h:d=r*p^k):k<=13:=by
 rcases ab 13 k with h1|h1;.exfalso;have h2:(2:Int)^14<=2^k:=AVh h1;have h3:(2:Int)^k<=p^k:=AHb Wq hp k;have h4:1*p^k<=r*p^k:=au Wq Wq;omega
 .exact h1
theorem A8k(Ac:1<=d)(hd:d<=10000)(hp:2<=p)(Ad:p<=9973)(hf:100<fuel):Ok (AF7 fuel d p) (Ae0 d p):=by
 unfold AF7;refine Wv (Xv (λi s=>∃r:Int,s=(r,(i:Int))/\0<r/\d=r*p^i) 14 (Q:=Ae0 d p) ⟨d,rfl,Wq,W4⟩ Wq λi s hi hI=>?_) λe he=>Wt he;obtain⟨r,rfl,hr,hdr⟩:=hI;have Ae:=AVj hp hr hd hdr;have hrd:r<=d:=by
  have h1:r*1<=r*p^i:=ah (ay Wq) Wq;omega
 unfold AI8;dsimp only;refine Wv (Q:=λex=>match ex with|.inl _=>p∣r|.inr _=>¬p∣r) (Xa (λh=>Yi Wq<|Xa (λh2=>Wt ?_) λh2=>Wt ?_) λh=>by omega) λex hex=>?_;.exact cP h2
 .exactλh3=>h2<|cO h3
 .cases ex with
  |inl u=>
    obtain⟨q,rfl⟩:p∣r:=hex;have hq:0<q:=bx hr Wq;have hqr:1*q<=p*q:=au Wq Wq;refine Yi Wq<|Wt ⟨Wq,q,?_,hq,by grind⟩;rw[cM _ Wq,Zh (x:=q) Wq Wq,wk Wq];rfl|inr u=>exact Wt ⟨i,r,rfl,hdr,hex⟩
def pwL(p:Int)(m:Nat):List Int:=Yy m λi=>p^2^i 
theorem Axz{b:Int}(ha:a.natAbs<18446744073709551616)(hb:b.natAbs<18446744073709551616)(h0:b≠0):Zz fuel a b=some (a/b,a%b,true):=if_pos ⟨ha,hb,h0⟩
theorem A8l(Am:1<=d)(hd:d<=10000)(hp:Pr p)(Ag:p<=9973)(hf:100<fuel):Ok (AFu fuel d p) λr=>Ae0 d p r.1:=by
 have Ae:2<=p:=hp.1;have pw:∀k:Nat,0<p^k:=λk=>ay Wq;unfold AFu;refine Wv (Yc (a:=AKw p) rfl) λb hb=>?_;rw[<-Acd Wq hp]at hb;subst hb;refine Xa (λh=>nomatch h) λ_=>Wv (Yc (a:=sigZ d) rfl) λs hs=>?_;subst hs;refine Xa (λh=>absurd ((AOk d).1 h) Wq) λ_=>Wv (Yc (a:=d) rfl) λx hx=>Wv (Q:=(·=p)) ⟨p,if_pos Wq,rfl⟩ λy hy=>?_;subst hx;subst hy;refine Wv (Xv (λj s=>∃r:Int,s=(pwL y<|j+1,r,((2^j-1:Nat):Int))/\0<r/\x=r*y^(2^j-1)) 5 (Q:=λe=>∃(j:Nat)(r:Int),e=(pwL y<|j+1,r,((2^j-1:Nat):Int))/\0<r/\x=r*y^(2^j-1)/\¬y^2^j∣r/\j<=4) ⟨x,?_,Wq,W4⟩ Wq λj s hj hI=>?_) λe he=>?_;.refine congrArg (λl=>(l,x,(0:Int))) ?_;show[y]=[y^1];rw[ce]
 .obtain⟨r,rfl,hr,hxr⟩:=hI;have Ao:=AVj Ae hr hd hxr;have Af:j<=3:=by
   rcases ab 3 j with h|h
   .exfalso;have:=bh (show 0<2 by omega) h;omega
   .exact h
  have hrx:r<=x:=by
   have h1:r*1<=r*y^(2^j-1):=ah (pw _) Wq;omega
  have hjp:1<=2^j:=cn;have Ap:2^j<=8:=by
   have:=bh (show 0<2 by omega) Af;omega
  have hyb:y^2^j<=10000*9973:=by
   have e1:y^2^j=y^(2^j-1)*y:=by rw[<-ao];congr 1;omega
   have h2:1*y^(2^j-1)<=r*y^(2^j-1):=au Wq<|bc<|pw _;rw[e1];exact bU Wq Ag Wq Wq
  have Ad:=pw<|2^j;unfold ANk;dsimp only;have hl:(pwL y<|j+1).length=j+1:=X5 _ _;rw[hl,Zh (x:=((j+1:Nat):Int)-1) Wq Wq];refine Xc (n:=j) (Xb Wq) Wq<|Yi Wq ?_;rw[show(((j+1:Nat):Int)-1).toNat=j by omega,show(1:Int)*2^j=((2^j:Nat):Int)by simp,Zh (x:=((2^j:Nat):Int)) Wq Wq];refine Wv (Q:=λe:Bool×Int×Int=>if y^2^j∣r then e=(true,r/y^2^j,((2^(j+1)-1:Nat):Int))else e=(false,r,((2^j-1:Nat):Int))) (Wv (Yc<|Axz (fuel:=fuel) (a:=r) (b:=y^2^j) Wq Wq Wq) λq hq=>Wv (Yc (a:=sigZ q.2.1) rfl) λs hs=>?_) λe he=>?_
  .subst hq;subst hs;dsimp only;refine Xa (λh=>Wt ?_) λh=>Wt ?_;.have hnd:¬y^2^j∣r:=λh2=>h<|(AOk _).2 (bN h2);rw[if_neg hnd]
   .have hdv:y^2^j∣r:=aL<|(AOk _).1 (cQ.1 h);rw[if_pos hdv,wk Wq,aK];grind
  .by_cases hdv:y^2^j∣r
   .rw[if_pos hdv]at he;subst he;dsimp only;refine Xa (λ_=>?_) λh=>absurd rfl h;obtain⟨q,rfl⟩:=hdv;have Ah:0<q:=bx hr Ad;have hqm:y^2^j*1<=y^2^j*q:=ah Wq Wq;have hB:10000*10000<Zm:=by decide
    have m1:(y^2^j).natAbs*(y^2^j).natAbs<=10000*10000:=bz Wq Wq;refine Wv (Yc (a:=y^2^j*y^2^j)<|if_pos Wq) λz hz=>Yi Wq<|Wt ⟨Wq,q,?_,Ah,?_⟩
    .subst hz;rw[be _ Wq];refine congrArg (λl=>(l,q,((2^(j+1)-1:Nat):Int))) ?_;have e1:y^2^j*y^2^j=y^2^(j+1):=by rw[<-aj,aK];congr 1;omega
     rw[e1];exact AMr (j+1) λi=>y^2^i
    .rw[hxr];have e1:y^(2^(j+1)-1)=y^2^j*y^(2^j-1):=by rw[<-aj,aK];congr 1;omega
     rw[e1];grind
   .rw[if_neg hdv]at he;subst he;exact Xa (λh=>nomatch h) λ_=>Wt ⟨j,r,rfl,hr,hxr,hdv,Wq⟩
 .obtain⟨j,r,rfl,hr,hxr,hnd,Af⟩:=he;dsimp only;have hY:∀q,q<j->y^2^q<=10000:=λq hq=>by
   have h0:=bh (show 0<2 by omega) (show q+1<=j by omega);have h1:=cn (n:=q);rw[aK]at h0;have e1:y^(2^j-1)=y^2^q*y^(2^j-1-2^q):=by rw[<-aj];congr 1;omega
   have h2:y^2^q*1<=y^2^q*y^(2^j-1-2^q):=ah (pw _)<|bc<|pw _;have h3:1*y^(2^j-1)<=r*y^(2^j-1):=au Wq<|bc<|pw _;omega
  have hl:(pwL y<|j+1).length=j+1:=X5 _ _;rw[hl,Zh (x:=((j+1:Nat):Int)-2) Wq Wq];refine Wv (Xv (λi s=>∃(r:Int)(k:Nat),s=((j:Int)-1-i,r,(k:Int))/\i<=j/\0<r/\x=r*y^k/\¬y^2^(j-i)∣r) j (Q:=λe=>∃(r:Int)(k:Nat),e=(r,(k:Int))/\x=r*y^k/\¬y∣r) ⟨r,2^j-1,by grind,Wq,hr,hxr,Wq⟩ Wq λi s hi hI=>?_) λe he=>?_
  .obtain⟨r,k,rfl,hij,hr,hxr,hnd⟩:=hI;have Au:=AVj Ae hr hd hxr;have hrx:r<=x:=by
    have h1:r*1<=r*y^k:=ah (pw _) Wq;omega
   unfold ANj;dsimp only;refine Xa (λh=>?_) λh=>Wt ⟨r,k,rfl,hxr,?_⟩
   .obtain⟨q,hq⟩:∃q:Nat,(j:Int)-1-i=q:=⟨j-1-i,Wq⟩;rw[hq];have hqj:q<j+1:=by omega
    have Aj:q<=3:=by omega
    have Av:1<=2^q:=cn;have Aw:2^q<=8:=by have:=bh (show 0<2 by omega) Aj;omega
    have hyb:=hY q Wq;have Ad:=pw<|2^q;have hsmall:y^2^q∣r->y^2^q<=r:=λh=>bM hr h;refine Xc (n:=q) (Xb hqj) rfl (Yi Wq ?_);rw[am,show(1:Int)*2^q=((2^q:Nat):Int)by simp,Zh (x:=((2^q:Nat):Int)) Wq Wq];refine Wv (Q:=λe:Bool×Int×Int=>if y^2^q∣r then e=(true,r/y^2^q,((k+2^q:Nat):Int))else e=(false,r,(k:Int))) (Wv (Yc<|Axz (fuel:=fuel) (a:=r) (b:=y^2^q) Wq Wq Wq) λt ht=>Wv (Yc (a:=sigZ t.2.1) rfl) λs hs=>?_) λe he=>?_
    .subst ht;subst hs;dsimp only;refine Xa (λh=>Wt ?_) λh=>Wt ?_;.have hnd:¬y^2^q∣r:=λh2=>h<|(AOk _).2 (bN h2);rw[if_neg hnd]
     .have hdv:y^2^q∣r:=aL<|(AOk _).1 (cQ.1 h);rw[if_pos hdv,wk Wq];grind
    .rw[Zh (x:=(q:Int)-1) Wq Wq];by_cases hdv:y^2^q∣r
     .rw[if_pos hdv]at he;subst he;obtain⟨w,rfl⟩:=hdv;have Ak:0<w:=bx hr Ad;refine Wt ⟨Wq,w,k+2^q,?_,Wq,Ak,?_,?_⟩;.rw[be _ Wq];grind
      .grind
      .rw[show j-(i+1)=q by omega];rintro⟨u,rfl⟩;refine hnd ⟨u,?_⟩;rw[show j-i=q+1 by omega,aK,Nat.mul_two,aj];grind
     .rw[if_neg hdv]at he;subst he;refine Wt ⟨Wq,r,k,?_,Wq,hr,hxr,by grind⟩;grind
   .have:j-i=0:=by omega
    rw[this,Nat.pow_zero,ce]at hnd;exact hnd
  .obtain⟨r,k,rfl,h1,h2⟩:=he;exact Wt ⟨k,r,rfl,h1,h2⟩
theorem AYp{M:List (List Int)}(R:AS0 M):M=Xw M.length M.length (ent M):=Amm R.2.1
theorem A28{n:Nat}(Ac:1<=n)(hn:n<=8)(R:AYa n A):AS0 (Xw n n A):=by
 refine⟨by rw[Xh];omega,λz hz=>by rw[Xh];exact AW9 z hz,?_⟩;rw[Xh];have e:∀i j,i<n->j<n->ent (Xw n n A) i j=A i j:=λi j hi hj=>AU2 hi hj;have hd:∀k,k<=n->det k (ent<|Xw n n A)=det k A:=λk hk=>Xo λi j hi hj=>e i j Wq Wq;have hm:∀k i j,k<=n->i<n->j<n->Mn k (ent<|Xw n n A) i j=Mn k A i j:=λk i j hk hi hj=>by
  unfold Mn;exact Xo λa b ha hb=>e _ _ (AL6 hk hi)<|AL6 hk hj
 refine⟨λi j hi hj=>by rw[e i j hi hj,e j i hj hi];exact R.sym i j hi hj,λk hk=>by rw[hd k hk];exact R.pos k hk,λr l h1 h2=>?_,λr hr=>?_,by rw[hd n<|ae n];exact R.dt⟩;.have:=R.sz r l h1 h2;unfold SzF at this⊢;grind
 .have:=R.lv r hr;unfold LvF at this⊢;grind
theorem Ad5{M:List (List Int)}(R:AS0 M):1<=det M.length (ent M)/\det M.length (ent M)<=10000:=⟨by have:=R.2.2.pos _<|ae _;omega,R.2.2.dt⟩
theorem Ah4{M:List (List Int)}(R:AS0 M)(hi:i<M.length)(hj:j<M.length):(ent M i j).natAbs<=192000:=by have:=AYc R.1.2 R.2.2 hi hj;omega
theorem Atc{M:List (List Int)}(R:AS0 M)(hf:100<fuel):AKg fuel M=some (det M.length<|ent M):=by
 apply ok_eq;obtain⟨v1,v2⟩:=Ad5 R;have hT:=AYp R;have h1:=R.1;unfold AKg;generalize hF:ent M=F at*;generalize hL:M.length=n at*;have hb:∀i j,i<n->j<n->(F i j).natAbs<=192000:=λi j hi hj=>by subst hF;subst hL;exact Ah4 R hi hj
 rw[hT];refine Wv (Yc<|Ad2 h1.1 Wq (λi j hi hj=>aM (hb i j hi hj) Wr) Wq) λx hx=>?_;subst hx;refine Wv (Yc<|AX2 h1.2 (ae _) (λi j hi hj=>aM (hb i j hi hj)<|aM Wr<|Akq _) Wq) λy hy=>?_;subst hy;refine Wv (Yc (a:=(det n F,true))<|if_pos Wq) λz hz=>Wt ?_;rw[hz]
theorem A8m{v:Int}(Ab:1<=d)(hd:d<=10000)(hp:2<=p)(h:Ae0 d p v):0<=v/\v<=13:=by
 obtain⟨k,r,rfl,h1,h2⟩:=h;have hr:0<r:=by
  have hpk:0<p^k:=ay Wq;rcases bZ 0 r with h|h;.exact h
  .have:=cq h<|bc hpk;omega
 have:=AVj hp hr hd h1;omega
theorem Af7{M:List (List Int)}(R:AS0 M)(hp:Pr p)(hp2:p<=9973)(hf:100<fuel):∃v,Ae0 (det M.length<|ent M) p v/\(0<=v/\v<=13)/\ABc fuel M p=some (if p=2 then v+3 else v+1)/\AL5 fuel M p=some (if p=2 then v+3 else v+1):=by
 obtain⟨v1,v2⟩:=Ad5 R;obtain⟨⟨v,r0,e0⟩,hv1,hv⟩:=A8l v1 v2 hp hp2 hf;dsimp only at hv;have hvb:=A8m v1 v2 hp.1 hv;refine⟨v,hv,hvb,?_,?_⟩
 .apply ok_eq;have hT:=AYp R;have h1:=R.1;have RF:=R.2.2;unfold ABc;generalize hF:ent M=F at*;generalize hL:M.length=n at*;have hb:∀i j,i<n->j<n->(F i j).natAbs<=192000:=λi j hi hj=>by subst hF;subst hL;exact Ah4 R hi hj
  rw[hT];refine Wv (Yc<|Aq4 h1.1 Wq (λi j hi hj=>aM (hb i j hi hj) Wr) hf) λx hx=>?_;subst hx;dsimp only;refine Wv (Q:=(·=(det n F,true))) ?_ λy hy=>?_;.unfold AB1;refine Wv (Yc (Ad4 h1.1 Wq hf).2) λx hx=>?_;subst hx;dsimp only;exact Xa (λh=>nomatch h) λ_=>Xa (λh=>absurd rfl h) λ_=>Wv (Yc<|Axy h1.1 h1.2 RF hf) λz hz=>Wt (by rw[hz])
  .subst hy;dsimp only;refine Wv (Yc hv1) λz hz=>?_;subst hz;dsimp only;refine Xa (λh=>Wt ?_) λh=>Wt ?_;.rw[if_pos h,wk Wq]
   .rw[if_neg h,wk Wq]
 .apply ok_eq;unfold AL5;refine Wv (Yc<|Atc R hf) λd hd=>?_;subst hd;refine Wv (A8k v1 v2 hp.1 hp2 hf) λw hw=>?_;obtain rfl:=Abz hp.1 hv hw;refine Xa (λh=>Wt ?_) λh=>Wt ?_;.rw[if_pos h,wk Wq]
  .rw[if_neg h,wk Wq]
theorem Z4{β:Type}{L:List α}{n:Nat}{x:α}{f:α->Option β}(hx:L[n]?=some x):(gI L (n:Int)).bind f=f x:=by unfold gI;grind
theorem AYq{β:Type}{L:List α}{x:α}{f:α->Option β}(hx:L[0]?=some x):(gI L 0).bind f=f x:=Z4 (n:=0) hx
theorem Yr(h:i<=1000000000):W3 ((i:Int)+1)=((i+1:Nat):Int):=by rw[wk Wq];omega
theorem Ad6{n:Nat}{g':Nat->Int}(h:∀c,c<n->g c=g' c):part n i (Ym G r g)=part n i (Ym G r g'):=by
 unfold part;refine Yd λk _=>?_;split
 .refine Yd λc hc=>?_;by_cases hk:k=r;.subst hk;rw[Yu,Yu,h c hc]
  .rw[ACo _ _ hk,ACo _ _ hk]
 .rfl
theorem Ax0{n:Nat}(h:∀c,c<n->g c=F i c):part n (i+1) (Ym F i g)=part n (i+1) F:=by rw[Ad6 h,AMs]
theorem A29{n:Nat}(v:Nat->Int)(hf:n<fuel)(hs:∀(j:Nat)(g:Nat->Int),j<n->g j=G i j->body ((j:Int),part n (i+1)<|Ym G i g)=some (.inl (((j+1:Nat):Int),part n (i+1)<|Ym G i λc=>if c=j then v j else g c)))(he:∀X,body ((n:Int),X)=some (.inr X)):iter body fuel (0,part n (i+1) G)=some (part n (i+1)<|Ym G i v):=by
 apply ok_eq;refine Xv (λj s=>s=((j:Int),part n (i+1)<|Ym G i λc=>if c<j then v c else G i c)) n ?_ hf λj s hj hI=>?_;.have:(λc=>if c<0 then v c else G i c)=G i:=funext λc=>if_neg Wq;rw[this,AMs];rfl
 .subst hI;by_cases h:j<n
  .rw[hs j _ h<|if_neg Wq];refine Wt ⟨h,?_⟩;refine congrArg (λz=>(((j+1:Nat):Int),part n (i+1)<|Ym G i z))<|funext λc=>?_;by_cases h1:c=j;.grind
   omega
  .obtain rfl:j=n:=by omega
   rw[he];exact Wt<|Ad6 λc hc=>if_pos hc
theorem Ax1{n:Nat}(F:Wz)(hf:n<fuel)(hs:∀i:Nat,i<n->body ((i:Int),part n i F)=some (.inl (((i+1:Nat):Int),part n (i+1) F)))(he:∀X,body ((n:Int),X)=some (.inr X)):iter body fuel (0,ap n ([]:List Int))=some (Xw n n F):=by
 apply ok_eq;refine Xv (λi s=>s=((i:Int),part n i F)) n (by rw[AJ1 n F];rfl) hf λi s hi hI=>?_;subst hI;by_cases h:i<n;.rw[hs i h];exact Wt ⟨h,rfl⟩
 .obtain rfl:i=n:=by omega
  rw[he];exact Wt<|AJ0 _ _
theorem Aaa{m:Int}(hm:2<=m)(Ab:m<=2147483647):an (W3<|an x m+m) m=x%m:=by have h1:=bV x (show 0<m by omega);have h2:=bV (-x) (show 0<m by omega);rw[Int.neg_tmod]at h2;rw[wk Wq,ai Wq,Int.add_emod_right,Int.tmod_def,Int.sub_mul_emod_self_left]
theorem Ax2{n:Nat}{m:Int}(hn:n<=8)(hm:2<=m)(Aa:m<=2147483647)(hf:100<fuel):ABd fuel (Xw n n F) m=some (Xw n n λi j=>F i j%m):=by
 unfold ABd;rw[Xh,if_pos Wq,am,Ax1 (n:=n) (λi j=>F i j%m) Wq (λi hi=>?_) λX=>?_];.rfl
 .unfold AIp;dsimp only;rw[Xh,if_pos Wq,Z4<|Xx hi,X5,if_pos Wq,Z4<|AOl hi,Yl,am,ACb n (0:Int),AL7,A29 (n:=n) (λj=>F i j%m) Wq (λj g hj hg=>?_) λX=>?_];.dsimp only[aa];rw[AU9,Ax0 λc _=>rfl,Yr Wq]
  .unfold AIo;dsimp only;rw[X5,if_pos Wq,Z4<|Xb hj,Z4<|AGw Wq hi,if_pos Wq,if_pos Wq,Yu,Z4<|Xb hj,Aaa hm Aa,Yl,Yl,AAd,AJo Wq,AU9,Yr Wq]
  .unfold AIo;dsimp only;rw[X5,if_neg Wq]
 .unfold AIp;dsimp only;rw[Xh,if_neg Wq]
def ARx(n:Nat)(m:Int)(F:Wz):Prop:=∀i j,i<n->j<n->0<=F i j/\F i j<m
theorem Atd{b:Int}:∃r,AA3 fuel a b=some r/\(r=0↔a=b):=by
 unfold AA3 AIb;simp only[not_true_eq_false,decide_false,aa,Bool.false_eq_true,if_false];rcases Int.lt_trichotomy a b with h|h|h;.exact⟨-1,if_pos h,Wq⟩
 .simp_all
 .exact⟨1,by grind,Wq⟩
theorem BCr{b:Int}:∃r,AEn fuel a b=some r/\(r=0↔a=b):=Atd (fuel:=fuel)
theorem BF0{a b:Bool}:∃r,AFb fuel a b=some r/\(r=0↔a=b):=by cases a<;>cases b<;>exact⟨_,rfl,Wr⟩
theorem BCs{L:List Int}(hL:L.length<=50)(hf:100<fuel):Ok (AJ2 fuel L) λr=>r=0↔∀x∈L,x=0:=by
 unfold AJ2;refine Wv (Q:=λex=>match ex with|.inl e=>¬e=0/\∃x∈L,¬x=0|.inr _=>∀x∈L,x=0) (Xv (λi s=>s=(i:Int)/\i<=L.length/\∀k x,k<i->L[k]?=some x->x=0) L.length ⟨rfl,ax _,λk x h=>by omega⟩ Wq λi s hi hI=>?_) λex hex=>?_
 .obtain⟨rfl,h1,h2⟩:=hI;unfold ATf;refine Xa (λh=>?_) λh=>Wt λx hx=>?_;.have hg:=aH (show i<L.length by omega);refine Xc hg rfl (Xa (λh=>Wt ⟨h,_,List.getElem_mem _,h⟩) λh=>Wt ⟨Wq,Yr Wq,Wq,λk x hk hx=>?_⟩);grind
  .obtain⟨k,hk⟩:=List.getElem?_of_mem hx;grind
 .cases ex with
  |inl e=>exact Wt ⟨λh=>absurd h hex.1,λh=>by grind⟩|inr u=>exact Wt ⟨λ_=>hex,λ_=>rfl⟩
theorem Ax3{L L':List α}{body:Int->Option (Int⊕Int⊕Unit)}(hL:L.length<=50)(hf:100<fuel)(h1:∀i:Nat,i<L.length->L'.length<=i->body i=some (.inr<|.inl 1))(h2:∀(i:Nat)x y,L[i]?=some x->L'[i]?=some y->∃r,body i=(if¬r=0 then some (.inr<|.inl r)else some<|.inl<|W3<|i+1)/\(r=0↔x=y))(h3:∀i:Nat,L.length<=i->body i=some (.inr<|.inr ())):Ok ((iter body fuel 0).bind λex=>match ex with|.inl e=>some e|.inr _=>if(L.length:Int)<(L'.length:Int)then some (-1)else some 0) λr=>r=0↔L=L':=by
 refine Wv (Q:=λex=>match ex with|.inl e=>¬e=0/\L≠L'|.inr _=>L=L'.take L.length/\L.length<=L'.length) (Xv (λi s=>s=(i:Int)/\(i<=L.length/\i<=L'.length)/\L.take i=L'.take i) L.length ⟨rfl,⟨ax _,ax _⟩,rfl⟩ Wq λi s hi hI=>?_) λex hex=>?_
 .obtain⟨rfl,⟨a,b⟩,c⟩:=hI;rcases ab i L.length with h|h
  .rcases ab i L'.length with g|g
   .have e1:=aH h;have e2:=aH g;obtain⟨r,hr,hr2⟩:=h2 i _ _ e1 e2;rw[hr];refine Xa (λhn=>Wt ⟨hn,λhe=>hn<|hr2.2 ?_⟩) λhn=>Wt ⟨h,Yr Wq,⟨h,g⟩,?_⟩;.grind
    .rw[cr,cr,c,e1,e2,hr2.1 Wq]
   .rw[h1 i h g];exact Wt ⟨Wr,λhe=>by grind⟩
  .rw[h3 i h];obtain rfl:i=L.length:=by omega
   exact Wt ⟨by grind,b⟩
 .cases ex with
  |inl e=>exact Wt ⟨λh=>absurd h hex.1,λh=>absurd h hex.2⟩|inr u=>obtain⟨a,b⟩:=hex;refine Xa (λh=>Wt ⟨λh=>by omega,λh=>by grind⟩) λh=>Wt ⟨λ_=>?_,λ_=>rfl⟩;grind
theorem BCt{C D:List Xm}(hC:C.length<=50)(hf:100<fuel):Ok (AGz fuel p C q D) λr=>r=0↔p=q/\C=D:=by
 unfold AGz;obtain⟨r,h1,h2⟩:=BCr (fuel:=fuel) (a:=p) (b:=q);rw[h1];simp only[aa];refine Xa (λh=>Wt ⟨λh3=>absurd h3 h,λh3=>absurd (h2.2 h3.1) h⟩) λh=>?_;have hpq:=h2.1 Wq;refine Wv (Ax3 hC hf (λi a b=>?_) (λi x y a b=>?_) λi a=>?_) λr hr=>Wt ⟨λh=>⟨hpq,hr.1 h⟩,λh=>hr.2 h.2⟩;.unfold AGf;rw[if_pos Wq,Z4<|aH a,if_pos Wq]
 .have ha:=(bK.1 a).1;have hb:=(bK.1 b).1;unfold AGf;rw[if_pos Wq,Z4 a,if_neg Wq,Z4 b];obtain⟨r1,a1,b1⟩:=Atd (fuel:=fuel) (a:=x.1) (b:=y.1);obtain⟨r2,a2,b2⟩:=Atd (fuel:=fuel) (a:=x.2.1) (b:=y.2.1);obtain⟨r3,a3,b3⟩:=Atd (fuel:=fuel) (a:=x.2.2.1) (b:=y.2.2.1);obtain⟨r4,a4,b4⟩:=BF0 (fuel:=fuel) (a:=x.2.2.2.1) (b:=y.2.2.2.1);obtain⟨r5,a5,b5⟩:=Atd (fuel:=fuel) (a:=x.2.2.2.2) (b:=y.2.2.2.2);obtain⟨r,e,hr⟩:=BCs (fuel:=fuel) (L:=[r1,r2,r3,r4,r5]) W4 hf;rw[a1,a2,a3,a4,a5];simp only[aa];rw[e];refine⟨r,rfl,hr.trans ?_⟩;obtain⟨x1,x2,x3,x4,x5⟩:=x;obtain⟨y1,y2,y3,y4,y5⟩:=y;simp_all
 .unfold AGf;grind
theorem BCu{n n' d':Int}{L L':List (Int×List Xm)}(hL:L.length<=50)(hC:∀x∈L,x.2.length<=50)(hf:100<fuel):AKn fuel n d L n' d' L'=some (@decide (n=n'/\d=d'/\L=L') (Classical.propDecidable _)):=by
 have key:Ok (AIc fuel n d L n' d' L') λr=>r=0↔n=n'/\d=d'/\L=L':=by
  unfold AIc;obtain⟨r1,a1,b1⟩:=Atd (fuel:=fuel) (a:=n) (b:=n');obtain⟨r2,a2,b2⟩:=BCr (fuel:=fuel) (a:=d) (b:=d');obtain⟨r,e,hr⟩:=BCs (fuel:=fuel) (L:=[r1,r2]) W4 hf;rw[a1,a2];simp only[aa];rw[e];simp only[aa];have hr:r=0↔n=n'/\d=d':=hr.trans (by simp_all);refine Xa (λh=>Wt ⟨λh3=>absurd h3 h,λh3=>absurd (hr.2 ⟨h3.1,h3.2.1⟩) h⟩) λh=>?_;obtain⟨e1,e2⟩:=hr.1 Wq;refine Wv (Ax3 hL hf (λi a b=>?_) (λi x y a b=>?_) λi a=>?_) λr hr=>Wt ⟨λh=>⟨e1,e2,hr.1 h⟩,λh=>hr.2 h.2.2⟩;.unfold AH0;rw[if_pos Wq,Z4<|aH a,if_pos Wq]
  .have ha:=(bK.1 a).1;have hb:=(bK.1 b).1;unfold AH0;rw[if_pos Wq,Z4 a,if_neg Wq,Z4 b];obtain⟨r,e,hr⟩:=BCt (fuel:=fuel) (p:=x.1) (C:=x.2) (q:=y.1) (D:=y.2) (hC x<|bG a) hf;rw[e];exact⟨r,rfl,hr.trans Prod.ext_iff.symm⟩
  .unfold AH0;grind
 obtain⟨r,e,hr⟩:=key;unfold AKn;grind
theorem Ax4{E:Type}{body:Int->Option (Int⊕E)}{n:Nat}{e:E}(hf:n<fuel)(hs:∀i:Nat,i<n->body (i:Int)=some (.inl ((i+1:Nat):Int)))(he:body (n:Int)=some (.inr e)):iter body fuel 0=some e:=by
 apply ok_eq;refine Xv (λi s=>s=(i:Int)) n rfl hf λi s hi hI=>?_;subst hI;by_cases h:i<n;.rw[hs i h];exact Wt ⟨h,rfl⟩
 .obtain rfl:i=n:=by omega
  rw[he];exact Wt rfl
theorem Alg{n:Nat}(Aa:1<=n)(hn:n<=8)(hf:100<fuel):AEe fuel (Xw n n F)=some true:=by
 unfold AEe;rw[Xh,if_neg Wq,if_neg Wq,AYq<|Xx Wq,X5,if_neg Wq,if_neg Wq];simp only[aa];rw[Ax4 (n:=n) (e:=.inr ()) Wq (λi hi=>?_) ?_];.rfl
 .unfold AK0;rw[Xh,if_neg Wq]
 .unfold AK0;rw[Xh,if_pos Wq,Z4<|Xx hi,AYq<|Xx Wq,X5,X5,if_neg λh=>h rfl,Yr Wq]
theorem AP9{n:Nat}:sI (Yy n g) (j:Int) x=Yy n λc=>if c=j then x else g c:=by rw[Yl,AAd]
theorem ADe{n:Nat}:sI (Xw n n F) (i:Int) (Yy n g)=Xw n n (Ym F i g):=by rw[Yl];exact AGl
theorem AYr{n:Nat}{g':Nat->Int}(h:∀c,c<n->g c=g' c):Xw n n (Ym F r g)=Xw n n (Ym F r g'):=AJv λi j _ hj=>by rw[Xk,Xk,h j hj]
theorem AC7(hp:1<=p){a b:Nat}(h:a<=b):p^a<=p^b:=by obtain⟨c,rfl⟩:∃c,b=a+c:=⟨b-a,Wq⟩;rw[aj];have h1:0<p^a:=ay Wq;have h2:0<p^c:=ay Wq;have:=ah (show 1<=p^c by omega)<|bc h1;omega
theorem AYs(hp:2<=p)(h:p^k<=2147483647):k<=30:=by
 rcases ab 30 k with h1|h1;.exfalso;have h2:=AC7 (p:=p) Wq (show 31<=k by omega);have h3:(2:Int)^31<=p^31:=AHb Wq hp 31;omega
 .exact h1
theorem Ax5(hp:2<=p)(h:p^k<=2147483647)(hf:100<fuel):AGv fuel p k=some (p^k):=by
 have hk:=AYs hp h;apply ok_eq;unfold AGv;refine Wv (Xv (λi s=>s=(p^i,(i:Int))/\i<=k) k (Q:=(·=p^k)) ⟨W4,Wq⟩ Wq λi s hi hI=>?_) λe he=>Wt he;obtain⟨rfl,hik⟩:=hI;unfold APy;dsimp only;refine Xa (λh2=>Wt ⟨Wq,?_,Wq⟩) λh2=>Wt ?_;.have h3:=AC7 (p:=p) Wq (show i+1<=k by omega);have h4:0<p^(i+1):=ay Wq;rw[show p^i*p=p^(i+1)from(ao p i).symm,wk Wq,Yr Wq]
 grind
def IsB(p x:Int)(b:Xe):Prop:=∃(e:Nat)(u:Int),b=((e:Int),1,u,0,0)/\x=u*p^e/\¬p∣u
theorem A8n{b c:Xe}(hp:2<=p)(hb:IsB p x b)(hc:IsB p x c):b=c:=by
 obtain⟨e,u,rfl,h1,h2⟩:=hb;obtain⟨f,v,rfl,h3,h4⟩:=hc;have he:=Abz hp ⟨e,u,rfl,h1,h2⟩ ⟨f,v,rfl,h3,h4⟩;obtain rfl:e=f:=by omega
 have:u=v:=Int.eq_of_mul_eq_mul_right (b8<|show p≠0 by omega)<|h1.symm.trans h3;rw[this]
theorem Alh(hp:2<=p)(Ad:p<=9973)(hx:0<x)(Ae:x<=2147483647)(hf:100<fuel):Ok (AGx fuel x p) (IsB p x):=by
 unfold AGx;refine Wv (Xv (λi s=>∃r:Int,s=((i:Int),r)/\0<r/\x=r*p^i) 31 (Q:=λe=>∃(k:Nat)(u:Int),e=((k:Int),u)/\x=u*p^k/\¬p∣u) ⟨x,rfl,Wq,W4⟩ Wq λi s hi hI=>?_) λe he=>?_;.obtain⟨r,rfl,hr,hdr⟩:=hI;have hpi:0<p^i:=ay Wq;have hpx:1*p^i<=r*p^i:=au Wq Wq;have Af:=AYs (k:=i) hp Wq;have hrd:r*1<=r*p^i:=ah Wq Wq;unfold APz;dsimp only;refine Yi Wq<|Xa (λh=>Yi Wq ?_) λh=>Wt ⟨i,r,rfl,hdr,λh3=>h<|cO h3⟩;obtain⟨q,rfl⟩:p∣r:=cP h;have hq:0<q:=bx hr Wq;have hqr:1*q<=p*q:=au Wq Wq;refine Wt ⟨Wq,q,?_,hq,by grind⟩;rw[cM _ Wq,Zh (x:=q) Wq Wq,Yr Wq]
 .obtain⟨k,u,rfl,h1,h2⟩:=he;exact Wt ⟨k,u,rfl,h1,h2⟩
def AYt(F:Wz)(r c:Nat)(x:Int):Wz:=Ym F r λq=>if q=c then x else F r q
theorem ABq(F:Wz)(r c:Nat)(x:Int)(i j:Nat):AYt F r c x i j=if i=r/\j=c then x else F i j:=by unfold AYt;rw[Xk];grind
def AVv(F:Wz)(r:Nat)(a b c:Int):Wz:=AYt (AYt (AYt (AYt F r r a) r (r+1) b) (r+1) r b) (r+1) (r+1) c
def AQ1(p:Int):List Xe->Nat->Wz->Wz|[],_,F=>F|b::l,r,F=>if b.2.1=2 then AQ1 p l (r+2) (AVv F r (p^b.1.toNat*b.2.2.1) (p^b.1.toNat*b.2.2.2.1)<|p^b.1.toNat*b.2.2.2.2)else AQ1 p l (r+1)<|AYt F r r<|p^b.1.toNat*b.2.2.1
def AAa:List Xe->Nat|[]=>0|b::l=>b.2.1.toNat+AAa l
def Ax6(p:Int)(k:Nat)(b:Xe):Prop:=(0<=b.1/\b.1<=if p=2 then(k:Int)-3 else(k:Int)-1)/\if b.2.1=1 then(0<b.2.2.1/\b.2.2.1<p^(k-b.1.toNat))/\¬p∣b.2.2.1/\b.2.2.2.1=0/\b.2.2.2.2=0 else((0<=b.2.2.1/\b.2.2.1<p^(k-b.1.toNat))/\(0<=b.2.2.2.1/\b.2.2.2.1<p^(k-b.1.toNat))/\0<=b.2.2.2.2/\b.2.2.2.2<p^(k-b.1.toNat))/\b.2.2.1%2=0/\b.2.2.2.1%2=1/\b.2.2.2.2%2=0
def Asc(L:List Xe)(i:Nat):Prop:=0<i->∀b c,L[i]?=some b->L[i-1]?=some c->c.1<=b.1
def RG(p:Int)(k:Nat)(L:List Xe)(i:Nat):Prop:=(∀b,L[i]?=some b->Ax6 p k b)/\Asc L i
structure Eli(n K:Nat)(p:Int)(H T G:Wz):Prop where
 c:Car n K p H T G
 d:Xp (p^K) (det n T*det n T) 1
theorem ARy{n:Nat}{m:Int}{A' B':Wz}(hA:∀k,k<n->Xp m (A i k) (A' i k))(hB:∀k,k<n->Xp m (B k j) (B' k j)):Xp m (Xz n A B i j) (Xz n A' B' i j):=Xp.psum λk hk=>(hA k hk).mul (hB k hk)
theorem Eli.step{n:Nat}{E:Wz}(S:Eli n K p H T G)(hE:det n E*det n E=1)(hT:∀i j,i<n->j<n->Xp (p^K) (T' i j) (Xz n T E i j))(hG:∀i j,i<n->j<n->Xp (p^K) (G' i j) (Xz n (trF E) (Xz n G E) i j)):Eli n K p H T' G':=by
 refine⟨λi j hi hj=>?_,?_⟩;.have h1:Xp (p^K) (Xz n (trF T') (Xz n H T') i j) (Xz n (trF<|Xz n T E) (Xz n H<|Xz n T E) i j):=ARy (λk hk=>hT k i hk hi) λk hk=>ARy (λl hl=>Xp.refl _ _) λl hl=>hT l j hl hj;refine h1.trans<|Xp.trans (Xp.of_eq ?_)<|(ARy (λk hk=>Xp.refl _ _) λk hk=>ARy (λl hl=>S.c k l hk hl) λl hl=>Xp.refl _ _).trans (hG i j hi hj).symm;rw[ACx (λk hk=>ASx i k) λk hk=>rfl,AAy];refine ACx (λ_ _=>rfl) λk hk=>?_;rw[AAy];refine ACx (λ_ _=>rfl) λl hl=>?_;rw[AAy]
 .have h1:Xp (p^K) (det n T') (det n T*det n E):=by rw[<-ADf];exact ASu hT
  refine(h1.mul h1).trans (Xp.trans (Xp.of_eq ?_) S.d);grind
theorem Ax7{n:Nat}(hG:∀i j,i<n->j<n->Xp (p^K) (G i j) (H i j)):Eli n K p H dl G:=by
 refine⟨λi j hi hj=>?_,by rw[ASr];exact Xp.refl _ _⟩;.refine Xp.trans (Xp.of_eq ?_) (hG i j hi hj).symm;exact(ASy (n:=n) (A:=H) i j hi hj).symm
def An8(j k:Nat)(c:Int):Wz:=Ym dl k λx=>dl k x+c*dl j x
theorem Ax8(j k:Nat)(c:Int)(a b:Nat):An8 j k c a b=dl a b+if a=k then c*dl j b else 0:=by unfold An8;rw[Xk];grind
theorem Ax9{n:Nat}{c:Int}(hj:j<n)(hk:k<n)(hne:k≠j):det n (An8 j k c)*det n (An8 j k c)=1:=by unfold An8;rw[AJm hk hj hne,ASr];rfl
theorem AYu{n:Nat}{c:Int}{a b:Nat}(hk:k<n)(hb:b<n):Xz n T (An8 j k c) a b=T a b+if b=j then c*T a k else 0:=by
 unfold Xz;rw[Wy (g:=λl=>T a l*dl l b+if l=k then T a k*(c*dl j b)else 0) λl _=>by rw[Ax8];grind,AEm,Anr hb,AD6 hk λl _ hne=>if_neg hne,if_pos rfl];unfold dl;grind
theorem A3a{n:Nat}{c:Int}{M:Wz}{a b:Nat}(hk:k<n)(ha:a<n):Xz n (trF<|An8 j k c) M a b=M a b+if a=j then c*M k b else 0:=by have:=AYu (T:=trF M) (j:=j) (c:=c) (a:=b) hk ha;rw[<-show trF (trF M)=M from rfl,<-ASx];exact this
theorem Eli.add{n:Nat}{c:Int}(S:Eli n K p H T G)(hj:j<n)(hk:k<n)(hne:k≠j)(hT:∀a b,a<n->b<n->Xp (p^K) (T' a b) (T a b+if b=j then c*T a k else 0))(hG:∀a b,a<n->b<n->Xp (p^K) (G' a b) (G a b+(if b=j then c*G a k else 0)+if a=j then c*(G k b+if b=j then c*G k k else 0)else 0)):Eli n K p H T' G':=S.step (Ax9 hj hk hne) (λa b ha hb=>by rw[AYu hk hb];exact hT a b ha hb) λa b ha hb=>by
  rw[A3a hk ha,AYu hk hb,AYu hk hb];grind
def sw2(i j a:Nat):Nat:=if a=j then i else if a=i then j else a
theorem AMy{n a:Nat}(hi:i<n)(hj:j<n)(ha:a<n):sw2 i j a<n:=by unfold sw2;grind
theorem Ah5(i j a:Nat):sw2 i j (sw2 i j a)=a:=by unfold sw2;grind
theorem Ah6(i j a b:Nat):AB7 dl i j a b=dl (sw2 i j a) b:=by rw[AJy];unfold sw2;grind
theorem A3b{n:Nat}(hi:i<n)(hj:j<n):det n (AB7 dl i j)*det n (AB7 dl i j)=1:=by
 by_cases h:i=j
 .subst h;rw[Xo (G:=dl) λa b _ _=>by rw[Ah6];unfold sw2;grind,ASr];rfl
 .rw[AO6 hi hj h,ASr];rfl
theorem Ah7{n:Nat}{a b:Nat}(hi:i<n)(hj:j<n)(hb:b<n):Xz n T (AB7 dl i j) a b=T a (sw2 i j b):=by
 unfold Xz;rw[AD6 (AMy hi hj hb) λk _ hne=>?_];.rw[Ah6,Ah5];unfold dl;grind
 .rw[Ah6];unfold dl;rw[if_neg λh=>hne<|by rw[<-h,Ah5]];simp
theorem A8o{n:Nat}{M:Wz}{a b:Nat}(hi:i<n)(hj:j<n)(ha:a<n):Xz n (trF<|AB7 dl i j) M a b=M (sw2 i j a) b:=by have:=Ah7 (T:=trF M) (a:=b) hi hj ha;rw[<-show trF (trF M)=M from rfl,<-ASx];exact this
theorem Eli.swap{n:Nat}(S:Eli n K p H T G)(hi:i<n)(hj:j<n)(hT:∀a b,a<n->b<n->T' a b=T a (sw2 i j b))(hG:∀a b,a<n->b<n->G' a b=G (sw2 i j a) (sw2 i j b)):Eli n K p H T' G':=S.step (A3b hi hj) (λa b ha hb=>by rw[Ah7 hi hj hb,hT a b ha hb];exact Xp.refl _ _) λa b ha hb=>by rw[A8o hi hj ha,Ah7 hi hj hb,hG a b ha hb];exact Xp.refl _ _
theorem Eli.sym{n:Nat}(S:Eli n K p H T G)(hs:∀i j,i<n->j<n->H i j=H j i)(hG:ARx n (p^K) G)(hi:i<n)(hj:j<n):G i j=G j i:=by refine Aso ?_ (hG i j hi hj)<|hG j i hj hi;refine(S.c i j hi hj).symm.trans (Xp.trans (Xp.of_eq ?_)<|S.c j i hj hi);show psum (λa=>T a i*psum (λb=>H a b*T b j) n) n=psum (λa=>T a j*psum (λb=>H a b*T b i) n) n;rw[Wy (g:=λa=>psum (λb=>T a i*(H a b*T b j)) n) λa _=>(Yx _ _ _).symm,AIh,Wy (f:=λa=>T a j*psum (λb=>H a b*T b i) n) (g:=λa=>psum (λb=>T a j*(H a b*T b i)) n) λa _=>(Yx _ _ _).symm];refine Wy λa ha=>Wy λb hb=>?_;grind
theorem Eli.det{n K:Nat}{p:Int}{H T G:Wz}(S:Eli n K p H T G):Xp (p^K) (QF.det n G) (QF.det n H):=by have h1:Xp (p^K) (QF.det n G) (QF.det n<|Xz n (trF T)<|Xz n H T):=ASu λi j hi hj=>(S.c i j hi hj).symm;refine h1.trans ?_;rw[ADf,ADf,AEb];refine Xp.trans (Xp.of_eq<|show QF.det n T*(QF.det n H*QF.det n T)=QF.det n H*(QF.det n T*QF.det n T)by grind) ?_;have:=(Xp.refl (p^K)<|QF.det n H).mul S.d;grind
theorem Eli.some{n:Nat}(S:Eli n K p H T G)(hd:¬p^K∣QF.det n H)(hk:k<n)(hz:∀j,j<k->G k j=0):∃j,k<=j/\j<n/\G k j≠0:=by
 refine bD λhn=>hd ?_;have h0:QF.det n G=0:=AL4 hk λj hj=>bD λh=>hn ⟨j,by grind,hj,h⟩;have:=S.det;rw[h0]at this;exact AJz.1 this.symm
def AKi(q:Int)(j l:Nat)(c:Int)(T:Wz):Wz:=λa b=>if b=j then(T a j+c*T a l)%q else T a b
def Aya(q:Int)(j l:Nat)(c:Int)(G:Wz):Wz:=λa b=>if a=j then(G j b+c*G l b)%q else G a b
def APl(q:Int)(j l:Nat)(c:Int)(G:Wz):Wz:=Aya q j l c<|AKi q j l c G
def swC(i j:Nat)(T:Wz):Wz:=λa b=>T a<|sw2 i j b
def swG(i j:Nat)(G:Wz):Wz:=λa b=>G (sw2 i j a)<|sw2 i j b
theorem AD3(q:Int)(j l:Nat)(c:Int)(G:Wz)(a b:Nat):APl q j l c G a b=if a=j then if b=j then((G j j+c*G j l)%q+c*((G l j+c*G l l)%q))%q else(G j b+c*G l b)%q else if b=j then(G a j+c*G a l)%q else G a b:=by unfold APl Aya AKi;grind
theorem Ab1(hq:d∣q)(hx:d∣x):d∣x%q:=by rw[dD];exact cC hx<|aq hq ⟨_,rfl⟩
theorem AS5(hq:0<q)(x:Int):0<=x%q/\x%q<q:=⟨aI _ Wq,av _ hq⟩
theorem ARz{n:Nat}{c:Int}(hq:0<q)(h:ARx n q T):ARx n q (AKi q j l c T):=λa b ha hb=>by
 unfold AKi;split;.exact AS5 hq _
 .exact h a b ha hb
theorem Af8{n:Nat}{c:Int}(hq:0<q)(h:ARx n q G):ARx n q (APl q j l c G):=λa b ha hb=>by
 unfold APl Aya;split;.exact AS5 hq _
 .exact ARz hq h a b ha hb
structure JS(n K:Nat)(p:Int)(H T G:Wz)(k E:Nat):Prop where
 rt:ARx n (p^K) T
 rg:ARx n (p^K) G
 e:Eli n K p H T G
 z:∀i j,i<k->j<n->j≠i->G i j=0
 fl:∀i j,k<=i->i<n->k<=j->j<n->p^E∣G i j
theorem JS.add{n K k E j l:Nat}{p c:Int}{H T G:Wz}(S:JS n K p H T G k E)(hq:0<p^K)(hE:E<=K)(hj:k<=j)(hjn:j<n)(hl:k<=l)(hln:l<n)(hne:l≠j):JS n K p H (AKi (p^K) j l c T) (APl (p^K) j l c G) k E:=by
 refine⟨ARz hq S.rt,Af8 hq S.rg,?_,λa b ha hb hba=>?_,λa b ha han hb hbn=>?_⟩
 .exact S.e.add (c:=c) hjn hln hne (λa b ha hb=>by
   unfold AKi;by_cases h:b=j;.subst h;rw[if_pos rfl,if_pos rfl];exact Xp.mod _ _
   .rw[if_neg h,if_neg h,aP];exact Xp.refl _ _) λa b ha hb=>by
   rw[AD3];by_cases h:a=j
   .subst h;rw[if_pos rfl,if_pos rfl];by_cases h2:b=a
    .subst h2;rw[if_pos rfl,if_pos rfl,if_pos rfl];exact(Xp.mod _ _).trans ((Xp.mod _ _).add ((Xp.refl _ _).mul (Xp.mod _ _)))
    .rw[if_neg h2,if_neg h2,if_neg h2,aP,aP];exact Xp.mod _ _
   .rw[if_neg h,if_neg h,aP];by_cases h2:b=j;.subst h2;rw[if_pos rfl,if_pos rfl];exact Xp.mod _ _
    .rw[if_neg h2,if_neg h2,aP];exact Xp.refl _ _
 .rw[AD3,if_neg Wq];by_cases h:b=j;.subst h;rw[if_pos rfl,S.z a b ha hb hba,S.z a l ha hln Wq];simp
  .rw[if_neg h];exact S.z a b ha hb hba
 .have hd:p^E∣p^K:=Yb hE;have key:∀x y,k<=x->x<n->k<=y->y<n->∀u v,k<=u->u<n->k<=v->v<n->p^E∣(G x y+c*G u v)%p^K:=λx y h1 h2 h3 h4 u v h5 h6 h7 h8=>Ab1 hd<|cE (S.fl x y h1 h2 h3 h4)<|aq (S.fl u v h5 h6 h7 h8) ⟨c,aw _ _⟩;rw[AD3];by_cases h:a=j
  .rw[if_pos h];by_cases h2:b=j;.rw[if_pos h2];exact Ab1 hd<|cE (key j j hj hjn hj hjn j l hj hjn hl hln)<|aq (key l j hl hln hj hjn l l hl hln hl hln) ⟨c,aw _ _⟩
   grind
  .rw[if_neg h];by_cases h2:b=j;.grind
   .rw[if_neg h2];exact S.fl a b ha han hb hbn
theorem Ad7{a:Nat}(hi:k<=i)(hj:k<=j)(ha:k<=a):k<=sw2 i j a:=by unfold sw2;grind
theorem AVk{a:Nat}(hi:a≠i)(hj:a≠j):sw2 i j a=a:=by unfold sw2;grind
theorem JS.swap{n K k E i j:Nat}{p:Int}{H T G:Wz}(S:JS n K p H T G k E)(hi:k<=i)(hin:i<n)(hj:k<=j)(hjn:j<n):JS n K p H (swC i j T) (swG i j G) k E:=by
 refine⟨λa b ha hb=>S.rt a _ ha<|AMy hin hjn hb,λa b ha hb=>S.rg _ _ (AMy hin hjn ha)<|AMy hin hjn hb,S.e.swap hin hjn (λ_ _ _ _=>rfl) λ_ _ _ _=>rfl,λa b ha hb hba=>?_,λa b ha han hb hbn=>S.fl _ _ (Ad7 hi hj ha) (AMy hin hjn han) (Ad7 hi hj hb)<|AMy hin hjn hbn⟩;.unfold swG;rw[AVk (a:=a) Wq Wq];exact S.z a _ ha (AMy hin hjn hb) λh=>hba (by rw[<-Ah5 i j b,h,AVk Wq Wq])
theorem JS.pivot{n:Nat}{u:Int}(S:JS n K p H T G k E)(hs:∀i j,i<n->j<n->H i j=H j i)(hp:PrI p)(hp2:¬p∣2)(hEK:E<K)(hi:k<=i)(hin:i<n)(hj:k<=j)(hjn:j<n)(hne:j≠i)(hu:G i j=u*p^E)(hpu:¬p∣u)(h1:p^(E+1)∣G i i)(h2:p^(E+1)∣G j j):∃v,APl (p^K) i j 1 G i i=v*p^E/\¬p∣v:=by
 have hq:0<p^K:=ay (by have:=hp.1;omega);obtain⟨v,hv⟩:=(S.add (c:=1) hq Wq hi hin hj hjn hne).fl i i hi hin hi hin;refine⟨v,by grind,λhd=>?_⟩;have e1:Xp (p^K) (APl (p^K) i j 1 G i i) (G i i+1*G i j+1*(G j i+1*G j j)):=by rw[AD3,if_pos rfl,if_pos rfl];exact(Xp.mod _ _).trans ((Xp.mod _ _).add ((Xp.refl _ _).mul (Xp.mod _ _)))
 rw[S.e.sym hs S.rg hjn hin]at e1;have e2:=AEy<|e1.down<|Yb (p:=p) (show E+1<=K by omega);obtain⟨w,rfl⟩:=hd;have h3:p^(E+1)∣APl (p^K) i j 1 G i i:=⟨w,by grind⟩;have h4:p^(E+1)∣2*G i j:=by
  have:2*G i j=APl (p^K) i j 1 G i i-(APl (p^K) i j 1 G i i-(G i i+1*G i j+1*(G i j+1*G j j)))-G i i-G j j:=by omega
  rw[this];exact cC (cC (cC h3 e2) h1) h2
 rw[hu,ao]at h4;obtain⟨x,hx⟩:=h4;have hpE:p^E≠0:=ASw hp E;have:p∣2*u:=⟨x,bL hpE<|by grind⟩;exact(hp.2 _ _ this).elim hp2 hpu
theorem An9{A v:Int}(hq:0<p^K)(hp:0<p)(hx:0<=x)(hxd:p^E∣x)(hd:d=A*p^E)(hv:Xp (p^K) (v*A) 1):(x+(p^K-x/p^E*v%p^K)%p^K*d)%p^K=0:=by have h1:Xp (p^K) ((p^K-x/p^E*v%p^K)%p^K) (0-x/p^E*v):=(Xp.mod _ _).trans (Xp.sub (by unfold Xp;simp)<|Xp.mod _ _);obtain⟨y,rfl⟩:=hxd;rw[be _ (by have:=ay (n:=p) (m:=E) hp;omega)]at h1⊢;refine Xp.zero<|((Xp.refl _ _).add (h1.mul<|Xp.refl _ d)).trans ?_;rw[hd];refine Xp.trans (Xp.of_eq<|show p^E*y+(0-y*v)*(A*p^E)=p^E*y-p^E*y*(v*A)by grind) ?_;refine((Xp.refl _ _).sub ((Xp.refl _<|p^E*y).mul hv)).trans (Xp.of_eq ?_);omega
theorem JS.next{n:Nat}(S:JS n K p H T G k E)(hs:∀i j,i<n->j<n->H i j=H j i)(hk:k<n)(hz:∀j,k<j->j<n->G k j=0):JS n K p H T G (k+1) E:=by
 refine⟨S.rt,S.rg,S.e,λi j hi hj hne=>?_,λi j hi hin hj hjn=>S.fl i j Wq hin Wq hjn⟩
 .rcases ab i k with h|h;.exact S.z i j h hj hne
  .obtain rfl:i=k:=by omega
   rcases ab i j with h2|h2;.exact hz j h2 hj
   .rw[S.e.sym hs S.rg Wq hj];exact S.z j i Wq hk Wq
structure JL(n:Nat)(p:Int)(G:Wz)(L:List Xe)(k E:Nat):Prop where
 len:L.length=k
 bl:∀i b,L[i]?=some b->G i i≠0/\IsB p (G i i) b/\b.1<=E
 asc:∀i,Asc L i
theorem JL.keep{n:Nat}{L:List Xe}(B:JL n p G L k E)(h:∀i,i<k->G' i i=G i i):JL n p G' L k E:=⟨B.len,λi b hb=>by rw[h i (by rw[<-B.len];grind)];exact B.bl i b hb,B.asc⟩
theorem JL.push{n F:Nat}{L:List Xe}{b:Xe}(B:JL n p G L k E)(h0:G k k≠0)(hb:IsB p (G k k) b)(hF:b.1=F)(hE:E<=F):JL n p G (L++[b]) (k+1) F:=by
 refine⟨by simp[B.len],λi c hc=>?_,λi hi x y hx hy=>?_⟩
 .rcases ab i L.length with h|h;.rw[aF h]at hc;have:=B.bl i c hc;grind
  .rw[bo h]at hc;have h2:i-L.length=0:=by grind
   rw[h2]at hc;obtain rfl:b=c:=by simpa using hc
   obtain rfl:i=k:=by have:=B.len;omega
   grind
 .rcases ab i L.length with h|h;.rw[aF h]at hx;rw[aF Wq]at hy;exact B.asc i hi x y hx hy
  .rw[bo h]at hx;have h2:i-L.length=0:=by grind
   rw[h2]at hx;obtain rfl:b=x:=by simpa using hx
   rw[aF Wq]at hy;have:=(B.bl _ _ hy).2.2;omega
def AE0(L:List Xe):Prop:=∀b∈L,b.2.1=1∨b.2.1=2
theorem AAb(c:Xe)(L:List Xe):AAa (c::L)=c.2.1.toNat+AAa L:=rfl
theorem ADa(p:Int)(c:Xe)(L:List Xe)(r:Nat)(F:Wz):AQ1 p (c::L) r F=if c.2.1=2 then AQ1 p L (r+2) (AVv F r (p^c.1.toNat*c.2.2.1) (p^c.1.toNat*c.2.2.2.1)<|p^c.1.toNat*c.2.2.2.2)else AQ1 p L (r+1) (AYt F r r<|p^c.1.toNat*c.2.2.1):=rfl
theorem AUx{p:Int}{b:Xe}:∀{L:List Xe}{r:Nat}{F:Wz},AE0 L->AQ1 p (L++[b]) r F=AQ1 p [b] (r+AAa L) (AQ1 p L r F)
 |[],r,F,_=>rfl|c::L,r,F,h=>by
   have h1:AE0 L:=λx hx=>h x<|cb _ hx;rw[bH,ADa p c<|L++[b],ADa p c L,AAb];rcases h c W4 with hc|hc;.rw[if_neg Wq,if_neg Wq,AUx h1,show r+1+AAa L=r+(c.2.1.toNat+AAa L)by omega]
   .rw[if_pos hc,if_pos hc,AUx h1,show r+2+AAa L=r+(c.2.1.toNat+AAa L)by omega]
theorem AAe(F:Wz)(r:Nat)(a b c:Int)(i j:Nat):AVv F r a b c i j=if i=r/\j=r then a else if i=r/\j=r+1 then b else if i=r+1/\j=r then b else if i=r+1/\j=r+1 then c else F i j:=by unfold AVv;rw[ABq,ABq,ABq,ABq];grind
theorem Ad8{p:Int}{i j:Nat}:∀{L:List Xe}{r:Nat}{F:Wz},AE0 L->r+AAa L<=i∨r+AAa L<=j->AQ1 p L r F i j=F i j
 |[],r,F,_,_=>rfl|c::L,r,F,h,ho=>by
   have h1:AE0 L:=λx hx=>h x<|cb _ hx;rw[AAb]at ho;rw[ADa];rcases h c W4 with hc|hc;.rw[if_neg Wq,Ad8 h1 Wq,ABq,if_neg Wq]
   .rw[if_pos hc,Ad8 h1 Wq,AAe,if_neg Wq,if_neg Wq,if_neg Wq,if_neg Wq]
theorem AUy{L:List Xe}{b:Xe}:AAa (L++[b])=AAa L+b.2.1.toNat:=by induction L with|nil=>simp[AAa]|cons c L ih=>rw[bH,AAb,AAb,ih];omega
abbrev bm(L:List Xe):Wz:=AQ1 2 L 0 λ_ _=>0
structure DS(n K:Nat)(H T G:Wz)(L:List Xe)(k E:Nat):Prop where
 rt:ARx n (2^K) T
 rg:ARx n (2^K) G
 e:Eli n K 2 H T G
 z:∀i j,i<k->k<=j->j<n->G i j=0
 w:∀i j,i<k->j<k->G i j=bm L i j
 fl:∀i j,k<=i->i<n->k<=j->j<n->(2:Int)^E∣G i j
section
variable{n K k E:Nat}{H T G:Wz}{L:List Xe}
theorem DS.add{j l:Nat}{c:Int}(S:DS n K H T G L k E)(hE:E<=K)(hj:k<=j)(hjn:j<n)(hl:k<=l)(hln:l<n)(hne:l≠j):DS n K H (AKi (2^K) j l c T) (APl (2^K) j l c G) L k E:=by
 have hq:(0:Int)<2^K:=ay Wr;refine⟨ARz hq S.rt,Af8 hq S.rg,?_,λa b ha hb hbn=>?_,λa b ha hb=>?_,λa b ha han hb hbn=>?_⟩
 .exact S.e.add (c:=c) hjn hln hne (λa b ha hb=>by
   unfold AKi;by_cases h:b=j;.subst h;rw[if_pos rfl,if_pos rfl];exact Xp.mod _ _
   .rw[if_neg h,if_neg h,aP];exact Xp.refl _ _) λa b ha hb=>by
   rw[AD3];by_cases h:a=j
   .subst h;rw[if_pos rfl,if_pos rfl];by_cases h2:b=a
    .subst h2;rw[if_pos rfl,if_pos rfl,if_pos rfl];exact(Xp.mod _ _).trans ((Xp.mod _ _).add ((Xp.refl _ _).mul (Xp.mod _ _)))
    .rw[if_neg h2,if_neg h2,if_neg h2,aP,aP];exact Xp.mod _ _
   .rw[if_neg h,if_neg h,aP];by_cases h2:b=j;.subst h2;rw[if_pos rfl,if_pos rfl];exact Xp.mod _ _
    .rw[if_neg h2,if_neg h2,aP];exact Xp.refl _ _
 .rw[AD3,if_neg Wq];by_cases h:b=j;.subst h;rw[if_pos rfl,S.z a b ha hb hbn,S.z a l ha hl hln];simp
  .rw[if_neg h];exact S.z a b ha hb hbn
 .rw[AD3,if_neg Wq,if_neg Wq];exact S.w a b ha hb
 .have hd:(2:Int)^E∣2^K:=Yb hE;have key:∀x y,k<=x->x<n->k<=y->y<n->∀u v,k<=u->u<n->k<=v->v<n->(2:Int)^E∣(G x y+c*G u v)%2^K:=λx y h1 h2 h3 h4 u v h5 h6 h7 h8=>Ab1 hd<|cE (S.fl x y h1 h2 h3 h4)<|aq (S.fl u v h5 h6 h7 h8) ⟨c,aw _ _⟩;rw[AD3];by_cases h:a=j
  .rw[if_pos h];by_cases h2:b=j;.rw[if_pos h2];exact Ab1 hd<|cE (key j j hj hjn hj hjn j l hj hjn hl hln)<|aq (key l j hl hln hj hjn l l hl hln hl hln) ⟨c,aw _ _⟩
   grind
  .rw[if_neg h];by_cases h2:b=j;.grind
   .rw[if_neg h2];exact S.fl a b ha han hb hbn
theorem DS.swap{i j:Nat}(S:DS n K H T G L k E)(hi:k<=i)(hin:i<n)(hj:k<=j)(hjn:j<n):DS n K H (swC i j T) (swG i j G) L k E:=by
 refine⟨λa b ha hb=>S.rt a _ ha<|AMy hin hjn hb,λa b ha hb=>S.rg _ _ (AMy hin hjn ha)<|AMy hin hjn hb,S.e.swap hin hjn (λ_ _ _ _=>rfl) λ_ _ _ _=>rfl,λa b ha hb hbn=>?_,λa b ha hb=>?_,λa b ha han hb hbn=>S.fl _ _ (Ad7 hi hj ha) (AMy hin hjn han) (Ad7 hi hj hb)<|AMy hin hjn hbn⟩;.unfold swG;rw[AVk (a:=a) Wq Wq];exact S.z a _ ha (Ad7 hi hj hb)<|AMy hin hjn hbn
 .unfold swG;rw[AVk (a:=a) Wq Wq,AVk (a:=b) Wq Wq];exact S.w a b ha hb
theorem DS.low(S:DS n K H T G L k E)(hs:∀i j,i<n->j<n->H i j=H j i){E':Nat}(h:∀a e,k<=a->a+e<n->(2:Int)^E'∣G a (a+e)):DS n K H T G L k E':=⟨S.rt,S.rg,S.e,S.z,S.w,λi j hi hin hj hjn=>by
 rcases ab j i with hl|hl
 .rw[S.e.sym hs S.rg hin hjn];have:=h j (i-j) hj Wq;grind
 .have:=h i (j-i) hi Wq;grind⟩
theorem DS.some(S:DS n K H T G L k E)(hs:∀i j,i<n->j<n->H i j=H j i)(hd:¬(2:Int)^K∣det n H)(hk:k<n):∃e,k+e<n/\G k (k+e)≠0:=by
 obtain⟨j,h1,h2,h3⟩:=S.e.some hd hk λj hj=>by rw[S.e.sym hs S.rg hk Wq];exact S.z j k hj (ae k) hk
 exact⟨j-k,Wq,by grind⟩
theorem DS.bound(S:DS n K H T G L k E)(hs:∀i j,i<n->j<n->H i j=H j i){v:Nat}(hd:¬(2:Int)^v∣det n H)(hv:v<=K)(hk:k<n):E<v:=by
 rcases ab E v with h|h;.exact h
 .exfalso;have hp:(2:Int)^v≠0:=b8 Wr;have hrow:∀q,q<n->(2:Int)^v∣G k q:=λq hq=>by
   rcases ab q k with hl|hl;.rw[S.e.sym hs S.rg hk hq,S.z q k hl (ae k) hk];simp_all
   .exact aq (Yb h)<|S.fl k q (ae k) hk hl hq
  have h1:det n G=2^v*det n (Ym G k λq=>G k q/2^v):=by
   rw[<-AZs _ _ hk];refine Xo λi j hi hj=>?_;rw[Xk];by_cases h:i=k;.subst h;rw[if_pos rfl,Int.mul_ediv_cancel'<|hrow j hj]
   .rw[if_neg h]
  have h2:Xp (2^v) (det n G) (det n H):=S.e.det.down<|Yb hv;exact hd<|AKr h2.symm (bw _) ⟨_,h1⟩
theorem A8p(hL:AE0 L)(hk:AAa L=k)(i j:Nat):bm (L++[((E:Int),1,a,0,0)]) i j=if i=k/\j=k then 2^E*a else bm L i j:=by unfold bm;rw[AUx hL,ct,hk];show AYt _ k k ((2:Int)^E*a) i j=_;rw[ABq]
theorem A8q{b c:Int}(hL:AE0 L)(hk:AAa L=k)(i j:Nat):bm (L++[((E:Int),2,a,b,c)]) i j=if i=k/\j=k then 2^E*a else if i=k/\j=k+1 then 2^E*b else if i=k+1/\j=k then 2^E*b else if i=k+1/\j=k+1 then 2^E*c else bm L i j:=by unfold bm;rw[AUx hL,ct,hk];show AVv _ k ((2:Int)^E*a) (2^E*b) (2^E*c) i j=_;rw[AAe]
theorem Ad9(hL:AE0 L)(hk:AAa L=k)(h:k<=i∨k<=j):bm L i j=0:=Ad8 hL Wq
theorem DS.next1(S:DS n K H T G L k E)(hs:∀i j,i<n->j<n->H i j=H j i)(hL:AE0 L)(hkL:AAa L=k)(hk:k<n)(hz:∀j,k<j->j<n->G k j=0)(ha:G k k=2^E*a):DS n K H T G (L++[((E:Int),1,a,0,0)]) (k+1) E:=by
 refine⟨S.rt,S.rg,S.e,λi j hi hj hjn=>?_,λi j hi hj=>?_,λi j hi hin hj hjn=>S.fl i j Wq hin Wq hjn⟩
 .by_cases h:i=k;.grind
  .exact S.z i j Wq Wq hjn
 .rw[A8p hL hkL];by_cases h:i=k
  .by_cases h2:j=k;.grind
   .rw[if_neg Wq,Ad9 hL hkL<|.inl Wq,S.e.sym hs S.rg Wq Wq,h];exact S.z j k Wq (ae k) hk
  .rw[if_neg Wq];by_cases h2:j=k;.rw[Ad9 hL hkL<|.inr Wq,h2];exact S.z i k Wq (ae k) hk
   .exact S.w i j Wq Wq
theorem DS.next2{b c:Int}(S:DS n K H T G L k E)(hs:∀i j,i<n->j<n->H i j=H j i)(hL:AE0 L)(hkL:AAa L=k)(hk:k+1<n)(hz:∀j,k+1<j->j<n->G k j=0/\G (k+1) j=0)(ha:G k k=2^E*a)(hb:G k (k+1)=2^E*b)(hc:G (k+1) (k+1)=2^E*c):DS n K H T G (L++[((E:Int),2,a,b,c)]) (k+2) E:=by
 refine⟨S.rt,S.rg,S.e,λi j hi hj hjn=>?_,λi j hi hj=>?_,λi j hi hin hj hjn=>S.fl i j Wq hin Wq hjn⟩
 .by_cases h:i=k;.grind
  .by_cases h2:i=k+1;.grind
   .exact S.z i j Wq Wq hjn
 .rw[A8q hL hkL];have Ab:G (k+1) k=2^E*b:=by rw[S.e.sym hs S.rg hk Wq,hb]
  by_cases h:k<=i
  .rcases ab j k with h2|h2;.rw[if_neg Wq,if_neg Wq,if_neg Wq,if_neg Wq,Ad9 hL hkL<|.inl h,S.e.sym hs S.rg Wq Wq];exact S.z j i h2 h Wq
   grind
  .rw[if_neg Wq,if_neg Wq,if_neg Wq,if_neg Wq];rcases ab j k with h2|h2;.exact S.w i j Wq h2
   .rw[Ad9 hL hkL<|.inr h2];exact S.z i j Wq h2 Wq
end
structure DL(K:Nat)(L:List Xe)(k E:Nat):Prop where
 sum:AAa L=k
 sz:AE0 L
 rg:∀i,i<L.length->RG 2 K L i
 le:∀b∈L,b.1<=E
theorem DL.nil:DL K [] 0 0:=⟨rfl,λb h=>(nomatch h),λi h=>absurd h<|aG i,λb h=>nomatch h⟩
theorem DL.push{F m:Nat}{L:List Xe}{b:Xe}(B:DL K L k E)(hE:E<=F)(hb:b.1=F)(hP:Ax6 2 K b)(hm:b.2.1=m)(Ab:m=1∨m=2):DL K (L++[b]) (k+m) F:=by
 refine⟨by rw[AUy,B.sum];omega,λx hx=>?_,λi hi=>⟨λx hx=>?_,λh0 x y hx hy=>?_⟩,λx hx=>?_⟩
 .rcases ar.1 hx with h|h;.exact B.sz x h
  grind
 .rcases ab i L.length with h|h;.rw[aF h]at hx;exact(B.rg i h).1 x hx
  grind
 .rw[di,cT]at hi;rcases ab i L.length with h|h;.rw[aF h]at hx;rw[aF Wq]at hy;exact(B.rg i h).2 h0 x y hx hy
  .rw[bo h]at hx;rw[show i-L.length=0 by omega]at hx;obtain rfl:b=x:=by simpa using hx
   rw[aF Wq]at hy;have:=B.le y<|bG hy;omega
 .rcases ar.1 hx with h|h;.have:=B.le x h;omega
  grind
theorem Ah9{m:Int}(hx:0<=x)(hxm:x<m)(hm:2<=m)(Aa:m<=2147483647)(hf:2147483648<fuel):Ok (AD1 fuel x m) λr=>(r.2=true->Acf m x r.1)/\(r.2=false->¬∃y,Acf m x y):=by
 unfold AD1;refine Wv (AUs (λs:Int×Int×Int×Int=>EI m x s.1 s.2.1 s.2.2.1 s.2.2.2) (λs=>s.2.1.toNat) (Q:=λe:Int×Int=>∃v,EI m x e.1 0 e.2 v) (λs hE=>?_) (EI.start hx hxm)<|by grind) λe he=>?_
 .obtain⟨a,b,u,v⟩:=s;dsimp only at hE⊢;have Ad:0<=b:=hE.1;have Ab:0<=a:=hE.2.1;have ham:a<=m:=hE.2.2.1;unfold ALh;refine Xa (λh=>Yi h ?_) λh=>?_;.have hbd:=hE.bounds Wq;rw[bW Ab,Zh (x:=a/b) Wq Wq,Zh (x:=a/b*b) Wq Wq,Zh (x:=a-a/b*b) Wq Wq,Zh (x:=a/b*v) Wq Wq,Zh (x:=u-a/b*v) Wq Wq];have hs:=hE.step Wq;refine Wt ⟨hs,?_⟩;have h2:=av a (b:=b) Wq;rw[dD,aw]at h2;grind
  .obtain rfl:b=0:=by omega
   exact Wt ⟨v,hE⟩
 .obtain⟨v,hE⟩:=he;obtain⟨a,u⟩:=e;dsimp only at hE⊢;have hd:=EI.done hm hE;refine Yi Wq<|Yi Wq<|Wt ⟨λh=>?_,λh=>?_⟩;.dsimp only at h⊢;rw[Aaa hm Aa];grind
  grind
theorem Ayb{n:Nat}(Aa:1<=n)(hn:n<=8)(hf:100<fuel):AFk fuel (Xw n n T)=some true:=by unfold AFk;rw[Alg Aa hn hf];simp only[aa,reduceIte];rw[AYq<|Xx Wq,X5,Xh,if_pos rfl,decide_eq_true Wq]
theorem AQa{S E:Type}{body:S->Option (S⊕E)}{s s':S}(h:body s=some (.inl s')):iter body (fuel+1) s=iter body fuel s':=by simp[iter,h]
theorem ANo{S E:Type}{body:S->Option (S⊕E)}{s:S}{e:E}(h:body s=some (.inr e)):iter body (fuel+1) s=some e:=by simp[iter,h]
theorem Aoa{m:Int}(hm:2<=m)(Aa:m<=2147483647)(hg:∃y,Acf m (x%m) y)(hf:2147483648<f):∃v,ABs f [[x]] m=some ([[v]],0)/\Acf m (x%m) v:=by
 obtain⟨f,rfl⟩:∃g,f=g+3:=⟨f-3,Wq⟩;have Ab:=aI x (show m≠0 by omega);have Ac:=av x (show 0<m by omega);have h0:AFk (f+3) [[x]]=some true:=Ayb (n:=1) (T:=λ_ _=>x) Wq Wq Wq;have h1:AAj (f+3) m=some 0:=by unfold AAj;grind
 have h2:ABd (f+3) [[x]] m=some [[x%m]]:=Ax2 (n:=1) (F:=λ_ _=>x) Wq hm Aa Wq;generalize x%m=r at Ab Ac hg h2⊢;obtain⟨⟨v,b⟩,h3,h4,h5⟩:=Ah9 Ab Ac hm Aa hf;obtain rfl:b=true:=by grind
 have hv:=h4 rfl;dsimp only at hv;have Ae:=hv.1;have Aj:=hv.2.1;have e3:an (W3<|1*v) m=v:=by rw[aA,Zh (x:=v) Wq Wq,ai Ae,bX Ae Aj]
 refine⟨v,?_,hv⟩;have a1:iter (λs:Int×List (List Int)=>ANm (f+3) [[x]] [[r]] s.1 s.2) (f+3) (0,[[r]])=some [[r,1]]:=by rw[AQa (s':=(1,[[r,1]])) rfl,ANo rfl]
 have a2:iter (λs:Int×Int=>AFw (f+3) [[r,1]] s.1 s.2) (f+3) (1,0)=some 1:=by
  have b5:iter (λs:Int×Int=>ANl (f+3) [[r,1]] s.1 s.2) (f+3) (1,1)=some 1:=ANo rfl;rw[AQa (s':=(1,1)) ?_,ANo rfl];show AFw (f+3) [[r,1]] 1 0=_;unfold AFw;rw[if_pos (by grind),show W3 (0+1)=1 from rfl,b5];rfl
 have a3:iter (λs:Int×List (List Int)=>AFx (f+3) m s.1 s.2) (f+3) (0,[[r,1]])=some (bO [[an (W3<|r*v) m,v]]):=by
  have Aq:m≠0:=by omega
  have Ar:iter (λs:Int×List (List Int)=>ACh (f+3) m 0 [r,1] v s.1 s.2) (f+3) (0,[[r,1]])=some [[an (W3<|r*v) m,v]]:=by
   rw[AQa (s':=(1,[[an (W3<|r*v) m,1]])) ?_,AQa (s':=(2,[[an (W3<|r*v) m,v]])) ?_,ANo rfl]
   .show ACh (f+3) m 0 [r,1] v 1 [[an (W3<|r*v) m,1]]=_;unfold ACh;rw[if_pos<|by grind];show(if m≠0 then some (aJ ((2:Int),[[an (W3<|r*v) m,an (W3<|1*v) m]]))else none)=_;grind
   .show ACh (f+3) m 0 [r,1] v 0 [[r,1]]=_;unfold ACh;rw[if_pos<|by grind];show(if m≠0 then some (aJ ((1:Int),[[an (W3<|r*v) m,1]]))else none)=_;rw[if_pos Aq]
  have Au:iter (λs:Int=>AMj (f+3) 0 s) (f+3) 0=some ():=ANo rfl;rw[AQa (s':=(-1,[[an (W3<|r*v) m,v]])) ?_,ANo rfl];show AFx (f+3) m 0 [[r,1]]=_;unfold AFx;rw[if_pos Wr,show gI [[r,1]] (0:Int)=some [r,1]from rfl];simp only[aa];rw[show gI [r,1] (0:Int)=some r from rfl];simp only[aa];rw[h3];simp only[aa];rw[if_neg Wr,Ar];simp only[aa];rw[Au];rfl
 have a4:iter (λs:Int×List (List Int)=>AMk (f+3) [[x]] [[an (W3<|r*v) m,v]] s.1 s.2) (f+3) (0,[[an (W3<|r*v) m,v]])=some [[v]]:=by rw[AQa (s':=(1,[[v]])) rfl,ANo rfl]
 unfold ABs;rw[h0];simp only[aa];rw[if_neg Wr,h1];simp only[aa];rw[if_neg Wr,h2];simp only[aa];rw[a1];simp only[aa];rw[a2];simp only[aa];rw[show W3 (([[x]].length:Nat)-1:Int)=0 from rfl,a3];grind
theorem Aq5{c:Int}(hq:0<q)(Aa:q<=2147483647)(hx:0<=x/\x<q)(hy:0<=y/\y<q)(hc:0<=c/\c<=2147483647):an (W3<|x+W3 (c*y)) q=(x+c*y)%q:=by have h1:0<=c*y:=ci hc.1 hy.1;have h2:c*y<=2147483647*2147483647:=bU hc.2 Wq hy.1 Wr;rw[Zh (x:=c*y) Wq Wq,Zh (x:=x+c*y) Wq Wq,ai Wq]
theorem AQb{n:Nat}(hf:n<fuel)(hs:∀(r:Nat)(M:Wz),r<n->(∀b,M r b=G r b)->body ((r:Int),Xw n n M)=some (.inl (((r+1:Nat):Int),Xw n n<|Ym M r<|G' r)))(he:∀X,body ((n:Int),X)=some (.inr X)):iter body fuel (0,Xw n n G)=some (Xw n n G'):=by
 apply ok_eq;refine Xv (λr st=>∃M,st=((r:Int),Xw n n M)/\r<=n/\∀a b,M a b=if a<r then G' a b else G a b) n ⟨G,rfl,ax _,λa b=>by omega⟩ hf λr st hr hI=>?_;obtain⟨M,rfl,hrn,hM⟩:=hI;rcases ab r n with h|h;.rw[hs r M h λb=>by grind];refine Wt ⟨h,_,rfl,h,λa b=>?_⟩;rw[Xk];grind
 .obtain rfl:r=n:=by omega
  rw[he];exact Wt (AJv λa b ha hb=>by grind)
theorem Aia{n:Nat}(hf:n<fuel)(hs:∀(s:Nat)(M:Wz),s<n->(∀a b,a≠j->M a b=G a b)->M j s=G j s->body ((s:Int),Xw n n M)=some (.inl (((s+1:Nat):Int),Xw n n<|Ym M j λb=>if b=s then g s else M j b)))(he:∀X,body ((n:Int),X)=some (.inr X)):iter body fuel (0,Xw n n G)=some (Xw n n<|Ym G j g):=by
 apply ok_eq;refine Xv (λs st=>∃M,st=((s:Int),Xw n n M)/\s<=n/\∀a b,M a b=if a=j/\b<s then g b else G a b) n ⟨G,rfl,ax _,λa b=>by omega⟩ hf λs st hr hI=>?_;obtain⟨M,rfl,hrn,hM⟩:=hI;rcases ab s n with h|h
 .rw[hs s M h (λa b ha=>by grind)<|by grind];refine Wt ⟨h,_,rfl,h,λa b=>?_⟩;rw[Xk];by_cases h1:a=j
  .subst h1;rw[if_pos rfl];by_cases h2:b=s;.grind
   .rw[if_neg h2,hM];omega
  grind
 .obtain rfl:s=n:=by omega
  rw[he];refine Wt<|AJv λa b ha hb=>?_;rw[hM,Xk];omega
theorem Aib{n:Nat}{c:Int}:Xw n n (Ym G j λb=>(G j b+c*G l b)%q)=Xw n n (Aya q j l c G):=AJv λa b _ _=>by unfold Aya;rw[Xk]
theorem AUz{n:Nat}{c:Int}{M:Wz}(h:∀b,M r b=G r b):Xw n n (Ym M r λb=>if b=j then(M r j+c*M r l)%q else M r b)=Xw n n (Ym M r<|AKi q j l c G r):=AYr λb _=>by unfold AKi;rw[h,h,h]
theorem AYv{n:Nat}{c:Int}{M:Wz}(hq:0<q)(Aa:q<=2147483647)(hc:0<=c/\c<=2147483647)(hi:i<n)(hj:j<n)(hr:r<n)(hn:n<=8)(hM:ARx n q λ_ b=>M r b):((gI (Xw n n M) (r:Int)).bind λx=>(gI x (i:Int)).bind λy=>(gI x (j:Int)).bind λz=>if q≠0 then some (aJ (β:=List<|List Int) (W3<|(r:Int)+1,sI (Xw n n M) (r:Int)<|sI x (i:Int)<|an (W3<|y+W3 (c*z)) q))else none)=some (.inl (((r+1:Nat):Int),Xw n n<|Ym M r λb=>if b=i then(M r i+c*M r j)%q else M r b)):=by rw[Z4<|Xx hr,Z4<|Xb hi,Z4<|Xb hj,if_pos Wq,Aq5 hq Aa (hM 0 i Wq hi) (hM 0 j Wq hj) hc,AP9,ADe,Yr Wq]
theorem Ali{n s:Nat}{c:Int}{M:Wz}(hq:0<q)(Aa:q<=2147483647)(hc:0<=c/\c<=2147483647)(hj:j<n)(hl:l<n)(hs:s<n)(hn:n<=8)(h1:0<=M j s/\M j s<q)(h2:0<=M l s/\M l s<q):((gI (Xw n n M) (l:Int)).bind λx=>(gI x (s:Int)).bind λy=>(gI (Xw n n M) (j:Int)).bind λz=>(gI z (s:Int)).bind λw=>if q≠0 then some (aJ (β:=List<|List Int) (W3<|(s:Int)+1,sI (Xw n n M) (j:Int)<|sI z (s:Int)<|an (W3<|w+W3 (c*y)) q))else none)=some (.inl (((s+1:Nat):Int),Xw n n<|Ym M j λb=>if b=s then(M j s+c*M l s)%q else M j b)):=by rw[Z4<|Xx hl,Z4<|Xb hs,Z4<|Xx hj,Z4<|Xb hs,if_pos Wq,Aq5 hq Aa h1 h2 hc,AP9,ADe,Yr Wq]
theorem Aea{n:Nat}{M:Wz}(hi:i<n)(hk:k<n)(hr:r<n)(hn:n<=8):((gI (Xw n n M) (r:Int)).bind λx=>(gI x (i:Int)).bind λy=>(gI x (k:Int)).bind λz=>(gI (sI (Xw n n M) (r:Int)<|sI x (k:Int) y) (r:Int)).bind λu=>(gI u (i:Int)).bind λw=>some<|aJ (β:=List<|List Int) (W3<|(r:Int)+1,sI (sI (Xw n n M) (r:Int)<|sI x (k:Int) y) (r:Int)<|sI u (i:Int) z))=some (.inl (((r+1:Nat):Int),Xw n n<|Ym M r λb=>M r<|sw2 k i b)):=by
 rw[Z4<|Xx hr,Z4<|Xb hi,Z4<|Xb hk,AP9,ADe,Z4<|Xx hr,Yu,Z4<|Xb hi,AP9,ADe,Yr Wq];congr 3;refine AJv λa b ha hb=>?_;rw[Xk,Xk,Xk];by_cases h:a=r;.rw[if_pos h,if_pos h];unfold sw2;grind
 omega
theorem Aeb{body:Int×List (List Int)×List (List Int)->Option (Int×List (List Int)×List (List Int)⊕List (List Int)×List (List Int))}{g t g' t':List (List Int)}(hf:3<fuel)(h0:body (0,g,t)=some (.inl (1,g',t)))(h1:body (1,g',t)=some (.inl (2,g',t')))(h2:body (2,g',t')=some (.inr (g',t'))):iter body fuel (0,g,t)=some (g',t'):=by obtain⟨f,rfl⟩:∃f,fuel=f+3:=⟨fuel-3,Wq⟩;rw[AQa h0,AQa h1,ANo h2]
section
variable{fuel n i j k:Nat}{q c:Int}{G T:Wz}
theorem AYw{n:Nat}{q:Int}{M G:Wz}(hG:ARx n q G)(hr:r<n)(h:∀b,M r b=G r b):ARx n q λ_ b=>M r b:=λa b _ hb=>by
 show 0<=M r b/\M r b<q;rw[h];exact hG r b hr hb
theorem A8r(hq:1<q)(hq2:q<=2147483647)(hn:n<=8)(hi:i<n)(hj:j<n)(hne:j≠i)(hG:ARx n q G)(hT:ARx n q T)(hf:100<fuel):iter (λs=>ABl fuel q (i:Int) (j:Int) s.1 s.2.1 s.2.2) fuel (0,Xw n n G,Xw n n T)=some (Xw n n<|AKi q i j 1 G,Xw n n<|AKi q i j 1 T)/\iter (λs=>AC4 fuel q (i:Int) (j:Int) (Yy n<|AKi q i j 1 G j) s.1 s.2) fuel (0,Xw n n<|AKi q i j 1 G)=some (Xw n n<|APl q i j 1 G):=by
 constructor
 .refine Aeb Wq ?_ ?_ ?_
  .unfold ABl;dsimp only;rw[if_pos Wr,if_pos rfl,AQb (G:=G) (G':=AKi q i j 1 G) Wq (λr M hr hM=>?_) λX=>?_];.rfl
   .unfold AHt;dsimp only;rw[Xh,if_pos Wq,AYv Wq hq2 Wq hi hj hr hn<|AYw hG hr hM,AUz hM]
   .unfold AHt;dsimp only;rw[Xh,if_neg Wq]
  .unfold ABl;dsimp only;rw[if_pos Wr,if_neg Wr,if_pos rfl,AQb (G:=T) (G':=AKi q i j 1 T) Wq (λr M hr hM=>?_) λX=>?_];.rfl
   .unfold AHu;dsimp only;rw[Xh,if_pos Wq,AYv Wq hq2 Wq hi hj hr hn<|AYw hT hr hM,AUz hM]
   .unfold AHu;dsimp only;rw[Xh,if_neg Wq]
  .unfold ABl;grind
 .have hG1:=ARz (j:=i) (l:=j) (c:=1) Wq hG;unfold APl;rw[Aia (j:=i) (g:=λb=>(AKi q i j 1 G i b+1*AKi q i j 1 G j b)%q) Wq (λs M hs hM hMs=>?_) λX=>?_,Aib];.unfold AC4;dsimp only;rw[X5,if_pos Wq,Ali Wq hq2 Wq hi hj hs hn (by rw[hMs];exact hG1 i s hi hs) (by rw[hM j s hne];exact hG1 j s hj hs),hMs,hM j s hne]
  .unfold AC4;dsimp only;rw[X5,if_neg Wq]
theorem A8s(hn:n<=8)(hi:i<n)(hk:k<n)(hf:100<fuel):iter (λs=>AC5 fuel (k:Int) (i:Int) s.1 s.2.1 s.2.2) fuel (0,sI (sI (Xw n n G) (k:Int)<|Yy n<|G i) (i:Int)<|Yy n<|G k,Xw n n T)=some (Xw n n<|swG k i G,Xw n n<|swC k i T):=by
 have e0:sI (sI (Xw n n G) (k:Int)<|Yy n<|G i) (i:Int) (Yy n<|G k)=Xw n n λa b=>G (sw2 k i a) b:=by rw[ADe,ADe];refine AJv λa b _ _=>?_;rw[Xk,Xk];unfold sw2;grind
 rw[e0];refine Aeb Wq ?_ ?_ ?_
 .unfold AC5;dsimp only;rw[if_pos Wr,if_pos rfl,AQb (G:=λa b=>G (sw2 k i a) b) (G':=swG k i G) Wq (λr M hr hM=>?_) λX=>?_];.rfl
  .unfold AHv;dsimp only;rw[Xh,if_pos Wq,Aea hi hk hr hn];congr 3;exact AYr λb _=>by rw[hM];rfl
  .unfold AHv;dsimp only;rw[Xh,if_neg Wq]
 .unfold AC5;dsimp only;rw[if_pos Wr,if_neg Wr,if_pos rfl,AQb (G:=T) (G':=swC k i T) Wq (λr M hr hM=>?_) λX=>?_];.rfl
  .unfold AHw;dsimp only;rw[Xh,if_pos Wq,Aea hi hk hr hn];congr 3;exact AYr λb _=>by rw[hM];rfl
  .unfold AHw;dsimp only;rw[Xh,if_neg Wq]
 .unfold AC5;grind
theorem A8t{S v:Int}(hq:1<q)(hq2:q<=2147483647)(hn:n<=8)(hi:i<n)(hj:j<n)(hne:j≠i)(hG:ARx n q G)(hT:ARx n q T)(hf:100<fuel)(hc:an (W3<|q-an (W3<|(W3<|dC x S)*v) q) q=c)(hc2:0<=c/\c<q):iter (λs=>AC6 fuel q (j:Int) S (i:Int) x v s.1 s.2.1 s.2.2) fuel (0,Xw n n G,Xw n n T)=some (Xw n n<|AKi q i j c G,Xw n n<|AKi q i j c T)/\iter (λs=>AEt fuel q (j:Int) S (i:Int) x v (Yy n<|AKi q i j c G j) s.1 s.2) fuel (0,Xw n n<|AKi q i j c G)=some (Xw n n<|APl q i j c G):=by
 constructor
 .refine Aeb Wq ?_ ?_ ?_
  .unfold AC6;dsimp only;rw[if_pos Wr,if_pos rfl,AQb (G:=G) (G':=AKi q i j c G) Wq (λr M hr hM=>?_) λX=>?_];.rfl
   .unfold AHx;dsimp only;simp only[hc];rw[Xh,if_pos Wq,AYv Wq hq2 Wq hi hj hr hn<|AYw hG hr hM,AUz hM]
   .unfold AHx;dsimp only;rw[Xh,if_neg Wq]
  .unfold AC6;dsimp only;rw[if_pos Wr,if_neg Wr,if_pos rfl,AQb (G:=T) (G':=AKi q i j c T) Wq (λr M hr hM=>?_) λX=>?_];.rfl
   .unfold AHy;dsimp only;simp only[hc];rw[Xh,if_pos Wq,AYv Wq hq2 Wq hi hj hr hn<|AYw hT hr hM,AUz hM]
   .unfold AHy;dsimp only;rw[Xh,if_neg Wq]
  .unfold AC6;grind
 .have hG1:=ARz (j:=i) (l:=j) (c:=c) Wq hG;unfold APl;rw[Aia (j:=i) (g:=λb=>(AKi q i j c G i b+c*AKi q i j c G j b)%q) Wq (λs M hs hM hMs=>?_) λX=>?_,Aib];.unfold AEt;dsimp only;simp only[hc];rw[X5,if_pos Wq,Ali Wq hq2 Wq hi hj hs hn (by rw[hMs];exact hG1 i s hi hs) (by rw[hM j s hne];exact hG1 j s hj hs),hMs,hM j s hne]
  .unfold AEt;dsimp only;rw[X5,if_neg Wq]
end
structure PV(n k:Nat)(p:Int)(G:Wz)(r c E:Nat):Prop where
 hr:k<=r
 hrc:r<=c
 hc:c<n
 u:∃u,G r c=u*p^E/\¬p∣u
 dg:r≠c->∀a,k<=a->a<n->p^(E+1)∣G a a
def Dn(n k d i a e:Nat):Prop:=k<=a/\a+e<n/\(e<d∨e=d/\a<i)
def PSt(n k:Nat)(p:Int)(G:Wz)(d i r c:Nat)(l:Int):Prop:=(l=-1/\r=k/\c=k/\∀a e,Dn n k d i a e->G a (a+e)=0)∨∃E:Nat,l=E/\PV n k p G r c E/\∀a e,Dn n k d i a e->p^E∣G a (a+e)
def PQ(n k:Nat)(p:Int)(G:Wz)(r c:Nat):Prop:=∃E,PV n k p G r c E/\∀a e,k<=a->a+e<n->p^E∣G a (a+e)
theorem PSt.zero{n d c:Nat}{l:Int}(H:PSt n k p G d i r c l)(hx:G i (i+d)=0):PSt n k p G d (i+1) r c l:=by
 have key:∀a e,Dn n k d (i+1) a e->Dn n k d i a e∨a=i/\e=d:=λa e h=>by unfold Dn at*;omega
 rcases H with⟨h1,h2,h3,h4⟩|⟨E,h1,h2,h3⟩
 .refine .inl ⟨h1,h2,h3,λa e h=>?_⟩;rcases key a e h with h|⟨rfl,rfl⟩;.exact h4 a e h
  .exact hx
 .refine .inr ⟨E,h1,h2,λa e h=>?_⟩;rcases key a e h with h|⟨rfl,rfl⟩;.exact h3 a e h
  .rw[hx];exact⟨0,W4⟩
theorem PSt.new{n d c e:Nat}{l u:Int}(H:PSt n k p G d i r c l)(hi:k<=i)(hin:i+d<n)(hx:G i (i+d)=u*p^e)(hu:¬p∣u)(hl:l<0∨(e:Int)<l):PSt n k p G d (i+1) i (i+d) e:=by
 have key:∀a e',Dn n k d (i+1) a e'->Dn n k d i a e'∨a=i/\e'=d:=λa e h=>by unfold Dn at*;omega
 have all:∀a e',Dn n k d i a e'->p^(e+1)∣G a (a+e'):=λa e' h=>by
  rcases H with⟨h1,_,_,h4⟩|⟨E,rfl,_,h3⟩;.rw[h4 a e' h];exact⟨0,W4⟩
  .exact aq (Yb Wq)<|h3 a e' h
 refine .inr ⟨e,rfl,⟨hi,Wq,hin,⟨u,hx,hu⟩,λhne a h1 h2=>?_⟩,λa e' h=>?_⟩;.exact all a 0 (by unfold Dn;omega)
 .rcases key a e' h with h|⟨rfl,rfl⟩;.exact aq (Yb Wq)<|all a e' h
  .rw[hx];exact⟨u,aw _ _⟩
theorem PSt.old{n d c e:Nat}{l u:Int}(H:PSt n k p G d i r c l)(hx:G i (i+d)=u*p^e)(hl:¬l<0)(Ac:¬(e:Int)<l):PSt n k p G d (i+1) r c l:=by
 have key:∀a e',Dn n k d (i+1) a e'->Dn n k d i a e'∨a=i/\e'=d:=λa e h=>by unfold Dn at*;omega
 rcases H with⟨rfl,_⟩|⟨E,rfl,h2,h3⟩;.exact absurd Wr hl
 .refine .inr ⟨E,rfl,h2,λa e' h=>?_⟩;rcases key a e' h with h|⟨rfl,rfl⟩;.exact h3 a e' h
  .rw[hx];exact aq (Yb Wq) ⟨u,aw _ _⟩
theorem PSt.quit{n d c:Nat}(H:PSt n k p G d i r c f)(hf:∀a e,k<=a->a+e<n->p^f∣G a (a+e)):PQ n k p G r c:=by
 rcases H with⟨h1,_⟩|⟨E,h1,h2,h3⟩;.omega
 .obtain rfl:f=E:=by omega
  exact⟨f,h2,hf⟩
theorem PSt.row{n d c:Nat}{l:Int}(H:PSt n k p G d i r c l)(hi:¬i+d<n):PSt n k p G (d+1) k r c l:=by
 have key:∀a e,Dn n k (d+1) k a e->Dn n k d i a e:=λa e h=>by unfold Dn at*;omega
 rcases H with⟨h1,h2,h3,h4⟩|⟨E,h1,h2,h3⟩;.exact .inl ⟨h1,h2,h3,λa e h=>h4 a e<|key a e h⟩
 .exact .inr ⟨E,h1,h2,λa e h=>h3 a e<|key a e h⟩
section
variable{fuel n k f:Nat}{p q:Int}{G:Wz}
theorem A3c{d c:Nat}{l:Int}(hp:2<=p)(hp2:p<=9973)(hq2:q<=2147483647)(hn:n<=8)(hG:ARx n q G)(hfl:∀a e,k<=a->a+e<n->p^f∣G a (a+e))(hd:d<=n)(hk:k<n)(hS:PSt n k p G d k r c l)(hlf:l≠f)(hf:100<fuel):Ok (iter (λs=>AIu fuel p (f:Int) (Xw n n G) (d:Int) s.1 s.2.1 s.2.2.1 s.2.2.2) fuel ((r:Int),(c:Int),l,(k:Int))) λex=>(∃r c:Nat,ex=.inl ((r:Int),(c:Int))/\PQ n k p G r c)∨∃(r c:Nat)(l:Int),ex=.inr ((r:Int),(c:Int),l)/\PSt n k p G (d+1) k r c l/\l≠f:=by
 refine Xv (λj s=>∃(r c:Nat)(l:Int),s=((r:Int),(c:Int),l,((k+j:Nat):Int))/\k+j<=n/\PSt n k p G d (k+j) r c l/\l≠f) (n-k) ⟨r,c,l,rfl,Wq,hS,hlf⟩ Wq λj s hj hI=>?_;obtain⟨r,c,l,rfl,hjn,hS,hlf⟩:=hI;unfold AIu;dsimp only;have e1:W3 (((k+j:Nat):Int)+(d:Int))=((k+j+d:Nat):Int):=by rw[wk Wq];omega
 rw[e1,Xh];refine Xa (λh=>?_) λh=>Wt<|.inr ⟨r,c,l,rfl,hS.row Wq,hlf⟩;have hij:k+j+d<n:=by omega
 have hi:k+j<n:=by omega
 rw[Z4<|Xx hi,Z4<|Xb hij];have hr:=hG (k+j) (k+j+d) hi hij;have fin:∀(F:Int×Int×Int⊕Int×Int->Option (Int×Int×Int×Int⊕Int×Int⊕Int×Int×Int))(R:Int×Int×Int×Int⊕Int×Int⊕Int×Int×Int->Prop)(r c:Nat)(l:Int),(∀a b e,F (.inl (a,b,e))=some (.inl (a,b,e,W3<|((k+j:Nat):Int)+1)))->(∀a b,F (.inr (a,b))=some (.inr<|.inl (a,b)))->(∀(r c:Nat)(l:Int),PSt n k p G d (k+(j+1)) r c l->l≠f->R (.inl ((r:Int),(c:Int),l,((k+(j+1):Nat):Int))))->(∀r c:Nat,PQ n k p G r c->R (.inr<|.inl ((r:Int),(c:Int))))->PSt n k p G d (k+j+1) r c l->Ok ((if l=f then some (bO ((r:Int),(c:Int)))else some (aJ ((r:Int),(c:Int),l)):Option (Int×Int×Int⊕Int×Int)).bind F) R:=by
  intro F R r c l h1 h2 h3 h4 hS;by_cases hl:l=f;.rw[if_pos hl];simp only[aa];rw[h2];exact Wt<|h4 r c<|(hl▸hS).quit hfl
  .rw[if_neg hl];simp only[aa];rw[h1,Yr Wq];exact Wt<|h3 r c l hS hl
 by_cases h0:G (k+j) (k+j+d)=0;.rw[if_pos h0];refine Wt ⟨Wq,r,c,l,?_,Wq,hS.zero h0,hlf⟩;show((r:Int),(c:Int),l,W3<|((k+j:Nat):Int)+1)=_;rw[Yr Wq];rfl
 .rw[if_neg h0];obtain⟨b,hb,e,u,rfl,hx,hu⟩:=Alh hp hp2 (show 0<G (k+j) (k+j+d)by omega) Wq hf;rw[hb];simp only[aa];by_cases hl:l<0;.rw[if_pos hl];simp only[aa];exact fin _ _ (k+j) (k+j+d) e (λ_ _ _=>rfl) (λ_ _=>rfl) (λr c l hS hl=>⟨Wq,r,c,l,rfl,Wq,hS,hl⟩) (λr c hQ=>.inl ⟨r,c,rfl,hQ⟩)<|hS.new Wq hij hx hu<|.inl hl
  .rw[if_neg hl];by_cases hl2:(e:Int)<l;.rw[if_pos hl2];simp only[aa];exact fin _ _ (k+j) (k+j+d) e (λ_ _ _=>rfl) (λ_ _=>rfl) (λr c l hS hl=>⟨Wq,r,c,l,rfl,Wq,hS,hl⟩) (λr c hQ=>.inl ⟨r,c,rfl,hQ⟩)<|hS.new Wq hij hx hu<|.inr hl2
   .rw[if_neg hl2];simp only[aa];exact fin _ _ r c l (λ_ _ _=>rfl) (λ_ _=>rfl) (λr c l hS hl=>⟨Wq,r,c,l,rfl,Wq,hS,hl⟩) (λr c hQ=>.inl ⟨r,c,rfl,hQ⟩)<|hS.old hx hl hl2
theorem A3d(hp:2<=p)(hp2:p<=9973)(hq2:q<=2147483647)(hn:n<=8)(hG:ARx n q G)(hfl:∀a e,k<=a->a+e<n->p^f∣G a (a+e))(hk:k<n)(hne:∃e,k+e<n/\G k (k+e)≠0)(hf:100<fuel):Ok (iter (λs=>AIv fuel p (f:Int) (k:Int) (Xw n n G) s.1 s.2.1 s.2.2.1 s.2.2.2) fuel ((k:Int),(k:Int),(-1:Int),(0:Int))) λex=>∃r c:Nat,ex=((r:Int),(c:Int))/\PQ n k p G r c:=by
 refine Xv (λd s=>∃(r c:Nat)(l:Int),s=((r:Int),(c:Int),l,(d:Int))/\d<=n-k/\PSt n k p G d k r c l/\l≠f) (n-k) ⟨k,k,-1,rfl,ax _,.inl ⟨rfl,rfl,rfl,λa e h=>by unfold Dn at h;omega⟩,Wq⟩ Wq λd s hd hI=>?_;obtain⟨r,c,l,rfl,hdn,hS,hlf⟩:=hI;unfold AIv;dsimp only;rw[Xh,Zh (x:=(n:Int)-(k:Int)) Wq Wq];refine Xa (λh=>?_) λh=>Wt ⟨r,c,rfl,?_⟩
 .refine Wv (A3c hp hp2 hq2 hn hG hfl Wq hk hS hlf hf) λex hex=>?_;rcases hex with⟨r,c,rfl,hQ⟩|⟨r,c,l,rfl,hS,hlf⟩;.exact Wt ⟨r,c,rfl,hQ⟩
  .refine Wt ⟨Wq,r,c,l,?_,Wq,hS,hlf⟩;rw[Yr Wq]
 .obtain rfl:d=n-k:=by omega
  rcases hS with⟨_,_,_,h4⟩|⟨E,_,h2,h3⟩;.obtain⟨e,he,hx⟩:=hne;exact absurd (h4 k e (by unfold Dn;omega)) hx
  .exact⟨E,h2,λa e h1 h5=>h3 a e (by unfold Dn;omega)⟩
end
theorem Alj(hk:k<=30)(a:Int):AJx .and .i64 a (2^k-1)=a%2^k:=by
 show W3 (((cm 64 a&&&cm 64 (2^k-1)).toNat:Nat):Int)=_;have h1:(2:Int)^k<=2^30:=AC7 Wr hk;have h2:0<(2:Int)^k:=ay Wr;have h3:(2:Int)^30=1073741824:=by decide
 have h4:(2:Int)^k=((2^k:Nat):Int):=by grind
 have h5:0<2^k:=dE Wr;have e1:(((2:Int)^k-1)%((2^64:Nat):Int)).toNat=2^k-1:=by omega
 have e2:=AS5 (q:=(2:Int)^k) h2 a;rw[dp,bS,bS,e1,Nat.and_two_pow_sub_one_eq_mod,Int.natCast_emod,cj<|aI _ Wr,<-h4,bR _ (show(2:Int)^k∣((2^64:Nat):Int)from⟨2^(64-k),by rw[<-aj,show k+(64-k)=64 by omega];decide⟩),wk Wq]
theorem Ate{P A B C v c:Int}(hc:Xp q c ((B*y-C*x)*v))(hd:Xp q d ((B*x-A*y)*v))(hv:Xp q (v*(A*C-B*B)) 1):((P*x+c*(P*A))%q+d*(P*B))%q=0/\((P*y+c*(P*B))%q+d*(P*C))%q=0:=by
 have one:∀z:Int,Xp q (P*z-P*z*(v*(A*C-B*B))) 0:=λz=>by have:=(Xp.refl q<|P*z).sub ((Xp.refl q<|P*z).mul hv);grind
 constructor;.refine Xp.zero<|((Xp.mod _ _).add (Xp.refl _ _)).trans ((((Xp.refl _ _).add (hc.mul<|Xp.refl _ _)).add (hd.mul<|Xp.refl _ _)).trans (Xp.trans (Xp.of_eq ?_)<|one x));grind
 .refine Xp.zero<|((Xp.mod _ _).add (Xp.refl _ _)).trans ((((Xp.refl _ _).add (hc.mul<|Xp.refl _ _)).add (hd.mul<|Xp.refl _ _)).trans (Xp.trans (Xp.of_eq ?_)<|one y));grind
def mvF(c i a:Nat):Nat:=if a=c then i else if c<a/\a<=i then a-1 else a
theorem Aob(i a:Nat):mvF i i a=a:=by unfold mvF;grind
theorem Aec{c:Nat}(hc:c+1<=i)(a:Nat):mvF (c+1) i (sw2 c (c+1) a)=mvF c i a:=by
 unfold sw2;by_cases h1:a=c+1;.rw[if_pos h1];unfold mvF;grind
 .rw[if_neg h1];by_cases h2:a=c;.rw[if_pos h2];unfold mvF;grind
  .rw[if_neg h2];unfold mvF;grind
def mvG(c i:Nat)(G:Wz):Wz:=λa b=>G (mvF c i a)<|mvF c i b
def mvC(c i:Nat)(T:Wz):Wz:=λa b=>T a<|mvF c i b
theorem Ayc(i:Nat)(G:Wz):mvG i i G=G:=by funext a b;unfold mvG;rw[Aob,Aob]
theorem Ayd(i:Nat)(T:Wz):mvC i i T=T:=by funext a b;unfold mvC;rw[Aob]
theorem Alk{c:Nat}(hc:c+1<=i)(G:Wz):swG c (c+1) (mvG (c+1) i G)=mvG c i G:=by funext a b;unfold swG mvG;rw[Aec hc,Aec hc]
theorem Alm{c:Nat}(hc:c+1<=i)(T:Wz):swC c (c+1) (mvC (c+1) i T)=mvC c i T:=by funext a b;unfold swC mvC;rw[Aec hc]
theorem Aoc(c i:Nat):mvF c i c=i:=by unfold mvF;rw[if_pos rfl]
theorem Aye{c a:Nat}(h:c<a)(h2:a<=i):mvF c i a=a-1:=by unfold mvF;grind
theorem A3e(hf:f<=i)(hij:i<j)(G:Wz):mvG f (i+1) (mvG f j G) f f=G i i/\mvG f (i+1) (mvG f j G) f (f+1)=G i j/\mvG f (i+1) (mvG f j G) (f+1) (f+1)=G j j:=by unfold mvG;rw[Aoc,Aye (show f<f+1 by omega) Wq,show f+1-1=f by omega,Aoc,Aye (show f<i+1 by omega) Wq];grind
def QSt(n k K:Nat)(G:Wz)(d i r c l:Nat):Prop:=(l=K/\r=k/\c=k/\∀a e,Dn n k d i a e->G a (a+e)=0)∨l<K/\PV n k 2 G r c l/\∀a e,Dn n k d i a e->(2:Int)^l∣G a (a+e)
section
variable{n k K d i r c l:Nat}{G:Wz}
theorem QSt.init:QSt n k K G 0 k k k K:=.inl ⟨rfl,rfl,rfl,λa e h=>by unfold Dn at h;omega⟩
theorem QSt.new{e:Nat}{u:Int}(H:QSt n k K G d i r c l)(hi:k<=i)(hin:i+d<n)(hx:G i (i+d)=u*2^e)(hu:¬(2:Int)∣u)(hl:e<l):QSt n k K G d (i+1) i (i+d) e:=by
 have key:∀a e',Dn n k d (i+1) a e'->Dn n k d i a e'∨a=i/\e'=d:=λa e h=>by unfold Dn at*;omega
 have hK:e<K:=by rcases H with⟨h1,_⟩|⟨h1,_⟩<;>omega
 have all:∀a e',Dn n k d i a e'->(2:Int)^(e+1)∣G a (a+e'):=λa e' h=>by
  rcases H with⟨h1,_,_,h4⟩|⟨_,_,h3⟩;.simp_all
  .exact aq (Yb Wq)<|h3 a e' h
 refine .inr ⟨hK,⟨hi,Wq,hin,⟨u,hx,hu⟩,λhne a h1 h2=>?_⟩,λa e' h=>?_⟩;.exact all a 0 (by unfold Dn;omega)
 .rcases key a e' h with h|⟨rfl,rfl⟩;.exact aq (Yb Wq) (all a e' h)
  simp_all
theorem QSt.old(H:QSt n k K G d i r c l)(hx:(2:Int)^l∣G i (i+d))(h0:l=K->G i (i+d)=0):QSt n k K G d (i+1) r c l:=by
 have key:∀a e',Dn n k d (i+1) a e'->Dn n k d i a e'∨a=i/\e'=d:=λa e h=>by unfold Dn at*;omega
 rcases H with⟨h1,h2,h3,h4⟩|⟨h1,h2,h3⟩;.refine .inl ⟨h1,h2,h3,λa e h=>?_⟩;grind
 .refine .inr ⟨h1,h2,λa e' h=>?_⟩;grind
theorem QSt.row(H:QSt n k K G d i r c l)(hi:¬i+d<n):QSt n k K G (d+1) k r c l:=by
 have key:∀a e,Dn n k (d+1) k a e->Dn n k d i a e:=λa e h=>by unfold Dn at*;omega
 rcases H with⟨h1,h2,h3,h4⟩|⟨h1,h2,h3⟩;.exact .inl ⟨h1,h2,h3,λa e h=>h4 a e<|key a e h⟩
 .exact .inr ⟨h1,h2,λa e h=>h3 a e<|key a e h⟩
theorem QSt.done(H:QSt n k K G (n-k) i r c l)(hk:k<n)(hne:∃e,k+e<n/\G k (k+e)≠0):l<K/\PV n k 2 G r c l/\∀a e,k<=a->a+e<n->(2:Int)^l∣G a (a+e):=by
 rcases H with⟨_,_,_,h4⟩|⟨h1,h2,h3⟩;.obtain⟨e,he,hx⟩:=hne;exact absurd (h4 k e (by unfold Dn;omega)) hx
 .exact⟨h1,h2,λa e h4 h5=>h3 a e (by unfold Dn;omega)⟩
end
theorem Aln{M:List (List Int)}{v:Int}(R:AS0 M)(hp:2<=p)(hp2:p<=9973)(h:Ae0 (det M.length<|ent M) p v):∃k:Nat,(if p=2 then v+3 else v+1)=(k:Int)/\p^k<=2147483647/\1<=k/\(p=2->3<=k):=by
 obtain⟨v1,v2⟩:=Ad5 R;obtain⟨e,r,rfl,h1,h2⟩:=h;have hpe:0<p^e:=ay Wq;have hr:0<r:=by
  rcases bZ 0 r with h|h;.exact h
  .have:=cq h<|bc hpe;omega
 have hle:1*p^e<=r*p^e:=au Wq Wq;by_cases h:p=2;.subst h;refine⟨e+3,Wq,?_,Wq,λ_=>by omega⟩;grind
 .refine⟨e+1,Wq,?_,Wq,λh2=>absurd h2 h⟩;rw[ao];have:=bU (show p^e<=10000 by omega) hp2 Wq Wq;omega
theorem A3f(a:Int):AJx .and .i64 a 1=a%2:=by show W3 (((cm 64 a&&&cm 64 1).toNat:Nat):Int)=_;rw[dp,bS,bS,show((1:Int)%((2^64:Nat):Int)).toNat=1 by decide,Nat.and_one_is_mod,wk Wq];omega
theorem Ab2(hk:k<=30):W3 (1*2^aU (k:Int))=(2:Int)^k:=by
 have h1:(2:Int)^k<=2^30:=AC7 Wr hk;have h2:0<(2:Int)^k:=ay Wr;have h3:(2:Int)^30=1073741824:=by decide
 rw[am,aA,wk Wq]
theorem BCv{e b c:Int}:Ok (AC9 fuel e s a b c) λr=>r=true↔if s=1 then a%2=1/\b=0/\c=0 else s=2/\a%2=0/\b%2=1/\c%2=0:=by
 unfold AC9;rw[A3f,A3f,A3f];refine Xa (λh=>?_) λh=>?_
 .rw[if_pos h];refine Xa (λh1=>Xa (λh2=>Wt ?_) λh2=>Wt ?_) λh1=>Wt ?_;.grind
  .grind
  grind
 .rw[if_neg h];refine Xa (λh0=>Xa (λh1=>Xa (λh2=>Wt ?_) λh2=>Wt ?_) λh1=>Wt ?_) λh0=>Wt ?_;.grind
  .grind
  .grind
  grind
theorem AQc(hK:K<=30)(z:Int):Xp (2^K) (W3 z) z:=by
 have h1:Xp ((2:Int)^64) (W3 z) z:=by
  show W3 z%2^64=z%2^64;show IntKind.i64.wrap z%2^64=z%2^64;rw[IntKind.wrap_i64];omega
 exact h1.down<|Yb Wq
abbrev mkE(K:Nat)(z:Int):Option Int:=if 0<=(K:Int)/\(K:Int)<=64 then some (AJx .and .i64 (W3 z)<|W3<|(W3<|1*2^aU (K:Int))-1)else none
theorem mk_val(hK:K<=30){z:Int}(h:Xp (2^K) z y):mkE K z=some (y%2^K):=by
 have h1:(2:Int)^K<=2^30:=AC7 Wr hK;have h2:0<(2:Int)^K:=ay Wr;have h3:(2:Int)^30=1073741824:=by decide
 unfold mkE;rw[if_pos Wq,Ab2 hK,Zh (x:=(2:Int)^K-1) Wq Wq,Alj hK];exact congrArg some<|(AQc hK z).trans h
theorem BCw(hK:K<=30)(x c y:Int):Xp (2^K) (x+W3 (c*y)) (x+c*y):=(Xp.refl _ x).add (AQc hK _)
section
variable{fuel n K:Nat}
theorem Atf{c:Int}{M:Wz}(hK:K<=30)(hi:i<n)(hj:j<n)(hr:r<n)(hn:n<=8):((gI (Xw n n M) (r:Int)).bind λx=>(gI x (i:Int)).bind λy=>(gI x (j:Int)).bind λz=>(mkE K<|y+W3 (c*z)).bind λe=>some<|aJ (β:=List<|List Int) (W3<|(r:Int)+1,sI (Xw n n M) (r:Int)<|sI x (i:Int) e))=some (.inl (((r+1:Nat):Int),Xw n n<|Ym M r λb=>if b=i then(M r i+c*M r j)%2^K else M r b)):=by rw[Z4<|Xx hr,Z4<|Xb hi,Z4<|Xb hj,mk_val hK<|BCw hK _ _ _];simp only[aa];rw[AP9,ADe,Yr Wq]
theorem Atg{s:Nat}{c:Int}{M:Wz}(hK:K<=30)(hj:j<n)(hl:l<n)(hs:s<n)(hn:n<=8):((gI (Xw n n M) (l:Int)).bind λx=>(gI x (s:Int)).bind λy=>(gI (Xw n n M) (j:Int)).bind λz=>(gI z (s:Int)).bind λw=>(mkE K<|w+W3 (c*y)).bind λe=>some<|aJ (β:=List<|List Int) (W3<|(s:Int)+1,sI (Xw n n M) (j:Int)<|sI z (s:Int) e))=some (.inl (((s+1:Nat):Int),Xw n n<|Ym M j λb=>if b=s then(M j s+c*M l s)%2^K else M j b)):=by rw[Z4<|Xx hl,Z4<|Xb hs,Z4<|Xx hj,Z4<|Xb hs,mk_val hK<|BCw hK _ _ _];simp only[aa];rw[AP9,ADe,Yr Wq]
theorem Aod{c:Int}{R:Int->List (List Int)->List (List Int)->Option (Int×List (List Int)×List (List Int)⊕List (List Int)×List (List Int))}{RG RT:List (List Int)->Int×List (List Int)->Option (Int×List (List Int)⊕List (List Int))}{RE:List Int->Int->List (List Int)->Option (Int×List (List Int)⊕List (List Int))}(hK:K<=30)(hn:n<=8)(hi:i<n)(hj:j<n)(hne:j≠i)(hf:100<fuel)(r0:∀G T,R 0 (Xw n n G) T=(iter (RG<|Xw n n G) fuel (0,Xw n n G)).bind λe=>some<|aJ (1,e,T))(r1:∀G T,R 1 G (Xw n n T)=(iter (RT<|Xw n n T) fuel (0,Xw n n T)).bind λe=>some<|aJ (2,G,e))(r2:∀G T,R 2 G T=some (.inr (G,T)))(rg:∀(X:Wz)(r:Int)M,RG (Xw n n X) (r,M)=if r<n then(gI M r).bind λx=>(gI x (i:Int)).bind λy=>(gI x (j:Int)).bind λz=>(mkE K<|y+W3 (c*z)).bind λe=>some (aJ (W3<|r+1,sI M r<|sI x (i:Int) e))else some<|.inr M)(rt:∀(X:Wz)(r:Int)M,RT (Xw n n X) (r,M)=if r<n then(gI M r).bind λx=>(gI x (i:Int)).bind λy=>(gI x (j:Int)).bind λz=>(mkE K<|y+W3 (c*z)).bind λe=>some (aJ (W3<|r+1,sI M r<|sI x (i:Int) e))else some<|.inr M)(re:∀(F:Nat->Int)(s:Int)M,RE (Yy n F) s M=if s<n then(gI M (j:Int)).bind λx=>(gI x s).bind λy=>(gI M (i:Int)).bind λz=>(gI z s).bind λw=>(mkE K<|w+W3 (c*y)).bind λe=>some (aJ (W3<|s+1,sI M (i:Int)<|sI z s e))else some<|.inr M):(iter (λs=>R s.1 s.2.1 s.2.2) fuel (0,Xw n n G,Xw n n T)).bind (λ((e1,e2):List (List Int)×List (List Int))=>(gI e1 (j:Int)).bind λx=>(iter (λs=>RE x s.1 s.2) fuel (0,e1)).bind λe=>some (e,e2))=some (Xw n n<|APl (2^K) i j c G,Xw n n<|AKi (2^K) i j c T):=by
 have AM7:∀(B:Int×List (List Int)->Option (Int×List (List Int)⊕List (List Int)))(G:Wz),(∀(r:Int)M,B (r,M)=if r<n then(gI M r).bind λx=>(gI x (i:Int)).bind λy=>(gI x (j:Int)).bind λz=>(mkE K<|y+W3 (c*z)).bind λe=>some (aJ (W3<|r+1,sI M r<|sI x (i:Int) e))else some<|.inr M)->iter B fuel (0,Xw n n G)=some (Xw n n<|AKi (2^K) i j c G):=λB G hB=>AQb (G':=AKi (2^K) i j c G) Wq λr M hr hM=>by rw[hB,if_pos Wq,Atf hK hi hj hr hn,AUz hM] λX=>by grind
 rw[Aeb (fuel:=fuel) (g':=Xw n n<|AKi (2^K) i j c G) (t':=Xw n n<|AKi (2^K) i j c T) Wq (by grind) (by grind)<|by grind];simp only[aa];rw[Z4<|Xx hj];unfold APl;rw[Aia (j:=i) (g:=λb=>(AKi (2^K) i j c G i b+c*AKi (2^K) i j c G j b)%2^K) Wq λs M hs hM hMs=>by dsimp only;rw[re,if_pos Wq,Atg hK hi hj hs hn,hMs,hM j s hne] λX=>by grind,Aib];rfl
theorem Aic{c:Nat}{R:Int->List (List Int)->List (List Int)->Option (Int×List (List Int)×List (List Int)⊕List (List Int)×List (List Int))}{RG RT:List (List Int)->Int×List (List Int)->Option (Int×List (List Int)⊕List (List Int))}(hn:n<=8)(hc:c+1<n)(hf:100<fuel)(r0:∀G T,R 0 (Xw n n G) T=(iter (RG<|Xw n n G) fuel (0,Xw n n G)).bind λe=>some<|aJ (1,e,T))(r1:∀G T,R 1 G (Xw n n T)=(iter (RT<|Xw n n T) fuel (0,Xw n n T)).bind λe=>some<|aJ (2,G,e))(r2:∀G T,R 2 G T=some (.inr (G,T)))(rg:∀(X:Wz)(r:Int)M,RG (Xw n n X) (r,M)=if r<n then(gI M r).bind λx=>(gI x ((c+1:Nat):Int)).bind λy=>(gI x (c:Int)).bind λz=>(gI (sI M r<|sI x (c:Int) y) r).bind λu=>(gI u ((c+1:Nat):Int)).bind λw=>some (aJ (W3<|r+1,sI (sI M r<|sI x (c:Int) y) r<|sI u ((c+1:Nat):Int) z))else some<|.inr M)(rt:∀(X:Wz)(r:Int)M,RT (Xw n n X) (r,M)=if r<n then(gI M r).bind λx=>(gI x ((c+1:Nat):Int)).bind λy=>(gI x (c:Int)).bind λz=>(gI (sI M r<|sI x (c:Int) y) r).bind λu=>(gI u ((c+1:Nat):Int)).bind λw=>some (aJ (W3<|r+1,sI (sI M r<|sI x (c:Int) y) r<|sI u ((c+1:Nat):Int) z))else some<|.inr M):iter (λs=>R s.1 s.2.1 s.2.2) fuel (0,sI (sI (Xw n n G) (c:Int)<|Yy n<|G<|c+1) ((c+1:Nat):Int)<|Yy n<|G c,Xw n n T)=some (Xw n n<|swG c (c+1) G,Xw n n<|swC c (c+1) T):=by
 have e0:sI (sI (Xw n n G) (c:Int)<|Yy n<|G<|c+1) ((c+1:Nat):Int) (Yy n<|G c)=Xw n n λa b=>G (sw2 c (c+1) a) b:=by rw[ADe,ADe];refine AJv λa b _ _=>?_;rw[Xk,Xk];unfold sw2;grind
 have AM7:∀(B:Int×List (List Int)->Option (Int×List (List Int)⊕List (List Int)))(G:Wz),(∀(r:Int)M,B (r,M)=if r<n then(gI M r).bind λx=>(gI x ((c+1:Nat):Int)).bind λy=>(gI x (c:Int)).bind λz=>(gI (sI M r<|sI x (c:Int) y) r).bind λu=>(gI u ((c+1:Nat):Int)).bind λw=>some (aJ (W3<|r+1,sI (sI M r<|sI x (c:Int) y) r<|sI u ((c+1:Nat):Int) z))else some<|.inr M)->iter B fuel (0,Xw n n G)=some (Xw n n<|swC c (c+1) G):=λB G hB=>AQb (G':=swC c (c+1) G) Wq (λr M hr hM=>by rw[hB,if_pos Wq,Aea hc Wq hr hn];congr 3;exact AYr λb _=>by rw[hM];rfl) λX=>by grind
 rw[e0];exact Aeb Wq (by dsimp only;rw[r0,AM7 (RG _) _<|rg _];rfl) (by grind) (by grind)
theorem Aid{R:Int->List (List Int)->List (List Int)->Option (Int×List (List Int)×List (List Int)⊕List (List Int)×List (List Int))}(hn:n<=8)(hf:f<=i)(hi:i<n)(hfu:100<fuel)(rs:∀(c:Nat)G T,f<=c->c+1<n->R ((c+1:Nat):Int) (Xw n n G) (Xw n n T)=some (.inl ((c:Int),Xw n n<|swG c (c+1) G,Xw n n<|swC c (c+1) T)))(re:∀G T,R (f:Int) G T=some (.inr (G,T))):iter (λs=>R s.1 s.2.1 s.2.2) fuel ((i:Int),Xw n n G,Xw n n T)=some (Xw n n<|mvG f i G,Xw n n<|mvC f i T):=by
 apply ok_eq;refine Xv (λm s=>s=(((i-m:Nat):Int),Xw n n<|mvG (i-m) i G,Xw n n<|mvC (i-m) i T)/\m<=i-f) (i-f) ⟨by rw[Nat.sub_zero,Ayc,Ayd],ax _⟩ Wq λm s hm hI=>?_;obtain⟨rfl,hmf⟩:=hI;dsimp only;rcases ab m (i-f)with h|h;.obtain⟨c,hc⟩:∃c,i-m=c+1:=⟨i-m-1,Wq⟩;rw[hc,rs c _ _ Wq Wq,Alk Wq,Alm Wq];refine Wt ⟨h,?_,h⟩;grind
 .rw[show i-m=f by omega,re];exact Wt rfl
end
theorem AL9(hp:Pr p):PrI p:=⟨hp.1,λx y h=>by
 have h2:=hp.1;refine bD λhn=>?_;have hx:x%p≠0:=λh=>hn<|.inl<|aL h;have hy:y%p≠0:=λh=>hn<|.inr<|aL h;have h3:=aI x (show p≠0 by omega);have h4:=av x (show 0<p by omega);have h5:=aI y (show p≠0 by omega);have h6:=av y (show 0<p by omega);refine Aug hp (a:=x%p) (x:=y%p) Wq Wq Wq Wq ?_;rw[<-bC];omega⟩
theorem Alp{p a:Int}(hp:Pr p)(ha:¬p∣a):∀K:Nat,∃y,p^(K+1)∣y*a-1
 |0=>by have h2:=hp.1;have hx:a%p≠0:=λh=>ha<|aL h;have h3:=aI a (show p≠0 by omega);have h4:=av a (show 0<p by omega);obtain⟨y,hy⟩:=Aci hp _ (a%p) (ae _) Wq h4;refine⟨y,?_⟩;rw[ao,bI,aA];refine AEy (m:=p) ?_;show y*a%p=1%p;rw[bX (a:=1) Wr Wq,<-hy];exact((Xp.refl p y).mul (Xp.mod p a)).symm|K+1=>by
   obtain⟨y,z,hz⟩:=Alp hp ha K;refine⟨y*(2-y*a),?_⟩;have e:y*(2-y*a)*a-1=-((y*a-1)*(y*a-1)):=by grind
   rw[e,hz];refine Int.dvd_neg.2<|aq (Yb (b:=K+1+(K+1)) Wq) ?_;rw[aj];exact⟨z*z,by grind⟩
theorem Aab(hp:Pr p)(ha:¬p∣a)(hK:1<=K):∃y,Acf (p^K) (a%p^K) y:=by obtain⟨y,hy⟩:=Alp hp ha<|K-1;rw[show K-1+1=K by omega]at hy;have hq:0<p^K:=ay (by have:=hp.1;omega);refine⟨y%p^K,aI _ Wq,av _ hq,?_⟩;exact((Xp.mod _ y).mul (Xp.mod _ a)).trans (ACw hy)
theorem Aac{u:Int}(hp:PrI p)(hx:x=u*p^E)(hu:¬p∣u)(hf:p^f∣x):f<=E:=by
 rcases ab E f with h|h;.exfalso;have h1:p^(E+1)∣u*p^E:=hx▸aq (Yb h) hf;obtain⟨w,hw⟩:=h1;refine hu ⟨w,bL (ASw hp E) ?_⟩;grind
 .exact h
theorem Ayf{u:Int}(hp:PrI p)(hx:x=u*p^E)(hu:¬p∣u)(h0:0<=x/\x<p^K):E<K:=by
 rcases ab E K with h|h;.exact h
 .exfalso;have hpp:=hp.1;have h1:p^K∣x:=by rw[hx];exact aq (Yb h) ⟨u,aw _ _⟩
  have h2:x=0:=by
   rcases bZ 0 x with h3|h3;.have:=bM h3 h1;omega
   .omega
  rw[h2]at hx;have hpE:p^E≠0:=ASw hp E;rcases ca.1 hx.symm with h3|h3;.simp_all
  .exact hpE h3
section
variable{fuel n K k:Nat}{p:Int}{H T G:Wz}
theorem JS.low(S:JS n K p H T G k E)(hs:∀i j,i<n->j<n->H i j=H j i){E':Nat}(h:∀a e,k<=a->a+e<n->p^E'∣G a (a+e)):JS n K p H T G k E':=⟨S.rt,S.rg,S.e,S.z,λi j hi hin hj hjn=>by
 rcases ab j i with hl|hl
 .rw[S.e.sym hs S.rg hin hjn];have:=h j (i-j) hj Wq;grind
 .have:=h i (j-i) hi Wq;grind⟩
theorem Aga{c:Int}{G:Wz}{a:Nat}(h:a≠j):APl q j l c G a a=G a a:=by rw[AD3,if_neg h,if_neg h]
theorem Ayg{a:Nat}{G:Wz}(hi:a≠i)(hj:a≠j):swG i j G a a=G a a:=by unfold swG;rw[AVk hi hj]
theorem A3g{A v:Int}(S:JS n K p H T G k E)(hp:2<=p)(hq1:1<p^K)(hq2:p^K<=2147483647)(hE:E<=K)(hn:n<=8)(hk:k<n)(hD:G k k=A*p^E)(hv:Xp (p^K) (v*A) 1)(hv0:0<=v/\v<p^K)(hf:100<fuel):Ok (iter (λs=>AHz fuel (p^K) (k:Int) (p^E) [[v]] s.1 s.2.1 s.2.2) fuel (((k+1:Nat):Int),Xw n n G,Xw n n T)) λex=>∃T' G',ex=(Xw n n G',Xw n n T')/\JS n K p H T' G' k E/\(∀a,a<=k->G' a a=G a a)/\∀j,k<j->j<n->G' k j=0:=by
 refine Xv (λi s=>∃T' G',s=(((k+1+i:Nat):Int),Xw n n G',Xw n n T')/\k+1+i<=n/\JS n K p H T' G' k E/\(∀a,a<=k->G' a a=G a a)/\∀j,k<j->j<k+1+i->G' k j=0) (n-(k+1)) ⟨T,G,rfl,Wq,S,λ_ _=>rfl,λj h1 h2=>by omega⟩ Wq λi s hi hI=>?_;obtain⟨T',G',rfl,hin,S',hd,hz⟩:=hI;unfold AHz;dsimp only;rw[Xh];refine Xa (λh=>?_) λh=>Wt ⟨T',G',rfl,S',hd,λj h1 h2=>hz j h1 Wq⟩;obtain⟨j,hj⟩:∃j,j=k+1+i:=⟨_,rfl⟩;rw[<-hj]at h hin hz⊢;have hjn:j<n:=by omega
 have hpE:0<p^E:=ay Wq;rw[Z4<|Xx hk,Z4<|Xb hjn,if_pos Wq,AYq (x:=[v]) rfl,AYq (x:=v) rfl,if_pos Wq,if_pos Wq];have hx:=S'.rg k j hk hjn;obtain⟨x,hxe⟩:∃x,x=G' k j:=⟨_,rfl⟩;rw[<-hxe]at hx⊢;have hdiv:0<=x/p^E/\x/p^E<=x:=⟨Int.ediv_nonneg hx.1<|bc hpE,Int.ediv_le_self _ hx.1⟩;have hm0:0<=x/p^E*v:=ci hdiv.1 hv0.1;have hm1:x/p^E*v<=2147483647*2147483647:=bU Wq Wq hv0.1 Wr;have hc0:=AS5 (q:=p^K) Wq<|x/p^E*v;have hc:an (W3<|p^K-(an (W3<|(W3<|dC x<|p^E)*v)<|p^K)) (p^K)=(p^K-x/p^E*v%p^K)%p^K:=by rw[bW hx.1,Zh (x:=x/p^E) Wq Wq,Zh (x:=x/p^E*v) Wq Wq,ai hm0,wk Wq,ai Wq]
 obtain⟨c,hce⟩:∃c,c=(p^K-x/p^E*v%p^K)%p^K:=⟨_,rfl⟩;rw[<-hce]at hc;have hc2:0<=c/\c<p^K:=by rw[hce];exact AS5 Wq _
 obtain⟨a1,a2⟩:=A8t (fuel:=fuel) (G:=G') (T:=T') hq1 hq2 hn hjn hk Wq S'.rg S'.rt hf hc hc2;rw[a1];simp only[aa];rw[Z4<|Xx hk,a2];simp only[aa];have S2:=S'.add (c:=c) Wq hE (show k<=j by omega) hjn (ae k) hk Wq;refine Wt ⟨Wq,_,_,?_,Wq,S2,λa ha=>by rw[Aga Wq,hd a ha],λj' h1 h2=>?_⟩;.rw[hj,Yr Wq];rfl
 .rw[AD3,if_neg Wq];by_cases h3:j'=j;.rw[if_pos h3,<-hxe,hd k<|ae k,hce];exact An9 Wq Wq hx.1 (hxe▸S'.fl k j (ae k) hk Wq hjn) hD hv
  grind
theorem A3h{L:List Xe}{M:List (List Int)}(hM:M.length=n)(S:JS n K p H T G k f)(B:JL n p G L k f)(hs:∀i j,i<n->j<n->H i j=H j i)(hd:¬p^K∣det n H)(hp:Pr p)(hp2:2<p)(hp3:p<=9973)(hq2:p^K<=2147483647)(hK:1<=K)(hn:n<=8)(hk:k<n)(hf:2147483648<fuel):∃T' G' L' E,ADi fuel M p (p^K) (f:Int) (k:Int) (Xw n n G) (Xw n n T) L=some (.inl ((E:Nat),((k+1:Nat):Int),Xw n n G',Xw n n T',L'))/\JS n K p H T' G' (k+1) E/\JL n p G' L' (k+1) E:=by
 have hI:=AL9 hp;have hf2:100<fuel:=by omega
 have hq1:1<p^K:=by have h1:p^1<=p^K:=AC7 Wq hK;grind
 obtain⟨j,hj1,hj2,hj3⟩:=S.e.some hd hk λj hj=>by rw[S.e.sym hs S.rg hk Wq];exact S.z j k hj hk Wq
 obtain⟨ex,hpv,r,c,rfl,E,P,hall⟩:=A3d (fuel:=fuel) (n:=n) (k:=k) (f:=f) (p:=p) (G:=G) Wq hp3 hq2 hn S.rg (λa e h1 h2=>S.fl a (a+e) h1 Wq Wq h2) hk ⟨j-k,Wq,by grind⟩ hf2;have S1:=S.low hs hall;obtain⟨u,hu,hpu⟩:=P.u;have hrn:r<n:=by have:=P.hrc;have:=P.hc;omega
 have hEK:=Ayf hI hu hpu<|S.rg r c hrn P.hc;have hfE:=Aac hI hu hpu<|S.fl r c P.hr hrn (by have:=P.hr;have:=P.hrc;omega) P.hc;have key:∃T1 G1,(if¬(r:Int)=(c:Int)then((iter (λs=>ABl fuel (p^K) (r:Int) (c:Int) s.1 s.2.1 s.2.2) fuel (0,Xw n n G,Xw n n T)).bind λ((e1,e2):(List<|List Int)×(List<|List Int))=>(gI e1 (c:Int)).bind λx=>(iter (λs=>AC4 fuel (p^K) (r:Int) (c:Int) x s.1 s.2) fuel (0,e1)).bind λ(e:List<|List Int)=>some<|(e,e2):Option ((List<|List Int)×(List<|List Int))).bind λ(e1,e2)=>some<|(e1,e2)else some<|(Xw n n G,Xw n n T):Option ((List<|List Int)×(List<|List Int)))=some (Xw n n G1,Xw n n T1)/\JS n K p H T1 G1 k E/\(∃u,G1 r r=u*p^E/\¬p∣u)/\∀a,a<k->G1 a a=G a a:=by
  by_cases hrc:r=c;.subst hrc;exact⟨T,G,by grind,S1,⟨u,hu,hpu⟩,λ_ _=>rfl⟩
  .obtain⟨a1,a2⟩:=A8r (fuel:=fuel) (G:=G) (T:=T) hq1 hq2 hn hrn P.hc (λh=>hrc h.symm) S.rg S.rt hf2;refine⟨_,_,?_,S1.add (c:=1) Wq Wq P.hr hrn (by have:=P.hr;have:=P.hrc;omega) P.hc λh=>hrc h.symm,S1.pivot hs hI λh=>by have:=bM Wr h;omega hEK P.hr hrn (by have:=P.hr;have:=P.hrc;omega) P.hc (λh=>hrc h.symm) hu hpu (P.dg hrc r P.hr hrn)<|P.dg hrc c (by have:=P.hr;have:=P.hrc;omega) P.hc,λa ha=>Aga (by have:=P.hr;omega)⟩;rw[if_pos Wq,a1];simp only[aa];rw[Z4<|Xx P.hc,a2];rfl
 obtain⟨T1,G1,e1,S2,⟨u1,hu1,hpu1⟩,hd1⟩:=key;have S3:=S2.swap (ae k) hk P.hr hrn;have hdk:swG k r G1 k k=u1*p^E:=by
  have:swG k r G1 k k=G1 r r:=by
   unfold swG sw2;by_cases h:k=r;.rw[if_pos h,h]
   .rw[if_neg h,if_pos rfl]
  rw[this,hu1]
 have hkk:=S3.rg k k hk hk;have hpos:0<swG k r G1 k k:=by
  rcases bZ 0 (swG k r G1 k k)with h|h;.exact h
  .exfalso;have h0:swG k r G1 k k=0:=by omega
   rw[h0]at hdk;rcases ca.1 hdk.symm with h3|h3;.exact hpu1<|h3▸⟨0,W4⟩
   .exact ASw hI E h3
 obtain⟨b,hb,hbi⟩:=Alh (fuel:=fuel) (show 2<=p by omega) hp3 hpos Wq hf2;obtain rfl:=A8n (show 2<=p by omega) hbi (⟨E,u1,rfl,hdk,hpu1⟩:IsB p _ _);obtain⟨v,hv,hvi⟩:=Aoa (f:=fuel) (x:=u1) (m:=p^K) Wq hq2 (Aab hp hpu1 hK) hf;have hvq:Xp (p^K) (v*u1) 1:=((Xp.refl _ v).mul (Xp.mod _ u1)).symm.trans hvi.2.2;obtain⟨ex,hcl,T2,G2,rfl,S4,hd2,hz2⟩:=A3g (fuel:=fuel) S3 Wq hq1 hq2 Wq hn hk hdk hvq ⟨hvi.1,hvi.2.1⟩ hf2;have hLk:=B.len;refine⟨T2,G2,L++[((E:Int),1,u1,0,0)],E,?_,S4.next hs hk hz2,(B.keep λa ha=>?_).push ?_ ?_ rfl hfE⟩;.unfold ADi;rw[hM,if_pos Wq,hpv];simp only[aa];rw[e1];simp only[aa];rw[Z4<|Xx hrn,Z4<|Xx hk,A8s hn hrn hk hf2];simp only[aa];rw[Z4<|Xx hk,Z4<|Xb hk,hb];simp only[aa];rw[Ax5 Wq (bJ (AC7 Wq<|cR hEK) hq2) hf2];simp only[aa];rw[hv];simp only[aa];rw[Yr Wq,hcl];simp only[aa];rw[if_pos Wq]
 .rw[hd2 a Wq,Ayg Wq (by have:=P.hr;omega),hd1 a ha]
 .rw[hd2 k<|ae k];omega
 .rw[hd2 k<|ae k];exact⟨E,u1,rfl,hdk,hpu1⟩
end
theorem Ayh{n:Nat}{M:List (List Int)}(hM:M.length=n)(hn:n<=8)(hf:100<fuel):iter (λs=>AIw fuel M s.1 s.2) fuel (0,[])=some (Xw n n dl):=by
 apply ok_eq;refine Xv (λi s=>s=((i:Int),Yy i λa=>Yy n<|dl a)/\i<=n) n ⟨rfl,ax _⟩ Wq λi s hi hI=>?_;obtain⟨rfl,hin⟩:=hI;unfold AIw;dsimp only;rw[hM];refine Xa (λh=>?_) λh=>?_
 .have hi:i<n:=by omega
  rw[if_pos Wq,X5,if_pos Wq,am,ACb n (0:Int)];have hget:(Yy i (λa=>Yy n<|dl a)++[Yy n λ_=>(0:Int)])[i]?=some (Yy n λ_=>(0:Int)):=by rw[bo (by rw[X5];exact ae _),X5,cu];rfl
  rw[Z4 hget,Z4<|Xb hi,AP9,Yr Wq];refine Wt ⟨hi,?_,hi⟩;congr 1;rw[Yl,dr,if_neg (by rw[X5];omega),X5,cu];show Yy i (λa=>Yy n<|dl a)++[Yy n λc=>if c=i then 1 else 0]=_;have:Yy n (λc=>if c=i then(1:Int)else 0)=Yy n (dl i):=Yd λc _=>by
   unfold dl;by_cases h:c=i;.rw[if_pos h,if_pos h.symm]
   .rw[if_neg h,if_neg λe=>h e.symm]
  rw[this];unfold Yy;rw[du,dw];rfl
 .obtain rfl:i=n:=by omega
  exact Wt rfl
theorem Ayi{M:List (List Int)}{m:Int}(R:AS0 M)(hm:2<=m)(Aa:m<=2147483647)(hf:100<fuel):ADo fuel M m=some (Xw M.length M.length λi j=>ent M i j%m,0):=by
 have hM:=AYp R;unfold ADo AAj;have h1:AEe fuel M=some true:=by rw[hM];exact Alg R.1.1 R.1.2 hf
 have h2:ABd fuel M m=some (Xw M.length M.length λi j=>ent M i j%m):=by
  conv=>lhs;rw[hM]
  exact Ax2 R.1.2 hm Aa hf
 rw[h1];simp only[aa];rw[if_neg Wr,if_neg Wq,if_neg Wq];simp only[aa];rw[if_neg Wr,h2];rfl
theorem A8u{M:List (List Int)}(R:AS0 M)(hp:Pr p)(hp2:2<p)(hp3:p<=9973)(hf:2147483648<fuel):∃(K E:Nat)(T G:Wz)(L:List Xe),ADq fuel M p=some ((p,Xw M.length M.length T,L),0)/\ABc fuel M p=some (K:Int)/\1<=K/\p^K<=2147483647/\Ae0 (det M.length<|ent M) p ((K:Int)-1)/\JS M.length K p (ent M) T G M.length E/\JL M.length p G L M.length E:=by
 have hf2:100<fuel:=by omega
 obtain⟨v,hv,hv2,hj,-⟩:=Af7 (fuel:=fuel) R hp hp3 hf2;obtain⟨K,hk,hq,hk1,-⟩:=Aln R Wq hp3 hv;rw[hk]at hj;rw[if_neg Wq]at hk;have hq1:2<=p^K:=by have h1:p^1<=p^K:=AC7 Wq hk1;rw[ao,bI,aA]at h1;omega
 have hI:=AL9 hp;have hn:=R.1.2;have hs:∀i j,i<M.length->j<M.length->ent M i j=ent M j i:=λi j hi hj=>R.2.2.sym i j hi hj;have hd:¬p^K∣det M.length (ent M):=λh=>by obtain⟨e,r,he,h1,h2⟩:=hv;have:=Aac (f:=K) hI h1 h2 h;omega
 unfold ADq;have hrd:isRed M=true:=(AZ7 M).2 R;have hod:Aku p=true:=(AZ0 ⟨hp2,hp3,hp⟩).symm;simp only[ALg,AMu,aa,hrd,hod];rw[if_neg Wr,if_neg Wr,hj];simp only[aa];rw[Ax5 Wq hq hf2];simp only[aa];rw[Ayi R hq1 hq hf2];simp only[aa];rw[Ayh rfl hn hf2];simp only[aa];have S0:JS M.length K p (ent M) dl (λi j=>ent M i j%p^K) 0 0:=⟨λi j _ _=>by unfold dl;split<;>omega,λi j _ _=>AS5 Wq _,Ax7 λi j _ _=>Xp.mod _ _,λi j h=>absurd h<|aG i,λi j _ _ _ _=>⟨ent M i j%p^K,by rw[bI,aA]⟩⟩;have B0:JL M.length p (λi j=>ent M i j%p^K) [] 0 0:=⟨rfl,λi b h=>by simp at h,λi hi b c h=>by simp at h⟩;have main:Ok (iter (λs=>ADi fuel M p (p^K) s.1 s.2.1 s.2.2.1 s.2.2.2.1 s.2.2.2.2) fuel (0,0,Xw M.length M.length λi j=>ent M i j%p^K,Xw M.length M.length dl,[])) λex=>∃(E:Nat)(T G:Wz)(L:List Xe),ex=(Xw M.length M.length G,Xw M.length M.length T,L)/\JS M.length K p (ent M) T G M.length E/\JL M.length p G L M.length E:=by
  refine Xv (λi s=>∃(E:Nat)(T G:Wz)(L:List Xe),s=((E:Int),(i:Int),Xw M.length M.length G,Xw M.length M.length T,L)/\i<=M.length/\JS M.length K p (ent M) T G i E/\JL M.length p G L i E) M.length ⟨0,_,_,_,rfl,ax _,S0,B0⟩ Wq λi s hi hI=>?_;obtain⟨E,T,G,L,rfl,hin,S,B⟩:=hI;dsimp only;rcases ab i M.length with h|h;.obtain⟨T',G',L',E',h1,h2,h3⟩:=A3h (fuel:=fuel) (M:=M) rfl S B hs hd hp hp2 hp3 hq hk1 hn h hf;rw[h1];exact Wt ⟨h,E',T',G',L',rfl,h,h2,h3⟩
  .obtain rfl:i=M.length:=by omega
   unfold ADi;rw[if_neg Wq];exact Wt ⟨E,T,G,L,rfl,S,B⟩
 obtain⟨ex,h1,E,T,G,L,rfl,S,B⟩:=main;rw[h1];exact⟨K,E,T,G,L,rfl,rfl,hk1,hq,by rwa[show(K:Int)-1=v by omega],S,B⟩
def dB(b:Xe):Int:=if b.2.1=2 then b.2.2.1*b.2.2.2.2-b.2.2.2.1*b.2.2.2.1 else b.2.2.1
def vL:List Xe->Nat|[]=>0|b::l=>b.2.1.toNat*b.1.toNat+vL l
def uL:List Xe->Int|[]=>1|b::l=>dB b*uL l
theorem Ayj(L:List Xe)(b:Xe):vL (L++[b])=vL L+b.2.1.toNat*b.1.toNat:=by induction L with|nil=>show _+0=0+_;omega|cons c L ih=>show _+vL (L++[b])=_+vL L+_;omega
theorem A8v(L:List Xe)(b:Xe):uL (L++[b])=uL L*dB b:=by induction L with|nil=>show _*1=1*_;omega|cons c L ih=>show _*uL (L++[b])=_*uL L*_;rw[ih,bn]
theorem BF1(F:Wz):det 1 F=F 0 0:=by simp[det,psum,sg]
theorem BF2(F:Wz):det 2 F=F 0 0*F 1 1-F 1 0*F 0 1:=by simp[det,psum,sg,Zp,skp,Int.sub_eq_add_neg,Int.neg_mul]
theorem BF3(h:Xp 0 x y):x=y:=by simpa[Xp]using h
theorem Aoe{L:List Xe}{e b c:Int}(hL:AE0 L)(hs:s=1∨s=2)(he:0<=e):det (AAa L+s.toNat) (bm<|L++[(e,s,a,b,c)])=det (AAa L) (bm L)*(2^(s.toNat*e.toNat)*dB (e,s,a,b,c)):=by
 obtain⟨E,rfl⟩:∃E:Nat,e=E:=⟨e.toNat,Wq⟩;have happ:∀i j,bm (L++[((E:Int),s,a,b,c)]) i j=AQ1 2 [((E:Int),s,a,b,c)] (AAa L) (bm L) i j:=λi j=>by unfold bm;rw[AUx hL,ct]
 have ho:∀i j,AAa L<=i∨AAa L<=j->bm L i j=0:=λi j h=>Ad9 hL rfl h;have hcut:=BF3 (Ah0 (n:=AAa L+s.toNat) (k:=AAa L) (p:=0) (S:=bm<|L++[((E:Int),s,a,b,c)]) Wq λi j hi hj hjn=>by
  rw[happ,ADa];show(0:Int)∣_;by_cases h2:s=2
  .rw[if_pos h2];show(0:Int)∣AVv _ _ _ _ _ i j;rw[AAe,if_neg Wq,if_neg Wq,if_neg Wq,if_neg Wq,ho i j<|.inr hj];exact bw 0
  .rw[if_neg h2];show(0:Int)∣AYt _ _ _ _ i j;rw[ABq,if_neg Wq,ho i j<|.inr hj];exact bw 0);rw[hcut,show AAa L+s.toNat-AAa L=s.toNat by omega];congr 1
 .refine Xo λi j hi hj=>?_;rw[happ,ADa];by_cases h2:s=2;.rw[if_pos h2];show AVv _ _ _ _ _ i j=_;rw[AAe,if_neg Wq,if_neg Wq,if_neg Wq,if_neg Wq]
  .rw[if_neg h2];show AYt _ _ _ _ i j=_;rw[ABq,if_neg Wq]
 .rcases hs with rfl|rfl;.show det 1 _=_;rw[BF1];unfold shF;rw[happ,ADa,if_neg<|show¬(1:Int)=2 by decide];show AYt _ _ _ _ _ _=_;rw[ABq,if_pos ⟨rfl,rfl⟩];unfold dB;rw[if_neg<|show¬(1:Int)=2 by decide];show(2:Int)^E*a=2^(1*E)*a;rw[de]
  .show det 2 _=_;rw[BF2];unfold shF;have ev:∀i j,bm (L++[((E:Int),2,a,b,c)]) i j=AVv (bm L) (AAa L) (2^E*a) (2^E*b) (2^E*c) i j:=λi j=>by rw[happ,ADa,if_pos rfl];rfl
   rw[ev,ev,ev,ev,AAe,AAe,AAe,AAe];unfold dB;rw[if_pos ⟨rfl,rfl⟩,if_neg Wq,if_neg Wq,if_neg Wq,if_pos ⟨rfl,rfl⟩,if_neg Wq,if_neg Wq,if_pos ⟨rfl,rfl⟩,if_neg Wq,if_pos ⟨rfl,rfl⟩,if_pos rfl];show _=(2:Int)^(2*E)*(a*c-b*b);rw[Nat.two_mul,aj];grind
theorem Ayk:∀(m:Nat){L:List Xe},L.length=m->AE0 L->(∀b∈L,0<=b.1)->det (AAa L) (bm L)=2^vL L*uL L
 |0,L,h,_,_=>by
   rw[cL]at h;subst h;rfl|m+1,L,h,hs,he=>by
   rcases List.eq_nil_or_concat L with rfl|⟨l,b,rfl⟩;.simp at h
   .rw[List.concat_eq_append]at h hs he⊢;have hl:AE0 l:=λx hx=>hs x<|cY _ hx;have hb:=hs b W4;have heb:=he b W4;have:=Ayk m (L:=l) (by simpa using h) hl λx hx=>he x<|cY _ hx;obtain⟨e,s,a,b,c⟩:=b;rw[AUy,Aoe hl hb heb,this,Ayj,A8v,aj];grind
theorem A3i{v V:Nat}{r U:Int}(hK:K=v+3)(hd:d=r*2^v)(hr:r%2=1)(hU:U%2=1)(h:Xp (2^K) (2^V*U) d):V=v/\U%8=r%8:=by
 have hP:PrI 2:=AL9 ⟨Wq,λd h1 h2=>by omega⟩;have n2:∀{x:Int},x%2=1->¬(2:Int)∣x:=λhx h=>by have:=bN h;omega
 have low:∀{a:Nat},a<=K->((2:Int)^a∣2^V*U↔(2:Int)^a∣d):=λ{a}ha=>⟨λh1=>AKr (h.down<|Yb ha).symm (bw _) h1,λh1=>AKr (h.down<|Yb ha) (bw _) h1⟩;have h1:v<=V:=Aac hP (aw _ _) (n2 hU)<|(low (a:=v) Wq).2 ⟨r,by rw[hd,aw]⟩;have hV:V=v:=by
  rcases ab v V with h2|h2;.have h3:(2:Int)^(v+1)∣d:=(low (a:=v+1) Wq).1 (aq (Yb Wq) ⟨U,rfl⟩);have:=Aac hP hd (n2 hr) h3;omega
  .omega
 refine⟨hV,?_⟩;subst hV;have h2:=AEy h;rw[hd,hK,aj]at h2;obtain⟨w,hw⟩:=h2;have h3:U-r=8*w:=by
  refine bL (ASw hP V) ?_;have e8:(2:Int)^3=8:=by decide
  rw[e8]at hw;grind
 omega
section
variable{fuel n K k:Nat}{H T G:Wz}{L:List Xe}
theorem AMa(u:Int):2^E*u/2^aU (E:Int)=u:=by rw[am];exact be _<|b8 Wr
theorem A8w(hK:K<=30)(hx:0<=x/\x<2^K)(hf:100<fuel):Ok (iter (λs=>AIq fuel K x s) fuel 0) λr=>x=0/\r=K∨∃(E:Nat)(u:Int),r=E/\E<K/\x=u*2^E/\¬(2:Int)∣u:=by
 refine Xv (λi s=>s=(i:Int)/\i<=K/\(2:Int)^i∣x) K ⟨rfl,ax _,Wq⟩ Wq λi s hi hI=>?_;obtain⟨rfl,hiK,hd⟩:=hI;unfold AIq;obtain⟨y,rfl⟩:=hd;rcases ab i K with h|h
 .rw[if_pos (show(i:Int)<(K:Int)by omega),if_pos (show 0<=(i:Int)/\(i:Int)<=64 by omega),AMa,A3f];by_cases h2:y%2=0;.rw[if_pos h2];simp only[aa];refine Wt ⟨h,Yr Wq,h,?_⟩;obtain⟨z,rfl⟩:=aL h2;exact⟨z,by grind⟩
  .rw[if_neg h2];simp only[aa];exact Wt<|.inr ⟨i,y,rfl,h,aw _ _,λh3=>h2<|bN h3⟩
 .obtain rfl:i=K:=by omega
  rw[if_neg Wq];simp only[aa];refine Wt<|.inl ⟨?_,rfl⟩;have h0:(0:Int)<2^i:=ay Wr;have hy:y=0:=by
   refine bD λhy=>?_;rcases bZ y 1 with h1|h1;.have:=ah (show y<=-1 by omega)<|bc h0;omega
   .have:=ah h1<|bc h0;omega
  grind
theorem Ayl{d c:Nat}(hK:K<=30)(hn:n<=8)(hG:ARx n (2^K) G)(hd:d<=n)(hk:k<n)(hS:QSt n k K G d k r c l)(hf:100<fuel):Ok (iter (λs=>AIr fuel K (Xw n n G) (d:Int) s.1 s.2.1 s.2.2.1 s.2.2.2) fuel ((r:Int),(c:Int),(l:Int),(k:Int))) λex=>∃r c l:Nat,ex=((r:Int),(c:Int),(l:Int))/\QSt n k K G (d+1) k r c l:=by
 refine Xv (λj s=>∃r c l:Nat,s=((r:Int),(c:Int),(l:Int),((k+j:Nat):Int))/\k+j<=n/\QSt n k K G d (k+j) r c l) (n-k) ⟨r,c,l,rfl,Wq,hS⟩ Wq λj s hj hI=>?_;obtain⟨r,c,l,rfl,hjn,hS⟩:=hI;unfold AIr;dsimp only;have e1:W3 (((k+j:Nat):Int)+(d:Int))=((k+j+d:Nat):Int):=by rw[wk Wq];omega
 rw[e1,Xh];refine Xa (λh=>?_) λh=>Wt ⟨r,c,l,rfl,hS.row Wq⟩;have hij:k+j+d<n:=by omega
 have hi:k+j<n:=by omega
 have hlK:l<=K:=by rcases hS with⟨h1,_⟩|⟨h1,_⟩<;>omega
 rw[Z4<|Xx hi,Z4<|Xb hij];obtain⟨e,he,hcase⟩:=A8w (fuel:=fuel) hK (hG (k+j) (k+j+d) hi hij) hf;rw[he];simp only[aa];rcases hcase with⟨h0,rfl⟩|⟨E,u,rfl,hEK,hx,hu⟩;.rw[if_neg Wq];simp only[aa];refine Wt ⟨Wq,r,c,l,?_,Wq,hS.old (by simp_all) λ_=>h0⟩;rw[Yr Wq];rfl
 .by_cases hl:E<l;.rw[if_pos Wq];simp only[aa];refine Wt ⟨Wq,k+j,k+j+d,E,?_,Wq,hS.new Wq hij hx hu hl⟩;rw[Yr Wq];rfl
  .rw[if_neg Wq];simp only[aa];refine Wt ⟨Wq,r,c,l,?_,Wq,hS.old (by rw[hx];exact aq (Yb Wq) ⟨u,aw _ _⟩) λh=>by omega⟩;rw[Yr Wq];rfl
theorem Aym(hK:K<=30)(hn:n<=8)(hG:ARx n (2^K) G)(hk:k<n)(hne:∃e,k+e<n/\G k (k+e)≠0)(hf:100<fuel):Ok (iter (λs=>AIs fuel K (k:Int) (Xw n n G) s.1 s.2.1 s.2.2.1 s.2.2.2) fuel ((k:Int),(k:Int),(K:Int),(0:Int))) λex=>∃r c l:Nat,ex=((r:Int),(c:Int),(l:Int))/\l<K/\PV n k 2 G r c l/\∀a e,k<=a->a+e<n->(2:Int)^l∣G a (a+e):=by
 refine Xv (λd s=>∃r c l:Nat,s=((r:Int),(c:Int),(l:Int),(d:Int))/\d<=n-k/\QSt n k K G d k r c l) (n-k) ⟨k,k,K,rfl,ax _,QSt.init⟩ Wq λd s hd hI=>?_;obtain⟨r,c,l,rfl,hdn,hS⟩:=hI;unfold AIs;dsimp only;rw[Xh,Zh (x:=(n:Int)-(k:Int)) Wq Wq];refine Xa (λh=>?_) λh=>Wt ⟨r,c,l,rfl,?_⟩;.refine Wv (Ayl hK hn hG Wq hk hS hf) λex hex=>?_;obtain⟨r,c,l,rfl,hS⟩:=hex;refine Wt ⟨Wq,r,c,l,?_,Wq,hS⟩;rw[Yr Wq]
 .obtain rfl:d=n-k:=by omega
  exact hS.done hk hne
theorem Aie(hn:n<=8)(hk:k<=i)(hi:i<n)(hf:100<fuel):iter (λs=>AEq fuel (k:Int) s.1 s.2.1 s.2.2) fuel ((i:Int),Xw n n G,Xw n n T)=some (Xw n n<|mvG k i G,Xw n n<|mvC k i T)/\iter (λs=>AEr fuel (k:Int) s.1 s.2.1 s.2.2) fuel ((i:Int),Xw n n G,Xw n n T)=some (Xw n n<|mvG k i G,Xw n n<|mvC k i T)/\iter (λs=>AEs fuel (k:Int) s.1 s.2.1 s.2.2) fuel ((i:Int),Xw n n G,Xw n n T)=some (Xw n n<|mvG k i G,Xw n n<|mvC k i T):=by
 have e1:∀c:Nat,c+1<n->W3 (((c+1:Nat):Int)-1)=(c:Int):=λc hc=>by rw[wk Wq];omega
 refine⟨Aid hn hk hi hf (λc G T hc hcn=>?_) λG T=>?_,Aid hn hk hi hf (λc G T hc hcn=>?_) λG T=>?_,Aid hn hk hi hf (λc G T hc hcn=>?_) λG T=>?_⟩;.unfold AEq;rw[if_pos Wq,Z4<|Xx hcn,e1 c hcn,Z4<|Xx (show c<n by omega),Aic (R:=ACy fuel ((c+1:Nat):Int)) (RG:=λX s=>AHc fuel ((c+1:Nat):Int) X s.1 s.2) (RT:=λX s=>AHd fuel ((c+1:Nat):Int) X s.1 s.2) hn hcn hf λG T=>by unfold ACy;rfl λG T=>by unfold ACy;rfl λG T=>by unfold ACy;rfl λX r M=>by unfold AHc;dsimp only;rw[Xh,e1 c hcn] λX r M=>by unfold AHd;dsimp only;rw[Xh,e1 c hcn]];rfl
 .unfold AEq;grind
 .unfold AEr;rw[if_pos Wq,Z4<|Xx hcn,e1 c hcn,Z4<|Xx (show c<n by omega),Aic (R:=ACz fuel ((c+1:Nat):Int)) (RG:=λX s=>AHe fuel ((c+1:Nat):Int) X s.1 s.2) (RT:=λX s=>AHf fuel ((c+1:Nat):Int) X s.1 s.2) hn hcn hf λG T=>by unfold ACz;rfl λG T=>by unfold ACz;rfl λG T=>by unfold ACz;rfl λX r M=>by unfold AHe;dsimp only;rw[Xh,e1 c hcn] λX r M=>by unfold AHf;dsimp only;rw[Xh,e1 c hcn]];rfl
 .unfold AEr;grind
 .unfold AEs;rw[if_pos Wq,Z4<|Xx hcn,e1 c hcn,Z4<|Xx (show c<n by omega),Aic (R:=AC0 fuel ((c+1:Nat):Int)) (RG:=λX s=>AHg fuel ((c+1:Nat):Int) X s.1 s.2) (RT:=λX s=>AHh fuel ((c+1:Nat):Int) X s.1 s.2) hn hcn hf λG T=>by unfold AC0;rfl λG T=>by unfold AC0;rfl λG T=>by unfold AC0;rfl λX r M=>by unfold AHg;dsimp only;rw[Xh,e1 c hcn] λX r M=>by unfold AHh;dsimp only;rw[Xh,e1 c hcn]];rfl
 .unfold AEs;grind
end
section
variable{fuel n K k E:Nat}{H T G:Wz}{L:List Xe}
theorem DS.move{i:Nat}(S:DS n K H T G L k E)(hi:i<n):∀(m f:Nat),i=f+m->k<=f->DS n K H (mvC f i T) (mvG f i G) L k E
 |0,f,h,hf=>by
   obtain rfl:i=f:=h;rw[Ayd,Ayc];exact S|m+1,f,h,hf=>by
   have:=(DS.move S hi m (f+1) Wq Wq).swap hf Wq (show k<=f+1 by omega) Wq;rwa[Alm Wq,Alk Wq]at this
theorem Ayn{P A v c:Int}(hc:Xp q c (-y*v))(hv:Xp q (v*A) 1):(P*y+c*(P*A))%q=0:=by
 have one:Xp q (P*y-P*y*(v*A)) 0:=by
  have:=(Xp.refl q<|P*y).sub ((Xp.refl q<|P*y).mul hv);grind
 exact Xp.zero<|((Xp.refl _ _).add (hc.mul<|Xp.refl _ _)).trans (Xp.trans (Xp.of_eq<|by grind) one)
theorem Ayo{A v:Int}(S:DS n K H T G L k E)(hK:K<=30)(hE:E<=K)(hn:n<=8)(hk:k<n)(hD:G k k=2^E*A)(hv:Xp (2^K) (v*A) 1)(hf:100<fuel):Ok (iter (λs=>AHl fuel K (k:Int) E v s.1 s.2.1 s.2.2) fuel (((k+1:Nat):Int),Xw n n G,Xw n n T)) λex=>∃T' G',ex=(Xw n n G',Xw n n T')/\DS n K H T' G' L k E/\G' k k=2^E*A/\∀j,k<j->j<n->G' k j=0:=by
 refine Xv (λi s=>∃T' G',s=(((k+1+i:Nat):Int),Xw n n G',Xw n n T')/\k+1+i<=n/\DS n K H T' G' L k E/\G' k k=2^E*A/\∀j,k<j->j<k+1+i->G' k j=0) (n-(k+1)) ⟨T,G,rfl,Wq,S,hD,λj h1 h2=>by omega⟩ Wq λi s hi hI=>?_;obtain⟨T',G',rfl,hin,S',hd,hz⟩:=hI;unfold AHl;dsimp only;rw[Xh];refine Xa (λh=>?_) λh=>Wt ⟨T',G',rfl,S',hd,λj h1 h2=>hz j h1 Wq⟩;obtain⟨j,hj⟩:∃j,j=k+1+i:=⟨_,rfl⟩;rw[<-hj]at h hin hz⊢;have hjn:j<n:=by omega
 obtain⟨y,hy⟩:=S'.fl k j (ae k) hk Wq hjn;rw[Z4<|Xx hk,Z4<|Xb hjn,if_pos (show 0<=(E:Int)/\(E:Int)<=64 by omega),hy,AMa];have hc:mkE K (W3 (0-y)*v)=some (-y*v%2^K):=mk_val hK<|((AQc hK _).trans (Xp.of_eq<|Int.zero_sub y)).mul (Xp.refl _ v);unfold mkE at hc;rw[hc];simp only[aa];obtain⟨c,hce⟩:∃c,c=-y*v%2^K:=⟨_,rfl⟩;rw[<-hce,Aod (R:=AC1 fuel K (k:Int) (j:Int) c) (RG:=λX s=>AHi fuel K (k:Int) (j:Int) c X s.1 s.2) (RT:=λX s=>AHj fuel K (k:Int) (j:Int) c X s.1 s.2) (RE:=AHk fuel K (k:Int) (j:Int) c) hK hn hjn hk Wq hf λG T=>by unfold AC1;rfl λG T=>by unfold AC1;rfl λG T=>by unfold AC1;rfl λX r M=>by unfold AHi;dsimp only;rw[Xh] λX r M=>by unfold AHj;dsimp only;rw[Xh] λF s M=>by unfold AHk;rw[X5]];simp only[aa];have S2:=S'.add (c:=c) hE (show k<=j by omega) hjn (ae k) hk Wq;refine Wt ⟨Wq,_,_,?_,Wq,S2,?_,λj' h1 h2=>?_⟩;.rw[hj,Yr Wq];rfl
 .rw[AD3,if_neg Wq,if_neg Wq];exact hd
 .rw[AD3,if_neg Wq];by_cases h3:j'=j;.rw[if_pos h3,hy,hd];exact Ayn (hce▸Xp.mod _ _) hv
  grind
theorem Ath{A B C v:Int}(S:DS n K H T G L k E)(hs:∀i j,i<n->j<n->H i j=H j i)(hK:K<=30)(hE:E<=K)(hn:n<=8)(hk:k+1<n)(hA:G k k=2^E*A)(hB:G k (k+1)=2^E*B)(hC:G (k+1) (k+1)=2^E*C)(hv:Xp (2^K) (v*(A*C-B*B)) 1)(hf:100<fuel):Ok (iter (λs=>AHs fuel K (k:Int) E (2^E*A) (2^E*B) (2^E*C) v s.1 s.2.1 s.2.2) fuel (((k+2:Nat):Int),Xw n n G,Xw n n T)) λex=>∃T' G',ex=(Xw n n G',Xw n n T')/\DS n K H T' G' L k E/\(G' k k=2^E*A/\G' k (k+1)=2^E*B/\G' (k+1) (k+1)=2^E*C)/\∀j,k+1<j->j<n->G' k j=0/\G' (k+1) j=0:=by
 refine Xv (λi s=>∃T' G',s=(((k+2+i:Nat):Int),Xw n n G',Xw n n T')/\k+2+i<=n/\DS n K H T' G' L k E/\(G' k k=2^E*A/\G' k (k+1)=2^E*B/\G' (k+1) (k+1)=2^E*C)/\∀j,k+1<j->j<k+2+i->G' k j=0/\G' (k+1) j=0) (n-(k+2)) ⟨T,G,rfl,Wq,S,⟨hA,hB,hC⟩,λj h1 h2=>by omega⟩ Wq λi s hi hI=>?_;obtain⟨T',G',rfl,hin,S',⟨h1,h2,h3⟩,hz⟩:=hI;unfold AHs;dsimp only;rw[Xh];refine Xa (λh=>?_) λh=>Wt ⟨T',G',rfl,S',⟨h1,h2,h3⟩,λj h1 h2=>hz j h1 Wq⟩;obtain⟨j,hj⟩:∃j,j=k+2+i:=⟨_,rfl⟩;rw[<-hj]at h hin hz⊢;have hjn:j<n:=by omega
 have hk0:k<n:=by omega
 have e1:W3 ((k:Int)+1)=((k+1:Nat):Int):=Yr Wq;obtain⟨x,hx⟩:=S'.fl k j (ae k) hk0 Wq hjn;obtain⟨y,hy⟩:=S'.fl (k+1) j Wq hk Wq hjn;have hEE:0<=(E:Int)/\(E:Int)<=64:=by omega
 rw[e1,Z4<|Xx hk0,Z4<|Xb hjn,if_pos hEE,Z4<|Xx hk,Z4<|Xb hjn,if_pos hEE,hx,hy,AMa,AMa,AMa,AMa,AMa];have sub:∀a b c d:Int,Xp (2^K) (W3 (a*b)-W3 (c*d)) (a*b-c*d):=λa b c d=>(AQc hK _).sub (AQc hK _);have hc1:mkE K (W3 (B*y)-W3 (C*x))=some ((B*y-C*x)%2^K):=mk_val hK<|sub _ _ _ _;have hd1:mkE K (W3 (B*x)-W3 (A*y))=some ((B*x-A*y)%2^K):=mk_val hK<|sub _ _ _ _;have hc2:mkE K ((B*y-C*x)%2^K*v)=some ((B*y-C*x)*v%2^K):=mk_val hK<|(Xp.mod _ _).mul (Xp.refl _ v);have hd2:mkE K ((B*x-A*y)%2^K*v)=some ((B*x-A*y)*v%2^K):=mk_val hK<|(Xp.mod _ _).mul (Xp.refl _ v);unfold mkE at hc1 hd1 hc2 hd2;rw[hc1];simp only[aa];rw[hd1];simp only[aa];rw[hc2];simp only[aa];obtain⟨c,hce⟩:∃c,c=(B*y-C*x)*v%2^K:=⟨_,rfl⟩;obtain⟨d,hde⟩:∃d,d=(B*x-A*y)*v%2^K:=⟨_,rfl⟩;rw[<-hde]at hd2;rw[<-hce,Aod (R:=AC2 fuel K (k:Int) (j:Int) c) (RG:=λX s=>AHm fuel K (k:Int) (j:Int) c X s.1 s.2) (RT:=λX s=>AHn fuel K (k:Int) (j:Int) c X s.1 s.2) (RE:=AHo fuel K (k:Int) (j:Int) c) hK hn hjn hk0 Wq hf λG T=>by unfold AC2;rfl λG T=>by unfold AC2;rfl λG T=>by unfold AC2;rfl λX r M=>by unfold AHm;dsimp only;rw[Xh] λX r M=>by unfold AHn;dsimp only;rw[Xh] λF s M=>by unfold AHo;rw[X5]];simp only[aa];rw[hd2];simp only[aa];rw[Aod (R:=AC3 fuel K (k:Int) (j:Int) d) (RG:=λX s=>AHp fuel K (k:Int) (j:Int) d X s.1 s.2) (RT:=λX s=>AHq fuel K (k:Int) (j:Int) d X s.1 s.2) (RE:=AHr fuel K (k:Int) (j:Int) d) hK hn hjn hk Wq hf λG T=>by unfold AC3;rfl λG T=>by unfold AC3;rfl λG T=>by unfold AC3;rfl λX r M=>by unfold AHp;dsimp only;rw[Xh,e1] λX r M=>by unfold AHq;dsimp only;rw[Xh,e1] λF s M=>by unfold AHr;rw[X5,e1]];simp only[aa];have S2:=(S'.add (c:=c) hE (show k<=j by omega) hjn (ae k) hk0 Wq).add (c:=d) hE (show k<=j by omega) hjn (show k<=k+1 by omega) hk Wq;have keep:∀a b,a≠j->b≠j->APl (2^K) j (k+1) d (APl (2^K) j k c G') a b=G' a b:=λa b ha hb=>by rw[AD3,if_neg ha,if_neg hb,AD3,if_neg ha,if_neg hb]
 have at':∀a,a≠j->APl (2^K) j (k+1) d (APl (2^K) j k c G') a j=((G' a j+c*G' a k)%2^K+d*G' a (k+1))%2^K:=λa ha=>by rw[AD3,if_neg ha,if_pos rfl,AD3,if_neg ha,if_pos rfl,AD3,if_neg ha,if_neg Wq]
 refine Wt ⟨Wq,_,_,?_,Wq,S2,⟨?_,?_,?_⟩,λj' h4 h5=>?_⟩;.rw[hj,Yr Wq];rfl
 .grind
 .grind
 .grind
 .by_cases h6:j'=j
  .have hsy:G' (k+1) k=2^E*B:=by rw[S'.e.sym hs S'.rg hk hk0];exact h2
   rw[h6,at' k Wq,at' (k+1) Wq,hx,hy,h1,h2,h3,hsy];exact Ate (hce▸Xp.mod _ _) (hde▸Xp.mod _ _) hv
  grind
theorem Aif:∀{L:List Xe},AE0 L->L.length<=AAa L
 |[],_=>ae 0|c::L,h=>by
   have h1:=Aif (L:=L) λx hx=>h x<|cb _ hx;have h2:=h c W4;rw[AAb,List.length_cons];omega
theorem AW2:¬(2:Int)∣x↔x%2=1:=⟨λh=>by omega,λh h2=>by omega⟩
theorem Aig{A:Int}(hEK:E<=K)(h:0<=2^E*A/\(2:Int)^E*A<2^K):0<=A/\A<2^(K-E):=by have h0:(0:Int)<2^E:=ay Wr;refine⟨Int.nonneg_of_mul_nonneg_right h.1 h0,Int.lt_of_mul_lt_mul_left ?_<|bc h0⟩;rw[<-aj,show E+(K-E)=K by omega];exact h.2
theorem A3j{M:List (List Int)}(hM:M.length=n)(S:DS n K H T G L k E)(B:DL K L k E)(hs:∀i j,i<n->j<n->H i j=H j i)(hd:¬(2:Int)^(K-2)∣det n H)(hK3:3<=K)(hK:K<=30)(hn:n<=8)(hk:k<n)(hf:2147483648<fuel):∃T' G' L' k' E',ABv fuel M K (k:Int) (Xw n n G) (Xw n n T) L=some (.inl ((k':Nat),Xw n n G',Xw n n T',L'))/\k<k'/\k'<=n/\DS n K H T' G' L' k' E'/\DL K L' k' E':=by
 have hP2:Pr 2:=⟨Wq,λd h1 h2=>by omega⟩;have hI:=AL9 hP2;have hf2:100<fuel:=by omega
 have hq1:(2:Int)^1<=2^K:=AC7 Wr Wq;have hq2:(2:Int)^K<=2^30:=AC7 Wr hK;rw[show(2:Int)^30=1073741824 by decide]at hq2;rw[ao,bI,aA]at hq1;have hd2:¬(2:Int)^K∣det n H:=λh=>hd<|aq (Yb Wq) h;obtain⟨ex,hpv,r,c,F,rfl,hFK,P,hall⟩:=Aym (fuel:=fuel) (n:=n) (k:=k) (K:=K) (G:=G) hK hn S.rg hk (S.some hs hd2 hk) hf2;have S1:=S.low hs hall;obtain⟨u,hu,hpu⟩:=P.u;have hrk:=P.hr;have hrc:=P.hrc;have hcn:=P.hc;have hrn:r<n:=by omega
 have hEF:=Aac hI hu hpu<|S.fl r c P.hr hrn Wq P.hc;have hFb:=S1.bound hs hd Wq hk;have hFF:0<=(F:Int)/\(F:Int)<=64:=by omega
 have hLk:L.length<=8:=by have:=Aif B.sz;have:=B.sum;omega
 by_cases hne:r=c
 .subst hne;have S2:=S1.move (i:=r) hrn (r-k) k Wq<|ae k;have hdk:mvG k r G k k=2^F*u:=by unfold mvG;rw[Aoc,hu,aw]
  obtain⟨v,hv,hvi⟩:=Aoa (f:=fuel) (x:=u) (m:=2^K) Wq Wq (Aab hP2 hpu Wq) hf;have hvq:Xp (2^K) (v*u) 1:=((Xp.refl _ v).mul (Xp.mod _ u)).symm.trans hvi.2.2;obtain⟨ex,hcl,T2,G2,rfl,S3,hd3,hz3⟩:=Ayo (fuel:=fuel) S2 hK Wq hn hk hdk hvq hf2;have hub:=Aig (E:=F) (K:=K) (A:=u) Wq<|hd3▸S3.rg k k hk hk;refine⟨T2,G2,L++[((F:Int),1,u,0,0)],k+1,F,?_,Wq,Wq,S3.next1 hs B.sz B.sum hk hz3 hd3,B.push hEF rfl ⟨⟨Wq,Wq⟩,?_⟩ (m:=1) rfl (.inl rfl)⟩;.unfold ABv;rw[hM,if_pos Wq,hpv];simp only[aa];rw[if_neg Wq,(Aie (fuel:=fuel) (G:=G) (T:=T) hn hrk hrn hf2).2.2];simp only[aa];rw[Z4<|Xx hk,Z4<|Xb hk,if_pos hFF,if_pos trivial,if_pos (show 0<=(K:Int)/\(K:Int)<=64 by omega),hdk,AMa,Ab2 hK,hv];simp only[aa];rw[AYq (x:=[v]) rfl,AYq (x:=v) rfl];simp only[aa];rw[Yr Wq,hcl];simp only[aa];rw[if_pos Wq,Yr Wq]
  grind
 .have hlt:r<c:=by omega
  have hdg:=P.dg hne;have S2:=(S1.move (i:=c) hcn (c-k) k Wq<|ae k).move (i:=r+1) Wq (r+1-k) k Wq (ae k);obtain⟨p1,p2,p3⟩:=A3e hrk hlt G;obtain⟨a,ha⟩:=hdg r hrk hrn;obtain⟨b,hb⟩:=hdg c Wq hcn;have ha2:G r r=2^F*(2*a):=by grind
  have hb2:G c c=2^F*(2*b):=by grind
  rw[ha2]at p1;rw[hu,aw]at p2;rw[hb2]at p3;have hk1:k+1<n:=by omega
  have hu1:=AW2.1 hpu;have hdet:¬(2:Int)∣2*a*(2*b)-u*u:=AW2.2 (by
   have h1:u*u%2=1:=by rw[bC,hu1];rfl
   grind);obtain⟨D,hD⟩:∃D,D=(2*a*(2*b)-u*u)%2^K:=⟨_,rfl⟩;have hDnd:¬(2:Int)∣D:=λh=>hdet (by
   have h2:Xp 2 D (2*a*(2*b)-u*u):=by rw[hD];exact(Xp.mod (2^K) _).down ⟨2^(K-1),by rw[<-cK,show K-1+1=K by omega]⟩
   exact AKr h2.symm (bw _) h);obtain⟨v,hv,hvi⟩:=Aoa (f:=fuel) (x:=D) (m:=2^K) Wq Wq (Aab hP2 hDnd Wq) hf;have hvq:Xp (2^K) (v*(2*a*(2*b)-u*u)) 1:=by refine Xp.trans ?_ hvi.2.2;refine(Xp.refl _ v).mul ?_;rw[hD];exact((Xp.mod _ _).trans (Xp.mod _ _)).symm
  obtain⟨ex,hcl,T2,G2,rfl,S3,⟨q1,q2,q3⟩,hz3⟩:=Ath (fuel:=fuel) S2 hs hK Wq hn hk1 p1 p2 p3 hvq hf2;have b1:=Aig (E:=F) (K:=K) (A:=2*a) Wq<|q1▸S3.rg k k hk hk;have b2:=Aig (E:=F) (K:=K) (A:=u) Wq<|q2▸S3.rg k (k+1) hk hk1;have b3:=Aig (E:=F) (K:=K) (A:=2*b) Wq<|q3▸S3.rg (k+1) (k+1) hk1 hk1;refine⟨T2,G2,L++[((F:Int),2,2*a,u,2*b)],k+2,F,?_,Wq,Wq,S3.next2 hs B.sz B.sum hk1 hz3 q1 q2 q3,B.push hEF rfl ⟨⟨Wq,Wq⟩,?_⟩ (m:=2) rfl (.inr rfl)⟩
  .have hm1:=(Aie (fuel:=fuel) (G:=G) (T:=T) hn (show k<=c by omega) hcn hf2).1;have hm2:=(Aie (fuel:=fuel) (G:=mvG k c G) (T:=mvC k c T) hn (show k<=r+1 by omega) (show r+1<n by omega) hf2).2.1;have hmk:mkE K (W3 (2*a*(2*b))-W3 (u*u))=some D:=by rw[hD];exact mk_val hK<|(AQc hK _).sub (AQc hK _)
   unfold mkE at hmk;unfold ABv;rw[hM,if_pos Wq,hpv];simp only[aa];rw[if_pos Wq,hm1];simp only[aa];rw[Yr Wq,hm2];simp only[aa];rw[Z4<|Xx hk,Z4<|Xb hk,if_pos hFF,if_neg Wr,Yr Wq,Z4<|Xb hk1,if_pos hFF,Z4<|Xx hk1,Z4<|Xb hk1,if_pos hFF,p1,p2,p3,AMa,AMa,AMa,hmk];simp only[aa];rw[if_pos (show 0<=(K:Int)/\(K:Int)<=64 by omega),Ab2 hK,hv];simp only[aa];rw[AYq (x:=[v]) rfl,AYq (x:=v) rfl];simp only[aa];rw[show W3 ((k:Int)+2)=((k+2:Nat):Int)by rw[wk Wq];rfl,hcl];simp only[aa];rw[if_pos Wq,show W3 ((k:Int)+2)=((k+2:Nat):Int)by rw[wk Wq];rfl]
  simp_all
end
theorem Ayp{n:Nat}{M:List (List Int)}(hM:M.length=n)(hn:n<=8)(hf:100<fuel):iter (λs=>AIt fuel M s.1 s.2) fuel (0,[])=some (Xw n n dl):=by
 apply ok_eq;refine Xv (λi s=>s=((i:Int),Yy i λa=>Yy n<|dl a)/\i<=n) n ⟨rfl,ax _⟩ Wq λi s hi hI=>?_;obtain⟨rfl,hin⟩:=hI;unfold AIt;dsimp only;rw[hM];refine Xa (λh=>?_) λh=>?_
 .have hi:i<n:=by omega
  rw[if_pos Wq,X5,if_pos Wq,am,ACb n (0:Int)];have hget:(Yy i (λa=>Yy n<|dl a)++[Yy n λ_=>(0:Int)])[i]?=some (Yy n λ_=>(0:Int)):=by rw[bo (by rw[X5];omega),X5,cu];rfl
  rw[Z4 hget,Z4<|Xb hi,AP9,Yr Wq];refine Wt ⟨hi,?_,hi⟩;congr 1;rw[Yl,dr,if_neg (by rw[X5];omega),X5,cu];show Yy i (λa=>Yy n<|dl a)++[Yy n λc=>if c=i then 1 else 0]=_;have:Yy n (λc=>if c=i then(1:Int)else 0)=Yy n (dl i):=Yd λc _=>by unfold dl;omega
  rw[this];unfold Yy;rw[du,dw];rfl
 .obtain rfl:i=n:=by omega
  exact Wt rfl
theorem A8x{M:List (List Int)}(R:AS0 M)(hf:2147483648<fuel):∃(K E:Nat)(T G:Wz)(L:List Xe),ADp fuel M=some ((2,Xw M.length M.length T,L),0)/\ADn fuel M 2=some ((K:Int),0)/\3<=K/\K<=30/\Ae0 (det M.length<|ent M) 2 ((K:Int)-3)/\DS M.length K (ent M) T G L M.length E/\DL K L M.length E:=by
 have hf2:100<fuel:=by omega
 have hP2:Pr 2:=⟨Wq,λd h1 h2=>by omega⟩;have hI:=AL9 hP2;obtain⟨v,hv,hv2,hj,-⟩:=Af7 (fuel:=fuel) R hP2 Wr hf2;obtain⟨K,hk,hq,hk1,hk3⟩:=Aln R Wr Wr hv;have hK3:=hk3 rfl;have hK:=AYs (p:=2) Wr hq;rw[hk]at hj;rw[if_pos rfl]at hk;have hn:=R.1.2;have hs:∀i j,i<M.length->j<M.length->ent M i j=ent M j i:=λi j hi hj=>R.2.2.sym i j hi hj;have hq1:(2:Int)<=2^K:=by have h1:(2:Int)^1<=2^K:=AC7 Wr hk1;omega
 have hd:¬(2:Int)^(K-2)∣det M.length (ent M):=λh=>by obtain⟨e,r,he,h1,h2⟩:=hv;have:=Aac (f:=K-2) hI h1 h2 h;omega
 have hrd:isRed M=true:=(AZ7 M).2 R;have hP:ADn fuel M 2=some ((K:Int),0):=by unfold ADn ALg;grind
 unfold ADp;rw[hP];simp only[aa];rw[if_neg (show¬¬True fromλh=>h trivial),if_pos (show 0<=(K:Int)/\(K:Int)<=64 by omega),Ab2 hK,Ayi R hq1 hq hf2];simp only[aa];rw[Ayp rfl hn hf2];simp only[aa];have S0:DS M.length K (ent M) dl (λi j=>ent M i j%2^K) [] 0 0:=⟨λi j _ _=>by unfold dl;split<;>omega,λi j _ _=>AS5 Wq _,Ax7 λi j _ _=>Xp.mod _ _,λi j h=>absurd h<|aG i,λi j h=>absurd h<|aG i,λi j _ _ _ _=>⟨ent M i j%2^K,Wq⟩⟩;have main:Ok (iter (λs=>ABv fuel M K s.1 s.2.1 s.2.2.1 s.2.2.2) fuel (0,Xw M.length M.length λi j=>ent M i j%2^K,Xw M.length M.length dl,[])) λex=>∃(E:Nat)(T G:Wz)(L:List Xe),ex=(Xw M.length M.length G,Xw M.length M.length T,L)/\DS M.length K (ent M) T G L M.length E/\DL K L M.length E:=by
  refine AUs (λs=>∃(k E:Nat)(T G:Wz)(L:List Xe),s=((k:Int),Xw M.length M.length G,Xw M.length M.length T,L)/\k<=M.length/\DS M.length K (ent M) T G L k E/\DL K L k E) (λs=>M.length-s.1.toNat) (λs hI=>?_) ⟨0,0,_,_,_,rfl,ax _,S0,DL.nil⟩ Wq;obtain⟨k,E,T,G,L,rfl,hin,S,B⟩:=hI;dsimp only;rcases ab k M.length with h|h;.obtain⟨T',G',L',k',E',h1,h2,h3,h4,h5⟩:=A3j (fuel:=fuel) (M:=M) rfl S B hs hd hK3 hK hn h hf;rw[h1];refine Wt ⟨⟨k',E',T',G',L',rfl,h3,h4,h5⟩,?_⟩;omega
  .obtain rfl:k=M.length:=by omega
   unfold ABv;rw[if_neg Wq];exact Wt ⟨E,T,G,L,rfl,S,B⟩
 obtain⟨ex,h1,E,T,G,L,rfl,S,B⟩:=main;grind
theorem Aq7(h:s=1∨s=-1):W3 (0-s)=-s/\(-s=1∨-s=-1):=by rcases h with rfl|rfl<;>decide
theorem Ayq{n T:Int}(hT:Adt T 1 a n)(ha:0<=a)(Am:a<=2147483647)(Ao:n<=2147483647)(hf:2147483648<fuel):AJp fuel a n=some T:=by
 apply ok_eq;unfold AJp;have Az:=Akt hT;refine Wv (Q:=λe:Int×Int=>T=if e.1=1 then e.2 else 0) (AUs (λs:Int×Int×Int=>Adt T s.2.2 s.1 s.2.1/\0<=s.1/\s.1<=2147483647/\s.2.1<=2147483647/\(s.2.2=1∨s.2.2=-1)) (λs=>s.1.toNat) (λs hI=>?_) ⟨hT,ha,Am,Ao,.inl rfl⟩ (by show a.toNat<fuel;omega)) λe he=>?_
 .obtain⟨a,n,s⟩:=s;obtain⟨h1,h2,h3,h4,h5⟩:=hI;have hn:=Akt h1;unfold AP1;dsimp only at h1 h2 h3 h4 h5 hn⊢;refine Xa (λh0=>?_) λh0=>Wt ?_
  .refine Wv (Q:=λe:Int×Int=>Adt T e.2 e.1 n/\0<e.1/\e.1<=a/\e.1%2=1/\(e.2=1∨e.2=-1)) (AUs (λs:Int×Int=>Adt T s.2 s.1 n/\0<s.1/\s.1<=a/\(s.2=1∨s.2=-1)) (λs=>s.1.toNat) (λs hI=>?_) ⟨h1,Wq,dh _,h5⟩ (by show a.toNat<fuel;omega)) λe he=>?_
   .obtain⟨b,t⟩:=s;obtain⟨g1,g2,g3,g4⟩:=hI;dsimp only at g1 g2 g3 g4;unfold AP0;have Au:an b 2=b%2:=ai Wq;have Av:an n 8=n%8:=ai Wq;have Aw:W3 (dC b 2)=b/2:=by rw[bW Wq,wk Wq]
    obtain⟨hw,hpm⟩:=Aq7 g4;rw[Au,Av,Aw,hw];refine Xa (λq1=>?_) λq1=>Wt ⟨g1,g2,g3,by dsimp only;omega,g4⟩;have hh:=As1 g1 q1;refine Xa (λq2=>Wt ?_) λq2=>Xa (λq3=>Wt ?_) λq3=>Wt ?_;.rw[if_pos<|.inl q2]at hh;exact⟨⟨hh,by dsimp only;omega,by dsimp only;omega,hpm⟩,by dsimp only;omega⟩
    .rw[if_pos<|.inr q3]at hh;exact⟨⟨hh,by dsimp only;omega,by dsimp only;omega,hpm⟩,by dsimp only;omega⟩
    .rw[if_neg Wq]at hh;exact⟨⟨hh,by dsimp only;omega,by dsimp only;omega,g4⟩,by dsimp only;omega⟩
   .obtain⟨b,t⟩:=e;obtain⟨g1,g2,g3,g4,g5⟩:=he;dsimp only at g1 g2 g3 g4 g5⊢;have Ax:an b 4=b%4:=ai Wq;have Ay:an n 4=n%4:=ai Wq;have hnb:an n b=n%b:=ai Wq;obtain⟨hw,hpm⟩:=Aq7 g5;rw[Ax,Ay,hnb,hw];have hs:=As2 g1 g2 g4;refine Wv (Q:=λe=>e=if b%4=3/\n%4=3 then-t else t) (Xa (λq1=>Xa λq2=>Wt<|by rw[if_pos ⟨q1,q2⟩] λq2=>Wt<|by rw[if_neg λhh=>q2 hh.2]) λq1=>Wt<|by rw[if_neg λhh=>q1 hh.1]) λe he=>?_;rw[<-he]at hs;have hr:=aI n (show b≠0 by omega);have A4:=av n g2;refine Yi Wq<|Wt ⟨⟨hs,hr,by dsimp only;omega,by dsimp only;omega,?_⟩,by dsimp only;omega⟩;dsimp only;rw[he];split;.exact hpm
    .exact g5
  .have h0:a=0:=by omega
   subst h0;exact Aw6 h1
 .obtain⟨n,s⟩:=e;dsimp only at he⊢;refine Xa (λh=>Wt ?_) λh=>Wt ?_;.rw[he,if_neg h]
  .rw[he,if_pos Wq]
theorem A8y(hp:OPr p)(Aa:p<=2147483647)(ha:-2147483647<=a)(Ab:a<=2147483647)(hf:2147483648<fuel):AD7 fuel a p=some (lg p a,0):=by
 have h3:=hp.three;have h2:=hp.2;unfold AD7;rw[if_neg Wq,if_neg Wq,if_neg Wq,if_neg Wq];simp only[aa];rw[if_neg (show¬p=0 by omega),if_neg<|show¬p<0 by omega];simp only[aa];have hit:iter (λs:Int×Int=>AJq fuel a s.1 s.2) fuel (p,1)=some (bO (p,1)):=by
  apply ok_eq;refine Xv (λi s=>s=(p,1)/\i=0) 0 ⟨rfl,rfl⟩ Wq λi s hi hI=>?_;obtain⟨rfl,rfl⟩:=hI;unfold AJq;rw[ai (a:=p) Wq];exact Xa λh=>by have h:p%2=0:=h;omega λh=>Wt rfl
 rw[hit];simp only[aa];have hres:AFl fuel a p=some (a%p):=by
  unfold AFl;rw[if_pos Wq,if_pos Wq];rw[Aaa Wq Wq]
 rw[hres];simp only[aa];have hr:=aI a (show p≠0 by omega);have Ae:=av a (show 0<p by omega);rw[Ayq (Anx hp) hr Wq Aa hf,A7o hp];simp only[aa];congr 2;unfold lg;split;.decide
 .split<;>decide
def cN:List Xm->Int|[]=>0|c::l=>c.2.1+cN l
def cV:List Xm->Int|[]=>0|c::l=>c.2.1*c.1+cV l
def cS:List Xm->Int|[]=>1|c::l=>c.2.2.1*cS l
theorem Aof(l:List Xm)(c:Xm):cN (l++[c])=cN l+c.2.1:=by induction l with|nil=>simp[cN]|cons a l ih=>simp only[bH,cN,ih];omega
theorem Aog(l:List Xm)(c:Xm):cV (l++[c])=cV l+c.2.1*c.1:=by induction l with|nil=>simp[cV]|cons a l ih=>simp only[bH,cV,ih];omega
theorem Aoh(l:List Xm)(c:Xm):cS (l++[c])=cS l*c.2.2.1:=by induction l with|nil=>simp[cS]|cons a l ih=>simp only[bH,cS,ih];grind
theorem Aoi{b:Int}(ha:a=1∨a=-1)(hb:b=1∨b=-1):(a*b=1∨a*b=-1)/\W3 (a*b)=a*b:=by rcases ha with rfl|rfl<;>rcases hb with rfl|rfl<;>decide
theorem Alq{p:Int}(hp:OPr p)(f:Nat->Int):∀n,lg p (ABo f n)=ABo (λi=>lg p<|f i) n
 |0=>by
   have h3:=hp.three;have:(1:Int)%p=1:=bX Wr Wq;simp[ABo,lg,df,this]|n+1=>by simp only[ABo,AZz hp,Alq hp f n]
def s8(x:Int):Int:=if x%8=3∨x%8=5 then-1 else 1
theorem Aq8(x:Int):s8 x=1∨s8 x=-1:=by unfold s8;split<;>simp
def s2L:List Xe->Int|[]=>1|b::l=>s8 (dB b)*s2L l
theorem A3k(L:List Xe)(b:Xe):s2L (L++[b])=s2L L*s8 (dB b):=by induction L with|nil=>show _*1=1*_;omega|cons c L ih=>show _*s2L (L++[b])=_*s2L L*_;rw[ih,bn]
theorem Agb:∀(L:List Xe)(i:Nat),AAa (L.take i)<=AAa L
 |[],i=>by rw[List.take_nil];exact ae _|c::L,0=>ax _|c::L,i+1=>by
   rw[List.take_succ_cons,AAb,AAb];have:=Agb L i;omega
theorem A80(a:Int):AJx .and .i64 a 7=a%8:=Alj (k:=3) Wr a
def od(C:List Xm):Prop:=∃c∈C,c.1=0/\c.2.2.2.1=true
def oB(L:List Xe):Prop:=∃b∈L,b.2.1=1/\b.1=0
end Go.Proofs.YtgmdhndbcohgiaaGreatDoor
namespace Go.QF
def chE(t:Int):Int:=((3^(t%65536).toNat%65537:Nat):Int)
theorem Ati{a b:Nat}(ha:3^a%65537=282)(hb:282^b%65537=1):3^(a*b)%65537=1:=by rw[dF,dH,ha,hb]
theorem A3l(t k:Int):chE (t+65536*k)=chE t:=by unfold chE;rw[Int.add_mul_emod_self_left]
theorem AS6(h:Xp 65536 s t):chE s=chE t:=by unfold chE;rw[show s%65536=t%65536 from h]
theorem A3m(r k:Nat){N:Nat}(h:3^N%65537=1):3^(r+N*k)%65537=3^r%65537:=by rw[cy,dF,dI,dH<|3^N,h,Nat.one_pow];simp
theorem Ab3(s t:Int):Xp 65537 (chE<|s+t) (chE s*chE t):=by
 have h1:chE s*chE t=((3^(s%65536).toNat%65537*(3^(t%65536).toNat%65537):Nat):Int):=by unfold chE;rw[dz]
 rw[h1];unfold Xp chE;have h2:∀a b:Nat,a%65537=b%65537->((a:Nat):Int)%65537=((b:Nat):Int)%65537:=λa b h=>by omega
 refine h2 _ _ ?_;rw[<-dI,<-cy,Nat.mod_mod];have h3:∃k,(s%65536).toNat+(t%65536).toNat=((s+t)%65536).toNat+256*256*k:=by
  have a1:=aI s (show(65536:Int)≠0 by decide);have a2:=av s (show(0:Int)<65536 by decide);have b1:=aI t (show(65536:Int)≠0 by decide);have b2:=av t (show(0:Int)<65536 by decide);by_cases h:s%65536+t%65536<65536;.exact⟨0,Wq⟩
  .exact⟨1,Wq⟩
 obtain⟨k,hk⟩:=h3;rw[hk,A3m _ _<|Ati (a:=256) (b:=256) (by decide+kernel)<|by decide+kernel]
theorem Aed:chE 0=1:=by decide+kernel
theorem Alr(hx:x%2=1):chE (32768*x)=65536:=by rw[AS6 (t:=32768) (by show _=_;omega)];decide+kernel
theorem ABn(f:Nat->Int)(a b:Nat):psum f (a+b)=psum f a+psum (λi=>f<|a+i) b:=by induction b with|zero=>simp[psum]|succ b ih=>rw[<-ck];simp only[psum];rw[ih];omega
theorem Aih(f:Nat->Int)(n:Nat):psum f (2*n)=psum (λi=>f<|2*i) n+psum (λi=>f<|2*i+1) n:=by induction n with|zero=>rfl|succ n ih=>
   rw[show 2*(n+1)=2*n+1+1 by omega];simp only[psum];rw[ih];omega
theorem AR0{f:Nat->Int}{N:Nat}(h:∀i,f (i+N)=f i):∀k,psum f (k*N)=k*psum f N
 |0=>by simp[psum]|k+1=>by
   have hk:∀k i,f (k*N+i)=f i:=λk=>by induction k with|zero=>intro i;simp|succ k ih=>intro i;rw[show(k+1)*N+i=k*N+i+N by rw[dJ];omega,h,ih]
   rw[dJ,ABn,AR0 h k,Wy (f:=λi=>f<|k*N+i) (g:=f) λi _=>hk k i,de];rw[show((k+1:Nat):Int)=(k:Int)+1 by omega,Int.add_mul,aA]
theorem Als{f:Nat->Int}{N:Nat}(h:∀i,f (i+N)=f i):∀s,psum (λi=>f<|i+s) N=psum f N
 |0=>rfl|s+1=>by
   have h1:psum (λi=>f<|i+s) (1+N)=f s+psum (λi=>f<|i+(s+1)) N:=by rw[ABn];simp only[psum];rw[Wy (f:=λi=>f<|1+i+s) (g:=λi=>f<|i+(s+1)) λi _=>by rw[show 1+i+s=i+(s+1)by omega]];simp
   have h2:psum (λi=>f<|i+s) (1+N)=psum (λi=>f<|i+s) N+f s:=by rw[bA 1 N];simp only[psum];rw[show N+s=s+N by omega,h]
   have h3:=Als h s;omega
theorem Aii{m:Int}(hm:m%2=1)(h:Xp m x (-x)):Xp m x 0:=by
 obtain⟨k,hk⟩:=AEy h;refine AJz.2 ⟨x-m/2*k,?_⟩;have h1:m=2*(m/2)+1:=by omega
 generalize m/2=w at h1⊢;subst h1;grind
abbrev gq:Int:=65537
def gz:Int:=4096
def gr:Int:=4080
def sg8(a:Int):Int:=if a%8=3∨a%8=5 then-1 else 1
def gW(m:Nat)(a:Int):Int:=psum (λx=>chE<|2^(16-m)*a*((x:Int)*x))<|2^m
theorem ACm{a b c:Nat}(h:a+b=c):(2:Int)^c=2^a*2^b:=by rw[<-aj,h]
theorem A3n{m:Nat}(ha:a%2=1)(h4:4<=m)(Ah:m<=16):Xp gq (gW m a) (2*gW (m-2) a):=by
 obtain⟨k,rfl⟩:∃k,m=k+4:=⟨m-4,Wq⟩;have hM:2^(k+4)=2*2^(k+3):=by rw[aK 2<|k+3];omega
 have hc:(2:Int)^(16-(k+4))*2^(k+4)=65536:=by rw[<-aj,show 16-(k+4)+(k+4)=16 by omega];decide
 have Ae:(2:Int)^(k+4)=4*2^(k+2):=by rw[ACm (a:=2) (b:=k+2) Wq];rfl
 have Aa:(2:Int)^(k+2)=4*2^k:=by rw[ACm (a:=2) (b:=k) Wq];rfl
 have Ab:(2:Int)^(16-(k+4-2))=4*2^(16-(k+4)):=by rw[ACm (a:=2) (b:=16-(k+4)) Wq];rfl
 generalize hC:(2:Int)^(16-(k+4))=C at hc Ab;generalize hP:(2:Int)^k=P at Aa;have hCP:C*P*16=65536:=by rw[Ae,Aa]at hc;grind
 unfold gW;rw[hC,Ab,hM,Aih];have he:psum (λi=>chE<|C*a*(((2*i:Nat):Int)*((2*i:Nat):Int))) (2^(k+3))=2*psum (λx=>chE<|4*C*a*((x:Int)*x)) (2^(k+4-2)):=by
  rw[show 2^(k+3)=2*2^(k+4-2)by rw[show k+4-2=k+2 by omega,aK 2<|k+2];omega];have hper:∀i:Nat,chE (C*a*(((2*(i+2^(k+4-2)):Nat):Int)*((2*(i+2^(k+4-2)):Nat):Int)))=chE (C*a*(((2*i:Nat):Int)*((2*i:Nat):Int))):=λi=>by
   refine AS6<|ACw ⟨a*(2*i+4*P),?_⟩;have:((2*(i+2^(k+4-2)):Nat):Int)=2*i+2*(4*P):=by rw[show k+4-2=k+2 by omega];push_cast;rw[Aa];grind
   rw[this];push_cast;rw[<-hCP];grind
  rw[AR0 (f:=λi=>chE<|C*a*(((2*i:Nat):Int)*((2*i:Nat):Int))) hper 2];rw[Wy (g:=λx=>chE<|4*C*a*((x:Int)*x)) λi _=>by rw[show C*a*(((2*i:Nat):Int)*((2*i:Nat):Int))=4*C*a*((i:Int)*i)by rw[dz];grind]];rfl
 have ho:Xp gq (psum (λi=>chE<|C*a*(((2*i+1:Nat):Int)*((2*i+1:Nat):Int)))<|2^(k+3)) 0:=by
  refine Aii Wr ?_;have hper:∀i:Nat,chE (C*a*(((2*(i+2^(k+3))+1:Nat):Int)*((2*(i+2^(k+3))+1:Nat):Int)))=chE (C*a*(((2*i+1:Nat):Int)*((2*i+1:Nat):Int))):=λi=>by
   refine AS6<|ACw ⟨a*(2*(2*i+1)+16*P),?_⟩;have:((2*(i+2^(k+3))+1:Nat):Int)=2*i+1+16*P:=by push_cast;rw[ACm (a:=3) (b:=k) Wq,hP];grind
   rw[this];push_cast;rw[<-hCP];grind
  have h1:=Als (f:=λi=>chE<|C*a*(((2*i+1:Nat):Int)*((2*i+1:Nat):Int))) hper<|2^(k+1);rw[<-h1];have h2:Xp gq (psum (λi=>chE<|C*a*(((2*(i+2^(k+1))+1:Nat):Int)*((2*(i+2^(k+1))+1:Nat):Int)))<|2^(k+3)) (psum (λi=>-1*chE (C*a*(((2*i+1:Nat):Int)*((2*i+1:Nat):Int))))<|2^(k+3)):=by
   refine Xp.psum λi _=>?_;have:((2*(i+2^(k+1))+1:Nat):Int)=2*i+1+4*P:=by push_cast;rw[ACm (a:=1) (b:=k) Wq,hP];grind
   rw[this];have e1:Xp 65536 (C*a*((2*(i:Int)+1+4*P)*(2*i+1+4*P))) (32768*(a*(2*i+1))+C*a*(((2*i+1:Nat):Int)*((2*i+1:Nat):Int))):=by
    refine ACw ⟨a*P,?_⟩;push_cast;have:(32768:Int)=C*P*8:=by omega
    rw[this,<-hCP];grind
   rw[AS6 e1];refine(Ab3 _ _).trans ?_;rw[Alr (show a*(2*(i:Int)+1)%2=1 by rw[bC,ha];omega)];exact Xp.mul (show(65536:Int)%65537=-1%65537 by decide)<|Xp.refl _ _
  rw[Yx]at h2;refine h2.trans ?_;rw[h1];exact Xp.of_eq Wq
 rw[he];exact((Xp.refl _ _).add ho).trans (Xp.of_eq Wq)
theorem A3o{m:Nat}{b:Int}(h:a%8=b%8)(hm:m<=3):gW m a=gW m b:=by
 unfold gW;refine Wy λx _=>AS6 ?_;have h1:(8:Int)∣a-b:=aL<|Int.emod_eq_emod_iff_emod_sub_eq_zero.1 h;obtain⟨z,hz⟩:=h1;refine ACw ⟨2^(3-m)*z*(x*x),?_⟩;have:(2:Int)^(16-m)*8=65536*2^(3-m):=by rw[ACm (a:=13) (b:=3-m) (c:=16-m) Wq];grind
 grind
theorem Alu(h:a%2=1):a%8=1∨a%8=3∨a%8=5∨a%8=7:=by omega
theorem A3p{m:Nat}(h2:m=2∨m=3)(ha:a%2=1):Xp gq (gW m a) (gr^(m+1)*sg8 a^(m+1)*gz^(a%8).toNat):=by
 have key:∀b:Int,b%8=b->a%8=b->Xp gq (gW m b) (gr^(m+1)*sg8 b^(m+1)*gz^b.toNat)->Xp gq (gW m a) (gr^(m+1)*sg8 a^(m+1)*gz^(a%8).toNat):=λb h1 h2 h3=>by
  rw[A3o (b:=b) Wq Wq];have:sg8 a=sg8 b:=by unfold sg8;rw[h2,h1]
  rw[this,h2];exact h3
 rcases Alu ha with h|h|h|h;.exact key 1 rfl h (by rcases h2 with rfl|rfl<;>(unfold Xp;decide+kernel))
 .exact key 3 rfl h (by rcases h2 with rfl|rfl<;>(unfold Xp;decide+kernel))
 .exact key 5 rfl h (by rcases h2 with rfl|rfl<;>(unfold Xp;decide+kernel))
 .exact key 7 rfl h (by rcases h2 with rfl|rfl<;>(unfold Xp;decide+kernel))
theorem Aoj(a:Int):sg8 a*sg8 a=1:=by unfold sg8;split<;>rfl
theorem A5f:Xp gq (gr*gr) 2:=by unfold Xp;decide
theorem A81(ha:a%2=1):∀m,2<=m->m<=16->Xp gq (gW m a) (gr^(m+1)*sg8 a^(m+1)*gz^(a%8).toNat):=by
 intro m;induction m using dy with|ind m ih=>
   intro h2 Aa;rcases ab m 4 with h|h;.exact A3p Wq ha
   .refine(A3n ha h Aa).trans ?_;refine(Xp.mul A5f.symm<|ih (m-2) Wq Wq Wq).trans (Xp.of_eq ?_);obtain⟨k,rfl⟩:∃k,m=k+2:=⟨m-2,Wq⟩;rw[show k+2-2=k by omega,show k+2+1=k+1+1+1 by omega];have e1:gr^(k+1+1+1)=gr*gr*gr^(k+1):=by rw[ao,ao];grind
    have e2:sg8 a^(k+1+1+1)=sg8 a^(k+1):=by rw[ao,ao,bn,Aoj,cg]
    rw[e1,e2];grind
def vc(x:Int)(v:Nat->Int):Nat->Int|0=>x|j+1=>v j
def VS(P:Nat):Nat->((Nat->Int)->Int)->Int|0,f=>f λ_=>0|n+1,f=>psum (λx=>VS P n λv=>f<|vc (x:Int) v) P
theorem AR1{n:Nat}{f g:(Nat->Int)->Int}(h:∀v,f v=g v):VS P n f=VS P n g:=by rw[funext h]
theorem Aij(P:Nat):∀n,VS P n (λ_=>0)=0|0=>rfl|n+1=>by show psum (λx=>VS P n λ_=>0) P=0;rw[Aij P n,Y8]
theorem Ayr(P:Nat):∀(n:Nat)(f g:(Nat->Int)->Int),VS P n (λv=>f v+g v)=VS P n f+VS P n g
 |0,_,_=>rfl|n+1,f,g=>by
   show psum (λx=>VS P n λv=>f (vc x v)+g (vc x v)) P=_;rw[Wy (g:=λx=>VS P n (λv=>f<|vc (x:Int) v)+VS P n λv=>g<|vc (x:Int) v) λx _=>Ayr P n _ _,AEm];rfl
theorem Aq9(P n:Nat)(f:Nat->(Nat->Int)->Int):∀m,VS P n (λv=>psum (λx=>f x v) m)=psum (λx=>VS P n<|f x) m
 |0=>Aij P n|m+1=>by
   show VS P n (λv=>psum (λx=>f x v) m+f m v)=_;rw[Ayr,Aq9 P n f m];rfl
theorem Ara(P:Nat):∀(n m:Nat)(f:(Nat->Int)->(Nat->Int)->Int),VS P n (λv=>VS P m λw=>f v w)=VS P m λw=>VS P n λv=>f v w
 |0,_,_=>rfl|n+1,m,f=>by
   show psum (λx=>VS P n λv=>VS P m λw=>f (vc x v) w) P=VS P m λw=>psum (λx=>VS P n λv=>f (vc x v) w) P;rw[Aq9 P m (λx w=>VS P n λv=>f (vc x v) w) P];exact Wy λx _=>Ara P n m λv w=>f (vc x v) w
theorem Aok{P:Nat}{q:Int}:∀{n:Nat}{f g:(Nat->Int)->Int},(∀v,Xp q (f v)<|g v)->Xp q (VS P n f) (VS P n g)|0,_,_,h=>h _|n+1,_,_,h=>Xp.psum λx _=>Aok λv=>h _
theorem Aol(P:Nat)(c:Int):∀(n:Nat)(f:(Nat->Int)->Int),VS P n (λv=>c*f v)=c*VS P n f
 |0,_=>rfl|n+1,f=>by
   show psum (λx=>VS P n λv=>c*f (vc x v)) P=c*psum _ P;rw[Wy λx _=>Aol P c n λv=>f<|vc (x:Int) v,Yx]
def vd(P:Nat):Nat->(Nat->Int)->(Nat->Int)->Int|0,_,_=>1|n+1,v,w=>if v 0%(P:Int)=w 0%(P:Int)then vd P n (λj=>v<|j+1) λj=>w (j+1)else 0
def vEq(P n:Nat)(v w:Nat->Int):Prop:=∀j,j<n->Xp (P:Int) (v j) (w j)
theorem Aom{P:Nat}:∀{n:Nat}{v w:Nat->Int},vEq P n v w->vd P n v w=1
 |0,_,_,_=>rfl|n+1,v,w,h=>by
   show(if _ then _ else _)=_;rw[if_pos<|show v 0%(P:Int)=_ from h 0 Wq];exact Aom λj hj=>h (j+1) Wq
theorem Aik{P:Nat}:∀{n:Nat}{v w:Nat->Int},¬vEq P n v w->vd P n v w=0
 |0,_,_,h=>absurd (λj hj=>absurd hj<|aG j) h|n+1,v,w,h=>by
   show(if _ then _ else _)=_;split;.next h0=>exact Aik λh1=>h λj hj=>by cases j with|zero=>exact h0|succ j=>exact h1 j Wq
   .rfl
theorem A82{n:Nat}{x y:Nat->Int}(h:vEq P n v w↔vEq P n x y):vd P n v w=vd P n x y:=by
 by_cases h1:vEq P n v w;.rw[Aom h1,Aom<|h.1 h1]
 .rw[Aik h1,Aik λh2=>h1<|h.2 h2]
def Pv(P n:Nat)(f:(Nat->Int)->Int):Prop:=∀v w,vEq P n v w->f v=f w
theorem Aee{P:Nat}(hP:0<P):∀{n:Nat}{f:(Nat->Int)->Int}(w:Nat->Int),Pv P n f->VS P n (λv=>vd P n v w*f v)=f w
 |0,f,w,hf=>by
   show 1*f _=f w;rw[aA];exact hf _ _ λj hj=>absurd hj (aG j)|n+1,f,w,hf=>by
   have h0:(0:Int)<P:=by omega
   have a1:=aI (w 0) (show(P:Int)≠0 by omega);have a2:=av (w 0) h0;have a3:(((w 0%(P:Int)).toNat:Nat):Int)%(P:Int)=w 0%(P:Int):=by rw[cj a1];exact bR _<|bw _
   show psum (λx=>VS P n λv=>(if(x:Int)%(P:Int)=w 0%(P:Int)then vd P n v λj=>w<|j+1 else 0)*f (vc x v)) P=f w;rw[AD6 (a:=(w 0%(P:Int)).toNat) Wq λi hi hne=>?_]
   .rw[AR1 λv=>by rw[if_pos a3],Aee hP (f:=λv=>f<|vc ((w 0%(P:Int)).toNat:Nat) v) (λj=>w<|j+1) λv v' h=>hf _ _ λj hj=>?_]
    .refine hf _ _ λj hj=>?_;cases j with
     |zero=>exact a3|succ j=>exact Xp.refl _ _
    .cases j with
     |zero=>exact Xp.refl _ _|succ j=>exact h j Wq
   .rw[AR1 (g:=λ_=>0) λv=>?_,Aij];rw[if_neg λh=>hne ?_,aY];rw[bX Wq Wq]at h;omega
def AH4(n:Nat)(S:Wz)(v:Nat->Int):Nat->Int:=λj=>psum (λk=>S j k*v k) n
theorem Aef{n:Nat}{R:Wz}(h:∀k,k<n->Xp q (S j k) (R j k))(hv:∀k,k<n->Xp q (v k) (w k)):Xp q (AH4 n S v j) (AH4 n R w j):=Xp.psum λk hk=>(h k hk).mul (hv k hk)
theorem Aeg{n:Nat}:AH4 n (Xz n A B) v j=AH4 n A (AH4 n B v) j:=by unfold AH4 Xz;rw[Wy (g:=λk=>psum (λl=>A j l*B l k*v k) n) λk _=>AJn _ _ _,AIh];exact Wy λl _=>by rw[AE5];exact Wy λk _=>by grind
theorem A3q{n:Nat}(hj:j<n):AH4 n dl v j=v j:=by unfold AH4;rw[AD6 hj λl hl hne=>by unfold dl;rw[if_neg λh=>hne h.symm];simp];unfold dl;rw[if_pos rfl];grind
def Inv2(n P:Nat)(R S:Wz):Prop:=∀i j,i<n->j<n->Xp (P:Int) (Xz n R S i j) (dl i j)
theorem Alw{n:Nat}{R:Wz}(h:Inv2 n P R S)(hw:vEq P n w (AH4 n S v)):vEq P n v (AH4 n R w):=λj hj=>by
 refine Xp.symm<|(Aef (S:=R) (R:=R) (λ_ _=>Xp.refl _ _) hw).trans ?_;rw[<-Aeg];exact(Aef (λk hk=>h j k hj hk) λ_ _=>Xp.refl _ _).trans (Xp.of_eq<|A3q hj)
theorem A83{n:Nat}{R:Wz}{f:(Nat->Int)->Int}(hP:0<P)(h1:Inv2 n P R S)(h2:Inv2 n P S R)(hf:Pv P n f):VS P n (λv=>f<|AH4 n S v)=VS P n f:=by rw[AR1 λv=>(Aee hP (AH4 n S v) hf).symm,Ara];refine AR1 λw=>?_;rw[AR1 λv=>by rw[A82 (P:=P) (n:=n) (v:=w) (w:=AH4 n S v) (x:=v) (y:=AH4 n R w) ⟨Alw h1,Alw h2⟩]];exact Aee hP (f:=λ_=>f w) (AH4 n R w) λ_ _ _=>rfl
theorem Arb{d:Int}(hd:d%2=1):∀M:Nat,∃u:Int,Xp (2^M) (d*u) 1
 |0=>⟨0,ACw ⟨-1,W4⟩⟩|M+1=>by
   obtain⟨u,hu⟩:=Arb hd M;obtain⟨t,ht⟩:=AEy hu;have h2:(2:Int)^(M+1)=2*2^M:=cK ..;generalize(2:Int)^M=X at ht h2;rcases show t%2=0∨t%2=1 by omega with h|h;.exact⟨u,ACw ⟨t/2,by
     rw[h2,ht];have:t=2*(t/2):=by omega
     grind⟩⟩
   .refine⟨u+X,ACw ⟨(t+d)/2,?_⟩⟩;have:t+d=2*((t+d)/2):=by omega
    rw[h2];grind
theorem A3r{n M:Nat}(hd:det n S%2=1):∃R,Inv2 n (2^M) R S/\Inv2 n (2^M) S R:=by
 obtain⟨u,hu⟩:=Arb hd M;have hq:((2^M:Nat):Int)=2^M:=by push_cast;rfl
 refine⟨λi j=>u*AD4 n S i j,λi j hi hj=>?_,λi j hi hj=>?_⟩
 .have:Xz n (λi j=>u*AD4 n S i j) S i j=det n S*u*dl i j:=by
   unfold Xz;rw[Wy (g:=λk=>u*(AD4 n S i k*S k j)) λk _=>bn _ _ _,Yx,Adv hi hj];grind
  rw[this,hq];exact(hu.mul<|Xp.refl _ _).trans (Xp.of_eq<|aA _)
 .have:Xz n S (λi j=>u*AD4 n S i j) i j=det n S*u*dl i j:=by
   unfold Xz;rw[Wy (g:=λk=>u*(S i k*AD4 n S k j)) λk _=>by grind,Yx,AOp hi hj];grind
  rw[this,hq];exact(hu.mul<|Xp.refl _ _).trans (Xp.of_eq<|aA _)
def Aon(n:Nat)(v w:Nat->Int):Int:=psum (λi=>v i*w i) n
def qv(n:Nat)(D:Wz)(v:Nat->Int):Int:=Aon n v<|AH4 n D v
theorem A84{n:Nat}{y:Nat->Int}:Aon n v (AH4 n (trF S) y)=Aon n (AH4 n S v) y:=by unfold Aon AH4 trF;rw[Wy (g:=λi=>psum (λk=>v i*(S k i*y k)) n) λi _=>AE5 _ _ _,AIh];exact Wy λk _=>by rw[AJn];exact Wy λi _=>by grind
theorem A85{n:Nat}{D:Wz}:qv n (Xz n (trF S)<|Xz n D S) v=qv n D (AH4 n S v):=by unfold qv;rw[<-A84];unfold Aon;exact Wy λi _=>by rw[Aeg];congr 1;unfold AH4;exact Wy λk _=>by rw[show psum (λl=>Xz n D S k l*v l) n=_ from Aeg];rfl
theorem Ays{n:Nat}(hA:∀i j,i<n->j<n->Xp q (A i j) (B i j))(hv:∀j,j<n->Xp q (v j) (w j)):Xp q (qv n A v) (qv n B w):=Xp.psum λi hi=>(hv i hi).mul (Aef (λk hk=>hA i k hi hk) hv)
def GSv(M n:Nat)(D:Wz):Int:=VS (2^M) n λv=>chE<|2^(16-M)*qv n D v
theorem Aoo{M:Nat}(hM:M<=16)(h:Xp (2^M) s t):chE (2^(16-M)*s)=chE (2^(16-M)*t):=by obtain⟨z,hz⟩:=AEy h;refine AS6<|ACw ⟨z,?_⟩;rw[<-Int.mul_sub,hz,<-bn,<-aj,show 16-M+M=16 by omega];rfl
theorem A3s{M n:Nat}{D D':Wz}(hM:M<=16)(hd:det n S%2=1)(H:Car n M 2 D S D'):GSv M n D'=GSv M n D:=by
 obtain⟨R,h1,h2⟩:=A3r (M:=M) hd;have hq:((2^M:Nat):Int)=2^M:=by push_cast;rfl
 unfold GSv;rw[AR1 (g:=λv=>chE<|2^(16-M)*qv n D (AH4 n S v)) λv=>?_];.exact A83 (dE Wr) h1 h2 (f:=λv=>chE<|2^(16-M)*qv n D v) λv w h=>Aoo hM<|Ays (λ_ _ _ _=>Xp.refl _ _) λj hj=>hq▸h j hj
 .rw[<-A85];exact Aoo hM<|Ays (λi j hi hj=>(H i j hi hj).symm) λ_ _=>Xp.refl _ _
end Go.QF
namespace Go.Proofs.YtgmdhndbcohgiaaGreatDoor
def gV(k:Nat)(a b c:Int):Int:=psum (λx=>psum (λy=>chE<|2^(16-k)*(a*(x:Int)*x+b*x*y+c*(y:Int)*y))<|2^k)<|2^k
theorem Agc{f:Nat->Int}{H:Nat}(h:∀i,Xp q (f<|H+i)<|-f i):Xp q (psum f<|2*H) 0:=by rw[show 2*H=H+H by omega,ABn];have h1:Xp q (psum (λi=>f<|H+i) H) (psum (λi=>-1*f i) H):=Xp.psum λi _=>(h i).trans (Xp.of_eq Wq);rw[Yx]at h1;exact((Xp.refl _ _).add h1).trans (Xp.of_eq Wq)
theorem Arc(z:Int)(h:s=t+32768*z)(hz:z%2=1):Xp gq (chE s) (-chE t):=by rw[h];refine(Ab3 _ _).trans ?_;rw[Alr hz];exact(Xp.mul (Xp.refl _ _)<|show(65536:Int)%65537=-1%65537 by decide).trans (Xp.of_eq Wq)
theorem Agd{f:Nat->Int}{N:Nat}(h:∀i,f (i+N)=f i):psum f (2*N)=2*psum f N:=AR0 h 2
theorem AU0(z:Int)(h:s=t+65536*z):chE s=chE t:=by rw[h,A3l]
theorem A3t{b c:Int}(hb:b%2=1)(hk:2<=k)(Ae:k<=16):Xp gq (gV k a b c) (4*gV (k-2) a b c):=by
 obtain⟨m,rfl⟩:∃m,k=m+2:=⟨k-2,Wq⟩;have hN:2^(m+2)=2*(2*2^m):=by rw[aK,aK];omega
 have Aa:(2:Int)^(16-(m+2-2))=4*2^(16-(m+2)):=by rw[ACm (a:=2) (b:=16-(m+2)) Wq];rfl
 have hCP:(2:Int)^(16-(m+2))*2^m*4=65536:=by rw[<-aj,show 16-(m+2)+m=14 by omega];rfl
 have hP:((2^m:Nat):Int)=2^m:=by push_cast;rfl
 unfold gV;rw[Aa,show m+2-2=m by omega,hN];generalize(2:Int)^(16-(m+2))=C at*;generalize hQ:(2:Int)^m=P at*;generalize 2^m=N at*;have sx:∀x y:Nat,y%2=1->Xp gq (chE<|C*(a*((2*N+x:Nat):Int)*(2*N+x:Nat)+b*(2*N+x:Nat)*y+c*(y:Int)*y)) (-chE (C*(a*(x:Int)*x+b*x*y+c*(y:Int)*y))):=λx y hy=>by
  refine Arc (a*(2*x+2*P)+b*y) ?_ (by
   rw[cv,bC b,hb];have:((y:Nat):Int)%2=1:=by omega
   rw[this,show a*(2*(x:Int)+2*P)=2*(a*(x+P))by grind];omega);push_cast;rw[hP];grind
 have sy:∀x y:Nat,x%2=1->Xp gq (chE<|C*(a*(x:Int)*x+b*x*((2*(N+y):Nat):Int)+c*((2*(N+y):Nat):Int)*(2*(N+y):Nat))) (-chE (C*(a*(x:Int)*x+b*x*((2*y:Nat):Int)+c*((2*y:Nat):Int)*(2*y:Nat)))):=λx y hx=>by
  refine Arc (c*(4*y+2*P)+b*x) ?_ (by
   rw[cv,bC b,hb];have:((x:Nat):Int)%2=1:=by omega
   rw[this,show c*(4*(y:Int)+2*P)=2*(c*(2*y+P))by grind];omega);push_cast;rw[hP];grind
 rw[AIh,Aih];have z1:Xp gq (psum (λy=>psum (λx=>chE<|C*(a*(x:Int)*x+b*x*((2*y+1:Nat):Int)+c*((2*y+1:Nat):Int)*((2*y+1:Nat):Int)))<|2*(2*N))<|2*N) 0:=(Xp.psum λy _=>Agc λx=>sx x (2*y+1) Wq).trans (Xp.of_eq<|Y8 _);refine((Xp.refl _ _).add z1).trans ?_;rw[aP,AIh,Aih];have z2:Xp gq (psum (λx=>psum (λy=>chE<|C*(a*((2*x+1:Nat):Int)*((2*x+1:Nat):Int)+b*((2*x+1:Nat):Int)*((2*y:Nat):Int)+c*((2*y:Nat):Int)*((2*y:Nat):Int)))<|2*N)<|2*N) 0:=(Xp.psum λx _=>Agc λy=>sy (2*x+1) y Wq).trans (Xp.of_eq<|Y8 _);refine((Xp.refl _ _).add z2).trans (Xp.of_eq ?_);rw[aP];have e1:∀x y:Nat,C*(a*((2*x:Nat):Int)*((2*x:Nat):Int)+b*((2*x:Nat):Int)*((2*y:Nat):Int)+c*((2*y:Nat):Int)*((2*y:Nat):Int))=4*C*(a*(x:Int)*x+b*x*y+c*(y:Int)*y):=λx y=>by push_cast;grind
 rw[Wy (g:=λx=>2*psum (λy=>chE<|4*C*(a*(x:Int)*x+b*x*y+c*(y:Int)*y)) N) λx _=>?_,Yx,Agd λx=>?_];.omega
 .exact Wy λy _=>AU0 (a*(2*x+P)+b*y) (by push_cast;rw[hP];grind)
 .rw[Wy λy _=>congrArg chE<|e1 x y];exact Agd λy=>AU0 (c*(2*y+P)+b*x) (by push_cast;rw[hP];grind)
def tS(a c:Int):Int:=if a%2=1/\c%2=1 then-1 else 1
theorem A3u{b c:Int}(hb:b%2=1)(hk:k<=1):Xp gq (gV k a b c) (2^k*tS a c^k):=by
 have red:∀x y:Int,Xp 2 x y->chE (2^15*x)=chE (2^15*y):=λx y h=>Aoo (M:=1) Wq h;rcases show k=0∨k=1 by omega with rfl|rfl;.exact Xp.of_eq (by unfold gV;simp[psum,Aed])
 .have e:gV 1 a b c=chE (2^15*0)+chE (2^15*c)+(chE (2^15*a)+chE (2^15*(a+b+c))):=by unfold gV;simp[psum]
  rw[e,ce,ce];unfold tS;have o:chE (2^15*1)=65536:=by decide+kernel
  have z:chE (2^15*0)=1:=by decide+kernel
  rcases show a%2=0∨a%2=1 by omega with ha|ha<;>rcases show c%2=0∨c%2=1 by omega with hc|hc;.rw[red a 0 (by show _=_;omega),red c 0 (by show _=_;omega),red (a+b+c) 1 (by show _=_;omega),if_neg Wq,o,z];unfold Xp;decide
  .rw[red a 0 (by show _=_;omega),red c 1 (by show _=_;omega),red (a+b+c) 0 (by show _=_;omega),if_neg Wq,o,z];unfold Xp;decide
  .rw[red a 1 (by show _=_;omega),red c 0 (by show _=_;omega),red (a+b+c) 0 (by show _=_;omega),if_neg Wq,o,z];unfold Xp;decide
  .rw[red a 1 (by show _=_;omega),red c 1 (by show _=_;omega),red (a+b+c) 1 (by show _=_;omega),if_pos ⟨ha,hc⟩,o,z];unfold Xp;decide
theorem Ayt(a c:Int):tS a c*tS a c=1:=by unfold tS;split<;>rfl
theorem A86{b c:Int}(hb:b%2=1):∀k,k<=16->Xp gq (gV k a b c) (2^k*tS a c^k):=by
 intro k;induction k using dy with|ind k ih=>
   intro Aa;rcases ab k 2 with h|h;.exact A3u hb Wq
   .refine(A3t hb h Aa).trans ((Xp.mul (Xp.refl _ 4)<|ih (k-2) Wq Wq).trans (Xp.of_eq ?_));obtain⟨m,rfl⟩:∃m,k=m+2:=⟨k-2,Wq⟩;rw[show m+2-2=m by omega,ao,ao,ao<|tS a c,ao<|tS a c];have:=Ayt a c;grind
theorem AIe{p:Int}{i j:Nat}:∀{L:List Xe}{r:Nat}{F:Wz},i<r∨j<r->AQ1 p L r F i j=F i j
 |[],_,_,_=>rfl|c::L,r,F,h=>by
   rw[ADa];split;.rw[AIe Wq,AAe,if_neg Wq,if_neg Wq,if_neg Wq,if_neg Wq]
   .rw[AIe Wq,ABq,if_neg Wq]
theorem AMz{p:Int}{s i j:Nat}:∀{L:List Xe}{r:Nat}{F G:Wz},(∀i j,F (s+i) (s+j)=G i j)->AQ1 p L (s+r) F (s+i) (s+j)=AQ1 p L r G i j
 |[],_,_,_,h=>h i j|c::L,r,F,G,h=>by
   rw[ADa,ADa];split
   .rw[ck];refine AMz λi j=>?_;rw[AAe,AAe,h];grind
   .rw[ck];refine AMz λi j=>?_;rw[ABq,ABq,h];grind
structure Fr(n s:Nat)(D B D1:Wz):Prop where
 hd:∀i j,i<s->j<s->D i j=B i j
 ur:∀i j,i<s->D i (s+j)=0
 lo:∀i j,i<s->D (s+j) i=0
 tl:∀i j,D (s+i) (s+j)=D1 i j
theorem qv1{n:Nat}{D:Wz}(h:Fr n 1 D B D1)(x:Int)(v:Nat->Int):qv (1+n) D (vc x v)=B 0 0*x*x+qv n D1 v:=by
 unfold qv Aon;rw[ABn];have e0:AH4 (1+n) D (vc x v) 0=B 0 0*x:=by
  unfold AH4;rw[ABn,Wy (f:=λi=>D 0 (1+i)*vc x v (1+i)) (g:=λ_=>0) λi _=>by rw[h.ur 0 i Wq];simp,Y8];show 0+D 0 0*x+0=_;rw[h.hd 0 0 Wq Wq];omega
 have e1:∀i,AH4 (1+n) D (vc x v) (1+i)=AH4 n D1 v i:=λi=>by
  unfold AH4;rw[ABn,Wy (f:=λk=>D (1+i) (1+k)*vc x v (1+k)) (g:=λk=>D1 i k*v k) λk _=>by rw[h.tl,bA 1 k];rfl];show 0+D (1+i) 0*x+_=_;rw[h.lo 0 i Wq];omega
 rw[Wy (f:=λi=>vc x v (1+i)*AH4 (1+n) D (vc x v) (1+i)) (g:=λi=>v i*AH4 n D1 v i) λi _=>by rw[e1,bA 1 i];rfl];show 0+x*AH4 (1+n) D (vc x v) 0+_=_;rw[e0];grind
theorem qv2{n:Nat}{D:Wz}(h:Fr n 2 D B D1)(x y:Int)(v:Nat->Int):qv (2+n) D (vc x<|vc y v)=B 0 0*x*x+(B 0 1+B 1 0)*x*y+B 1 1*y*y+qv n D1 v:=by
 unfold qv Aon;rw[ABn];have e0:∀a,a<2->AH4 (2+n) D (vc x<|vc y v) a=B a 0*x+B a 1*y:=λa ha=>by
  unfold AH4;rw[ABn,Wy (f:=λi=>D a (2+i)*vc x (vc y v) (2+i)) (g:=λ_=>0) λi _=>by rw[h.ur a i ha];simp,Y8];show 0+D a 0*x+D a 1*y+0=_;rw[h.hd a 0 ha Wq,h.hd a 1 ha Wq];omega
 have e1:∀i,AH4 (2+n) D (vc x<|vc y v) (2+i)=AH4 n D1 v i:=λi=>by
  unfold AH4;rw[ABn,Wy (f:=λk=>D (2+i) (2+k)*vc x (vc y v) (2+k)) (g:=λk=>D1 i k*v k) λk _=>by rw[h.tl,bA 2 k];rfl];show 0+D (2+i) 0*x+D (2+i) 1*y+_=_;rw[h.lo 0 i Wq,h.lo 1 i Wq];omega
 rw[Wy (f:=λi=>vc x (vc y v) (2+i)*AH4 (2+n) D (vc x<|vc y v) (2+i)) (g:=λi=>v i*AH4 n D1 v i) λi _=>by rw[e1,bA 2 i];rfl];show 0+x*AH4 (2+n) D (vc x<|vc y v) 0+y*AH4 (2+n) D (vc x<|vc y v) 1+_=_;rw[e0 0 Wq,e0 1 Wq];grind
theorem gs1{M n:Nat}{D:Wz}(h:Fr n 1 D B D1):Xp gq (GSv M (1+n) D) (psum (λx=>chE<|2^(16-M)*(B 0 0*(x:Int)*x)) (2^M)*GSv M n D1):=by rw[bA];show Xp gq (psum (λx=>VS (2^M) n λv=>chE<|2^(16-M)*qv (n+1) D (vc x v))<|2^M) _;rw[AJn];refine Xp.psum λx _=>?_;rw[show GSv M n D1=VS (2^M) n λv=>chE (2^(16-M)*qv n D1 v)from rfl,<-Aol];refine Aok λv=>?_;rw[bA n 1,qv1 h,dN];exact Ab3 _ _
theorem gs2{M n:Nat}{D:Wz}(h:Fr n 2 D B D1):Xp gq (GSv M (2+n) D) (psum (λx=>psum (λy=>chE<|2^(16-M)*(B 0 0*(x:Int)*x+(B 0 1+B 1 0)*x*y+B 1 1*(y:Int)*y))<|2^M) (2^M)*GSv M n D1):=by rw[bA];show Xp gq (psum (λx=>psum (λy=>VS (2^M) n λv=>chE<|2^(16-M)*qv (n+2) D (vc x<|vc y v))<|2^M)<|2^M) _;rw[AJn];refine Xp.psum λx _=>?_;rw[AJn];refine Xp.psum λy _=>?_;rw[show GSv M n D1=VS (2^M) n λv=>chE (2^(16-M)*qv n D1 v)from rfl,<-Aol];refine Aok λv=>?_;rw[bA n 2,qv2 h,dN];exact Ab3 _ _
theorem A87{c:Xe}{L:List Xe}(h:c.2.1=1):Fr (AAa L) 1 (bm (c::L)) (λ_ _=>2^c.1.toNat*c.2.2.1) (bm L):=by
 have e:bm (c::L)=AQ1 2 L (1+0) (AYt (λ_ _=>0) 0 0<|2^c.1.toNat*c.2.2.1):=by unfold bm;rw[ADa,if_neg Wq]
 rw[e];refine⟨λi j hi hj=>?_,λi j hi=>?_,λi j hi=>?_,λi j=>AMz λi j=>?_⟩;.rw[AIe Wq,ABq,if_pos Wq]
 .rw[AIe Wq,ABq,if_neg Wq]
 .rw[AIe Wq,ABq,if_neg Wq]
 .rw[ABq,if_neg Wq]
theorem A88{c:Xe}{L:List Xe}(h:c.2.1=2):Fr (AAa L) 2 (bm (c::L)) (AVv (λ_ _=>0) 0 (2^c.1.toNat*c.2.2.1) (2^c.1.toNat*c.2.2.2.1)<|2^c.1.toNat*c.2.2.2.2) (bm L):=by
 have e:bm (c::L)=AQ1 2 L (2+0) (AVv (λ_ _=>0) 0 (2^c.1.toNat*c.2.2.1) (2^c.1.toNat*c.2.2.2.1)<|2^c.1.toNat*c.2.2.2.2):=by unfold bm;rw[ADa,if_pos h]
 rw[e];refine⟨λi j hi hj=>?_,λi j hi=>?_,λi j hi=>?_,λi j=>AMz λi j=>?_⟩;.rw[AIe Wq]
 all_goals(try rw[AIe Wq]);rw[AAe,if_neg Wq,if_neg Wq,if_neg Wq,if_neg Wq]
def tB(b:Xe):Nat:=(if b.2.1=1 then(b.2.2.1%8).toNat else 0)+if b.1%2=1/\sg8 (dB b)=-1 then 4 else 0
def tL:List Xe->Nat|[]=>0|b::l=>tB b+tL l
theorem gz4:Xp gq (gz^4) (-1):=by unfold Xp;decide
theorem Ayu(hs:s*s=1)(e:Nat):Xp gq (s^e) (gz^if e%2=1/\s=-1 then 4 else 0):=by
 have h2:∀m,s^(2*m)=1:=λm=>by rw[dL,show s^2=s*s by grind,hs,df]
 rcases show e%2=0∨e%2=1 by omega with h|h;.rw[if_neg Wq,show e=2*(e/2)by omega,h2];exact Xp.refl _ _
 .rw[show e=2*(e/2)+1 by omega,ao,h2];by_cases h3:s=-1;.rw[if_pos ⟨Wq,h3⟩,h3];exact gz4.symm
  .rw[if_neg λh=>h3 h.2];have:s=1:=by
    have h4:(s-1)*(s+1)=0:=by grind
    rcases ca.1 h4 with h|h<;>omega
   rw[this];exact Xp.refl _ _
theorem Ail(k:Nat):Xp gq (gr^(2*k)) (2^k):=by induction k with|zero=>exact Xp.refl _ _|succ k ih=>rw[show 2*(k+1)=2*k+1+1 by omega,ao,ao,ao,bn];exact ih.mul A5f
theorem Ayv(hs:s*s=1){a b:Nat}(h:a%2=b%2):s^a=s^b:=by
 have h2:∀m,s^(2*m)=1:=λm=>by rw[dL,show s^2=s*s by grind,hs,df]
 rw[show a=2*(a/2)+a%2 by omega,show b=2*(b/2)+b%2 by omega,aj,aj,h2,h2,h]
theorem BF4{M e:Nat}(ha:a%2=1)(he:e+2<=M)(hM:M<=16):Xp gq (psum (λx=>chE<|2^(16-M)*(2^e*a*(x:Int)*x))<|2^M) (gr^(M+1+e)*sg8 a^(M+1)*(sg8 a^e*gz^(a%8).toNat)):=by
 have h1:psum (λx=>chE<|2^(16-M)*(2^e*a*(x:Int)*x)) (2^M)=2^e*gW (M-e) a:=by
  unfold gW;have hc:(2:Int)^(16-(M-e))=2^(16-M)*2^e:=ACm Wq;have hp:(2:Int)^(16-(M-e))*2^(M-e)=65536:=by rw[<-aj,show 16-(M-e)+(M-e)=16 by omega];rfl
  have hP:((2^(M-e):Nat):Int)=2^(M-e):=by push_cast;rfl
  rw[show 2^M=2^e*2^(M-e)by rw[<-cy];congr 1;omega];rw[Wy (g:=λx=>chE<|2^(16-(M-e))*a*((x:Int)*x)) λx _=>by rw[hc];congr 1;grind];rw[AR0 (f:=λx=>chE<|2^(16-(M-e))*a*((x:Int)*x)) λi=>AU0 (a*(2*i+2^(M-e))) ?_];.push_cast;rfl
  .push_cast;rw[<-hp];grind
 rw[h1];refine((Ail e).symm.mul (A81 ha (M-e) Wq Wq)).trans (Xp.of_eq ?_);rw[show M+1+e=2*e+(M-e+1)by omega,aj,Ayv (Aoj a) (a:=M-e+1) (b:=M+1+e) Wq,aj (sg8 a) (M+1) e];grind
theorem BF5{M e:Nat}{b c:Int}(hb:b%2=1)(he:e+1<=M)(hM:M<=16):Xp gq (psum (λx=>psum (λy=>chE<|2^(16-M)*(2^e*(2*a)*(x:Int)*x+(2^e*b+2^e*b)*x*y+2^e*(2*c)*(y:Int)*y))<|2^M)<|2^M) (gr^(2*(M+1+e))*tS a c^(M+1)*tS a c^e):=by
 have h1:psum (λx=>psum (λy=>chE<|2^(16-M)*(2^e*(2*a)*(x:Int)*x+(2^e*b+2^e*b)*x*y+2^e*(2*c)*(y:Int)*y))<|2^M) (2^M)=2^(e+1)*(2^(e+1)*gV (M-e-1) a b c):=by
  unfold gV;have hc:(2:Int)^(16-(M-e-1))=2^(16-M)*2^e*2:=by rw[ACm (a:=16-M+e) (b:=1) Wq,aj];rfl
  have hp:(2:Int)^(16-(M-e-1))*2^(M-e-1)=65536:=by rw[<-aj,show 16-(M-e-1)+(M-e-1)=16 by omega];rfl
  have hP:((2^(M-e-1):Nat):Int)=2^(M-e-1):=by push_cast;rfl
  have h2:((2^(e+1):Nat):Int)=2^(e+1):=by push_cast;rfl
  rw[show 2^M=2^(e+1)*2^(M-e-1)by rw[<-cy];congr 1;omega];generalize 2^(M-e-1)=N at hP⊢;generalize(2:Int)^(M-e-1)=P at hp hP;generalize(2:Int)^(16-(M-e-1))=C at hc hp⊢;rw[Wy (g:=λx=>psum (λy=>chE<|C*(a*(x:Int)*x+b*x*y+c*(y:Int)*y))<|2^(e+1)*N) λx _=>Wy λy _=>by rw[hc];congr 1;grind];rw[Wy (g:=λx=>(2^(e+1):Nat)*psum (λy=>chE<|C*(a*(x:Int)*x+b*x*y+c*(y:Int)*y)) N) λx _=>AR0 (λy=>AU0 (c*(2*y+P)+b*x) (by push_cast;rw[hP,<-hp];grind)) _,Yx,h2];congr 1;rw[AR0 (f:=λx=>psum (λy=>chE<|C*(a*(x:Int)*x+b*x*y+c*(y:Int)*y)) N) (λx=>Wy λy _=>AU0 (a*(2*x+P)+b*y) (by push_cast;rw[hP,<-hp];grind)) _,h2]
 rw[h1];refine((Xp.refl _ _).mul ((Xp.refl _ _).mul (A86 hb (M-e-1) Wq))).trans ?_;have h3:Xp gq (gr^(2*(M+1+e))) (2^(e+1)*(2^(e+1)*2^(M-e-1))):=(Ail _).trans (Xp.of_eq (by rw[<-aj,<-aj];congr 1;omega));refine Xp.trans (Xp.of_eq ?_)<|(h3.symm.mul<|Xp.refl _<|tS a c^(M+1)).mul (Xp.refl _<|tS a c^e);rw[Ayv (Ayt a c) (a:=M-e-1) (b:=M+1+e) Wq,aj (tS a c) (M+1) e];grind
theorem A3v{b c:Int}(hb:b%2=1):sg8 (2*a*(2*c)-b*b)=tS a c:=by
 have h1:b*b%8=1:=by rcases Alu hb with h|h|h|h<;>rw[bC,h]<;>rfl
 have h2:(2*a*(2*c)-b*b)%8=(4*(a%2*(c%2))-1)%8:=by
  obtain⟨x,hx⟩:∃x,a=2*x+a%2:=⟨a/2,Wq⟩;obtain⟨y,hy⟩:∃y,c=2*y+c%2:=⟨c/2,Wq⟩;have:2*a*(2*c)=8*(2*x*y+x*(c%2)+y*(a%2))+4*(a%2*(c%2)):=by grind
  rw[this];generalize a%2*(c%2)=w;omega
 unfold sg8 tS;rw[h2];rcases show a%2=0∨a%2=1 by omega with ha|ha<;>rcases show c%2=0∨c%2=1 by omega with hc|hc<;>rw[ha,hc]<;>decide
def BP(M:Nat)(b:Xe):Prop:=(0<=b.1/\b.1+3<=M)/\(b.2.1=1/\b.2.2.1%2=1∨b.2.1=2/\b.2.2.1%2=0/\b.2.2.2.1%2=1/\b.2.2.2.2%2=0)
theorem BP.odd{M:Nat}{b:Xe}(h:BP M b):dB b%2=1:=by
 unfold dB;rcases h.2 with⟨h1,h2⟩|⟨h1,h2,h3,h4⟩;.rw[if_neg Wq,h2]
 .rw[if_pos h1,Int.sub_emod,bC,h2,bC b.2.2.2.1,h3,aY];rfl
theorem Ayw{M:Nat}:∀{L:List Xe},(∀b∈L,BP M b)->uL L%2=1
 |[],_=>rfl|b::L,h=>by
   show dB b*uL L%2=1;rw[bC,(h b W4).odd,Ayw λx hx=>h x<|by simp[hx]];rfl
def AA9:List Xe->Int->Int|[],_=>0|b::l,e=>(if b.1=e then b.2.1 else 0)+AA9 l e
def sgE(sg:Xe->Int):List Xe->Int->Int|[],_=>1|b::l,e=>(if b.1=e then sg b else 1)*sgE sg l e
def odE(od:Xe->Prop)(L:List Xe)(e:Int):Prop:=∃b∈L,b.1=e/\od b
theorem Aeh(b:Xe)(e:Int):∀L:List Xe,AA9 (L++[b]) e=AA9 L e+if b.1=e then b.2.1 else 0|[]=>by show _+0=0+_;omega|c::L=>by show _+AA9 (L++[b]) e=_+AA9 L e+_;rw[Aeh b e L];omega
theorem Aim(sg:Xe->Int)(b:Xe)(e:Int):∀L:List Xe,sgE sg (L++[b]) e=sgE sg L e*if b.1=e then sg b else 1|[]=>by show _*1=1*_;omega|c::L=>by show _*sgE sg (L++[b]) e=_*sgE sg L e*_;rw[Aim sg b e L,bn]
theorem A3x(od:Xe->Prop)(b:Xe)(e:Int)(L:List Xe):odE od (L++[b]) e↔odE od L e∨b.1=e/\od b:=by unfold odE;simp only[ar,ak];grind
theorem ALj{e:Int}:∀{L:List Xe},(∀b∈L,b.1≠e)->AA9 L e=0|[],_=>rfl|c::L,h=>by show(if c.1=e then _ else _)+AA9 L e=0;rw[if_neg<|h c W4,ALj λb hb=>h b<|by simp[hb]];rfl
theorem ANp{sg:Xe->Int}{e:Int}:∀{L:List Xe},(∀b∈L,b.1≠e)->sgE sg L e=1|[],_=>rfl|c::L,h=>by show(if c.1=e then _ else _)*sgE sg L e=1;rw[if_neg<|h c W4,ANp λb hb=>h b<|by simp[hb]];rfl
theorem AJt{e:Int}:∀{L:List Xe},AE0 L->((∃b∈L,b.1=e)↔0<AA9 L e)/\0<=AA9 L e
 |[],_=>⟨⟨λ⟨_,h,_⟩=>(nomatch h),λh=>absurd h<|Int.lt_irrefl 0⟩,dh 0⟩|c::L,h=>by
   have h1:=h c W4;obtain⟨h2,h3⟩:=AJt (e:=e) (L:=L) λb hb=>h b (by simp[hb]);show(_↔0<(if c.1=e then _ else _)+AA9 L e)/\0<=(if c.1=e then _ else _)+AA9 L e;split;.next hc=>exact⟨⟨λ_=>by omega,λ_=>⟨c,W4,hc⟩⟩,Wq⟩
   .next hc=>rw[Int.zero_add,<-h2];exact⟨by simp[hc],h3⟩
structure CSp(sg:Xe->Int)(od:Xe->Prop)(L:List Xe)(C:List Xm):Prop where
 asc:C.Pairwise λa b=>a.1<b.1
 mem:∀e,(∃c∈C,c.1=e)↔∃b∈L,b.1=e
 dim:∀c∈C,c.2.1=AA9 L c.1
 sgn:∀c∈C,c.2.2.1=sgE sg L c.1
 odd:∀c∈C,c.2.2.2.1=true↔odE od L c.1 
theorem CSp.nil{sg:Xe->Int}{od:Xe->Prop}:CSp sg od [] []:=⟨List.Pairwise.nil,λe=>by simp,λc h=>(nomatch h),λc h=>(nomatch h),λc h=>nomatch h⟩
structure CRp(sg:Xe->Int)(od:Xe->Prop)(L:List Xe)(e:Int)(l:List Xm)(c:Xm):Prop where
 asc:(l++[c]).Pairwise λa b=>a.1<b.1
 exp:c.1=e
 mem:∀x,(∃c∈l,c.1=x)∨x=e↔(∃b∈L,b.1=x)∨x=e
 dim:∀d∈l++[c],d.2.1=AA9 L d.1
 sgn:∀d∈l++[c],d.2.2.1=sgE sg L d.1
 odd:∀d∈l++[c],d.2.2.2.1=true↔odE od L d.1 
theorem CSp.old{sg:Xe->Int}{od:Xe->Prop}{L:List Xe}{l:List Xm}{c:Xm}(H:CSp sg od L (l++[c])):CRp sg od L c.1 l c:=⟨H.asc,rfl,λx=>by have:=H.mem x;simp only[ar,ak]at this;grind,H.dim,H.sgn,H.odd⟩
theorem CSp.new{sg:Xe->Int}{od:Xe->Prop}{L:List Xe}{l:List Xm}{e:Int}(H:CSp sg od L l)(h:∀b∈L,b.1<e):CRp sg od L e l (e,0,1,false,0):=by
 have h1:∀b∈L,b.1≠e:=λb hb=>by have:=h b hb;omega
 have h2:∀d∈l,d.1<e:=λd hd=>by
  obtain⟨b,hb,he⟩:=(H.mem d.1).1 ⟨d,hd,rfl⟩;rw[<-he];exact h b hb
 refine⟨?_,rfl,λx=>by rw[H.mem],λd hd=>?_,λd hd=>?_,λd hd=>?_⟩;.rw[bE];exact⟨H.asc,W4,λa ha b hb=>by rw[ak.1 hb];exact h2 a ha⟩
 .rcases ar.1 hd with h3|h3;.exact H.dim d h3
  .rw[ak.1 h3];exact(ALj h1).symm
 .rcases ar.1 hd with h3|h3;.exact H.sgn d h3
  .rw[ak.1 h3];exact(ANp h1).symm
 .rcases ar.1 hd with h3|h3;.exact H.odd d h3
  .rw[ak.1 h3];exact⟨λh=>(nomatch h),λ⟨b,hb,he,_⟩=>absurd he<|h1 b hb⟩
theorem CRp.put{sg:Xe->Int}{od:Xe->Prop}{L:List Xe}{l:List Xm}{c c':Xm}{b:Xe}(H:CRp sg od L b.1 l c)(h1:c'.1=c.1)(h2:c'.2.1=c.2.1+b.2.1)(h3:c'.2.2.1=c.2.2.1*sg b)(h4:c'.2.2.2.1=true↔c.2.2.2.1=true∨od b):CSp sg od (L++[b]) (l++[c']):=by
 have he:=H.exp;obtain⟨a1,a2,a3⟩:=bE.1 H.asc;have hl:∀d∈l,d.1≠b.1:=λd hd=>by have:=a3 d hd c W4;omega
 refine⟨?_,λx=>?_,λd hd=>?_,λd hd=>?_,λd hd=>?_⟩;.rw[bE];exact⟨a1,W4,λa ha d hd=>by rw[ak.1 hd,h1];exact a3 a ha c W4⟩
 .have:=H.mem x;simp only[ar,ak];grind
 .rcases ar.1 hd with h|h;.rw[Aeh,if_neg λh5=>hl d h h5.symm,H.dim d<|by simp[h]];omega
  .rw[ak.1 h,h1,he,Aeh,if_pos rfl,h2,H.dim c W4,he]
 .rcases ar.1 hd with h|h;.rw[Aim,if_neg λh5=>hl d h h5.symm,H.sgn d<|by simp[h]];omega
  .rw[ak.1 h,h1,he,Aim,if_pos rfl,h3,H.sgn c W4,he]
 .rw[A3x];rcases ar.1 hd with h|h;.rw[H.odd d<|by simp[h]];exact⟨.inl,λh5=>h5.resolve_right λh6=>hl d h h6.1.symm⟩
  .rw[ak.1 h,h1,he,h4,H.odd c W4,he];simp
theorem Ard:∀{C D:List Xm},(C.Pairwise λa b=>a.1<b.1)->(D.Pairwise λa b=>a.1<b.1)->(∀e,(∃c∈C,c.1=e)↔∃c∈D,c.1=e)->C.map (·.1)=D.map (·.1)
 |[],[],_,_,_=>rfl|[],d::D,_,_,h=>by obtain⟨_,h1,_⟩:=(h d.1).2 ⟨d,W4,rfl⟩;exact nomatch h1|c::C,[],_,_,h=>by obtain⟨_,h1,_⟩:=(h c.1).1 ⟨c,W4,rfl⟩;exact nomatch h1|c::C,d::D,h1,h2,h=>by
   rw[bT]at h1 h2;have e1:c.1=d.1:=by
    obtain⟨x,hx,hxe⟩:=(h c.1).1 ⟨c,W4,rfl⟩;obtain⟨y,hy,hye⟩:=(h d.1).2 ⟨d,W4,rfl⟩;rcases bP.1 hx with rfl|hx;.exact hxe.symm
    .rcases bP.1 hy with rfl|hy;.exact hye
     .have:=h2.1 x hx;have:=h1.1 y hy;omega
   rw[aV,aV,e1,Ard h1.2 h2.2 λe=>?_];have hh:=h e;constructor
   .rintro⟨x,hx,rfl⟩;obtain⟨y,hy,hye⟩:=hh.1 ⟨x,by simp[hx],rfl⟩;rcases bP.1 hy with rfl|hy;.have:=h1.1 x hx;omega
    .exact⟨y,hy,hye⟩
   .rintro⟨x,hx,rfl⟩;obtain⟨y,hy,hye⟩:=hh.2 ⟨x,by simp[hx],rfl⟩;rcases bP.1 hy with rfl|hy;.have:=h2.1 x hx;omega
    .exact⟨y,hy,hye⟩
theorem Alx{sg sg':Xe->Int}{od od':Xe->Prop}{L M:List Xe}{C D:List Xm}(H:CSp sg od L C)(G:CSp sg' od' M D)(hL:AE0 L)(hM:AE0 M)(hd:∀e,AA9 L e=AA9 M e):C.length=D.length/\∀(i:Nat)(c d:Xm),C[i]?=some c->D[i]?=some d->c.1=d.1/\c.2.1=d.2.1/\c.2.1=AA9 L c.1/\0<AA9 L c.1/\c.2.2.1=sgE sg L c.1/\d.2.2.1=sgE sg' M c.1/\(c.2.2.2.1=true↔odE od L c.1)/\(d.2.2.2.1=true↔odE od' M c.1):=by
 have h:=Ard H.asc G.asc λe=>by rw[H.mem,G.mem,(AJt hL).1,(AJt hM).1,hd]
 refine⟨by have:=congrArg List.length h;simpa using this,λi c d hc hd2=>?_⟩;have h1:c.1=d.1:=by have:=congrArg (λl:List Int=>l[i]?) h;simpa[List.getElem?_map,hc,hd2]using this
 have mc:=bG hc;have md:=bG hd2;refine⟨h1,by rw[H.dim c mc,G.dim d md,h1,hd],H.dim c mc,(AJt hL).1.1 ((H.mem c.1).1 ⟨c,mc,rfl⟩),H.sgn c mc,by rw[G.sgn d md,h1],H.odd c mc,by rw[G.odd d md,h1]⟩
abbrev bmp(p:Int)(L:List Xe):Wz:=AQ1 p L 0 λ_ _=>0
theorem Aei{c:Xe}{L:List Xe}(h:¬c.2.1=2):Fr (AAa L) 1 (bmp p (c::L)) (λ_ _=>p^c.1.toNat*c.2.2.1) (bmp p L):=by
 have e:bmp p (c::L)=AQ1 p L (1+0) (AYt (λ_ _=>0) 0 0<|p^c.1.toNat*c.2.2.1):=by unfold bmp;rw[ADa,if_neg h]
 rw[e];refine⟨λi j hi hj=>?_,λi j hi=>?_,λi j hi=>?_,λi j=>AMz λi j=>?_⟩;.rw[AIe Wq,ABq,if_pos Wq]
 .rw[AIe Wq,ABq,if_neg Wq]
 .rw[AIe Wq,ABq,if_neg Wq]
 .rw[ABq,if_neg Wq]
theorem Age{c:Xe}{L:List Xe}(h:c.2.1=2):Fr (AAa L) 2 (bmp p (c::L)) (AVv (λ_ _=>0) 0 (p^c.1.toNat*c.2.2.1) (p^c.1.toNat*c.2.2.2.1)<|p^c.1.toNat*c.2.2.2.2) (bmp p L):=by
 have e:bmp p (c::L)=AQ1 p L (2+0) (AVv (λ_ _=>0) 0 (p^c.1.toNat*c.2.2.1) (p^c.1.toNat*c.2.2.2.1)<|p^c.1.toNat*c.2.2.2.2):=by unfold bmp;rw[ADa,if_pos h]
 rw[e];refine⟨λi j hi hj=>?_,λi j hi=>?_,λi j hi=>?_,λi j=>AMz λi j=>?_⟩;.rw[AIe Wq]
 all_goals(try rw[AIe Wq]);rw[AAe,if_neg Wq,if_neg Wq,if_neg Wq,if_neg Wq]
def atL{α:Type}(z:α)(f:Xe->α):List Xe->Nat->α|[],_=>z|b::L,i=>if i<b.2.1.toNat then f b else atL z f L<|i-b.2.1.toNat
def eL(L:List Xe)(i:Nat):Nat:=atL 0 (λb=>b.1.toNat) L i
def z0(b:Xe):Xe:=(0,b.2)
def iv(b:Xe):Xe:=if b.2.1=2 then(0,2,b.2.2.2.2,-b.2.2.2.1,b.2.2.1)else(0,1,1,0,0)
theorem AIx{z:α}{f:Xe->α}{b:Xe}{L:List Xe}(h:i<b.2.1.toNat):atL z f (b::L) i=f b:=if_pos h
theorem AH5{z:α}{f:Xe->α}{b:Xe}{L:List Xe}{s:Nat}(h:b.2.1.toNat=s):atL z f (b::L) (s+i)=atL z f L i:=by show(if _ then _ else _)=_;rw[if_neg Wq,h,show s+i-s=i by omega]
theorem AYy{α:Type}{z:α}{f:Xe->α}{P:α->Prop}:∀{L:List Xe}{i:Nat},AE0 L->(∀b∈L,P<|f b)->i<AAa L->P (atL z f L i)
 |[],_,_,_,h=>absurd h (aG _)|b::L,i,hs,hP,h=>by
   rw[AAb]at h;rcases ab i b.2.1.toNat with h1|h1;.rw[AIx h1];exact hP b W4
   .obtain⟨j,rfl⟩:∃j,i=b.2.1.toNat+j:=⟨i-b.2.1.toNat,Wq⟩;rw[AH5 rfl];exact AYy λb hb=>hs b<|by simp[hb] λb hb=>hP b<|by simp[hb] Wq
theorem Aoq{p:Int}{Q:List Xe->Prop}(h0:Q [])(h1:∀c L,c.2.1=1->AE0 L->Q L->Q (c::L))(h2:∀c L,c.2.1=2->AE0 L->Q L->Q (c::L)):∀L,AE0 L->Q L
 |[],_=>h0|c::L,h=>by
   have hL:AE0 L:=λb hb=>h b (by simp[hb]);have ih:=Aoq (p:=p) h0 h1 h2 L hL;rcases h c W4 with h3|h3;.exact h1 c L h3 hL ih
   .exact h2 c L h3 hL ih
theorem AIf{s n:Nat}(h:i<s+n):i<s∨∃j,i=s+j/\j<n:=by
 rcases ab i s with h1|h1;.exact .inl h1
 .exact .inr ⟨i-s,Wq,Wq⟩
theorem Ayx:∀L:List Xe,AE0 L->∀i j,i<AAa L->j<AAa L->bmp p L i j=p^eL L i*bmp p (L.map z0) i j:=by
 refine Aoq (p:=p) (λi j h=>absurd h<|aG i) (λc L h hL ih i j hi hj=>?_) λc L h hL ih i j hi hj=>?_
 .have f1:=Aei (p:=p) (c:=c) (L:=L) Wq;have f2:=Aei (p:=p) (c:=z0 c) (L:=L.map z0) (show¬c.2.1=2 by omega);have hs:c.2.1.toNat=1:=by omega
  rw[AAb,hs]at hi hj;rw[aV];unfold eL at ih⊢;rcases AIf hi with hi|⟨i,rfl,ki⟩<;>rcases AIf hj with hj|⟨j,rfl,kj⟩;.rw[f1.hd i j hi hj,f2.hd i j hi hj,AIx Wq];show _=_*(p^0*c.2.2.1);rw[bI,aA]
  .rw[f1.ur i j hi,f2.ur i j hi,ba]
  .rw[f1.lo j i hj,f2.lo j i hj,ba]
  .rw[f1.tl,f2.tl,AH5 hs];exact ih i j ki kj
 .have f1:=Age (p:=p) (c:=c) (L:=L) h;have f2:=Age (p:=p) (c:=z0 c) (L:=L.map z0) h;have hs:c.2.1.toNat=2:=by omega
  rw[AAb,hs]at hi hj;rw[aV];unfold eL at ih⊢;rcases AIf hi with hi|⟨i,rfl,ki⟩<;>rcases AIf hj with hj|⟨j,rfl,kj⟩;.rw[f1.hd i j hi hj,f2.hd i j hi hj,AIx Wq,AAe,AAe];show _=_*if _ then p^0*c.2.2.1 else if _ then p^0*c.2.2.2.1 else if _ then p^0*c.2.2.2.1 else if _ then p^0*c.2.2.2.2 else 0;rw[bI];grind
  .rw[f1.ur i j hi,f2.ur i j hi,ba]
  .rw[f1.lo j i hj,f2.lo j i hj,ba]
  .rw[f1.tl,f2.tl,AH5 hs];exact ih i j ki kj
theorem Ayy(L:List Xe):AAa (L.map z0)=AAa L:=by induction L with|nil=>rfl|cons c L ih=>rw[aV,AAb,AAb,ih];rfl
theorem Ain:∀L:List Xe,AE0 L->∀i j,i<AAa L->j<AAa L->(eL L i≠eL L j->bmp p (L.map z0) i j=0/\bmp p (L.map iv) i j=0)/\bmp p (L.map z0) i j=bmp p (L.map z0) j i/\psum (λk=>bmp p (L.map iv) i k*bmp p (L.map z0) k j) (AAa L)=atL 1 dB L i*dl i j:=by
 refine Aoq (p:=p) (λi j h=>absurd h<|aG i) (λc L h hL ih i j hi hj=>?_) λc L h hL ih i j hi hj=>?_
 .have f1:=Aei (p:=p) (c:=iv c) (L:=L.map iv) (by unfold iv;rw[if_neg Wq];exact(by decide:¬(1:Int)=2));have f2:=Aei (p:=p) (c:=z0 c) (L:=L.map z0) (show¬c.2.1=2 by omega);have hs:c.2.1.toNat=1:=by omega
  have hd:dB c=c.2.2.1:=by unfold dB;rw[if_neg Wq]
  have hv:(iv c).2.2.1=1/\(iv c).1=0:=by unfold iv;rw[if_neg Wq];exact⟨rfl,rfl⟩
  rw[AAb,hs]at hi hj⊢;rw[aV,aV];unfold eL at ih⊢;rw[ABn];rcases AIf hi with hi|⟨i,rfl,ki⟩<;>rcases AIf hj with hj|⟨j,rfl,kj⟩
  .obtain rfl:i=0:=by omega
   obtain rfl:j=0:=by omega
   refine⟨λhne=>absurd rfl hne,rfl,?_⟩;rw[Wy (f:=λk=>bmp p (iv c::L.map iv) 0 (1+k)*_) (g:=λ_=>0) λk _=>by rw[f1.ur 0 k Wq,aY],Y8,AIx Wq,hd];show 0+bmp p (iv c::L.map iv) 0 0*bmp p (z0 c::L.map z0) 0 0+0=_*1;rw[f1.hd 0 0 Wq Wq,f2.hd 0 0 Wq Wq,hv.1,hv.2];show 0+p^0*1*(p^0*c.2.2.1)+0=_;rw[bI];omega
  .refine⟨λ_=>⟨f2.ur i j hi,f1.ur i j hi⟩,by rw[f2.ur i j hi,f2.lo i j hi],?_⟩;rw[Wy (g:=λ_=>0) (n:=1) λk hk=>by rw[f2.ur k j hk,ba],Y8,Wy (g:=λ_=>0) λk _=>by rw[f1.ur i k hi,aY],Y8];unfold dl;rw[if_neg Wq];simp
  .refine⟨λ_=>⟨f2.lo j i hj,f1.lo j i hj⟩,by rw[f2.lo j i hj,f2.ur j i hj],?_⟩;rw[Wy (g:=λ_=>0) (n:=1) λk hk=>by rw[f1.lo k i hk,aY],Y8,Wy (g:=λ_=>0) λk _=>by rw[f2.lo j k hj,ba],Y8];unfold dl;rw[if_neg Wq];simp
  .obtain⟨h1,h2,h3⟩:=ih i j ki kj;rw[AH5 hs,AH5 hs,f2.tl,f1.tl,f2.tl,AH5 hs];refine⟨h1,h2,?_⟩;rw[Wy (g:=λ_=>0) (n:=1) λk hk=>by rw[f1.lo k i hk,aY],Y8,Wy (g:=λk=>bmp p (L.map iv) i k*bmp p (L.map z0) k j) λk _=>by rw[f1.tl,f2.tl],h3];unfold dl;simp
 .have hv:iv c=(0,2,c.2.2.2.2,-c.2.2.2.1,c.2.2.1):=by unfold iv;rw[if_pos h]
  have f1:=Age (p:=p) (c:=iv c) (L:=L.map iv) (by rw[hv]);have f2:=Age (p:=p) (c:=z0 c) (L:=L.map z0) h;have hs:c.2.1.toNat=2:=by omega
  have hd:dB c=c.2.2.1*c.2.2.2.2-c.2.2.2.1*c.2.2.2.1:=by unfold dB;rw[if_pos h]
  rw[AAb,hs]at hi hj⊢;rw[aV,aV];unfold eL at ih⊢;rw[ABn];rw[hv]at f1⊢;rcases AIf hi with hi|⟨i,rfl,ki⟩<;>rcases AIf hj with hj|⟨j,rfl,kj⟩
  .refine⟨λhne=>absurd (by rw[AIx Wq,AIx Wq]) hne,?_,?_⟩;.rw[f2.hd i j hi hj,f2.hd j i hj hi,AAe,AAe];grind
   .rw[Wy (f:=λk=>bmp p _ i (2+k)*_) (g:=λ_=>0) λk _=>by rw[f1.ur i k hi,aY],Y8,AIx Wq,hd];show 0+bmp p _ i 0*bmp p _ 0 j+bmp p _ i 1*bmp p _ 1 j+0=_;rw[f1.hd i 0 hi Wq,f1.hd i 1 hi Wq,f2.hd 0 j Wq hj,f2.hd 1 j Wq hj,AAe,AAe,AAe,AAe];dsimp only[z0];rw[show(0:Int).toNat=0 from rfl,bI];unfold dl;rcases show i=0∨i=1 by omega with rfl|rfl<;>rcases show j=0∨j=1 by omega with rfl|rfl<;>simp<;>grind
  .refine⟨λ_=>⟨f2.ur i j hi,f1.ur i j hi⟩,by rw[f2.ur i j hi,f2.lo i j hi],?_⟩;rw[Wy (g:=λ_=>0) (n:=2) λk hk=>by rw[f2.ur k j hk,ba],Y8,Wy (g:=λ_=>0) λk _=>by rw[f1.ur i k hi,aY],Y8];unfold dl;rw[if_neg Wq];simp
  .refine⟨λ_=>⟨f2.lo j i hj,f1.lo j i hj⟩,by rw[f2.lo j i hj,f2.ur j i hj],?_⟩;rw[Wy (g:=λ_=>0) (n:=2) λk hk=>by rw[f1.lo k i hk,aY],Y8,Wy (g:=λ_=>0) λk _=>by rw[f2.lo j k hj,ba],Y8];unfold dl;rw[if_neg Wq];simp
  .obtain⟨h1,h2,h3⟩:=ih i j ki kj;rw[AH5 hs,AH5 hs,f2.tl,f1.tl,f2.tl,AH5 hs];refine⟨h1,h2,?_⟩;rw[Wy (g:=λ_=>0) (n:=2) λk hk=>by rw[f1.lo k i hk,aY],Y8,Wy (g:=λk=>bmp p (L.map iv) i k*bmp p (L.map z0) k j) λk _=>by rw[f1.tl,f2.tl],h3];unfold dl;simp
theorem Aej:∀{L:List Xe},(∀i,i<L.length->Asc L i)->L.Pairwise λa b=>a.1<=b.1
 |[],_=>List.Pairwise.nil|[_],_=>by simp|a::b::L,h=>by
   have ih:=Aej (L:=b::L) λi hi h0 x y hx hy=>h (i+1) (by simp at hi⊢;omega) Wq x y (by simpa using hx) (by rw[show i+1-1=i-1+1 by omega];simpa using hy);have hab:a.1<=b.1:=h 1 W4 Wq b a rfl rfl;refine bT.2 ⟨λc hc=>?_,ih⟩;rcases bP.1 hc with rfl|hc;.exact hab
   .exact bJ hab<|(bT.1 ih).1 c hc
theorem Ayz:∀{L:List Xe},AE0 L->(L.Pairwise λa b=>a.1<=b.1)->∀i j,i<=j->j<AAa L->eL L i<=eL L j
 |[],_,_,_,_,_,h=>absurd h (aG _)|c::L,hs,hp,i,j,hij,hj=>by
   have hL:AE0 L:=λb hb=>hs b (by simp[hb]);rw[bT]at hp;rw[AAb]at hj;unfold eL;rcases AIf hj with h1|⟨j,rfl,kj⟩;.rw[AIx Wq,AIx h1];exact ae _
   .rw[AH5 rfl];rcases ab i c.2.1.toNat with h2|h2
    .rw[AIx h2];exact AYy (P:=λe=>c.1.toNat<=e) hL λb hb=>by have:=hp.1 b hb;omega kj
    .obtain⟨i,rfl⟩:∃k,i=c.2.1.toNat+k:=⟨i-c.2.1.toNat,Wq⟩;rw[AH5 rfl];exact Ayz hL hp.2 i j Wq kj
theorem BCx{n:Nat}{L:List Xe}{D:Wz}(hL:AE0 L)(hn:AAa L=n)(ha:L.Pairwise λa b=>a.1<=b.1)(he:∀b∈L,b.1.toNat<K)(hu:∀b∈L,¬p∣dB b)(hD:∀i j,i<n->j<n->Xp (p^K) (D i j) (bmp p L i j)):Jd n K p (eL L) (bmp p<|L.map z0) D:=by subst hn;exact⟨λi j hij hj=>Ayz hL ha i j hij hj,λi hi=>AYy (P:=(·<K)) hL he hi,λi j hi hj=>by rw[<-Ayx L hL i j hi hj];exact hD i j hi hj,λi j hi hj h=>((Ain L hL i j hi hj).1 h).1,λi j hi hj=>(Ain L hL i j hi hj).2.1,bmp p<|L.map iv,atL 1 dB L,λi k hi hk h=>((Ain L hL i k hi hk).1 h).2,λi hi=>AYy (P:=λd=>¬p∣d) hL hu hi,λi j hi hj=>(Ain L hL i j hi hj).2.2⟩
theorem Aly{n:Nat}{C R:Wz}(h1:Car n K p A S B)(h2:Car n K p B R C):Car n K p A (Xz n S R) C:=λi j hi hj=>by
 refine Xp.trans (Xp.of_eq ?_)<|(ARy (λ_ _=>Xp.refl _ _) λk hk=>ARy (λl hl=>h1 k l hk hl) λ_ _=>Xp.refl _ _).trans (h2 i j hi hj);rw[ACx (λk hk=>ASx i k) λk hk=>rfl,AAy];refine ACx (λ_ _=>rfl) λk hk=>?_;rw[AAy];refine ACx (λ_ _=>rfl) λl hl=>?_;rw[AAy]
theorem Aad{n:Nat}(h:Car n K p A S B):Car n K p (λi j=>d*A i j) S λi j=>d*B i j:=λi j hi hj=>by
 refine Xp.trans (Xp.of_eq ?_)<|(Xp.refl _ d).mul (h i j hi hj);unfold Xz;rw[AE5];exact Wy λk _=>by rw[show psum (λl=>d*A k l*S l j) n=d*psum (λl=>A k l*S l j) n by rw[AE5];exact Wy λl _=>bn _ _ _];grind
theorem Ay0{n:Nat}(h:ALm n A T B):Car n K p A T B:=λi j hi hj=>Xp.of_eq (h i j hi hj).symm
theorem Aor{n:Nat}(S:Eli n K p H T G)(hp:PrI p)(hK:1<=K):¬p∣det n T:=λh=>by
 have h1:p∣det n T*det n T:=aq h ⟨det n T,rfl⟩;have h2:p∣1:=AKr (S.d.down ⟨p^(K-1),by rw[<-cK,show K-1+1=K by omega]⟩).symm (bw p) h1;have:=hp.1;have:=bM Wq h2;omega
theorem A3y{n:Nat}{H' U:Wz}(hp:PrI p)(hK:1<=K)(S:Eli n K p H T G)(S':Eli n K p H' T' G')(hU:ALm n H U H')(hd:det n U*det n U=1):∃R,¬p∣det n R/\Car n K p G R G':=by
 have hu:¬p∣det n U:=λh=>by have:=bM Wq (hd▸aq h ⟨det n U,rfl⟩:p∣1);have:=hp.1;omega
 have h1:=Aly (Aly (Ak8 S.c)<|Aad (d:=det n T*det n T)<|Ay0 (K:=K) (p:=p) hU)<|Aad (d:=det n T*det n T) S'.c;refine⟨_,?_,λi j hi hj=>(h1 i j hi hj).trans ((S.d.mul<|Xp.refl _ _).trans (Xp.of_eq<|aA _))⟩;rw[ADf,ADf];exact hp.ndvd_mul (hp.ndvd_mul (Ak7 hp<|Aor S hp hK) hu)<|Aor S' hp hK
theorem AR2(x:Int):∀{L:List Xe},AE0 L->(∀b∈L,0<=b.1)->AA9 L x=psum (λi=>if(eL L i:Int)=x then 1 else 0) (AAa L)
 |[],_,_=>rfl|c::L,h,h0=>by
   have hc:=h0 c W4;have hs:=h c W4;rw[AAb,ABn];unfold eL;rw[Wy (n:=AAa L) (g:=λi=>if(eL L i:Int)=x then 1 else 0) λi _=>by rw[AH5 rfl];rfl,<-AR2 x λb hb=>h b<|by simp[hb] λb hb=>h0 b<|by simp[hb]];rw[Wy (n:=c.2.1.toNat) (g:=λi=>if c.1=x then 1 else 0) λi hi=>by rw[AIx hi,show((c.1.toNat:Nat):Int)=c.1 by omega]];show(if c.1=x then c.2.1 else 0)+_=_;congr 1;rcases hs with h|h;.rw[h];show _=psum _ 1;simp[psum]
   .rw[h];show _=psum _ 2;simp only[psum];split<;>rfl
theorem Aos{e:Nat->Nat}(x:Nat):∀n,(∀i j,i<=j->j<n->e i<=e j)->∃k,k<=n/\(∀i,i<k->e i<x)/\∀i,k<=i->i<n->x<=e i
 |0,_=>⟨0,ae 0,λi h=>absurd h<|aG i,λi _ h=>absurd h<|aG i⟩|n+1,h=>by
   obtain⟨k,h1,h2,h3⟩:=Aos x n λi j hij hj=>h i j hij Wq;rcases ab (e n) x with h4|h4;.exact⟨n+1,ae _,λi hi=>co (h i n Wq Wq) h4,λi h5 h6=>by omega⟩
   .refine⟨k,Wq,h2,λi h5 h6=>?_⟩;rcases ab i n with h7|h7;.exact h3 i h5 h7
    .rw[show i=n by omega];exact h4
theorem Ay1{e:Nat->Nat}{n:Nat}(x:Nat)(h:∀i j,i<=j->j<n->e i<=e j):∃k m,Cut n e k/\Cut n e (k+m)/\(∀i,k<=i->i<k+m->e i=x)/\∀i,i<n->e i=x->k<=i/\i<k+m:=by
 obtain⟨k,h1,h2,h3⟩:=Aos x n h;obtain⟨l,h4,h5,h6⟩:=Aos (x+1) n h;have hkl:k<=l:=by
  rcases ab l k with h7|h7;.have:=h2 l h7;have:=h6 l (ae l) Wq;omega
  .exact h7
 refine⟨k,l-k,⟨h1,λr c hr hc hcn=>?_⟩,?_,λi h7 h8=>?_,λi hi he=>⟨?_,?_⟩⟩;.have:=h2 r hr;have:=h3 c hc hcn;omega
 .rw[show k+(l-k)=l by omega];exact⟨h4,λr c hr hc hcn=>by have:=h5 r hr;have:=h6 c hc hcn;omega⟩
 .have:=h3 i h7 Wq;have:=h5 i Wq;omega
 .rcases ab i k with h7|h7;.have:=h2 i h7;omega
  .exact h7
 .rcases ab i l with h7|h7;.omega
  .have:=h6 i h7 hi;omega
theorem Aio:∀{L:List Xe},AE0 L->(∀b∈L,b.2.1=1/\b.2.2.1%2=1∨b.2.1=2/\b.2.2.1%2=0/\b.2.2.2.2%2=0)->∀x:Nat,(∀i,i<AAa L->eL L i=x->(2:Int)∣bmp 2 (L.map z0) i i)↔¬∃b∈L,b.1.toNat=x/\b.2.1=1
 |[],_,_,x=>⟨λ_⟨b,hb,_⟩=>(nomatch hb),λ_ i hi=>absurd hi<|aG i⟩|c::L,hs,hb,x=>by
   have ih:=Aio (L:=L) λb h=>hs b<|by simp[h] λb h=>hb b<|by simp[h] x;have split:(∀i,i<AAa (c::L)->eL (c::L) i=x->(2:Int)∣bmp 2 ((c::L).map z0) i i)↔(∀i,i<c.2.1.toNat->c.1.toNat=x->(2:Int)∣bmp 2 ((c::L).map z0) i i)/\∀i,i<AAa L->eL L i=x->(2:Int)∣bmp 2 (L.map z0) i i:=by
    have tl:∀i,bmp 2 ((c::L).map z0) (c.2.1.toNat+i) (c.2.1.toNat+i)=bmp 2 (L.map z0) i i:=λi=>by
     rw[aV];rcases hs c W4 with h|h;.rw[show c.2.1.toNat=1 by omega];exact(Aei (p:=2) (c:=z0 c) (L:=L.map z0)<|show¬c.2.1=2 by omega).tl i i
     .rw[show c.2.1.toNat=2 by omega];exact(Age (p:=2) (c:=z0 c) (L:=L.map z0) h).tl i i
    constructor;.intro h;refine⟨λi hi he=>h i (by rw[AAb];omega) (by unfold eL;rw[AIx hi];exact he),λi hi he=>?_⟩;rw[<-tl];exact h _ (by rw[AAb];omega) (by unfold eL;rw[AH5 rfl];exact he)
    .rintro⟨h1,h2⟩i hi he;rw[AAb]at hi;rcases AIf hi with h3|⟨j,rfl,h3⟩;.exact h1 i h3 (by unfold eL at he;rwa[AIx h3]at he)
     .rw[tl];exact h2 j h3 (by unfold eL at he;rwa[AH5 rfl]at he)
   rw[split,ih];have hd:(∀i,i<c.2.1.toNat->c.1.toNat=x->(2:Int)∣bmp 2 ((c::L).map z0) i i)↔¬(c.1.toNat=x/\c.2.1=1):=by
    rw[aV];rcases hb c W4 with⟨h1,h2⟩|⟨h1,h2,h3⟩
    .have f:=(Aei (p:=2) (c:=z0 c) (L:=L.map z0)<|show¬c.2.1=2 by omega).hd 0 0 Wq Wq;constructor
     .rintro h⟨h4,_⟩;have h5:=h 0 Wq h4;rw[f]at h5;have h6:(2:Int)∣c.2.2.1:=by simpa[z0]using h5
      omega
     .intro h i _ h4;exact absurd ⟨h4,h1⟩ h
    .have f:=Age (p:=2) (c:=z0 c) (L:=L.map z0) h1;refine⟨λ_⟨_,h4⟩=>by omega,λ_ i hi _=>?_⟩;rw[f.hd i i Wq Wq,AAe];rcases show i=0∨i=1 by omega with rfl|rfl;.simp[z0];omega
     .simp[z0];omega
   rw[hd];simp only[bP];grind
def rB(M:Nat)(b:Xe):Nat:=b.2.1.toNat*if b.1.toNat<M then M+1+b.1.toNat else 2*M
def tBM(M:Nat)(b:Xe):Nat:=if b.1.toNat<M then(if b.2.1=1 then(b.2.2.1%8).toNat else 0)+if(M+1+b.1.toNat)%2=1/\sg8 (dB b)=-1 then 4 else 0 else 0
def rM(M:Nat):List Xe->Nat|[]=>0|b::l=>rB M b+rM M l
def tM(M:Nat):List Xe->Nat|[]=>0|b::l=>tBM M b+tM M l
theorem Are{M e:Nat}(h:M<=e)(hM:M<=16)(w:Int):chE (2^(16-M)*(2^e*w))=1:=by
 rw[AS6 (t:=0)<|ACw ⟨2^(e-M)*w,?_⟩,Aed];have h1:(2:Int)^(16-M)*2^M=65536:=by rw[<-aj,show 16-M+M=16 by omega];rfl
 have h2:(2:Int)^e=2^M*2^(e-M):=ACm Wq;grind
theorem ADy(n:Nat):psum (λ_=>1) n=n:=by induction n with|zero=>rfl|succ n ih=>simp only[psum];omega
theorem Arf{R T t:Nat}{B G X:Int}(hX:Xp gq X (B*G))(hB:Xp gq B (gr^R*gz^T))(ih:Xp gq G (gr^r*gz^t)):Xp gq X (gr^(R+r)*gz^(T+t)):=by refine(hX.trans<|hB.mul ih).trans (Xp.of_eq ?_);grind
def BQ(b:Xe):Prop:=0<=b.1/\(b.2.1=1/\b.2.2.1%2=1∨b.2.1=2/\b.2.2.1%2=0/\b.2.2.2.1%2=1/\b.2.2.2.2%2=0)
theorem Ay2{M:Nat}(hM:M<=16):∀{L:List Xe},(∀b∈L,BQ b)->(∀b∈L,¬(b.2.1=1/\b.1.toNat+1=M))->Xp gq (GSv M (AAa L)<|bm L) (gr^rM M L*gz^tM M L)
 |[],_,_=>by show Xp gq (chE<|2^(16-M)*0) 1;rw[ba,Aed];exact Xp.refl _ _|b::L,h,hn=>by
   have hb:=h b W4;have hnb:=hn b W4;have ih:=Ay2 hM (L:=L) λx hx=>h x<|by grind λx hx=>hn x (by grind);obtain⟨h0,hc⟩:=hb;obtain⟨e,s,a,y,c⟩:=b;obtain⟨e,rfl⟩:∃k:Nat,e=k:=⟨e.toNat,Wq⟩;dsimp only at h0 hc hnb;show Xp gq _ (gr^(rB M _+rM M L)*gz^(tBM M _+tM M L));rcases hc with⟨rfl,h2⟩|⟨rfl,h2,h4,h5⟩
   .refine Arf (gs1<|A87 (c:=((e:Int),1,a,y,c)) rfl) ?_ ih;unfold rB tBM;dsimp only;rw[am,show aU 1=1 from rfl,de];rcases ab e M with hlt|hge
    .have hlt2:e+2<=M:=by omega
     rw[if_pos hlt,if_pos hlt,if_pos rfl];refine(BF4 (a:=a) h2 hlt2 hM).trans ?_;have hsg:=Ayu (Aoj a)<|M+1+e;refine Xp.trans (Xp.of_eq ?_)<|(Xp.refl _<|gr^(M+1+e)).mul ((Xp.refl _<|gz^(a%8).toNat).mul hsg)|>.trans (Xp.of_eq ?_);.grind
     .rw[aj gz];rfl
    .rw[if_neg Wq,if_neg Wq];rw[Wy (g:=λ_=>1) λx _=>by rw[show 2^e*a*(x:Int)*x=2^e*(a*x*x)by grind];exact Are hge hM _,ADy];exact(Xp.of_eq<|by grind).trans ((Ail M).symm.mul (Xp.refl _<|gz^0))
   .obtain⟨x,rfl⟩:∃x,a=2*x:=⟨a/2,Wq⟩;obtain⟨z,rfl⟩:∃z,c=2*z:=⟨c/2,Wq⟩;have hd:sg8 (dB ((e:Int),2,2*x,y,2*z))=tS x z:=A3v h4;refine Arf (gs2<|A88 (c:=((e:Int),2,2*x,y,2*z)) rfl) ?_ ih;unfold rB tBM;rw[hd];dsimp only;rw[am,show aU 2=2 from rfl];rcases ab e M with hlt|hge
    .rw[if_pos hlt,if_pos hlt,if_neg Wq,ct];have hsg:=Ayu (Ayt x z)<|M+1+e;refine Xp.trans (Xp.of_eq ?_)<|(BF5 (a:=x) (c:=z) h4 (e:=e) Wq hM).trans ?_;.simp[AAe]
     .refine Xp.trans (Xp.of_eq ?_)<|(Xp.refl _<|gr^(2*(M+1+e))).mul hsg;grind
    .rw[if_neg Wq,if_neg Wq];rw[Wy (g:=λ_=>((2^M:Nat):Int)) λu _=>by rw[Wy (g:=λ_=>1) λv _=>?_,ADy];rw[show∀p q r:Int,AVv (λ_ _=>0) 0 p q r 0 0*(u:Int)*u+(AVv (λ_ _=>0) 0 p q r 0 1+AVv (λ_ _=>0) 0 p q r 1 0)*u*v+AVv (λ_ _=>0) 0 p q r 1 1*(v:Int)*v=p*u*u+(q+q)*u*v+r*v*v fromλp q r=>by simp[AAe]];rw[show 2^e*(2*x)*(u:Int)*u+(2^e*y+2^e*y)*u*v+2^e*(2*z)*v*v=2^e*(2*x*u*u+(y+y)*u*v+2*z*v*v)by grind];exact Are hge hM _];have hp:psum (λ_=>((2^M:Nat):Int)) (2^M)=2^M*2^M:=by rw[Wy (g:=λ_=>((2^M:Nat):Int)*1) λ_ _=>(cg _).symm,Yx,ADy];grind
     rw[hp];exact(Xp.of_eq (by rw[<-aj];grind)).trans ((Ail<|M+M).symm.mul (Xp.refl _<|gz^0)|>.trans (Xp.of_eq<|by grind))
abbrev sD(b:Xe):Int:=s8<|dB b
abbrev oD(b:Xe):Prop:=b.2.1=1
def tc(c:Xm):Int:=c.2.2.2.2+if c.1%2=1/\c.2.2.1=-1 then 4 else 0
def tC:List Xm->Int|[]=>0|c::l=>tc c+tC l
theorem Aip(c:Xm):∀l:List Xm,tC (l++[c])=tC l+tc c|[]=>by show _+0=0+_;omega|d::l=>by show _+tC (l++[c])=_+tC l+_;rw[Aip c l];omega
theorem Ay3(b:Xe):∀L:List Xe,tL (L++[b])=tL L+tB b|[]=>by show _+0=0+_;omega|c::L=>by show _+tL (L++[b])=_+tL L+_;rw[Ay3 b L];omega
theorem CSp.le{sg:Xe->Int}{od:Xe->Prop}{L:List Xe}{l:List Xm}{c:Xm}(H:CSp sg od L (l++[c])):∀b∈L,b.1<=c.1:=λb hb=>by
 obtain⟨d,hd,he⟩:=(H.mem b.1).2 ⟨b,hb,rfl⟩;rcases ar.1 hd with h|h;.have:=(bE.1 H.asc).2.2 d h c W4;omega
 .rw[ak.1 h]at he;omega
def oE:List Xe->Int->Int|[],_=>0|b::L,e=>(if b.1=e/\b.2.1=1 then b.2.2.1%8 else 0)+oE L e
theorem Ay4(b:Xe)(e:Int):∀L:List Xe,oE (L++[b]) e=oE L e+if b.1=e/\b.2.1=1 then b.2.2.1%8 else 0|[]=>by simp[oE]|c::L=>by show _+oE (L++[b]) e=_+oE L e+_;rw[Ay4 b e L];omega
theorem Arh{e:Int}:∀{L:List Xe},(∀b∈L,b.1≠e)->oE L e=0|[],_=>rfl|c::L,h=>by show _+oE L e=0;rw[Arh λb hb=>h b (by simp[hb]),if_neg λh2=>h c W4 h2.1];rfl
def tcM(M:Nat)(c:Xm):Int:=if c.1<M then c.2.2.2.2+if((M:Int)+1+c.1)%2=1/\c.2.2.1=-1 then 4 else 0 else 0
def tCM(M:Nat):List Xm->Int|[]=>0|c::l=>tcM M c+tCM M l
theorem Ab4(M:Nat)(c:Xm):∀l:List Xm,tCM M (l++[c])=tCM M l+tcM M c|[]=>by show _+0=0+_;omega|d::l=>by show _+tCM M (l++[c])=_+tCM M l+_;rw[Ab4 M c l];omega
theorem Ay5(M:Nat)(b:Xe):∀L:List Xe,tM M (L++[b])=tM M L+tBM M b|[]=>by show _+0=0+_;omega|d::l=>by show _+tM M (l++[b])=_+tM M l+_;rw[Ay5 M b l];omega
theorem A3z{M:Nat}{c c':Xm}{b:Xe}(h0:0<=b.1)(hs:c.2.2.1=1∨c.2.2.1=-1)(he:c.1=b.1)(h1:c'.1=c.1)(h3:c'.2.2.1=c.2.2.1*sD b)(h4:c'.2.2.2.2%8=(c.2.2.2.2+if b.2.1=1 then b.2.2.1%8 else 0)%8):tcM M c'%8=(tcM M c+(tBM M b:Int))%8:=by
 have e:((tBM M b:Nat):Int)=if b.1<M then(if b.2.1=1 then b.2.2.1%8 else 0)+if((M:Int)+1+b.1)%2=1/\sD b=-1 then 4 else 0 else 0:=by
  unfold tBM;by_cases hM:b.1<M
  .rw[if_pos hM,if_pos Wq,b9];congr 1
   .split;.omega
    .rfl
   .have h2:(M+1+b.1.toNat)%2=1↔((M:Int)+1+b.1)%2=1:=by omega
    show((if(M+1+b.1.toNat)%2=1/\sD b=-1 then 4 else 0:Nat):Int)=_;simp only[h2];split<;>rfl
  .rw[if_neg hM,if_neg Wq];rfl
 rw[e];unfold tcM;rw[h1,he,h3];generalize(if b.2.1=1 then b.2.2.1%8 else 0)=w at h4;by_cases hM:b.1<M
 .rw[if_pos hM,if_pos hM,if_pos hM];by_cases ho:((M:Int)+1+b.1)%2=1;.rcases hs with h|h<;>rcases Aq8 (dB b)with h5|h5<;>(have h5:sD b=_:=h5)<;>rw[h,h5]<;>simp[ho]<;>omega
  .simp[ho];omega
 .rw[if_neg hM,if_neg hM,if_neg hM];omega
structure CRk(L:List Xe)(i:Nat)(e:Int)(D:List Xm):Prop where
 last:∃l c,D=l++[c]/\CRp sD oD (L.take i) e l c
 len:D.length<=i+1
 ok:∀c∈D,(0<=c.2.1/\c.2.1<=2*(i:Int))/\(0<=c.1/\c.1<=60)/\(c.2.2.1=1∨c.2.2.1=-1)/\0<=c.2.2.2.2/\c.2.2.2.2<8
 s:cS D=s2L (L.take i)t:tC D%8=(tL (L.take i):Int)%8
 o8:∀c∈D,c.2.2.2.2=oE (L.take i) c.1%8
 lv:∀M:Nat,tCM M D%8=(tM M (L.take i):Int)%8
 nx:cN D=AAa (L.take i)/\cV D=vL (L.take i)
structure A30(L:List Xe)(i:Nat)(C:List Xm):Prop where
 last:i=0/\C=[]∨∃l c b,C=l++[c]/\0<i/\L[i-1]?=some b/\c.1=b.1
 len:C.length<=i
 ok:∀c∈C,(0<=c.2.1/\c.2.1<=2*(i:Int))/\(0<=c.1/\c.1<=60)/\(c.2.2.1=1∨c.2.2.1=-1)/\0<=c.2.2.2.2/\c.2.2.2.2<8
 sp:CSp sD oD (L.take i) C
 s:cS C=s2L (L.take i)t:tC C%8=(tL (L.take i):Int)%8
 o8:∀c∈C,c.2.2.2.2=oE (L.take i) c.1%8
 lv:∀M:Nat,tCM M C%8=(tM M (L.take i):Int)%8
 nx:cN C=AAa (L.take i)/\cV C=vL (L.take i)
theorem A89{c c':Xm}{b:Xe}(hs:c.2.2.1=1∨c.2.2.1=-1)(he:c.1=b.1)(h1:c'.1=c.1)(h3:c'.2.2.1=c.2.2.1*sD b)(h4:c'.2.2.2.2%8=(c.2.2.2.2+if b.2.1=1 then b.2.2.1%8 else 0)%8):tc c'%8=(tc c+(tB b:Int))%8:=by
 have e:((tB b:Nat):Int)=(if b.2.1=1 then b.2.2.1%8 else 0)+if b.1%2=1/\sD b=-1 then 4 else 0:=by
  unfold tB;rw[b9];congr 1
  .split;.omega
   .rfl
  .show((if b.1%2=1/\sD b=-1 then 4 else 0:Nat):Int)=_;split<;>rfl
 rw[e];unfold tc;rw[h1,he,h3];generalize(if b.2.1=1 then b.2.2.1%8 else 0)=w at h4;by_cases ho:b.1%2=1;.rcases hs with h|h<;>rcases Aq8 (dB b)with h5|h5<;>(have h5:sD b=_:=h5)<;>rw[h,h5]<;>simp[ho]<;>omega
 .simp[ho];omega
theorem A9a{n:Nat}{T:List (List Int)}{L:List Xe}(B:DL K L n E)(hK:K<=30)(A9:1<=n)(hn:n<=8)(hf:100<fuel):Ok (ABu fuel 2 T L) λr=>r.2=true/\A30 L L.length r.1:=by
 have hl:=Aif B.sz;have hsum:=B.sum;have Ba:1<=L.length:=by
  rcases ab 0 L.length with h|h;.exact h
  .have:L=[]:=cL.1 Wq;rw[this]at hsum;have:AAa []=0:=rfl;omega
 unfold ABu;rw[if_neg Wr,if_neg Wq];simp only[aa];refine Wv (Q:=λex=>∃C,ex=.inr C/\A30 L L.length C) (Xv (λi s=>∃C,s=(C,(AAa (L.take i):Int),(i:Int))/\i<=L.length/\A30 L i C) L.length ⟨[],rfl,ax _,⟨.inl ⟨rfl,rfl⟩,ae _,λc hc=>(nomatch hc),CSp.nil,rfl,rfl,λc hc=>(nomatch hc),λ_=>rfl,rfl,rfl⟩⟩ Wq λi s hi hI=>?_) λex hex=>?_
 .obtain⟨C,rfl,hin,H⟩:=hI;unfold AKm;dsimp only;refine Xa (λh=>?_) λh=>Wt ⟨C,rfl,by rwa[show L.length=i by omega]⟩;have hi:i<L.length:=by omega
  obtain⟨b,hbi⟩:∃b,L[i]?=some b:=⟨L[i],aH hi⟩;have htk:L.take (i+1)=L.take i++[b]:=by rw[cr,hbi];rfl
  have hbm:b∈L:=bG hbi;have hsz:=B.sz b hbm;obtain⟨⟨Ax,Au⟩,hpw⟩:=(B.rg i hi).1 b hbi;have hasc:=(B.rg i hi).2;rw[if_pos rfl]at Au;have hbs:AAa (L.take i)+b.2.1.toNat<=8:=by
   have:=Agb L<|i+1;rw[htk,AUy]at this;omega
  have Bb:i<=8:=by omega
  rw[Z4 hbi];obtain⟨e,s,x,y,z⟩:=b;dsimp only at hsz Ax Au hpw hbs⊢;obtain⟨e,rfl⟩:∃e':Nat,e=e':=⟨e.toNat,Wq⟩;have hprev:∀c,0<i->L[i-1]?=some c->c.1<=(e:Int):=λc h0 hc=>hasc h0 _ _ hbi hc;have Ap:∀w:Int,Xp 8 (W3 w) w:=λw=>AQc (K:=3) Wr w;have chk:Ok (if(e:Int)<0 then some<|aJ<|([],false)else if 60<(e:Int)then some<|aJ<|([],false)else(AC9 fuel e s x y z).bind λw=>if(!w)=true then some<|aJ<|([],false)else if(0:Int)<(i:Int)then(gI L<|W3<|(i:Int)-1).bind λc=>if(e:Int)<c.1 then some<|aJ<|([],false)else some<|bO<|()else some<|bO<|():Option (List Xm×Bool⊕Unit)) λr=>r=.inr ():=by
   rw[if_neg Wq,if_neg Wq];refine Wv BCv λw hw=>?_;have hwt:w=true:=hw.2 (by
    by_cases h1:s=1
    .rw[if_pos h1]at hpw⊢;exact⟨AW2.1 hpw.2.1,hpw.2.2⟩
    .rw[if_neg h1]at hpw⊢;exact⟨hsz.resolve_left h1,hpw.2⟩);rw[hwt];refine Xa (λh=>absurd h Wr) λ_=>Xa (λh0=>?_) λ_=>Wt rfl;obtain⟨c,hc⟩:∃c,L[i-1]?=some c:=⟨L[i-1],aH _⟩;have:=hprev c Wq hc;rw[show W3 ((i:Int)-1)=((i-1:Nat):Int)by rw[wk Wq];omega,Z4 hc,if_neg Wq];exact Wt rfl
  rw[ok_eq chk];simp only[aa];rw[Zh (x:=(AAa (L.take i):Int)+s) Wq Wq,if_neg Wq];have hnew(hlt:∀b∈L.take i,b.1<(e:Int)):CRk L i e (C++[((e:Int),0,1,false,0)]):=by
   refine⟨⟨C,_,rfl,CSp.new H.sp hlt⟩,by simp;exact H.len,λc hc=>?_,by rw[Aoh,H.s];simp,by rw[Aip,cv,H.t];simp[tc],λc hc=>(ar.1 hc).elim (H.o8 c) λh=>by rw[ak.1 h];dsimp only;rw[Arh λb hb h2=>by have:=hlt b hb;omega];rfl,λM=>by rw[Ab4,cv,H.lv];simp[tcM],by rw[Aof,H.nx.1];simp,by rw[Aog,H.nx.2];simp⟩;rcases ar.1 hc with h|h;.exact H.ok c h
   .rw[ak.1 h];dsimp only;exact⟨Wq,Wq,.inl rfl,Wq,Wq⟩
  have hCl:=H.len;have key:Ok (if(i:Int)=0 then if C.length<=100000000 then some<|C++[((e:Int),0,1,false,0)]else none else(gI L<|W3<|(i:Int)-1).bind λc=>if c.1<(e:Int)then if C.length<=100000000 then some<|C++[((e:Int),0,1,false,0)]else none else some<|C:Option (List Xm)) (CRk L i e):=by
   refine Xa (λh0=>Yi Wq<|Wt<|hnew λb hb=>?_) λh0=>?_;.rw[show i=0 by omega]at hb;exact nomatch hb
   obtain⟨c,hc⟩:∃c,L[i-1]?=some c:=⟨L[i-1],aH _⟩;have h2:=hprev c Wq hc;rw[show W3 ((i:Int)-1)=((i-1:Nat):Int)by rw[wk Wq];omega,Z4 hc];obtain⟨l,d,b',h3,_,h4,h5⟩:=H.last.resolve_left λh=>by omega
   rw[hc]at h4;cases h4;have hsp:=H.sp;rw[h3]at hsp;refine Xa (λh1=>Yi Wq<|Wt<|hnew λb hb=>?_) λh1=>Wt ⟨⟨l,d,h3,?_⟩,Wq,H.ok,H.s,H.t,H.o8,H.lv,H.nx⟩;.have:=hsp.le b hb;omega
   .rw[show(e:Int)=d.1 by omega];exact hsp.old
  refine Wv key λD hD=>?_;obtain⟨⟨l,c,rfl,hcp⟩,h2,h3,h6,h7,h8,h9,A4,Aw⟩:=hD;have Ag:=hcp.exp;have hc:=h3 c W4;have hll:l.length<=i:=by simp at h2;omega
  have ew:W3 (((l++[c]).length:Int)-1)=(l.length:Int):=by rw[di,cT,wk Wq];omega
  rw[ew];have g1:∀c:Xm,(l++[c])[l.length]?=some c:=λc=>by simp
  have g2:∀c d:Xm,sI (l++[c]) (l.length:Int) d=l++[d]:=λc d=>by rw[Yl];simp
  rw[Z4<|g1 c];let O:Xm->Prop:=λc'=>c'.2.2.2.2=(c.2.2.2.2+if s=1 then x%8 else 0)%8;refine Wv (Q:=λr=>∃c':Xm,r=l++[c']/\c'.1=c.1/\c'.2.1=c.2.1+s/\c'.2.2.1=c.2.2.1*s8 (dB ((e:Int),s,x,y,z))/\(c'.2.2.2.1=true↔c.2.2.2.1=true∨s=1)/\O c') ?_ λr hr=>?_
  .refine Wv (Q:=λr:Int×List Xm=>∃c':Xm,r.2=l++[c']/\r.1%8=dB ((e:Int),s,x,y,z)%8/\c'.1=c.1/\c'.2.1=c.2.1/\c'.2.2.1=c.2.2.1/\(c'.2.2.2.1=true↔c.2.2.2.1=true∨s=1)/\O c') (Xa (λh1=>?_) λh1=>Wt ⟨c,rfl,?_,rfl,rfl,rfl,?_,?_⟩) λr hr=>?_;.rw[Z4<|g1 c,g2,Z4<|g1 _,g2,A80,A80];exact Wt ⟨_,rfl,by unfold dB;rw[if_neg<|show¬s=2 by omega],rfl,rfl,rfl,by dsimp only;simp[h1],by show _%8=(_+if s=1 then _ else _)%8;rw[if_pos h1];exact Ap _⟩
   .dsimp only;unfold dB;rw[if_pos<|show s=2 by omega];exact(Ap _).trans ((Ap _).sub (Ap _))
   .simp[h1]
   .show _=(_+if s=1 then _ else _)%8;rw[if_neg h1];omega
   .obtain⟨d,e'⟩:=r;obtain⟨c',q1,q2,q3,q4,q5,q6⟩:=hr;dsimp only at q1 q2⊢;subst q1;rw[A80,q2];refine Wv (Q:=λr=>∃c'':Xm,r=l++[c'']/\c''.1=c.1/\c''.2.1=c.2.1/\c''.2.2.1=c.2.2.1*s8 (dB ((e:Int),s,x,y,z))/\(c''.2.2.2.1=true↔c.2.2.2.1=true∨s=1)/\O c'') ?_ λr hr=>?_
    .have hneg:W3 (0-c'.2.2.1)=c'.2.2.1*-1:=by rw[q5];rcases hc.2.2.1 with h|h<;>rw[h]<;>decide
     refine Xa (λh8=>?_) λh8=>Xa (λh9=>?_) λh9=>?_;.rw[Z4<|g1 c',g2,hneg];exact Wt ⟨_,rfl,q3,q4,by dsimp only;unfold s8;rw[if_pos<|.inl h8,q5],q6⟩
     .rw[Z4<|g1 c',g2,hneg];exact Wt ⟨_,rfl,q3,q4,by dsimp only;unfold s8;rw[if_pos<|.inr h9,q5],q6⟩
     .exact Wt ⟨c',rfl,q3,q4,by unfold s8;rw[if_neg Wq,q5,cg],q6⟩
    .obtain⟨c'',rfl,r1,r2,r3,r4⟩:=hr;rw[Z4<|g1 c'',g2,r2,Zh (x:=c.2.1+s) Wq Wq];exact Wt ⟨_,rfl,r1,rfl,r3,r4⟩
  .obtain⟨c',rfl,q1,q2,q3,q4,q5⟩:=hr;refine Wt ⟨hi,_,?_,hi,⟨.inr ⟨l,c',_,rfl,Nat.succ_pos i,by rw[Nat.add_sub_cancel];exact hbi,by rw[q1,Ag]⟩,by simp;omega,λd hd=>?_,?_,?_,?_,λd hd=>?_,λM=>?_,?_,?_⟩⟩;.rw[htk,AUy,Yr Wq];dsimp only;congr 2;omega
   .rcases ar.1 hd with h|h;.have:=h3 d (by simp[h]);exact⟨Wq,this.2⟩
    .rw[ak.1 h,q1,q2,q3];have q5:c'.2.2.2.2=_%8:=q5;exact⟨Wq,hc.2.1,(Aoi hc.2.2.1<|Aq8 _).1,Wq,Wq⟩
   .rw[htk];exact hcp.put (b:=((e:Int),s,x,y,z)) q1 q2 q3 q4
   .rw[htk,A3k,Aoh,q3,<-h6,Aoh];grind
   .rw[htk,Ay3,Aip,b9];rw[Aip]at h7;have q5:c'.2.2.2.2=_%8:=q5;have:=A89 (b:=((e:Int),s,x,y,z)) hc.2.2.1 Ag q1 q3 (by rw[q5,bR _<|bw 8]);omega
   .rw[htk,Ay4];rcases ar.1 hd with h|h;.have:=(bE.1 hcp.asc).2.2 d h c W4;rw[if_neg λh9=>by have:=h9.1;dsimp only at this;omega,h8 d (by simp[h]),aP]
    .have q5:c'.2.2.2.2=_%8:=q5;rw[ak.1 h,q5,q1,h8 c W4,Ag];dsimp only;simp only[true_and];omega
   .have h9:=h9 M;rw[htk,Ay5,Ab4,b9];rw[Ab4]at h9;have q5:c'.2.2.2.2=_%8:=q5;have:=A3z (M:=M) (b:=((e:Int),s,x,y,z)) (Int.natCast_nonneg e) hc.2.2.1 Ag q1 q3 (by rw[q5,bR _<|bw 8]);omega
   .rw[htk,AUy,Aof,q2];rw[Aof]at A4;dsimp only;omega
   .rw[htk,Ayj,Aog,q1,q2,Ag];rw[Aog,Ag]at Aw;push_cast;rw[<-Aw,show((s.toNat:Nat):Int)=s by omega];simp only[am];grind
 .obtain⟨C,rfl,hC⟩:=hex;exact Wt ⟨rfl,hC⟩
def qF(n:Nat)(A:Wz)(x:Nat->Int):Int:=psum (λi=>x i*psum (λj=>A i j*x j) n) n
def PdF(n:Nat)(A:Wz):Prop:=∀x:Nat->Int,(∃k,k<n/\x k≠0)->0<qF n A x
theorem Ay6{b c:Int}(h:a<b)(e:b=c):a<c:=e▸h
theorem sq_pos(h:x≠0):0<x*x:=by
 rcases Int.lt_or_gt_of_ne h with h|h;.have:=dM (show 0< -x by omega) (show 0< -x by omega);grind
 .exact dM h h
theorem A5h{n:Nat}(hs:AFv n A)(hp:AIn n A):PdF n A:=λx⟨k,hk,hx⟩=>by
 have h1:=Aqk hs hp x hk;have h2:bil n 0 A x x=qF n A x:=by unfold bil qF;refine Wy λi _=>?_;rw[<-Yx];exact Wy λj _=>by rw[AFr];grind
 have h3:=AMv hs hp x n 0 Wq;have h4:=sq_pos hx;rw[h2]at h1 h3;rcases Int.lt_or_eq_of_le h3 with h|h;.exact h
 .rw[<-h,ba]at h1;omega
theorem Ay7(k:Nat)(B:Wz):AD4 (k+1) B k k=det k B:=by
 show det (k+1) (Ym B k<|dl k)=_;rw[AOn (k:=k) (m:=1) λi j h1 h2 h3=>by rw[show i=k by omega,Xk,if_pos rfl];unfold dl;rw[if_neg Wq],Xo (G:=B) λi j hi hj=>by rw[Xk,if_neg Wq]];have:det 1 (shF k<|Ym B k<|dl k)=1:=by
  rw[show(1:Nat)=0+1 from rfl,<-AFa,AFr];show Ym B k (dl k) k k=1;rw[Xk,if_pos rfl];exact if_pos rfl
 rw[this,cg]
theorem Aek{f:Nat->Int}{n m:Nat}(h:m<=n)(hz:∀i,m<=i->i<n->f i=0):psum f n=psum f m:=Akf h hz
theorem Aou{m:Nat}(h:PdF m B):AIn m B:=λk=>by induction k with
 |zero=>intro _;simp[det]|succ k ih=>
   intro hk;have h1:=ih Wq;let y:Nat->Int:=λi=>if i<k+1 then AD4 (k+1) B i k else 0;have hy:y k=det k B:=by show(if k<k+1 then _ else _)=_;rw[if_pos Wq,Ay7]
   have h2:=h y ⟨k,Wq,by rw[hy];omega⟩;have h3:∀i,i<k+1->psum (λj=>B i j*y j) m=det (k+1) B*dl i k:=λi hi=>by rw[Aek hk λj h4 _=>by show _*(if j<k+1 then _ else _)=0;rw[if_neg Wq,ba],<-AOp hi Wq];exact Wy λj hj=>by show _*(if j<k+1 then _ else _)=_;rw[if_pos hj]
   have h4:qF m B y=det k B*det (k+1) B:=by unfold qF;rw[Aek hk λj h4 _=>by show(if j<k+1 then _ else _)*_=0;rw[if_neg Wq,aY]];rw[Wy (g:=λi=>det (k+1) B*y i*dl i k) λi hi=>by rw[h3 i hi];grind,AKq (λi=>det (k+1) B*y i) Wq,hy];grind
   rw[h4]at h2;exact bx (a:=det k B) h2 h1
theorem Aov{n:Nat}(h:PdF n A){s:Nat->Nat}(hs:∀a,a<k->s a<n)(hi:∀a b,a<k->b<k->s a=s b->a=b):PdF k λa b=>A (s a) (s b):=λy⟨a0,ha0,hy⟩=>by
 let x:Nat->Int:=λi=>psum (λa=>y a*dl i (s a)) k;have sel:∀g:Nat->Int,psum (λi=>x i*g i) n=psum (λa=>y a*g (s a)) k:=λg=>by show psum (λi=>psum (λa=>y a*dl i (s a)) k*g i) n=_;rw[Wy (g:=λi=>psum (λa=>y a*g i*dl i (s a)) k) λi _=>by rw[AJn];exact Wy λa _=>by grind,AIh];exact Wy λa ha=>AKq (λi=>y a*g i)<|hs a ha
 have hx:x (s a0)=y a0:=by show psum (λa=>y a*dl (s a0) (s a)) k=_;rw[AD6 ha0 λa ha hne=>by unfold dl;rw[if_neg λe=>hne<|hi a a0 ha ha0 e.symm];exact ba _];unfold dl;rw[if_pos rfl,cg]
 have h1:=h x ⟨s a0,hs a0 ha0,by rw[hx];exact hy⟩;unfold qF at h1⊢;rw[sel]at h1;refine Ay6 h1<|Wy λa ha=>?_;congr 1;rw[Wy (g:=λj=>x j*A (s a) j) λj _=>aw _ _,sel];exact Wy λb _=>aw _ _
theorem Ay8{n:Nat}(H:ALm n A T B)(hT:∀x:Nat->Int,(∃k,k<n/\x k≠0)->∃k,k<n/\psum (λl=>T k l*x l) n≠0)(hA:PdF n A):PdF n B:=λx hx=>by
 have h0:0<n:=by obtain⟨k,hk,_⟩:=hx;omega
 have h1:ALm n A (Xz n T λi _=>x i) λ_ _=>qF n B x:=AOq H λi j hi hj=>by rw[AAy];rfl
 exact Ay6 (hA _<|hT x hx) (h1 0 0 h0 h0).symm
def aE(i j:Nat)(c:Int):Wz:=λk s=>dl k s+if s=i then c*dl k j else 0
def cgA(i j:Nat)(c:Int)(B:Wz):Wz:=λr s=>B r s+(if r=i then c*B j s else 0)+if s=i then c*(B r j+if r=i then c*B j j else 0)else 0
theorem Aae{n s:Nat}{c:Int}(hj:j<n)(hs:s<n)(X:Nat->Int):psum (λk=>X k*aE i j c k s) n=X s+if s=i then c*X j else 0:=by unfold aE;rw[Wy (g:=λk=>X k*dl k s+(if s=i then c else 0)*(X k*dl k j)) λk _=>by grind,AEm,AKq X hs,Yx,AKq X hj];grind
theorem Ay9{n s:Nat}{c:Int}(hj:j<n)(hr:r<n)(hs:s<n):Xz n (Xz n (trF<|aE i j c) B) (aE i j c) r s=cgA i j c B r s:=by
 have h2:∀k,Xz n (trF<|aE i j c) B r k=B r k+if r=i then c*B j k else 0:=λk=>by
  show psum (λl=>aE i j c l r*B l k) n=_;rw[Wy (g:=λl=>B l k*aE i j c l r) λl _=>aw _ _];exact Aae hj hr λl=>B l k
 show psum (λk=>Xz n (trF<|aE i j c) B r k*aE i j c k s) n=_;rw[Aae hj hs λk=>Xz n (trF<|aE i j c) B r k,h2,h2];rfl
theorem Aza{n:Nat}{c:Int}(hi:i<n)(hj:j<n)(hc:i=j->1+c≠0)(x:Nat->Int):(∃k,k<n/\x k≠0)->∃k,k<n/\psum (λl=>aE i j c k l*x l) n≠0:=λ⟨k,hk,hx⟩=>by
 have h1:∀k,k<n->psum (λl=>aE i j c k l*x l) n=x k+if k=j then c*x i else 0:=λk hk=>by
  unfold aE;rw[Wy (g:=λl=>x l*dl l k+c*dl k j*(x l*dl l i)) λl _=>by unfold dl;grind,AEm,AKq x hk,Yx,AKq x hi];unfold dl;grind
 by_cases h0:x i=0;.exact⟨k,hk,by rw[h1 k hk,h0];simpa using hx⟩
 .refine⟨i,hi,?_⟩;rw[h1 i hi];by_cases e:i=j
  .rw[if_pos e];have:=Int.mul_ne_zero (hc e) h0;intro h;apply this;grind
  .rw[if_neg e];simpa using h0
theorem A9b{n s:Nat}{c:Int}(hj:j<n)(hs:s<n)(h:c+d+(if i=j then c*d else 0)=0):Xz n (aE i j c) (aE i j d) r s=dl r s:=by
 show psum (λk=>aE i j c r k*aE i j d k s) n=_;rw[Aae hj hs λk=>aE i j c r k];unfold aE;by_cases e:i=j;.subst e;rw[if_pos rfl]at h;unfold dl;grind
 .rw[if_neg e]at h;unfold dl;grind
def sx(i j s:Nat):Nat:=if s=i then j else if s=j then i else s
def sxE(i j:Nat):Wz:=λk s=>dl k<|sx i j s
theorem Ari{s n:Nat}(hi:i<n)(hj:j<n)(hs:s<n):sx i j s<n:=by unfold sx;grind
theorem Azb(i j s:Nat):sx i j (sx i j s)=s:=by unfold sx;grind
theorem AYz{n s:Nat}(hi:i<n)(hj:j<n)(hs:s<n)(X:Nat->Int):psum (λk=>X k*sxE i j k s) n=X (sx i j s):=AKq X<|Ari hi hj hs
theorem A31{n s:Nat}(hi:i<n)(hj:j<n)(hr:r<n)(hs:s<n):Xz n (Xz n (trF<|sxE i j) B) (sxE i j) r s=B (sx i j r) (sx i j s):=by show psum (λk=>Xz n (trF<|sxE i j) B r k*sxE i j k s) n=_;rw[AYz hi hj hs λk=>Xz n (trF<|sxE i j) B r k];show psum (λl=>sxE i j l r*B l (sx i j s)) n=_;rw[Wy (g:=λl=>B l (sx i j s)*sxE i j l r) λl _=>aw _ _];exact AYz hi hj hr λl=>B l<|sx i j s
theorem A32{n s:Nat}(hi:i<n)(hj:j<n)(hs:s<n):Xz n (sxE i j) (sxE i j) r s=dl r s:=by show psum (λk=>sxE i j r k*sxE i j k s) n=_;rw[AYz hi hj hs λk=>sxE i j r k];unfold sxE;rw[Azb]
theorem AU1{n:Nat}{E:Wz}(h:∀r s,r<n->s<n->Xz n E F r s=dl r s):det n E*det n E=1:=by
 have h1:det n E*det n F=1:=by rw[<-ADf,Xo h,ASr]
 have h2:=bM Wr (⟨_,h1.symm⟩:det n E∣1);have h3:=bM Wr (⟨-det n F,by rw[Int.neg_mul_neg,h1]⟩:-det n E∣1);rcases show det n E=1∨det n E=-1∨det n E=0 by omega with h|h|h;.rw[h];rfl
 .rw[h];rfl
 .rw[h,aY]at h1;exact absurd h1 Wr
def PmB(n:Nat)(D:Int)(A:Wz):Prop:=∀(k:Nat)(s:Nat->Nat),k<=n->(∀a,a<k->s a<n)->det k (λa b=>A (s a)<|s b)<=D
theorem Al0{a:Nat}{c:Int}(p q:Nat->Int)(r:Wz)(ha:a<k):det k (λx y=>if x=a then p y+c*q y else r x y)=det k (λx y=>if x=a then p y else r x y)+c*det k λx y=>if x=a then q y else r x y:=by
 have e:∀g:Nat->Int,det k (λx y=>if x=a then g y else r x y)=det k (Ym r a g):=λg=>Xo λx y _ _=>by rw[Xk]
 rw[e p,e q,e λy=>p y+c*q y,show(λy=>p y+c*q y)=λy=>1*p y+c*q y by funext y;omega,APu p q 1 c ha,aA]
theorem Azc{a:Nat}{c:Int}(p q:Nat->Int)(r:Wz)(ha:a<k):det k (λx y=>if y=a then p x+c*q x else r x y)=det k (λx y=>if y=a then p x else r x y)+c*det k λx y=>if y=a then q x else r x y:=by rw[<-AEb,<-AEb λx y=>if y=a then p x else r x y,<-AEb λx y=>if y=a then q x else r x y];exact Al0 p q (trF r) ha
def upS(s:Nat->Nat)(a u:Nat):Nat->Nat:=λx=>if x=a then u else s x
theorem Agg{a:Nat}{c:Int}{s:Nat->Nat}(ha:a<k)(hsa:s a=i)(hi:∀x,x<k->x≠a->s x≠i):det k (λx y=>cgA i j c B (s x)<|s y)=det k (λx y=>B (s x)<|s y)+c*det k (λx y=>B (s x)<|upS s a j y)+c*(det k (λx y=>B (upS s a j x)<|s y)+c*det k λx y=>B (upS s a j x)<|upS s a j y):=by
 have h1:∀t:Nat->Nat,det k (λx y=>B (t x) (s y)+if y=a then c*B (t x) j else 0)=det k (λx y=>B (t x)<|s y)+c*det k λx y=>B (t x) (upS s a j y):=λt=>by
  have:=Azc (c:=c) (λx=>B (t x) i) (λx=>B (t x) j) (λx y=>B (t x)<|s y) ha;rw[Xo (G:=λx y=>if y=a then B (t x) i+c*B (t x) j else B (t x)<|s y) λx y _ _=>by split<;>grind,this];congr 1;.exact Xo λx y _ _=>by split<;>grind
  .congr 1;exact Xo λx y _ _=>by unfold upS;grind
 have h2:=Al0 (c:=c) (λy=>B i (s y)+if y=a then c*B i j else 0) (λy=>B j (s y)+if y=a then c*B j j else 0) (λx y=>B (s x) (s y)+if y=a then c*B (s x) j else 0) ha;rw[Xo (G:=λx y=>if x=a then(B i (s y)+if y=a then c*B i j else 0)+c*(B j (s y)+if y=a then c*B j j else 0)else B (s x) (s y)+if y=a then c*B (s x) j else 0) λx y hx hy=>?_,h2,<-h1 s,<-h1 (upS s a j)]
 .congr 1;.exact Xo λx y _ _=>by grind
  .congr 1;exact Xo λx y _ _=>by unfold upS;grind
 .have e1:=hi x hx;have e2:=hi y hy;unfold cgA;grind
theorem Atj{n:Nat}(h:PdF n A){s:Nat->Nat}(hs:∀a,a<k->s a<n):0<=det k λa b=>A (s a) (s b):=by
 by_cases hi:∀a b,a<k->b<k->s a=s b->a=b;.exact bc<|Aou (Aov h hs hi) k<|ae k
 .have:∃a b,a<k/\b<k/\s a=s b/\a≠b:=by false_or_by_contra;rename_i hc;exact hi λa b h1 h2 h3=>by false_or_by_contra;rename_i h4;exact hc ⟨a,b,h1,h2,h3,h4⟩
  obtain⟨a,b,h1,h2,h3,h4⟩:=this;rw[APv h1 h2 h4 λi=>by rw[h3]];exact dh 0
theorem A9c{n:Nat}{c:Int}(hi:i<n)(hj:j<n)(hD:0<=D)(hc:-2<=c/\c<=2)(hp:PdF n (cgA i j (-c) B))(H:PmB n D B):PmB n (10*D) (cgA i j c B):=λk s hk hs=>by
 by_cases hin:∀a b,a<k->b<k->s a=s b->a=b
 .by_cases hx:∃a,a<k/\s a=i
  .obtain⟨a,ha,hsa⟩:=hx;have h0:∀x,x<k->x≠a->s x≠i:=λx hx hne e=>hne<|hin x a hx ha (by rw[e,hsa]);have h1:=Agg (j:=j) (c:=c) (B:=B) ha hsa h0;have h2:=Agg (j:=j) (c:=-c) (B:=B) ha hsa h0;have h3:=Atj hp hs;have h4:=H k s hk hs;have h5:=H k (upS s a j) hk λx hx=>by unfold upS;split<;>first|exact hj|exact hs x hx
   have h6:c*c<=4:=by have:0<=(2-c)*(2+c):=ci Wq Wq;grind
   have h7:=ah h5<|sq_nonneg c;have h8:=au h6 hD;rw[h2]at h3;rw[h1];grind
  .rw[Xo (G:=λa b=>B (s a)<|s b) λa b ha hb=>by have e1:s a≠i:=λe=>hx ⟨a,ha,e⟩;have e2:s b≠i:=λe=>hx ⟨b,hb,e⟩;unfold cgA;rw[if_neg e1,if_neg e2];omega];have:=H k s hk hs;omega
 .have:∃a b,a<k/\b<k/\s a=s b/\a≠b:=by false_or_by_contra;rename_i hc;exact hin λa b h1 h2 h3=>by false_or_by_contra;rename_i h4;exact hc ⟨a,b,h1,h2,h3,h4⟩
  obtain⟨a,b,h1,h2,h3,h4⟩:=this;rw[APv h1 h2 h4 λi=>by rw[h3]];omega
theorem BCy{n:Nat}(hi:i<n)(hj:j<n)(H:PmB n D B):PmB n D λr s=>B (sx i j r) (sx i j s):=λk s hk hs=>H k (λa=>sx i j<|s a) hk λa ha=>Ari hi hj<|hs a ha
theorem Azd{n:Nat}(hs:AFv n A)(hp:AIn n A)(hn:n<=6)(hb:∀i,i<n->A i i<=9):PmB n 531441 A:=λk s hk hk2=>by
 by_cases hin:∀a b,a<k->b<k->s a=s b->a=b
 .have h1:=Akx (n:=k) (A:=λa b=>A (s a)<|s b) (λa b ha hb=>hs _ _ (hk2 a ha)<|hk2 b hb) (Aou<|Aov (A5h hs hp) hk2 hin) (B:=9) Wr (λa ha=>hb _<|hk2 a ha) k<|ae k;have h3:(9:Int)^k<=9^6:=by have:=bh (show 0<9 by omega) (show k<=6 by omega);grind
  exact bJ h1 h3
 .have:∃a b,a<k/\b<k/\s a=s b/\a≠b:=by false_or_by_contra;rename_i hc;exact hin λa b h1 h2 h3=>by false_or_by_contra;rename_i h4;exact hc ⟨a,b,h1,h2,h3,h4⟩
  obtain⟨a,b,h1,h2,h3,h4⟩:=this;rw[APv h1 h2 h4 λi=>by rw[h3]];decide
theorem A9d{n:Nat}(hn:n<=8)(hf:100<fuel):Ok (iter (λs=>AEd fuel (n:Int) s.1 s.2) fuel (0,ap (aU (n:Int)) ([]:List Int))) (·=Xw n n dl):=by
 refine Xv (λi s=>s=(((i:Nat):Int),part n i dl)/\i<=n) n ⟨by rw[am,AJ1 n dl];rfl,ax _⟩ Wq λi s hi hI=>?_;obtain⟨rfl,hin⟩:=hI;unfold AEd;dsimp only;rw[cW,am];refine Xa (λh=>Yi Wq ?_) λh=>Wt (by rw[show i=n by omega,AJ0]);have hi':i<n:=by omega
 refine Xc (AOl hi') rfl ?_;rw[Yl,ACb n (0:Int),AL7];refine Xc (AGw Wq hi') rfl ?_;rw[Yu];refine Xc (Xb hi') rfl (Wt ⟨Wq,?_,Wq⟩);rw[Yr Wq,Yl,Yl,AAd,AJo Wq];refine congrArg (λz=>(((i+1:Nat):Int),z))<|Yd λr hr=>?_;split;.refine Yd λc hc=>?_;rw[Xk,Xk];unfold dl;grind
 .rfl
def nr(i j:Nat)(c:Int)(f:Nat->Int):Nat->Int:=λs=>if i=j then if c<0 then if s=i then-f i else f s else f s else if c=0 then f (sx i j s)else if s=i then f i+c*f j else f s
theorem A9e{n:Nat}{U:Wz}{e:Int}(hn:n<=8)(hi:i<n)(hj:j<n)(hU:∀r s,r<n->s<n->(U r s).natAbs<=1000000)(hf:100<fuel):iter (λs=>AEc fuel (Xw n n U) (i:Int) (j:Int) e s.1 s.2) fuel (0,Xw n n U)=some (Xw n n λr=>nr i j (an e 3)<|U r):=by
 apply ok_eq;let V:Nat->Wz:=λr x=>if x<r then nr i j (an e 3) (U x)else U x;refine Xv (λr s=>s=(((r:Nat):Int),Xw n n<|V r)/\r<=n) n ⟨rfl,ax _⟩ Wq λr s hr hI=>?_;obtain⟨rfl,hrn⟩:=hI;unfold AEc;dsimp only;rw[Xh];refine Xa (λh=>?_) λh=>Wt (AGe λx y hx hy=>by show(if x<r then _ else _:Nat->Int) y=_;rw[if_pos Wq]);have hr':r<n:=by omega
 have hVr:V r r=U r:=if_neg<|Nat.lt_irrefl r;have row:(Xw n n<|V r)[r]?=some (Yy n<|U r):=by rw[<-hVr];exact Xx hr'
 have nx:W3 ((r:Int)+1)=((r+1:Nat):Int):=Yr Wq;have put:∀g:Nat->Int,(∀s,s<n->g s=nr i j (an e 3) (U r) s)->(Xw n n<|V r).set r (Yy n g)=Xw n n (V<|r+1):=λg hg=>by
  rw[show Yy n g=(dK n).map g from rfl,AGl];refine AGe λx y hx hy=>?_;rw[Xk];show _=(if x<r+1 then _ else _:Nat->Int) y;split;.next h=>subst h;rw[if_pos Wq];exact hg y hy
  .show(if x<r then _ else _:Nat->Int) y=_;grind
 have bi:=hU r i hr' hi;have bj:=hU r j hr' hj;by_cases hij:i=j
 .subst hij;rw[if_pos rfl,if_neg<|not_not_intro rfl,if_neg<|not_not_intro rfl];refine Xa (λhc=>Xc row rfl (Xc (Xb hi) rfl (Wt ⟨Wq,?_,Wq⟩))) λhc=>Wt ⟨Wq,?_,Wq⟩;.rw[nx,Yl,Yl,AAd,put _ λs hs=>?_];unfold nr;rw[if_pos rfl,if_pos hc,wk Wq];split<;>omega
  .rw[nx,<-put (U r) λs hs=>by unfold nr;rw[if_pos rfl,if_neg hc],show Yy n (U r)=(dK n).map (U r)from rfl,AGl];refine congrArg (λz=>(((r+1:Nat):Int),z))<|AGe λx y hx hy=>?_;rw[Xk];split;.next h=>subst h;rw[hVr]
   .rfl
 .rw[if_neg (show¬(i:Int)=j by omega),if_pos (show¬(i:Int)=j by omega),if_pos<|show¬(i:Int)=j by omega];refine Xa (λhc=>?_) λhc=>?_;.refine Xc row rfl (Xc (Xb hj) rfl (Xc (Xb hi) rfl ?_));rw[Yl,Yl,AAd];refine Xc (x:=Yy n λc=>if c=i then U r j else U r c) (by rw[List.getElem?_set,if_pos rfl,Xh,if_pos hr']) rfl (Xc (Xb hj) rfl (Wt ⟨Wq,?_,Wq⟩));rw[nx,Yl,Yl,AAd,List.set_set,put _ λs hs=>?_];unfold nr sx;rw[if_neg hij,if_pos hc];grind
  .refine Xc row rfl (Xc (Xb hi) rfl (Xc (Xb hj) rfl (Wt ⟨Wq,?_,Wq⟩)));have Aa:=bV e (show(0:Int)<3 by decide);have Ab:=dq e (show(0:Int)<3 by decide);have hm:(an e 3*U r j).natAbs<=2000000:=by
    rw[bt];exact bz (show(an e 3).natAbs<=2 by omega) bj
   rw[nx,Yl,Yl,AAd,put _ λs hs=>?_];unfold nr;rw[if_neg hij,if_neg hc,Zh (x:=an e 3*U r j) Wq Wq,wk Wq]
theorem Aze{n:Nat}(H:ALm n A T B)(hs:AFv n A):AFv n B:=λi j hi hj=>by
 rw[H i j hi hj,H j i hj hi];show _=trF (Xz n (trF T)<|Xz n A T) i j;rw[ASx,<-AAy];show _=Xz n (trF<|Xz n A T) T i j;refine ACx (λk hk=>?_) λ_ _=>rfl;rw[ASx];exact ACx (λ_ _=>rfl) λl hl=>hs l k hl hk
structure UIn(n:Nat)(A U B:Wz)(t:Nat):Prop where
 c:ALm n A U B
 d:det n U*det n U=1
 pd:PdF n B
 pm:PmB n (10^t*531441) B
 bd:∀r s,r<n->s<n->(U r s).natAbs<=3^t
theorem UIn.grow{n:Nat}{U:Wz}{t:Nat}(H:UIn n A U B t):UIn n A U B (t+1):=⟨H.c,H.d,H.pd,λk s h1 h2=>by have:=H.pm k s h1 h2;have h3:(0:Int)<10^t:=ay Wr;rw[ao];omega,λr s hr hs=>by have:=H.bd r s hr hs;rw[aK];omega⟩
theorem UIn.next{n:Nat}{U E B':Wz}{t:Nat}(H:UIn n A U B t)(hE:∀r s,r<n->s<n->Xz n (Xz n (trF E) B) E r s=B' r s)(hd:det n E*det n E=1)(hp:PdF n B')(hm:PmB n (10^(t+1)*531441) B')(hb:∀r s,r<n->s<n->(Xz n U E r s).natAbs<=3^(t+1)):UIn n A (Xz n U E) B' (t+1):=⟨AOq H.c hE,by rw[ADf];have:=H.d;grind,hp,hm,hb⟩
theorem UIn.step{n t:Nat}{U:Wz}{c:Int}(H:UIn n A U B t)(hi:i<n)(hj:j<n)(hc:-2<=c/\c<=2):∃U' B',UIn n A U' B' (t+1)/\∀r s,r<n->s<n->nr i j c (U r) s=U' r s:=by
 have Ae:(0:Int)<=10^t*531441:=ci (bc<|ay Wr) Wr;have add:∀c' d:Int,-2<=c'/\c'<=2->c'+d+(if i=j then c'*d else 0)=0->(i=j->1+c'≠0)->(i=j->1+-c'≠0)->(∀r,r<n->(U r i+c'*U r j).natAbs<=3^(t+1))->UIn n A (Xz n U<|aE i j c') (cgA i j c' B) (t+1):=λc' d h1 h2 h3 h4 h5=>by
  have hcar:∀c,ALm n B (aE i j c) (cgA i j c B):=λc r s hr hs=>by rw[<-Ay9 hj hr hs,AAy]
  refine H.next (λr s hr hs=>Ay9 hj hr hs) (AU1 λr s hr hs=>A9b hj hs h2) (Ay8 (hcar c') (Aza hi hj h3) H.pd) (λk s hk hs=>?_) λr s hr hs=>?_
  .have:=A9c hi hj Ae h1 (Ay8 (hcar<|-c') (Aza hi hj h4) H.pd) H.pm k s hk hs;rw[ao];omega
  .show(psum (λk=>U r k*aE i j c' k s) n).natAbs<=_;rw[Aae hj hs λk=>U r k];have hb:=H.bd r s hr hs;by_cases e:s=i;.rw[if_pos e,e];exact h5 r hr
   .rw[if_neg e,aK];omega
 by_cases hij:i=j
 .subst hij;by_cases h0:c<0
  .refine⟨_,_,add (-2) (-2) Wr (by rw[if_pos rfl];decide) λ_=>by decide λ_=>by decide λr hr=>?_,λr s hr hs=>?_⟩;.have:=H.bd r i hr hi;rw[aK];omega
   .show _=psum (λk=>U r k*aE i i (-2) k s) n;rw[Aae hj hs λk=>U r k];unfold nr;rw[if_pos rfl,if_pos h0];grind
  .exact⟨U,B,H.grow,λr s hr hs=>by unfold nr;rw[if_pos rfl,if_neg h0]⟩
 .by_cases h0:c=0
  .refine⟨Xz n U<|sxE i j,λr s=>B (sx i j r)<|sx i j s,H.next (λr s hr hs=>A31 hi hj hr hs) (AU1 λr s hr hs=>A32 hi hj hs) (Aov H.pd (λa ha=>Ari hi hj ha) λa b _ _ e=>by rw[<-Azb i j a,e,Azb]) (λk s hk hs=>?_) λr s hr hs=>?_,λr s hr hs=>?_⟩;.have:det k (λa b=>B (sx i j<|s a)<|sx i j<|s b)<=10^t*531441:=BCy hi hj H.pm k s hk hs;rw[ao];omega
   .show(psum (λk=>U r k*sxE i j k s) n).natAbs<=_;rw[AYz hi hj hs λk=>U r k];have:=H.bd r _ hr<|Ari hi hj hs;rw[aK];omega
   .show _=psum (λk=>U r k*sxE i j k s) n;rw[AYz hi hj hs λk=>U r k];unfold nr;rw[if_neg hij,if_pos h0]
  .refine⟨_,_,add c (-c) hc (by rw[if_neg hij];omega) (λe=>absurd e hij) (λe=>absurd e hij) λr hr=>?_,λr s hr hs=>?_⟩
   .have h1:=H.bd r i hr hi;have h2:=H.bd r j hr hj;have h3:(c*U r j).natAbs<=2*3^t:=by
     rw[bt];exact bz (show c.natAbs<=2 by omega) h2
    rw[aK];omega
   .show _=psum (λk=>U r k*aE i j c k s) n;rw[Aae hj hs λk=>U r k];unfold nr;rw[if_neg hij,if_neg h0];grind
theorem Arj{n:Nat}{L:List Int}{q:Nat}(hn:0<n)(hq:q<4611686018427387904):Ok ((if(L.length:Int)<=((q:Nat):Int)then some ((0:Int),((q:Nat):Int))else(gI L<|W3<|(W3<|((q:Nat):Int)+1)-1).bind λx=>some (W3 x,W3<|((q:Nat):Int)+1):Option (Int×Int)).bind λ(x,y)=>if(n:Int)≠0 then some (an (W3<|IntKind.wrap .u8 x) (n:Int),y)else none:Option (Int×Int)) λe=>∃i p:Nat,e=((i:Int),(p:Int))/\i<n/\p<=q+1:=by refine Wv (ASz hq) λe he=>?_;obtain⟨x,y⟩:=e;obtain⟨p,rfl,hp⟩:=he;have h:=ARs x n hn;refine Yi Wq<|Wt ⟨(an (W3<|IntKind.wrap .u8 x) (n:Int)).toNat,p,?_,Wq,hp⟩;rw[cj h.1]
theorem BCz{n:Nat}{L:List Int}(Ac:1<=n)(hn:n<=6)(hs:AFv n A)(hp:AIn n A)(hb:∀i,i<n->A i i<=9)(hf:100<fuel):Ok (ABp fuel L (n:Int)) λr=>∃U B,r=Xw n n U/\UIn n A U B 12:=by
 unfold ABp;refine Yi Wq<|Wv (A9d Wq hf) λe he=>Wv (Q:=λr=>∃U B,r=Xw n n U/\UIn n A U B 12) (Xv (λt s=>∃(U B:Wz)(q:Nat),s=(((t:Nat):Int),Xw n n U,(q:Int))/\t<=12/\q<=3*t/\UIn n A U B t) 12 ⟨dl,A,0,by rw[he];rfl,Wq,Wq,⟨ASy,by rw[ASr];rfl,A5h hs hp,λk s hk Aa=>by have:=Azd hs hp hn hb k s hk Aa;simpa using this,λr s _ _=>by unfold dl;split<;>decide⟩⟩ Wq λt s ht hI=>?_) λr hr=>Wt hr;obtain⟨U,B,q,rfl,Ad,hq,H⟩:=hI;have fin:UIn n A U B 12:=by
  have:∀d t,t+d=12->UIn n A U B t->UIn n A U B 12:=λd=>by induction d with
   |zero=>intro t h H;rw[<-h];exact H|succ d ih=>intro t h H;exact ih (t+1) Wq H.grow
  exact this (12-t) t Wq H
 unfold AIa;dsimp only;refine Wv (Q:=λex=>ex=.inl ()->t<12) (Xa (λh=>Xa (λ_=>Wt λ_=>by omega) λ_=>Wt λh=>nomatch h) λ_=>Wt λh=>nomatch h) λex hex=>?_;cases ex with
 |inr u=>exact Wt ⟨U,B,rfl,fin⟩|inl u=>
   have ht:=hex rfl;dsimp only;refine Wv (Arj Wq Wq) λe he=>?_;obtain⟨i,p,rfl,hi,Ae⟩:=he;refine Wv (Arj Wq Wq) λe he=>?_;obtain⟨j,p2,rfl,hj,Af⟩:=he;refine Wv (ASz Wq) λe he=>?_;obtain⟨x,y⟩:=e;obtain⟨p3,rfl,Ag⟩:=he;have h3:3^t<=3^12:=bh Wr Wq;dsimp only;refine Wv (Yc<|A9e Wq hi hj (λr s hr Aa=>aM (H.bd r s hr Aa)<|aM h3 Wr) hf) λe he=>?_;subst he;have Ah:=bV x (show(0:Int)<3 by decide);have Ai:=dq x (show(0:Int)<3 by decide);obtain⟨U',B',H',hU'⟩:=H.step (c:=an x 3) hi hj Wq;refine Wt ⟨Wq,U',B',p3,?_,Wq,Wq,H'⟩;rw[Yr Wq,AGe hU']
theorem A33{a1 a2:Int}{L L2:List Int}(h1:0<=a1/\a1<256)(hm:1<=most/\most<=8)(hf:100<fuel):∃n A,Zd fuel a1 a2 L L2 most=some (Xw n n A)/\A5b n A/\(n:Int)<=most/\∀i j,(A i j).natAbs<=9:=by
 obtain⟨r,e,n,A,rfl,G,hn⟩:=A8f (L:=L) (L2:=L2) (a2:=a2) h1 hm hf;have t2:=av a1 (show 0<most by omega);have t3:an a1 most=a1%most:=ai h1.1;let A0:Wz:=λi j=>if i<n/\j<n then A i j else 0;have Ab:∀i j,i<n->j<n->A i j=A0 i j:=λi j hi hj=>(if_pos ⟨hi,hj⟩).symm;refine⟨n,A0,by rw[e,AGe Ab],⟨G.n1,G.n8,λi j hi hj=>by rw[<-Ab i j hi hj,<-Ab j i hj hi];exact G.sym i j hi hj,λk hk=>by rw[<-Xo λi j hi hj=>Ab i j Wq Wq];exact G.pos k hk,λi j hi hj=>by rw[<-Ab i j hi hj];exact G.bd i j hi hj,by rw[<-Xo Ab];exact G.dt⟩,Wq,λi j=>?_⟩;show(if i<n/\j<n then A i j else 0).natAbs<=9;split;.next h=>exact G.bd i j h.1 h.2
 .decide
theorem A34{n:Nat}(H:PmB n D B)(hi:i<n):B i i<=D:=by have:=H 1 (λ_=>i) Wq λ_ _=>hi;rwa[show(1:Nat)=0+1 from rfl,<-AFa,AFr]at this
structure BC0(n:Nat)(A B T:Wz):Prop where
 a:AYa n A
 b:AYa n B
 c:ALm n A T B
 d:det n T*det n T=1
 dt:det n A<=9^n
theorem Al1{n:Nat}(H:ALm n A T B)(hd:det n T*det n T=1):∃R,ALm n B R A/\det n R*det n R=1:=by
 have h1:∀i j,i<n->j<n->Xz n T (λr c=>det n T*AD4 n T r c) i j=dl i j:=λi j hi hj=>by
  show psum (λk=>T i k*(det n T*AD4 n T k j)) n=_;rw[Wy (g:=λk=>det n T*(T i k*AD4 n T k j)) λk _=>by grind,Yx,AOp hi hj,<-bn,hd,aA]
 have h2:∀i j,i<n->j<n->Xz n (λr c=>det n T*AD4 n T r c) T i j=dl i j:=λi j hi hj=>by
  show psum (λk=>det n T*AD4 n T i k*T k j) n=_;rw[Wy (g:=λk=>det n T*(AD4 n T i k*T k j)) λk _=>by grind,Yx,Adv hi hj,<-bn,hd,aA]
 refine⟨λr c=>det n T*AD4 n T r c,λi j hi hj=>?_,AU1 h2⟩;have h3:=AOq H (U:=λr c=>det n T*AD4 n T r c) (B:=λi j=>Xz n (trF λr c=>det n T*AD4 n T r c) (Xz n B λr c=>det n T*AD4 n T r c) i j) λi j hi hj=>AAy i j;refine Eq.trans ?_ (h3 i j hi hj).symm;show _=psum (λk=>Xz n T (λr c=>det n T*AD4 n T r c) k i*psum (λl=>A k l*Xz n T (λr c=>det n T*AD4 n T r c) l j) n) n;rw[Wy (g:=λk=>A k j*dl k i) λk hk=>by rw[h1 k i hk hi,Wy (g:=λl=>A k l*dl l j) λl hl=>by rw[h1 l j hl hj],AKq (A k) hj];exact aw _ _];exact(AKq (λk=>A k j) hi).symm
theorem Azf{a1 a2:Int}{L L2:List Int}(h1:0<=a1/\a1<256)(hm:1<=most/\most<=6)(hf:Zm<fuel):∃n A B T,Zs fuel a1 a2 L L2 most=some (Xw n n A)/\AAp fuel a1 a2 L L2 most=some (Xw n n B)/\1<=n/\(n:Int)<=most/\BC0 n A B T:=by
 have Ag:100<fuel:=co Wr hf;obtain⟨n,G,e,R,hn,hb⟩:=A33 (L:=L) (L2:=L2) (a2:=a2) h1 (show 1<=most/\most<=8 by omega) Ag;have n1:=R.n1;have n6:n<=6:=by omega
 have hdm:dmN n=2^59:=if_pos n6;have hof:=Ad2 (F:=G) n1 Wq (λi j hi hj=>aM (R.bd i j hi hj) Wr) (show 17<fuel by omega);have hh:=Akx R.sym R.pos (B:=9) Wr λi hi=>by have:=R.bd i i hi hi;omega
 obtain⟨r,er,A,T1,rfl,RA,cA,dA,-⟩:=Af6 n1 R.n8 R.sym R.pos (λi j=>aM (hb i j) Wr) (λk hk=>bJ (hh k hk) (by
  have h3:(9:Int)^k<=9^8:=by
   have:=bh (show 0<9 by omega) (show k<=8 by omega);grind
  exact bJ h3 (AZ6 n).1)) λk hk=>by have:=hb k k;have:=AZ6 n;omega R.dt hf;obtain⟨u,eu,U,B0,rfl,HU⟩:=BCz (L:=L2) n1 n6 R.sym R.pos λi hi=>by have:=R.bd i i hi hi;omega Ag;have sB:=Aze HU.c R.sym;have pB:=Aou HU.pd;have hpm:(10:Int)^12*531441<=2^59:=by decide
 have bB:∀i,i<n->B0 i i<=2^59:=λi hi=>bJ (A34 HU.pm hi) hpm;have aB:∀i j,i<n->j<n->(B0 i j).natAbs<=2^59:=λi j hi hj=>aM (Ah2 sB pB bB hi hj) Wr;let B1:Wz:=λi j=>if i<n/\j<n then B0 i j else 0;have Aa:∀i j,i<n->j<n->B1 i j=B0 i j:=λi j hi hj=>if_pos ⟨hi,hj⟩;have raw:ABb fuel a1 a2 L L2 most=some (Xw n n B1):=by
  apply ok_eq;unfold ABb;rw[e];simp only[aa];rw[hof,Xh];simp only[aa];rw[eu];simp only[aa];have h3:(3:Nat)^12<=2^100:=by decide
  rw[Ad2 n1 Wq (λi j hi hj=>aM (HU.bd i j hi hj) Wr) Wq];simp only[aa];rw[Aqr (D:=2^100) n1 Wq Wr (λi j hi hj=>aM (hb i j) Wr) (λi j hi hj=>aM (HU.bd i j hi hj) h3) (λi j hi hj=>?_) Ag];.refine Wt<|AGe λi j hi hj=>?_;rw[Aa i j hi hj,HU.c i j hi hj,AAy]
  .have h5:(psum (λl=>U l i*G l j) n).natAbs<=n*(3^12*9):=by
    refine QF.psum_abs λl hl=>?_;rw[bt];exact bz (HU.bd l i hl hi)<|hb l j
   have h6:(Xz n (trF U) G i j).natAbs<=n*(3^12*9):=h5;have h7:n*(3^12*9)<=6*(3^12*9):=Nat.mul_le_mul_right _ n6;have h8:6*(3^12*9)<=2^100:=by decide
   omega
 have dB:det n B1=det n G:=by rw[Xo Aa,AX9 HU.c,HU.d,aA]
 obtain⟨r,eo,B,T2,rfl,RB,cB,Am,-⟩:=Af6 (A0:=B1) n1 R.n8 (λi j hi hj=>by rw[Aa i j hi hj,Aa j i hj hi];exact sB i j hi hj) (λk hk=>by rw[Xo λi j hi hj=>Aa i j Wq Wq];exact pB k hk) (λi j=>by
  show(if i<n/\j<n then B0 i j else 0).natAbs<=2^60;split;.next h=>exact aM (aB i j h.1 h.2) Wr
  .exact ax _) (λk hk=>by rw[hdm,Xo λi j hi hj=>Aa i j Wq Wq];exact bJ (HU.pm k id hk λa ha=>by show a<n;omega) hpm) λk hk=>by rw[hdm,Aa k k hk hk];have:=bB k hk;omega (by rw[dB];exact R.dt) hf;have posd:∀{C T:Wz}{X:Wz},ALm n X T C->det n C=det n X->0<det n X->det n T*det n T=1:=λ{C T X}h e0 hx=>by
  have h3:=AX9 h;rw[e0]at h3;have h4:(det n T*det n T-1)*det n X=0:=by rw[Int.sub_mul,<-h3];omega
  rcases ca.1 h4 with h5|h5<;>omega
 have d1:=posd cA dA<|R.pos n<|ae n;have d2:=posd cB Am (by rw[dB];exact R.pos n<|ae n);obtain⟨S,cS,dS⟩:=Al1 cA d1;have comp:∀{X T C V D:Wz},ALm n X T C->ALm n C V D->ALm n X (Xz n T V) D:=λh h'=>AOq h λi j hi hj=>by rw[AAy];exact(h' i j hi hj).symm
 have cU:ALm n G U B1:=λi j hi hj=>by rw[Aa i j hi hj];exact HU.c i j hi hj
 refine⟨n,A,B,Xz n (Xz n S U) T2,?_,?_,n1,hn,⟨RA,RB,comp (comp cS cU) cB,?_,by rw[dA];exact hh n<|ae n⟩⟩;.unfold Zs;rw[e];simp only[aa];rw[hof];simp only[aa];rw[er];rfl
 .unfold AAp;rw[raw];simp only[aa];rw[eo];rfl
 .rw[ADf,ADf];have:=HU.d;grind
end Go.Proofs.YtgmdhndbcohgiaaGreatDoor
