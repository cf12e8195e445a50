/-
  Texts of a proof, joined. Conditions stand in each statement.
-/
import Derived.Test.YtkakafabeobahaaGreatDoorMDyadicVerifies2
set_option linter.unusedVariables false
set_option linter.unusedSimpArgs false
open Go
variable {neg:Bool} {a3:Go.Proofs.YtkakafabeobahaaGreatDoor.LiI} {h:Go.QF.AO2} {F A A0:Go.QF.Ahe} {a1 a2 a5 a9 x d q last:Int} {B LA LB:List Nat} {fuel r j i a k p D y la lb:Nat} {f g:Nat->Int} {α:Type} {Ai Ac Ae Ah Ad Af v va vb:Value}
namespace Go.Proofs.YtkakafabeobahaaGreatDoor
open Go Go.QF
set_option maxRecDepth 100000
set_option maxHeartbeats 40000000
def Aq0 (fuel:Nat) (a3:LiI) (Ab:Int) (Af:LiA) (Aa:Int) (Ac:LiI):Option ((Int × LiI) ⊕ ((LiI × Bool) ⊕ LiI)):=
 if Aa < (Af.length:Int) then (gI a3 Ab).bind λAg=>(gI Ag Aa).bind λAh=>(A2u fuel Ah).bind λ(Ai,Aj)=>if (!Aj)=true then some (.inr<|.inl ([],false)) else (gI Ac Ab).bind λAd=>(gI Ad Aa).bind λAk=>some (.inl (w64<|Aa + 1,sI Ac Ab<|sI Ad Aa Ai)) else some<|.inr<|.inr Ac
def Aq1 (fuel:Nat) (a3:LiI) (x5 x6 Aa:Int) (Ac:LiI):Option ((Int × LiI) ⊕ ((LiI × Bool) ⊕ LiI)):=
 if Aa < ((List.replicate (Int.toNat x5) ([]:List Int)).length:Int) then if 0<=x6/\x6<=100000000 then (gI Ac Aa).bind λAi=>(gI (sI Ac Aa<|List.replicate (Int.toNat x6) (0:Int)) Aa).bind λAf=>(iter (λs=>Aq0 fuel a3 Aa Af s.1 s.2) fuel (0,sI Ac Aa<|List.replicate (Int.toNat x6) (0:Int))).bind (λex=>match ex with | .inl Ag=>(some<|.inr<|.inl Ag) | .inr Ah=>some<|.inl (w64<|Aa + 1,Ah)) else none else some<|.inr<|.inr Ac
def An4 (fuel:Nat) (a3:LiI):Option (LiI × Bool):=
 (Aje fuel a3).bind λ(x5,x6,x7)=>if (!x7)=true then some ([],false) else if 0<=x5/\x5<=100000000 then (iter (λs=>Aq1 fuel a3 x5 x6 s.1 s.2) fuel (0,List.replicate (Int.toNat x5) ([]:List Int))).bind (λex=>match ex with | .inl Ae=>(some Ae) | .inr Af=>some (Af,true)) else none
theorem Ay1 {Aw:Value} {r:(LiI × Bool)} (H2:Ajw cZ h Aw a3) (hp:An4 fuel a3=some r):Ahs Tryz.prog 69 #[Aw] h (λx h'=>Ext h h'/\ ∃ (x0:Value) (F0:List Nat) (Bg:List LnA) (Bh:List Value),x= .tuple #[x0,.bool r.2]/\Aj1 (cI .i64) 61 2 h' F0 Bg Bh x0 r.1/\Sp h' h.size [F0]):=by
 unfold An4 at hp;refine cwf (l:=[_]) Tryz.func69 rfl rfl (AOv<|Aho<|Ah7<|AOr ?_);have K0:=Kst.k0 h;obtain ⟨⟨x5,x6,x7⟩,Bl,Ae⟩:=AOw hp;dsimp only at Ae;refine Akb K0 (Ao5 (H2.ext K0.x) Bl) λCu Cv A5=>AOr<|Ait rfl rfl (Ait rfl rfl (Ait rfl rfl (Aho<|Aho<|AO1<|AOx<|AOv<|AOr<|Akc rfl (AOz<|⟨_,rfl,λAf=>?_,λAf=>?_⟩))))
 ·refine AOv<|Aho<|AO1<|AO6<|Ag7 ?_;have Ag:=Kst.anil2 (cI .i64) 61 2 A5;obtain rfl:=AOu<|ifT Ae Af;exact ⟨_,Aiz,Ag.x,_,_,_,_,rfl,(Ag.o2 p0),Ag.s.sel [0] AOs⟩
 ·refine AO5<|q_t<|AOv<|AOr ?_;obtain ⟨Bm,Bn⟩:=ifN<|Aok Ae Af;refine Ayj (cI .i64) 2 APa As9 rfl trivial tt2 rfl rfl AOs Bm λBo Bp Bq A6 Cw Br Bt Bu=>AO1<|AOx<|AOv<|AOr ?_;have Ah:=A5.no2 Bt Bu Br;refine Ahx APa rfl (Ah.o2 p0).rd (AOr<|AOz<|AO0<|Amy 4611686018410614540 (λx:(Int) × (LiI) × LnA × LnN × LvA=>(x.1,x.2.1)) ((0,(List.replicate (Int.toNat x5) ([]:List Int)),Bo,Bp,Bq):(Int) × (LiI) × LnA × LnN × LvA) Bn (λx=>[(24,(.int .i64 x.1))]) (λx=>Ah.L.set 0<|aO2 (cI .i64) 61 2 x.2.2.1 x.2.2.2.1 x.2.2.2.2 A6 x.2.1) Ah ⟨rfl,trivial⟩ ?_);rintro ⟨Ab,Bv,Cx,A7,Bw⟩ Cy Cz C0 Ad Ai A8;unfold Aq1 at Ai;refine AOv<|Ahn rfl rfl (AOz<|AOx<|⟨_,rfl,λAj=>?_,λAj=>?_⟩)
  ·refine AO5<|q_t<|AOx<|AO0<|AOv<|AOr<|Ah7<|AOr<|AOr<|AOr ?_;obtain ⟨Bx,By⟩:=ifN<|Ahy Ai Aj;refine Awz (c:=(cI .i64)) (a:=0) APe Ars rfl rfl (λ_=>rfl) rfl trivial tt2 rfl rfl AOs Bx λA9 Bz C1 B1 B3 B4 B5=>?_;have Ac:=Ad.no B3 (Anw B4 B5) B1;obtain ⟨C2,Ba,B6⟩:=AOw By;refine Aij APa rfl (Ac.o2 p1) rfl Ba λB7 C3 B8 C4 C5=>Azf Aha (Ac.o2 p1) Ba B8 rfl rfl (Ac.o p0) (Ac.dj p0 p1 AOs) λC6 B9 Ca Cb=>Apt<|AOr<|AOr ?_;have Ak:=Ac.m2 p0 p1 AOs Ca B9 λz hz=> .inl<|Cb z hz;obtain ⟨C7,Bb,Cd⟩:=AOw B6;refine Aiw APa Aha (Ak.o2 p1) Bb λ_ C8 Ce=>Aim APe rfl ((Ak.o2 p1).rowI Ce Bb) (AOr<|AOz<|AO0 ?_);have Am:=Ak.sel [1] AOs;dsimp only [Aoz,Ar4] at Am;refine Amy 2305842871774744076 (λx:(Int) × (LiI) × LnA × LnN × LvA=>(x.1,x.2.1)) ((0,(sI Bv Ab<|List.replicate (Int.toNat x6) (0:Int)),(B7 :: (A7.set (Int.toNat Ab) [A9]).flatten),(A7.set (Int.toNat Ab) [A9]),(Bw.set (Int.toNat Ab) Bz)):(Int) × (LiI) × LnA × LnN × LvA) Cd (λx=>[(37,(.int .i64 x.1))]) (λx=>Am.L.set 0<|aO2 (cI .i64) 61 2 x.2.2.1 x.2.2.2.1 x.2.2.2.2 A6 x.2.1) Am ⟨rfl,trivial⟩ ?_;rintro ⟨C9,Da,Db,Dc,Dd⟩ De Df Dg Aa Ao Bc;unfold Aq0 at Ao;refine AOv<|Ahn rfl rfl (AOz<|AOx<|⟨_,rfl,λAp=>?_,λAp=>?_⟩)
   ·refine AO5<|q_t<|AOx<|AO0<|AOv<|AOr<|Ah7<|AOr<|AOr ?_;obtain ⟨Dh,Cf,Cg⟩:=AOw<|Ahy Ao Ap;refine An3 Ai9 Alp H2 Aa.x Cf λ_ Di Ch=>AOr ?_;obtain ⟨Dj,Ci,Cj⟩:=AOw Cg;refine Aqu (c:=cZ) Aj8 rfl Ch rfl Ci λDk Dl Do Be Ck=>Aum (c:=cZ) Aip rfl (Aa.zx Be) (λj u hu=>(AO8 (Ck j u hu) Aa.x)) ?_;obtain ⟨⟨Dp,Dq⟩,Cm,Aq⟩:=AOw Cj;dsimp only at Aq;refine Akb Aa (A7e (Aa.zx Be).2 Cm) λDr Ds Ar=>AOr<|Ait rfl rfl (Ait rfl rfl (Aho<|AO1<|AOx<|AOv<|AOr<|Akc rfl (AOz<|⟨_,rfl,λAu=>?_,λAu=>?_⟩)))
    ·refine AOv<|Aho<|AO1<|AO6<|Ag7<|Ail<|Ag7<|Ag7<|Ail<|Ail<|Ag7<|Ag7<|Ail<|Ag7 ?_;have Av:=Kst.anil2 (cI .i64) 61 2 Ar;obtain rfl:=AOu<|A8 _ (AOu<|Bc _ (AOu<|ifT Aq Au).symm).symm;exact ⟨_,Aiz,Av.x,_,_,_,_,rfl,(Av.o2 p0),Av.s.sel [0] AOs⟩
    ·refine AO5<|q_t<|Ag6<|AOr<|AOr ?_;obtain ⟨Dt,Bf,Cn⟩:=AOw<|Aok Aq Au;refine Aiw APa Aha (Ar.o2 p0) Bf λ_ Du Co=>AOr<|AOr ?_;obtain ⟨Dv,Cp,Cq⟩:=AOw Cn;refine Aqv (m:=Ab) Ar p0 APe AO9 Co Bf Cp (λ_=>rfl) λ_ Dw Cr=>Ahh<|q_b<|q_t<|Ag6<|Ahk rfl rfl (AOr<|AOz ?_);exact ⟨(_,_,_,_,_),(AOu Cq).symm,Cr,rfl,trivial⟩
   ·refine Ahf<|Ahg<|Ahg<|Aio<|q_b<|q_t<|Ag6<|Ahk rfl rfl (AOr<|AOz ?_);exact ⟨(_,_,_,_,_),(AOu<|Bc _ (AOu<|Ahz Ao Ap).symm).symm,Aa,rfl,trivial⟩
  ·refine Ahf<|Ahg<|Ahg<|Aio<|q_t<|AOv<|AOr<|Aho<|AO1<|AO6 ?_;obtain rfl:=AOu<|A8 _ (AOu<|Ahz Ai Aj).symm;exact ⟨_,Aiz,Ad.x,_,_,_,_,rfl,(Ad.o2 p0),Ad.s.sel [0] AOs⟩
def Ap5 (fuel:Nat) (Ad:LiI) (Aa:Int) (Ab:LiI):Option ((Int × LiI) ⊕ LiI):=
 if Aa < (Ad.length:Int) then (gI Ab Aa).bind λAc=>(Ar9 fuel 1).bind λAe=>(gI Ac Aa).bind λAf=>some (.inl (w64<|Aa + 1,sI Ab Aa<|sI Ac Aa Ae)) else some<|.inr Ab
def Alk (fuel:Nat) (a1:Int):Option (LiI × Bool):=
 ((if a1 < 1 then some (.inl ([],false)) else if 16 < a1 then some (.inl ([],false)) else some<|.inr ()):Option ((LiI × Bool) ⊕ Unit)).bind (λex=>match ex with | .inl Ac=>(some Ac) | .inr _=>(Akj fuel a1 a1).bind λAb=>(iter (λs=>Ap5 fuel Ab s.1 s.2) fuel (0,Ab)).bind (λ(Ad:LiI)=>some (Ad,true)))
theorem Aud {r:(LiI × Bool)} (hp:Alk fuel a1=some r):Ahs Tryz.prog 67 #[(.int .i64 a1)] h (λx h'=>Ext h h'/\ ∃ (x0:Value) (F0:List Nat) (Az:List LnA) (A3:List Value),x= .tuple #[x0,.bool r.2]/\Aj1 cZ 146 129 h' F0 Az A3 x0 r.1/\Sp h' h.size [F0]):=by
 unfold Alk at hp;refine cwf (l:=[_]) Tryz.func67 rfl rfl (AOv<|Aho<|AO1 ?_);have K0:=Kst.k0 h;obtain ⟨A4,Au,Af⟩:=AOw hp;refine Arb 4044 (λx:Unit=>[]) (λx h'=>(Sum.inr <| ())=A4/\Kst h h' (K0.L)) ?_ ?_
 ·refine AOv<|AOr<|Ahn rfl rfl (AOr ?_);by_cases Ad:a1 < 1
  ·rw [decide_eq_true Ad];refine Aqc 8 true<|Ahc rfl (AOz<|Ahp rfl (AOv<|Aho<|AO1 ?_));obtain rfl:=AOu<|ifT Au Ad;refine AO6<|Ag7 ?_;have Ag:=Kst.anil2 cZ 146 129 K0;obtain rfl:=AOu Af;exact ⟨_,Aiz,Ag.x,_,_,_,_,rfl,(Ag.o2 p0),Ag.s.sel [0] AOs⟩
  ·have Av:=ifF Au Ad;rw [decide_eq_false Ad];refine Ahb 8 false<|AOr<|Ahb 8 false<|Anj rfl rfl (APd rfl (AOz<|⟨_,rfl,λAh=>?_,λAh=>?_⟩))
   ·refine AOv<|Aho<|AO1 ?_;obtain rfl:=AOu<|Ahy Av Ah;refine AO6<|Ag7 ?_;have Ai:=Kst.anil2 cZ 146 129 K0;obtain rfl:=AOu Af;exact ⟨_,Aiz,Ai.x,_,_,_,_,rfl,(Ai.o2 p0),Ai.s.sel [0] AOs⟩
   ·refine AO5<|q_t ?_;exact ⟨(():Unit),⟨AOu<|Ahz Av Ah,K0⟩,trivial⟩
 rintro ⟨⟩ Bq Br ⟨A5,A6⟩;subst A5;refine AOv<|AOr<|AOr ?_;obtain ⟨A7,A8,A9⟩:=AOw Af;refine Aux A6 (Ape A8) λBa Bb Bc Be Bt Bu Aj=>AO1<|AOx<|AOv<|AOr<|Ahx Ai9 rfl (Aj.o2 p0).rd (AOr<|AOz<|AO0<|Amy 268304416 (λx:(Int) × (LiI) × LnA × LnN × LvA=>(x.1,x.2.1)) ((0,A7,Ba,Bb,Bc):(Int) × (LiI) × LnA × LnN × LvA) A9 (λx=>[(17,(.int .i64 x.1))]) (λx=>Aj.L.set 0<|aO2 cZ 146 129 x.2.2.1 x.2.2.2.1 x.2.2.2.2 Be x.2.1) Aj ⟨rfl,trivial⟩ ?_);rintro ⟨Aw,Bv,Bw,Bx,By⟩ Bz Ak B1 Aa Am Bf;unfold Ap5 at Am;refine AOv<|Ahn rfl rfl (AOz<|AOx<|⟨_,rfl,λAo=>?_,λAo=>?_⟩)
 ·refine AO5<|q_t<|AOx<|AO0<|AOv<|AOr<|AO1<|Ai1 (λh'=>UpT [] Ak h') AO4 ?_;have Ax:UpT [] Ak Ak:=UpT.start all_nil;refine AOr<|AOr ?_;obtain ⟨B3,Ap,Bg⟩:=AOw<|Ahy Am Ao;refine Aij Ai9 rfl (Aa.o2 p0) rfl Ap λB4 B5 B6 Bh Bi=>Ahm Alp rfl Ax (λh' hb=>AO8 Bi hb.ext) (AOr ?_);obtain ⟨B7,Bj,Bl⟩:=AOw Bg;refine Am4 Aa Ax (Are Bj) λB8 B9 Ca Ab Cb=>?_;obtain ⟨Cd,Ay,Bm⟩:=AOw Bl;refine Air (m:=Aw) Aj8 rfl (Aa.o2 p0) Bh Ap rfl Ay λCe Bn=>Aol (m:=Aw) (Aze Aip (cZ.klen<|Ab.z p0) rfl rfl (cZ.one<|Ab.z p0)) (Ab.o2 p1) Bn Ap Ay (Ab.z p0) λCf Bo Bp=>Ahh<|q_b<|q_t<|Ag6<|Ahk rfl rfl (AOr<|AOz ?_);exact ⟨(_,_,_,_,_),(AOu Bm).symm,(Ab.uO2 p1 Bp Bo).sel [1] AOs,rfl,trivial⟩
 ·refine Ahf<|Ahg<|Ahg<|Aio<|q_t<|AOv<|AOr<|Aho<|AO1<|AO6 ?_;obtain rfl:=AOu<|Bf _ (AOu<|Ahz Am Ao).symm;exact ⟨_,Aiz,Aa.x,_,_,_,_,rfl,(Aa.o2 p0),Aa.s.sel [0] AOs⟩
def Apk (fuel:Nat) (a3:LiI) (Ab:Int) (Af:LiA) (Aa:Int) (Ac:LiI):Option ((Int × LiI) ⊕ LiI):=
 if Aa < (Af.length:Int) then (gI Ac Aa).bind λAd=>(gI a3 Ab).bind λAg=>(gI Ag Aa).bind λAh=>(Azg fuel Ah).bind λAi=>(gI Ad Ab).bind λAj=>some (.inl (w64<|Aa + 1,sI Ac Aa<|sI Ad Ab Ai)) else some<|.inr Ac
def Apl (fuel:Nat) (a3:LiI) (Aa:Int) (Ac:LiI):Option ((Int × LiI) ⊕ LiI):=
 if Aa < (a3.length:Int) then (gI a3 Aa).bind λAd=>(iter (λs=>Apk fuel a3 Aa Ad s.1 s.2) fuel (0,Ac)).bind (λ(Ae:LiI)=>some<|.inl (w64<|Aa + 1,Ae)) else some<|.inr Ac
def Ak3 (fuel:Nat) (a3:LiI):Option (LiI × Bool):=
 (Aje fuel a3).bind λ(x5,x6,x7)=>if (!x7)=true then some ([],false) else (Akj fuel x6 x5).bind λAe=>(iter (λs=>Apl fuel a3 s.1 s.2) fuel (0,Ae)).bind (λ(Af:LiI)=>some (Af,true))
theorem Atx {Aq:Value} {r:(LiI × Bool)} (H2:Ajw cZ h Aq a3) (hp:Ak3 fuel a3=some r):Ahs Tryz.prog 133 #[Aq] h (λx h'=>Ext h h'/\ ∃ (x0:Value) (F0:List Nat) (A6:List LnA) (A7:List Value),x= .tuple #[x0,.bool r.2]/\Aj1 cZ 146 129 h' F0 A6 A7 x0 r.1/\Sp h' h.size [F0]):=by
 unfold Ak3 at hp;refine cwf (l:=[_]) Tryz.func133 rfl rfl (AOv<|Aho<|Ah7<|AOr ?_);have K0:=Kst.k0 h;obtain ⟨⟨x5,x6,x7⟩,A8,Af⟩:=AOw hp;dsimp only at Af;refine Akb K0 (Ao5 (H2.ext K0.x) A8) λCd Ce Ax=>AOr<|Ait rfl rfl (Ait rfl rfl (Ait rfl rfl (Aho<|Aho<|AO1<|AOx<|AOv<|AOr<|Akc rfl (AOz<|⟨_,rfl,λAg=>?_,λAg=>?_⟩))))
 ·refine AOv<|Aho<|AO1<|AO6<|Ag7 ?_;have Ah:=Kst.anil2 cZ 146 129 Ax;obtain rfl:=AOu<|ifT Af Ag;exact ⟨_,Aiz,Ah.x,_,_,_,_,rfl,(Ah.o2 p0),Ah.s.sel [0] AOs⟩
 ·refine AO5<|q_t<|AOv<|AOr<|AOr ?_;obtain ⟨A9,Ba,Bb⟩:=AOw<|Aok Af Ag;refine Aux Ax (Ape Ba) λBc Be Bf Ay Cf Cg Az=>AO1<|AOx<|AOv<|AOr<|Ahx Ai9 rfl H2 (AOr<|AOz<|AO0<|Amy 1125899898454784 (λx:(Int) × (LiI) × LnA × LnN × LvA=>(x.1,x.2.1)) ((0,A9,Bc,Be,Bf):(Int) × (LiI) × LnA × LnN × LvA) Bb (λx=>[(23,(.int .i64 x.1))]) (λx=>Az.L.set 0<|aO2 cZ 146 129 x.2.2.1 x.2.2.2.1 x.2.2.2.2 Ay x.2.1) Az ⟨rfl,trivial⟩ ?_);rintro ⟨Ch,Bg,Bh,Bi,Bj⟩ Ci Cj Ck Ab Ai Bl;unfold Apl at Ai;refine AOv<|Ahn rfl rfl (AOz<|AOx<|⟨_,rfl,λAj=>?_,λAj=>?_⟩)
  ·refine AO5<|q_t<|AOx<|AO0<|AOv<|AOr<|Ah7<|AOr<|AOr ?_;obtain ⟨Cm,Bm,Bn⟩:=AOw<|Ahy Ai Aj;refine An3 Ai9 Alp H2 Ab.x Bm λ_ Cn Bo=>Aim Aj8 rfl Bo (AOr<|AOz<|AO0<|Amy 562947805938176 (λx:(Int) × (LiI) × LnA × LnN × LvA=>(x.1,x.2.1)) ((0,Bg,Bh,Bi,Bj):(Int) × (LiI) × LnA × LnN × LvA) Bn (λx=>[(31,(.int .i64 x.1))]) (λx=>Ab.L.set 0<|aO2 cZ 146 129 x.2.2.1 x.2.2.2.1 x.2.2.2.2 Ay x.2.1) Ab ⟨rfl,trivial⟩ ?_);rintro ⟨A3,u64,Co,Cp,Cq⟩ Cr Ak Ct Aa Am Bp;unfold Apk at Am;refine AOv<|Ahn rfl rfl (AOz<|AOx<|⟨_,rfl,λAo=>?_,λAo=>?_⟩)
   ·refine AO5<|q_t<|AOx<|AO0<|AOv<|AOr<|AO1<|Ai1 (λh'=>UpT [] Ak h') AO4 ?_;have Ae:UpT [] Ak Ak:=UpT.start all_nil;refine AOr<|AOr ?_;obtain ⟨Cu,Ap,Bq⟩:=AOw<|Ahy Am Ao;refine Aij Ai9 rfl (Aa.o2 p0) rfl Ap λCv Cw Cx Br Bt=>Ahm Alp rfl Ae (λh' hb=>AO8 Bt hb.ext) (AOr<|AOr<|AOr ?_);obtain ⟨Cy,Bu,Bv⟩:=AOw Bq;refine Az4 Ai9 rfl H2 rfl Bu λCz C0 C1 Bw Bx=>Ahm Alp rfl Ae (λh' hb=>AO8 Bw<|Aa.x.trans hb.ext) (AOr ?_);obtain ⟨C2,By,Bz⟩:=AOw Bv;refine Aqu (c:=cZ) Aj8 rfl Bx rfl By λC3 C4 C5 A4 B1=>Azp (c:=cZ) Aip rfl A4 Ae (λh' hb j u hu=>AO8 (B1 j u hu)<|Aa.x.trans hb.ext) ?_;obtain ⟨C6,B3,B4⟩:=AOw Bz;refine Am4 Aa Ae (A01 (Aa.zx A4).2 B3) λC7 C8 C9 Ac Da=>?_;obtain ⟨Db,A5,B5⟩:=AOw B4;refine Air (m:=A3) Aj8 rfl (Aa.o2 p0) Br Ap rfl A5 λDc B6=>Aol (m:=A3) (Aze Aip (cZ.klen<|Ac.z p0) rfl rfl (cZ.one<|Ac.z p0)) (Ac.o2 p1) B6 Ap A5 (Ac.z p0) λDd B7 B8=>Ahh<|q_b<|q_t<|Ag6<|Ahk rfl rfl (AOr<|AOz ?_);exact ⟨(_,_,_,_,_),(AOu B5).symm,(Ac.uO2 p1 B8 B7).sel [1] AOs,rfl,trivial⟩
   ·refine Ahf<|Ahg<|Ahg<|Aio<|q_b<|q_t<|Ag6<|Ahk rfl rfl (AOr<|AOz ?_);exact ⟨(_,_,_,_,_),(AOu<|Bp _ (AOu<|Ahz Am Ao).symm).symm,Aa,rfl,trivial⟩
  ·refine Ahf<|Ahg<|Ahg<|Aio<|q_t<|AOv<|AOr<|Aho<|AO1<|AO6 ?_;obtain rfl:=AOu<|Bl _ (AOu<|Ahz Ai Aj).symm;exact ⟨_,Aiz,Ab.x,_,_,_,_,rfl,(Ab.o2 p0),Ab.s.sel [0] AOs⟩
def Atg (fuel:Nat) (a3 a7:LiA) (Aa Ac:Int):Option ((Int × Int) ⊕ Int):=
 if Aa < (a3.length:Int) then (gI a3 Aa).bind λAe=>(gI a7 Aa).bind λAf=>(Ayo fuel Ae Af).bind λAg=>(BE0 fuel Ac Ag).bind λAh=>some (.inl (w64<|Aa + 1,Ah)) else some<|.inr Ac
def Apu (fuel:Nat) (a3 a7:LiA):Option Int:=
 (iter (λs=>Atg fuel a3 a7 s.1 s.2) fuel (0,0)).bind (λ(Ac:Int)=>some Ac)
theorem A03 {a3:LiA} {Ak:Value} {a7:LiA} {r:Int} (H2:SlC cZ h Ai a3) (H6:SlC cZ h Ak a7) (hp:Apu fuel a3 a7=some r):Ahs Tryz.prog 185 #[Ai,Ak] h (λx h'=>Ext h h'/\ ∃ (x0:Value),x=x0/\ZZ h' x0 r):=by
 unfold Apu at hp;refine cwf (l:=[_,_]) Tryz.func185 rfl rfl (AOv<|Aj4 (Kst.k0 h) [.bool false,.slice none 0 0] Ams λb9 Bn Bo Ax=>Apt<|Alh (Awk )<|Aj4 Ax [.bool false,.slice none 0 0] Ams λAy Aq Bp Az=>Anz Az p0 (Ahd Aq) (Ahd Aq) λA3 A4=>AOz<|AOx<|AOx ?_);refine Ag6<|AOr<|Aim Aj8 rfl H2 (AOr<|AOz<|AO0 ?_);have Ar:=A4.az<|Ahd A3;refine Amy 33553472 (λx:(Int) × (Int) × LvA=>(x.1,x.2.1)) ((0,0,[Value.bool false,Value.slice none 0 0]):(Int) × (Int) × LvA) hp (λx=>[(10,(.int .i64 x.1))]) (λx=>(Ar.L.set 0<|aZ x.2.2 x.2.1).set 1 (aB 129 Ay x.2.2)) Ar ⟨rfl,trivial⟩ ?_;rintro ⟨Bq,Br,Bt⟩ Bu Ac Bv Aa Af A5;unfold Atg at Af;refine AOv<|Ahn rfl rfl (AOz<|AOx<|⟨_,rfl,λAg=>?_,λAg=>?_⟩)
 ·refine AO5<|q_t<|AOx<|AO0<|AOv<|AOr<|AO1<|Ai1 (λh'=>UpT [] Ac h') AO4 ?_;have Ad:UpT [] Ac Ac:=UpT.start all_nil;refine Avw (Aa.z p0) Ad (Aa.b p1)<|AOr<|AOr ?_;obtain ⟨Bw,A6,A7⟩:=AOw<|Ahy Af Ag;refine Aqu (c:=cZ) Aj8 rfl H2 rfl A6 λBx By Bz Au A8=>Azp (c:=cZ) Aip rfl Au Ad (λh' hb j u hu=>AO8 (A8 j u hu)<|Aa.x.trans hb.ext) (AOr<|AOr ?_);obtain ⟨B1,A9,Ba⟩:=AOw A7;refine Aqu (c:=cZ) Aj8 rfl H6 rfl A9 λB3 B4 B5 Av Bb=>Azp (c:=cZ) Aip rfl Av Ad (λh' hb j u hu=>AO8 (Bb j u hu)<|Aa.x.trans hb.ext) ?_;obtain ⟨B6,Bc,Be⟩:=AOw Ba;refine Am4 Aa Ad (Axq (Aa.zx Au).2 (Aa.zx Av).2 Bc) λB7 B8 B9 Ah Bf=>?_;obtain ⟨Ca,Bg,Bh⟩:=AOw Be;refine Am4 Ah Bf (BDd (Ah.z p1).2 (Ah.z p0).2 Bg) λBi Cb Cd Ab Ce=>Ai5 Bi Aip (cZ.klen<|Ab.z p0) (cZ.klen<|Ab.z p2) rfl rfl (cZ.one<|Ab.z p0) (Ab.b p3) λCf Bj Bl=>Ahh<|q_b<|q_t<|Ag6<|Ahk rfl rfl (AOr<|AOz ?_);exact ⟨(_,_,_),(AOu Bh).symm,(Ab.sb p3 Bl Bj rfl).sel [0,3,4] AOs,rfl,trivial⟩
 ·refine Ahf<|Ahg<|Ahg<|Aio<|q_t<|AOv<|Asj (Aa.z p0) (Aa.b p1)<|Anz Aa p2 (Ahd Ac) (Aa.z p0) λCg Ae=>AOz<|AO6 ?_;obtain rfl:=AOu<|A5 _ (AOu<|Ahz Af Ag).symm;exact ⟨_,Ai3 Aip (cZ.klen<|Ae.z p0) rfl (Ae.b p2),Ae.x,_,rfl,(Ae.z p0).2⟩
def Ath (fuel:Nat) (a3 Ad:LiI) (Ab Aa:Int) (Ac:LiI):Option ((Int × LiI) ⊕ LiI):=
 if Aa < (Ad.length:Int) then (gI Ac Ab).bind λAe=>(gI a3 Ab).bind λAg=>(gI Ad Aa).bind λAh=>(Apu fuel Ag Ah).bind λAi=>(gI Ae Aa).bind λAj=>some (.inl (w64<|Aa + 1,sI Ac Ab<|sI Ae Aa Ai)) else some<|.inr Ac
def Ati (fuel:Nat) (a3 Ad:LiI) (Aa:Int) (Ac:LiI):Option ((Int × LiI) ⊕ LiI):=
 if Aa < (a3.length:Int) then (iter (λs=>Ath fuel a3 Ad Aa s.1 s.2) fuel (0,Ac)).bind (λ(Ae:LiI)=>some<|.inl (w64<|Aa + 1,Ae)) else some<|.inr Ac
def Apv (fuel:Nat) (a3 a7:LiI):Option (LiI × Bool):=
 (Aje fuel a3).bind λ(x9,Ad,Ae)=>(Ak3 fuel a7).bind λ(Ac,Af)=>((if (!Ae)=true then some (.inl ([],false)) else if (!Af)=true then some (.inl ([],false)) else if ¬ (a7.length:Int)=Ad then some (.inl ([],false)) else some<|.inr ()):Option ((LiI × Bool) ⊕ Unit)).bind (λex=>match ex with | .inl Ag=>(some Ag) | .inr _=>(Akj fuel (a3.length:Int) (Ac.length:Int)).bind λAh=>(iter (λs=>Ati fuel a3 Ac s.1 s.2) fuel (0,Ah)).bind (λ(Ai:LiI)=>some (Ai,true)))
theorem A04 {Av:Value} {Ax:Value} {a7:LiI} {r:(LiI × Bool)} (H2:Ajw cZ h Av a3) (H6:Ajw cZ h Ax a7) (hp:Apv fuel a3 a7=some r):Ahs Tryz.prog 134 #[Av,Ax] h (λx h'=>Ext h h'/\ ∃ (x0:Value) (F0:List Nat) (Bm:List LnA) (Bn:List Value),x= .tuple #[x0,.bool r.2]/\Aj1 cZ 146 129 h' F0 Bm Bn x0 r.1/\Sp h' h.size [F0]):=by
 unfold Apv at hp;refine cwf (l:=[_,_]) Tryz.func134 rfl rfl (AOv<|Aho<|Ah7<|AOr ?_);have K0:=Kst.k0 h;obtain ⟨⟨x9,Cx,Bo⟩,Bp,A6⟩:=AOw hp;dsimp only at A6;refine Akb K0 (Ao5 (H2.ext K0.x) Bp) λCy Cz A7=>AOr<|Ait rfl rfl (Ait rfl rfl (Ait rfl rfl (Aho<|Aho<|Ah7<|AOr ?_)));obtain ⟨⟨C0,Bq⟩,Br,A8⟩:=AOw A6;dsimp only at A8;refine Aqs rfl (Atx (H6.ext A7.x) Br) λC1 C2 Bt Bu=>?_;obtain ⟨C3,C4,C5,C6,rfl,Bv,Bw⟩:=Bu;refine AOr<|Ait rfl rfl (Ait rfl rfl (Aho<|AO1 ?_));have Ac:=A7.no2 Bt Bw Bv;obtain ⟨Bx,A9,Af⟩:=AOw A8;refine Arb 137405399088 (λx:Unit=>[]) (λx h'=>(Sum.inr <| ())=Bx/\Kst h h' (Ac.L)) ?_ ?_
 ·refine AOv<|AOr<|Akc rfl (AOr ?_);cases Ba:(!Bo)
  ·refine Ahb 27 false<|AOr<|Ahb 27 false<|Akc rfl (APd rfl (AOr ?_));have Bb:=Aok A9 Ba;cases Bc:(!Bq)
   ·refine Ahb 31 false<|AOr<|Ahb 31 false<|Ahx Ai9 rfl H6 (Ahb 31 false<|AOr<|Ahb 31 false<|Ajs rfl rfl (APd rfl (AOz ?_)));have Be:=Aok Bb Bc;refine ⟨_,rfl,λAh=>?_,λAh=>?_⟩
    ·refine AOv<|Aho<|AO1 ?_;obtain rfl:=AOu<|Ahy Be Ah;refine AO6<|Ag7 ?_;have Ai:=Kst.anil2 cZ 146 129 Ac;obtain rfl:=AOu Af;exact ⟨_,Aiz,Ai.x,_,_,_,_,rfl,(Ai.o2 p0),Ai.s.sel [0] AOs⟩
    ·refine AO5<|q_t ?_;exact ⟨(():Unit),⟨AOu<|Ahz Be Ah,Ac⟩,trivial⟩
   ·refine Alf 31 true<|Ahc rfl (AOz<|Ahp rfl (AOv<|Aho<|AO1 ?_));obtain rfl:=AOu<|ifT Bb Bc;refine AO6<|Ag7 ?_;have Aj:=Kst.anil2 cZ 146 129 Ac;obtain rfl:=AOu Af;exact ⟨_,Aiz,Aj.x,_,_,_,_,rfl,(Aj.o2 p0),Aj.s.sel [0] AOs⟩
  ·refine Aqc 27 true<|Ahc rfl (AOr<|Alf 31 true<|Ahc rfl (AOz<|Ahp rfl (AOv<|Aho<|AO1 ?_)));obtain rfl:=AOu<|ifT A9 Ba;refine AO6<|Ag7 ?_;have Ak:=Kst.anil2 cZ 146 129 Ac;obtain rfl:=AOu Af;exact ⟨_,Aiz,Ak.x,_,_,_,_,rfl,(Ak.o2 p0),Ak.s.sel [0] AOs⟩
 rintro ⟨⟩ C7 C8 ⟨By,Bf⟩;subst By;refine AOv<|AOr<|Ahx Ai9 rfl H2 (AOr<|Ahx Ai9 rfl (Bf.o2 p0).rd ?_);obtain ⟨Bz,B1,B3⟩:=AOw Af;refine Aux Bf (Ape B1) λB4 B5 B6 Bg C9 Da Bh=>AO1<|AOx<|AOv<|AOr<|Ahx Ai9 rfl H2 (AOr<|AOz<|AO0<|Amy 590295792766519619584 (λx:(Int) × (LiI) × LnA × LnN × LvA=>(x.1,x.2.1)) ((0,Bz,B4,B5,B6):(Int) × (LiI) × LnA × LnN × LvA) B3 (λx=>[(44,(.int .i64 x.1))]) (λx=>Bh.L.set 0<|aO2 cZ 146 129 x.2.2.1 x.2.2.2.1 x.2.2.2.2 Bg x.2.1) Bh ⟨rfl,trivial⟩ ?_);rintro ⟨Bi,B7,B8,B9,Ca⟩ Db Dc Dd Ab Am Cb;unfold Ati at Am;refine AOv<|Ahn rfl rfl (AOz<|AOx<|⟨_,rfl,λAo=>?_,λAo=>?_⟩)
 ·refine AO5<|q_t<|AOx<|AO0<|AOv<|AOr<|Ah7<|AOr<|Ahx Ai9 rfl (Ab.o2 p1).rd (AOr<|AOz<|AO0<|Amy 295147342229399412736 (λx:(Int) × (LiI) × LnA × LnN × LvA=>(x.1,x.2.1)) ((0,B7,B8,B9,Ca):(Int) × (LiI) × LnA × LnN × LvA) (Ahy Am Ao) (λx=>[(49,(.int .i64 x.1))]) (λx=>Ab.L.set 0<|aO2 cZ 146 129 x.2.2.1 x.2.2.2.1 x.2.2.2.2 Bg x.2.1) Ab ⟨rfl,trivial⟩ ?_);rintro ⟨De,Df,Dg,Dh,Di⟩ Dj Ap Dk Aa Aq Cd;unfold Ath at Aq;refine AOv<|Ahn rfl rfl (AOz<|AOx<|⟨_,rfl,λAr=>?_,λAr=>?_⟩)
  ·refine AO5<|q_t<|AOx<|AO0<|AOv<|AOr<|AO1<|Ai1 (λh'=>UpT [] Ap h') AO4 ?_;have Ag:UpT [] Ap Ap:=UpT.start all_nil;refine AOr<|AOr ?_;obtain ⟨Dl,Au,Ce⟩:=AOw<|Ahy Aq Ar;refine Aij Ai9 rfl (Aa.o2 p0) rfl Au λDo Dp Dq Cf Cg=>Ahm Alp rfl Ag (λh' hb=>AO8 Cg hb.ext) (AOr<|AOr<|AOr ?_);obtain ⟨Dr,Ch,Ci⟩:=AOw Ce;refine Az4 Ai9 rfl H2 rfl Ch λDs Dt Du Cj Ck=>Ahm Alp rfl Ag (λh' hb=>AO8 Cj<|Aa.x.trans hb.ext) (AOr<|AOr ?_);obtain ⟨Dv,Bj,Cm⟩:=AOw Ci;refine Aij Ai9 rfl (Aa.o2 p1) rfl Bj λDw Dx Dy Cn Co=>Ahm Alp rfl Ag (λh' hb=>AO8 Co hb.ext) ?_;obtain ⟨Dz,Cp,Cq⟩:=AOw Cm;refine Am4 Aa Ag (A03 (Ck.ext Aa.x) ((Aa.o2 p1).rowI Cn Bj) Cp) λD0 D1 D2 Ad D3=>?_;obtain ⟨D4,Bl,Cr⟩:=AOw Cq;refine Air (m:=Bi) Aj8 rfl (Aa.o2 p0) Cf Au rfl Bl λD5 Ct=>Aol (m:=Bi) (Aze Aip (cZ.klen<|Ad.z p0) rfl rfl (cZ.one<|Ad.z p0)) (Ad.o2 p1) Ct Au Bl (Ad.z p0) λD6 Cu Cv=>Ahh<|q_b<|q_t<|Ag6<|Ahk rfl rfl (AOr<|AOz ?_);exact ⟨(_,_,_,_,_),(AOu Cr).symm,(Ad.uO2 p1 Cv Cu).sel [1,2] AOs,rfl,trivial⟩
  ·refine Ahf<|Ahg<|Ahg<|Aio<|q_b<|q_t<|Ag6<|Ahk rfl rfl (AOr<|AOz ?_);exact ⟨(_,_,_,_,_),(AOu<|Cd _ (AOu<|Ahz Aq Ar).symm).symm,Aa,rfl,trivial⟩
 ·refine Ahf<|Ahg<|Ahg<|Aio<|q_t<|AOv<|AOr<|Aho<|AO1<|AO6 ?_;obtain rfl:=AOu<|Cb _ (AOu<|Ahz Am Ao).symm;exact ⟨_,Aiz,Ab.x,_,_,_,_,rfl,(Ab.o2 p0),Ab.s.sel [0] AOs⟩
def Ajj (fuel:Nat) (a3 a7:LiI):Option LiI:=
 (Apv fuel a3 a7).bind λ(x9,Ad)=>some x9
theorem Aqf {a7 r:LiI} (H2:Ajw cZ h Ac a3) (H6:Ajw cZ h Ae a7) (hp:Ajj fuel a3 a7=some r):Ahs Tryz.prog 71 #[Ac,Ae] h (λx h'=>Ext h h'/\ ∃ (x0:Value) (F0:List Nat) (Am:List LnA) (Ao:List Value),x=x0/\Aj1 cZ 146 129 h' F0 Am Ao x0 r/\Sp h' h.size [F0]):=by
 unfold Ajj at hp;refine cwf (l:=[_,_]) Tryz.func71 rfl rfl (AOv<|Ah7<|AOr<|AOr ?_);have K0:=Kst.k0 h;obtain ⟨⟨x9,Ax⟩,Ap,Ai⟩:=AOw hp;dsimp only at Ai;refine Aqs rfl (A04 (H2.ext K0.x) (H6.ext K0.x) Ap) λAy Az Aq Ar=>?_;obtain ⟨A3,A4,A5,A6,rfl,Au,Av⟩:=Ar;refine AOr<|Ait rfl rfl (Ait rfl rfl (Aho<|Ah7<|AOr<|AO1<|AO6 ?_));have Ab:=K0.no2 Aq Av Au;obtain rfl:=AOu Ai;exact ⟨_,AO7,Ab.x,_,_,_,_,rfl,(Ab.o2 p0),Ab.s.sel [0] AOs⟩
def Ary (fuel:Nat) (a1:Int) (Aa:LiA) (Ab:Int):Option ((LiA × Int) ⊕ LiA):=
 if Ab < a1 then if Aa.length<=100000000 then some (.inl (Aa ++ [Ab],w64<|Ab + 1)) else none else some<|.inr Aa
def Amz (fuel:Nat) (a1 a2:Int):Option LiA:=
 (iter (λs=>Ary fuel a1 s.1 s.2) fuel ([],0)).bind (λ(Aa:LiA)=>if Aa.length<=100000000 then some (Aa ++ [a2]) else none)
theorem Ave {r:LiA} (hp:Amz fuel a1 a2=some r):Ahs Tryz.prog 176 #[(.int .i64 a1),(.int .i64 a2)] h (λx h'=>Ext h h'/\ ∃ (x0:Value) (F0:List Nat),x=x0/\OwC (cI .i64) 3 h' F0 x0 r/\Sp h' h.size [F0]):=by
 unfold Amz at hp;refine cwf (l:=[_,_]) Tryz.func176 rfl rfl (AOv<|Ah7<|AO1<|AOx<|AOv<|AO1<|AO0 ?_);have K4:=Kst.anil (cI .i64) 3<|Kst.k0 h;refine Amy 65504 (λx:(LiA) × (Value) × LnA × (Int)=>(x.1,x.2.2.2)) (([],(.slice none 0 0),[],0):(LiA) × (Value) × LnA × (Int)) hp (λx=>[(5,x.2.1),(6,(.int .i64 x.2.2.2))]) (λx=>K4.L.set 0<|aO (cI .i64) 3 x.2.2.1 x.2.1 x.1) K4 ⟨rfl,rfl,trivial⟩ ?_;rintro ⟨Az,A3,A4,Aj⟩ A5 h9 y8 Ab Ac Ak;unfold Ary at Ac;refine AOx<|AOv<|AOr<|AOr<|Ahn rfl rfl (AOz<|⟨_,rfl,λAd=>?_,λAd=>?_⟩)
 ·refine AO5<|q_t<|AOx<|AO0<|Ag6<|AOr<|AOr ?_;obtain ⟨Am,Ao⟩:=ifN<|Ahy Ac Ad;refine Ar6 A3d A3o rfl rfl trivial tt2 (λ_=>rfl) rfl (show ((cI .i64)).rep _ Aj [(.int .i64 Aj)] from rfl) (Ab.o p0) AOs Am λA8 A9 Ba Bb Ap Aq Ar=>Aho<|Ahh<|q_b<|q_t<|Ag6<|AOr<|Ahk rfl rfl (AO1 ?_);exact ⟨(_,_,_,_),(AOu Ao).symm,(Ab.uo p0 Aq Ap Ar),rfl,rfl,trivial⟩
 ·refine Ahf<|Ahg<|Ahg<|Aio<|q_t<|AOv<|AOr<|AOr ?_;obtain ⟨Au,Av⟩:=ifN<|Ak _ (AOu<|Ahz Ac Ad).symm;refine Ar6 A3d A3o rfl rfl trivial tt2 (λ_=>rfl) rfl (show ((cI .i64)).rep _ a2 [(.int .i64 a2)] from rfl) (Ab.o p0) AOs Au λBc Be Bf Bg Aw Ax Ay=>AO1<|AO6 ?_;have Ae:=Ab.uo p0 Ax Aw Ay;obtain rfl:=AOu Av;exact ⟨_,AO7,Ae.x,_,_,rfl,(Ae.o p0),Ae.s.sel [0] AOs⟩
def Aqg (fuel:Nat) (a3:LiI) (x5:Int) (Ab:LiA) (Aa:Int):Option ((LiA × Int) ⊕ LiA):=
 if Aa < x5 then (Amz fuel Aa Aa).bind λAe=>(Amz fuel Aa Aa).bind λAf=>(Amh fuel a3 Ae Af).bind λAg=>(Aif fuel Ag).bind λAh=>if Ab.length<=100000000 then some (.inl (Ab ++ [Ah],w64<|Aa + 1)) else none else some<|.inr Ab
def Akf (fuel:Nat) (a3:LiI):Option (LiA × Bool):=
 (Ala fuel a3).bind λ(x5,x6)=>if (!x6)=true then some ([],false) else (iter (λs=>Aqg fuel a3 x5 s.1 s.2) fuel ([],0)).bind (λ(Ad:LiA)=>some (Ad,true))
theorem Aqh {r:(LiA × Bool)} (H2:Ajw cZ h Ai a3) (hp:Akf fuel a3=some r):Ahs Tryz.prog 122 #[Ai] h (λx h'=>Ext h h'/\ ∃ (x0:Value) (F0:List Nat),x= .tuple #[x0,.bool r.2]/\OwC cZ 129 h' F0 x0 r.1/\Sp h' h.size [F0]):=by
 unfold Akf at hp;refine cwf (l:=[_]) Tryz.func122 rfl rfl (AOv<|Aho<|Ah7<|AOr ?_);have K0:=Kst.k0 h;obtain ⟨⟨x5,x6⟩,Av,Ac⟩:=AOw hp;dsimp only at Ac;refine Akb K0 (Au3 (H2.ext K0.x) Av) λBh E9 Aq=>AOr<|Ait rfl rfl (Ait rfl rfl (Aho<|AO1<|AOx<|AOv<|AOr<|Akc rfl (AOz<|⟨_,rfl,λAd=>?_,λAd=>?_⟩)))
 ·refine AOv<|Aho<|AO1<|AO6<|Ag7 ?_;have Ae:=Kst.anil cZ 129 Aq;obtain rfl:=AOu<|ifT Ac Ad;exact ⟨_,Aiz,Ae.x,_,_,rfl,(Ae.o p0),Ae.s.sel [0] AOs⟩
 ·refine AO5<|q_t<|AOv<|AO1<|AOx<|AOv<|AO1<|AO0 ?_;have Ar:=Kst.anil cZ 129 Aq;refine Amy 4294934720 (λx:(LiA) × (Value) × LnA × (Int)=>(x.1,x.2.2.2)) (([],(.slice none 0 0),[],0):(LiA) × (Value) × LnA × (Int)) (Aok Ac Ad) (λx=>[(6,x.2.1),(7,(.int .i64 x.2.2.2))]) (λx=>Ar.L.set 0<|aO cZ 129 x.2.2.1 x.2.1 x.1) Ar ⟨rfl,rfl,trivial⟩ ?_;rintro ⟨Bj,Bl,Bm,u32⟩ Bn Bo Bp Aa Af Aw;unfold Aqg at Af;refine AOx<|AOv<|AOr<|AOr<|Ahn rfl rfl (AOz<|⟨_,rfl,λAg=>?_,λAg=>?_⟩)
  ·refine AO5<|q_t<|AOx<|AO0<|Ag6<|AOr<|AOr<|AOr<|AOr ?_;obtain ⟨Bq,Ax,Ay⟩:=AOw<|Ahy Af Ag;refine BRx Aa (Ave Ax) λBr Bt Bu Bv Az=>AOr<|AOr ?_;obtain ⟨Bw,A3,A4⟩:=AOw Ay;refine BRx Az (Ave A3) λBx By Bz B1 Ab=>?_;obtain ⟨B3,A5,A6⟩:=AOw A4;refine Aux Ab (Au4 (H2.ext Ab.x) (Ab.o p1).rd (Ab.o p0).rd A5) λB4 B5 B6 B7 B8 B9 Au=>?_;obtain ⟨Ca,A7,A8⟩:=AOw A6;refine Avd Au (Ajt (Au.o2 p0).rd A7) λCb Cd Ce Ah=>?_;obtain ⟨A9,Ba⟩:=ifN A8;refine Ar6 Aj8 Ams rfl rfl trivial tt2 (λ_=>rfl) rfl (Ah.z p0) (Ah.o p4) AOs A9 λCf Cg Ch Ci Bb Bc Be=>Aho<|Ahh<|q_b<|q_t<|Ag6<|AOr<|Ahk rfl rfl (AO1 ?_);exact ⟨(_,_,_,_),(AOu Ba).symm,(Ah.uo p4 Bc Bb Be).sel [4] AOs,rfl,rfl,trivial⟩
  ·refine Ahf<|Ahg<|Ahg<|Aio<|q_t<|AOv<|AOr<|Aho<|AO1<|AO6 ?_;obtain rfl:=AOu<|Aw _ (AOu<|Ahz Af Ag).symm;exact ⟨_,Aiz,Aa.x,_,_,rfl,(Aa.o p0),Aa.s.sel [0] AOs⟩
def Apm (fuel:Nat) (a3:LiI) (Ab Aa:Int):Option (Int ⊕ (Bool ⊕ Unit)):=
 if Aa < Ab then (gI a3 Ab).bind λAd=>(gI Ad Aa).bind λAe=>(gI a3 Aa).bind λAf=>(gI Af Ab).bind λAg=>(A8s fuel Ae Ag).bind λAh=>if ¬ Ah=0 then some (.inr<|.inl false) else some (.inl<|w64<|Aa + 1) else some<|.inr<|.inr ()
def Apn (fuel:Nat) (a3:LiI) (Aa:Int):Option (Int ⊕ (Bool ⊕ Unit)):=
 if Aa < (a3.length:Int) then (iter (λs=>Apm fuel a3 Aa s) fuel 0).bind (λex=>match ex with | .inl Ac=>(some<|.inr<|.inl Ac) | .inr _=>some<|.inl<|w64<|Aa + 1) else some<|.inr<|.inr ()
def Ak4 (fuel:Nat) (a3:LiI):Option Bool:=
 (iter (λs=>Apn fuel a3 s) fuel 0).bind (λex=>match ex with | .inl Ab=>(some Ab) | .inr _=>some true)
theorem Aty {r:Bool} (H2:Ajw cZ h Ai a3) (hp:Ak4 fuel a3=some r):Ahs Tryz.prog 118 #[Ai] h (λx h'=>Ext h h'/\x= .bool r):=by
 unfold Ak4 at hp;refine cwf (l:=[_]) Tryz.func118 rfl rfl (AOv<|AO1<|AOx<|AOv<|AOr<|Ahx Ai9 rfl H2 (AOr<|AOz<|AO0 ?_));have K0:=Kst.k0 h;refine Arf 4294967196 hp (λx=>[(7,(.int .i64 x))]) (λx=>K0.L) K0 ⟨rfl,trivial⟩ ?_;rintro Bb Bc h8 y7 Ac Ad Am;unfold Apn at Ad;refine AOv<|Ahn rfl rfl (AOz<|AOx<|⟨_,rfl,λAe=>?_,λAe=>?_⟩)
 ·refine AO5<|q_t<|AOx<|AO0<|AOv<|AOr<|Ah7<|AO1<|AO0<|Arf 2147482644 (Ahy Ad Ae) (λx=>[(4,(.int .i64 x))]) (λx=>Ac.L) Ac ⟨rfl,trivial⟩ ?_;rintro Bg Bh Bi Bj Aa Af Ao;unfold Apm at Af;refine AOx<|AOv<|AOr<|AOr<|Ahn rfl rfl (AOz<|⟨_,rfl,λAg=>?_,λAg=>?_⟩)
  ·refine AO5<|q_t<|AOx<|AO0<|AOx<|Ame<|AOr<|AOr ?_;obtain ⟨Bl,Av,Aw⟩:=AOw<|Ahy Af Ag;refine An3 Ai9 Alp H2 Aa.x Av λ_ Bm Ax=>AOr ?_;obtain ⟨Bn,Ay,Az⟩:=AOw Aw;refine Aqu (c:=cZ) Aj8 rfl Ax rfl Ay λBo Bp Bq Ap A3=>Aum (c:=cZ) Aip rfl (Aa.zx Ap) (λj u hu=>(AO8 (A3 j u hu) Aa.x)) (AOr<|AOr ?_);obtain ⟨Br,A4,A5⟩:=AOw Az;refine An3 Ai9 Alp H2 Aa.x A4 λ_ Bt A6=>AOr ?_;obtain ⟨Bu,A7,A8⟩:=AOw A5;refine Aqu (c:=cZ) Aj8 rfl A6 rfl A7 λBv Bw Bx Aq A9=>Aum (c:=cZ) Aip rfl (Aa.zx Aq) (λj u hu=>(AO8 (A9 j u hu) Aa.x)) ?_;obtain ⟨By,Ba,Ar⟩:=AOw A8;refine Akb Aa (A7i (Aa.zx Ap).2 (Aa.zx Aq).2 Ba) λBz B1 Au=>Ajs rfl rfl (AOz<|⟨_,rfl,λAh=>?_,λAh=>?_⟩)
   ·refine AOv<|AO1<|AO6<|Ail<|Ag7<|Ag7<|Ail<|Ail<|Ag7<|Ag7<|Ail<|Ag7 ?_;obtain rfl:=AOu<|Am _ (AOu<|Ao _ (AOu<|Ahy Ar Ah).symm).symm;exact ⟨_,AO7,Au.x,rfl⟩
   ·refine AO5<|q_b<|q_t<|Ag6<|AOr<|Ahk rfl rfl (AO1 ?_);exact ⟨_,(AOu<|Ahz Ar Ah).symm,Au,rfl,trivial⟩
  ·refine Ahf<|Ahg<|Ahg<|Aio<|q_b<|q_t<|Ag6<|Ahk rfl rfl (AOr<|AOz ?_);exact ⟨_,(AOu<|Ao _ (AOu<|Ahz Af Ag).symm).symm,Aa,rfl,trivial⟩
 ·refine Ahf<|Ahg<|Ahg<|Aio<|q_t<|AOv<|AO1<|AO6 ?_;obtain rfl:=AOu<|Am _ (AOu<|Ahz Ad Ae).symm;exact ⟨_,AO7,Ac.x,rfl⟩
def Ap6 (fuel:Nat) (x5:LiA) (Aa:Int):Option (Int ⊕ (Bool ⊕ Unit)):=
 if Aa < (x5.length:Int) then (gI x5 Aa).bind λAc=>(A45 fuel Ac).bind λAd=>if Ad<=0 then some (.inr<|.inl false) else some (.inl<|w64<|Aa + 1) else some<|.inr<|.inr ()
def Am6 (fuel:Nat) (a3:LiI):Option Bool:=
 (Akf fuel a3).bind λ(x5,x6)=>((if (!x6)=true then some (.inl false) else (Ak4 fuel a3).bind λAd=>if (!Ad)=true then some (.inl false) else some<|.inr ()):Option (Bool ⊕ Unit)).bind (λex=>match ex with | .inl Ae=>(some Ae) | .inr _=>(iter (λs=>Ap6 fuel x5 s) fuel 0).bind (λex=>match ex with | .inl Af=>(some Af) | .inr _=>some true))
theorem Ax3 {Aj:Value} {r:Bool} (H2:Ajw cZ h Aj a3) (hp:Am6 fuel a3=some r):Ahs Tryz.prog 119 #[Aj] h (λx h'=>Ext h h'/\x= .bool r):=by
 unfold Am6 at hp;refine cwf (l:=[_]) Tryz.func119 rfl rfl (AOv<|Ah7<|AOr ?_);have K0:=Kst.k0 h;obtain ⟨⟨x5,x6⟩,A6,Ap⟩:=AOw hp;dsimp only at Ap;refine Aqs rfl (Aqh (H2.ext K0.x) A6) λBn Bo E9 A8=>?_;obtain ⟨Bp,Bq,rfl,A9,Ba⟩:=A8;refine AOr<|Ait rfl rfl (Ait rfl rfl (Aho<|AO1 ?_));have Aa:=K0.no E9 Ba A9;obtain ⟨Bb,Aq,Ad⟩:=AOw Ap;refine Arb 520196 (λx:Unit=>[]) (λx h'=>(Sum.inr <| ())=Bb/\Kst h h' (Aa.L)) ?_ ?_
 ·refine AOv<|AOr<|Akc rfl (AOr ?_);cases Ar:(!x6)
  ·refine Ahb 14 false<|AOr<|Ahb 14 false ?_;obtain ⟨Br,Bc,Au⟩:=AOw<|Aok Aq Ar;refine Akb Aa (Aty (H2.ext Aa.x) Bc) λBt Bu Av=>Ahb 14 false<|Akc rfl (APd rfl (AOz<|⟨_,rfl,λAe=>?_,λAe=>?_⟩))
   ·refine AOv<|AO1 ?_;obtain rfl:=AOu<|ifT Au Ae;refine AO6<|Ag7 ?_;obtain rfl:=AOu Ad;exact ⟨_,AO7,Av.x,rfl⟩
   ·refine AO5<|q_t ?_;exact ⟨(():Unit),⟨AOu<|Aok Au Ae,Av⟩,trivial⟩
  ·refine Aki 14 true<|Ahc rfl (AOz<|Ahp rfl (AOv<|AO1 ?_));obtain rfl:=AOu<|ifT Aq Ar;refine AO6<|Ag7 ?_;obtain rfl:=AOu Ad;exact ⟨_,AO7,Aa.x,rfl⟩
 rintro ⟨⟩ Bv Bw ⟨Be,Af⟩;subst Be;refine AOx<|AOv<|AOr<|Aim Aj8 rfl (Af.o p0).rd (AOr<|AOz<|AO0<|Arf 534773828 Ad (λx=>[(21,(.int .i64 x))]) (λx=>Af.L) Af ⟨rfl,trivial⟩ ?_);rintro Bx By Bz B1 Ab Ag Aw;unfold Ap6 at Ag;refine AOv<|Ahn rfl rfl (AOz<|AOx<|⟨_,rfl,λAh=>?_,λAh=>?_⟩)
 ·refine AO5<|q_t<|AOx<|AO0<|AOv ?_;obtain ⟨B3,Ax,Bf⟩:=AOw<|Ahy Ag Ah;refine A18 Aj8 rfl (Ab.o p0) rfl Ax λB4 Bg=>?_;obtain ⟨B5,Bh,Bi⟩:=(Ab.o p0).cells Bg Ax;have Ay:=Ab.az Bh;refine Aum (c:=cZ) Aip rfl (Ay.z p0) (λj u hu=>(Bi j u hu)) (Aj4 Ay [.bool false,.slice none 0 0] Ams λB6 Bj B7 Az=>Anz Az p0 (Ahd Bj) (Az.z p1) λB8 Ac=>Apt<|Asj (Ac.z p1) (Ac.b p0) ?_);obtain ⟨B9,Bl,A3⟩:=AOw Bf;refine Akb Ac (A4i (Ac.z p1).2 Bl) λCa Cb A4=>A3r rfl rfl (AOz<|⟨_,rfl,λAi=>?_,λAi=>?_⟩)
  ·refine AOv<|AO1<|AO6<|Ail<|Ag7<|Ag7<|Ail<|Ag7 ?_;obtain rfl:=AOu<|Aw _ (AOu<|Ahy A3 Ai).symm;exact ⟨_,AO7,A4.x,rfl⟩
  ·refine AO5<|q_b<|q_t<|Ag6<|Ahk rfl rfl (AOr<|AOz ?_);exact ⟨_,(AOu<|Ahz A3 Ai).symm,A4.sel [2] AOs,rfl,trivial⟩
 ·refine Ahf<|Ahg<|Ahg<|Aio<|q_t<|AOv<|AO1<|AO6 ?_;obtain rfl:=AOu<|Aw _ (AOu<|Ahz Ag Ah).symm;exact ⟨_,AO7,Ab.x,rfl⟩
def Ajr (fuel:Nat) (a3:LiI):Option Int:=
 (Ala fuel a3).bind λ(x5,x6)=>if (!x6)=true then some 3 else if 8 < x5 then some 3 else (Ak4 fuel a3).bind λAd=>if (!Ad)=true then some 4 else (Am6 fuel a3).bind λAe=>if (!Ae)=true then some 5 else some 0
theorem Ap7 {r:Int} (H2:Ajw cZ h Ah a3) (hp:Ajr fuel a3=some r):Ahs Tryz.prog 61 #[Ah] h (λx h'=>Ext h h'/\x= .int .i64 r):=by
 unfold Ajr at hp;refine cwf (l:=[_]) Tryz.func61 rfl rfl (AOv<|Ah7<|AOr ?_);have K0:=Kst.k0 h;obtain ⟨⟨x5,x6⟩,Au,Ac⟩:=AOw hp;dsimp only at Ac;refine Akb K0 (Au3 (H2.ext K0.x) Au) λAy E9 Aa=>AOr<|Ait rfl rfl (Ait rfl rfl (Aho<|AO1<|AOx<|AO0<|AOv<|AOr<|Akc rfl (AOr ?_)));cases Ak:(!x6)
 ·refine Ahb 13 false<|AOr<|Ahb 13 false<|Anj rfl rfl (APd rfl (AO1 ?_));have Am:=Aok Ac Ak;refine ⟨_,rfl,λAd=>?_,λAd=>?_⟩
  ·refine AOv<|AO1<|AO6<|Ail<|Ag7 ?_;obtain rfl:=AOu<|Ahy Am Ad;exact ⟨_,AO7,Aa.x,rfl⟩
  ·refine AOv<|AOr ?_;obtain ⟨A3,Av,Ao⟩:=AOw<|Ahz Am Ad;refine Akb Aa (Aty (H2.ext Aa.x) Av) λA4 A5 Ae=>Akc rfl (AO1<|⟨_,rfl,λAf=>?_,λAf=>?_⟩)
   ·refine AOv<|AO1<|AO6<|Ail<|Ag7 ?_;obtain rfl:=AOu<|ifT Ao Af;exact ⟨_,AO7,Ae.x,rfl⟩
   ·refine AOv<|AOr ?_;obtain ⟨A6,Aw,Ap⟩:=AOw<|Aok Ao Af;refine Akb Ae (Ax3 (H2.ext Ae.x) Aw) λA7 A8 Aq=>Akc rfl (AO1<|⟨_,rfl,λAg=>?_,λAg=>?_⟩)
    ·refine AOv<|AO1<|AO6<|Ail<|Ag7 ?_;obtain rfl:=AOu<|ifT Ap Ag;exact ⟨_,AO7,Aq.x,rfl⟩
    ·refine AO5<|q_b<|q_t<|AOv<|AO1<|AO6 ?_;obtain rfl:=AOu<|Aok Ap Ag;exact ⟨_,AO7,Aq.x,rfl⟩
 ·refine Aqc 13 true<|Ahc rfl (AO1<|Ahp rfl (AOv<|AO1<|AO6<|Ail<|Ag7 ?_));obtain rfl:=AOu<|ifT Ac Ak;exact ⟨_,AO7,Aa.x,rfl⟩
def Ak5 (fuel:Nat) (a3 a7:LiI):Option LiI:=
 (Ak3 fuel a7).bind λ(x9,Af)=>(Ajj fuel x9 a3).bind λAd=>(Ajj fuel Ad a7).bind λAe=>some Ae
theorem Axs {a7 r:LiI} (H2:Ajw cZ h Ad a3) (H6:Ajw cZ h Af a7) (hp:Ak5 fuel a3 a7=some r):Ahs Tryz.prog 70 #[Ad,Af] h (λx h'=>Ext h h'/\ ∃ (x0:Value) (F0:List Nat) (Ap:List LnA) (Aq:List Value),x=x0/\Aj1 cZ 146 129 h' F0 Ap Aq x0 r/\Sp h' h.size [F0]):=by
 unfold Ak5 at hp;refine cwf (l:=[_,_]) Tryz.func70 rfl rfl (AOv<|Ah7<|AOr ?_);have K0:=Kst.k0 h;obtain ⟨⟨x9,A6⟩,Ar,Am⟩:=AOw hp;dsimp only at Am;refine Aqs rfl (Atx (H6.ext K0.x) Ar) λA7 A8 Au Av=>?_;obtain ⟨A9,Ba,Bb,Bc,rfl,Aw,Ax⟩:=Av;refine AOr<|Ait rfl rfl (Ait rfl rfl (Aho<|Ah7<|AOr<|AOr ?_));have Aa:=K0.no2 Au Ax Aw;obtain ⟨Be,Ay,Az⟩:=AOw Am;refine Aux Aa (Aqf (Aa.o2 p0).rd (H2.ext Aa.x) Ay) λBf Bg Bh Bi Bj Bl Ab=>AOr ?_;obtain ⟨Bm,A3,A4⟩:=AOw Az;refine Aux Ab (Aqf (Ab.o2 p0).rd (H6.ext Ab.x) A3) λBn Bo Bp Bq Br Bt Ac=>AO1<|AO6 ?_;obtain rfl:=AOu A4;exact ⟨_,AO7,Ac.x,_,_,_,_,rfl,(Ac.o2 p0),Ac.s.sel [0] AOs⟩
def Aq2 (fuel:Nat) (a6:Int) (Ab Ac:LiA) (Aa:Int):Option ((LiA × LiA × Int) ⊕ (LiA × LiA)):=
 if Aa < a6 then if Ab.length<=100000000 then if Ac.length<=100000000 then some (.inl (Ab ++ [Aa],Ac ++ [Aa],w64<|Aa + 1)) else none else none else some<|.inr (Ab,Ac)
def Alb (fuel:Nat) (a3:LiI) (a5 a6:Int):Option Int:=
 (iter (λs=>Aq2 fuel a6 s.1 s.2.1 s.2.2) fuel ([],[],0)).bind (λ((Ab,Ac):LiA × LiA)=>if Ab.length<=100000000 then if Ac.length<=100000000 then (Amh fuel a3 (Ab ++ [a5])<|Ac ++ [a6]).bind λAf=>(Aif fuel Af).bind λAg=>some Ag else none else none)
theorem Aq3 {a6 r:Int} (H2:Ajw cZ h Ah a3) (hp:Alb fuel a3 a5 a6=some r):Ahs Tryz.prog 129 #[Ah,(.int .i64 a5),(.int .i64 a6)] h (λx h'=>Ext h h'/\ ∃ (x0:Value),x=x0/\ZZ h' x0 r):=by
 unfold Alb at hp;refine cwf (l:=[_,_,_]) Tryz.func129 rfl rfl (AOv<|Aj4 (Kst.k0 h) [.bool false,.slice none 0 0] Ams λb7 h8 Bt Au=>Apt<|Aho<|AO1<|AOx<|AOv<|AO1<|AO0 ?_);have Ak:=Kst.anil (cI .i64) 3<|Kst.anil (cI .i64) 3 Au;refine Amy 8388480 (λx:(LiA) × (Value) × LnA × (LiA) × (Value) × LnA × (Int)=>(x.1,x.2.2.2.1,x.2.2.2.2.2.2)) (([],(.slice none 0 0),[],[],(.slice none 0 0),[],0):(LiA) × (Value) × LnA × (LiA) × (Value) × LnA × (Int)) hp (λx=>[(7,x.2.1),(8,x.2.2.2.2.1),(9,(.int .i64 x.2.2.2.2.2.2))]) (λx=>(Ak.L.set 1<|aO (cI .i64) 3 x.2.2.1 x.2.1 x.1).set 0 (aO (cI .i64) 3 x.2.2.2.2.2.1 x.2.2.2.2.1 x.2.2.2.1)) Ak ⟨rfl,rfl,rfl,trivial⟩ ?_;rintro ⟨Bu,Bv,Bw,Bx,By,Bz,u32⟩ B1 B3 B4 Ac Af Av;unfold Aq2 at Af;refine AOx<|AOv<|AOr<|AOr<|Ahn rfl rfl (AOz<|⟨_,rfl,λAg=>?_,λAg=>?_⟩)
 ·refine AO5<|q_t<|AOx<|AO0<|AOv<|AOr<|AOr ?_;obtain ⟨Aw,Ax⟩:=ifN<|Ahy Af Ag;refine Ar6 A3d A3o rfl rfl trivial tt2 (λ_=>rfl) rfl (show ((cI .i64)).rep _ u32 [(.int .i64 u32)] from rfl) (Ac.o p1) AOs Aw λB5 B6 B7 B8 Ay Az A3=>AO1<|Ag6<|AOr<|AOr ?_;have Am:=Ac.uo p1 Az Ay A3;obtain ⟨A4,A5⟩:=ifN Ax;refine Ar6 A3d A3o rfl rfl trivial tt2 (λ_=>rfl) rfl (show ((cI .i64)).rep _ u32 [(.int .i64 u32)] from rfl) (Am.o p0) AOs A4 λB9 Ca Cb Cd A6 A7 A8=>Aho<|Ahh<|q_b<|q_t<|Ag6<|AOr<|Ahk rfl rfl (AO1 ?_);exact ⟨(_,_,_,_,_,_,_),(AOu A5).symm,(Am.uo p0 A7 A6 A8),rfl,rfl,rfl,trivial⟩
 ·refine Ahf<|Ahg<|Ahg<|Aio<|q_t<|AOv<|AOr<|AOr<|AOr ?_;obtain ⟨A9,Ba⟩:=ifN<|Av _ (AOu<|Ahz Af Ag).symm;refine Ar6 A3d A3o rfl rfl trivial tt2 (λ_=>rfl) rfl (show ((cI .i64)).rep _ a5 [(.int .i64 a5)] from rfl) (Ac.o p1) AOs A9 λCe Cf Cg Ch Bb Bc Be=>AOr<|AOr ?_;have Ao:=Ac.uo p1 Bc Bb Be;obtain ⟨Bf,Bg⟩:=ifN Ba;refine Ar6 A3d A3o rfl rfl trivial tt2 (λ_=>rfl) rfl (show ((cI .i64)).rep _ a6 [(.int .i64 a6)] from rfl) (Ao.o p0) AOs Bf λCi Cj Ck Cm Bh Bi Bj=>?_;have Ad:=Ao.uo p0 Bi Bh Bj;obtain ⟨Cn,Bl,Bm⟩:=AOw Bg;refine Aux Ad (Au4 (H2.ext Ad.x) (Ad.o p1).rd (Ad.o p0).rd Bl) λCo Cp Cq Cr Ct Cu Ap=>?_;obtain ⟨Cv,Bn,Bo⟩:=AOw Bm;refine Avd Ap (Ajt (Ap.o2 p0).rd Bn) λCw Bp Cx Aq=>Anz Aq p4 (Ahd Bp) (Aq.z p0) λCy Ae=>AOz<|AO6 ?_;obtain rfl:=AOu Bo;exact ⟨_,Ai3 Aip (cZ.klen<|Ae.z p0) rfl (Ae.b p4),Ae.x,_,rfl,(Ae.z p0).2⟩
def Ajk (fuel:Nat) (a3:LiA) (a5:Int):Option Int:=
 if a5=0 then (Ar9 fuel 1).bind λAc=>some Ac else (gI a3<|w64<|a5 - 1).bind λAd=>some Ad
theorem Alm {a3:LiA} {r:Int} (H2:SlC cZ h Af a3) (hp:Ajk fuel a3 a5=some r):Ahs Tryz.prog 130 #[Af,(.int .i64 a5)] h (λx h'=>Ext h h'/\ ∃ (x0:Value),x=x0/\ZZ h' x0 r):=by
 unfold Ajk at hp;refine cwf (l:=[_,_]) Tryz.func130 rfl rfl (AOv<|Aj4 (Kst.k0 h) [.bool false,.slice none 0 0] Ams λb6 h7 E9 Aa=>AOz<|AOx<|AOv<|AOr<|Ai0 rfl rfl (AOz<|⟨_,rfl,λAe=>?_,λAe=>?_⟩))
 ·refine AOv ?_;obtain ⟨Ay,Ao,Ap⟩:=AOw<|Ahy hp Ae;refine Avd Aa (Are Ao) λAz Aq A3 Aj=>Anz Aj p1 (Ahd Aq) (Aj.z p0) λA4 Ab=>AOz<|AO6<|Ag7 ?_;obtain rfl:=AOu Ap;exact ⟨_,Ai3 Aip (cZ.klen<|Ab.z p0) rfl (Ab.b p1),Ab.x,_,rfl,(Ab.z p0).2⟩
 ·refine AO5<|q_t<|AOv<|AOr<|AOr<|Amr rfl rfl ?_;obtain ⟨A5,Ar,Au⟩:=AOw<|Ahz hp Ae;refine Aqu (c:=cZ) Aj8 rfl H2 rfl Ar λA6 A7 A8 Ac Av=>Aum (c:=cZ) Aip rfl (Aa.zx Ac) (λj u hu=>(AO8 (Av j u hu) Aa.x)) (Anz Aa p0 (Ahd h7) (Aa.zx Ac) λA9 Ad=>AOz<|AO6 ?_);obtain rfl:=AOu Au;exact ⟨_,Ai3 Aip (cZ.klen<|Ad.zx Ac) rfl (Ad.b p0),Ad.x,_,rfl,(Ad.zx Ac).2⟩
def Am0 (fuel:Nat) (a3:LiI) (a7:LiA) (a9 Aa:Int):Option Bool:=
 (Ar9 fuel 2).bind λAe=>(Alb fuel a3 a9 Aa).bind λAf=>(BE5 fuel Af).bind λAg=>(Ayo fuel Ae Ag).bind λAh=>(Ajk fuel a7<|w64<|Aa + 1).bind λAi=>(A8s fuel Ah Ai).bind λAj=>some<|decide (Aj<=0)
theorem Avf {a7:LiA} {Ah:Int} {r:Bool} (H2:Ajw cZ h Ac a3) (H6:SlC cZ h Ae a7) (hp:Am0 fuel a3 a7 a9 Ah=some r):Ahs Tryz.prog 123 #[Ac,Ae,(.int .i64 a9),(.int .i64 Ah)] h (λx h'=>Ext h h'/\x= .bool r):=by
 unfold Am0 at hp;refine cwf (l:=[_,_,_,_]) Tryz.func123 rfl rfl (AOv<|Ah7 ?_);obtain ⟨A7,Ap,Aq⟩:=AOw hp;refine Avd (Kst.k0 h) (Are Ap) λA8 A9 Ba Ai=>AOr<|AOr<|AOr ?_;obtain ⟨Bb,Ar,Au⟩:=AOw Aq;refine Avd Ai (Aq3 (H2.ext Ai.x) Ar) λBc Be Bf Aj=>?_;obtain ⟨Bg,Av,Aw⟩:=AOw Au;refine Avd Aj (BDm (Aj.z p0).2 Av) λBh Bi Bj Aa=>?_;obtain ⟨Bl,Ax,Ay⟩:=AOw Aw;refine Avd Aa (Axq (Aa.z p2).2 (Aa.z p0).2 Ax) λBm Bn Bo Ak=>AOr<|AOr<|Ahk rfl rfl ?_;obtain ⟨Bp,Az,A3⟩:=AOw Ay;refine Avd Ak (Alm (H6.ext Ak.x) Az) λBq Br Bt Ab=>?_;obtain ⟨Bu,A4,A5⟩:=AOw A3;refine Akb Ab (A7i (Ab.z p1).2 (Ab.z p0).2 A4) λBv Bw A6=>A3r rfl rfl (AO1<|AO6 ?_);obtain rfl:=AOu A5;exact ⟨_,AO7,A6.x,rfl⟩
def Am1 (fuel:Nat) (a3:LiI):Option Bool:=
 (Aif fuel a3).bind λx5=>(Ar9 fuel 10000).bind λAc=>(A8s fuel x5 Ac).bind λAd=>some<|decide (Ad<=0)
theorem Avg {Ab:Value} {r:Bool} (H2:Ajw cZ h Ab a3) (hp:Am1 fuel a3=some r):Ahs Tryz.prog 62 #[Ab] h (λx h'=>Ext h h'/\x= .bool r):=by
 unfold Am1 at hp;refine cwf (l:=[_]) Tryz.func62 rfl rfl (AOv<|Ah7<|AOr ?_);have K0:=Kst.k0 h;obtain ⟨x5,Af,Ag⟩:=AOw hp;refine Avd K0 (Ajt (H2.ext K0.x) Af) λAq h9 E8 Ah=>?_;obtain ⟨Av,Ai,Aj⟩:=AOw Ag;refine Avd Ah (Are Ai) λAw Ax Ay Aa=>?_;obtain ⟨Az,Ak,Am⟩:=AOw Aj;refine Akb Aa (A7i (Aa.z p1).2 (Aa.z p0).2 Ak) λA3 A4 Ao=>A3r rfl rfl (AO1<|AO6 ?_);obtain rfl:=AOu Am;exact ⟨_,AO7,Ao.x,rfl⟩
def Aso (fuel:Nat) (a1:Int) (a2:Bool) (Aa:Int) (Ac:LiI):Option ((Int × LiI) ⊕ LiI):=
 if Aa < ((List.replicate (Int.toNat a1) ([]:List Int)).length:Int) then if 0<=a1/\a1<=100000000 then (gI Ac Aa).bind λAi=>(gI (sI Ac Aa<|List.replicate (Int.toNat a1) (0:Int)) Aa).bind λAe=>(gI Ae Aa).bind λAj=>((if a2=true then if Aa=w64 (a1 - 1) then if 3 < a1 then some (w64<|Aa - 2) else some (w64<|Aa - 1) else some (w64<|Aa - 1) else some<|w64<|Aa - 1):Option Int).bind (λ(Ad:Int)=>if 0<=Ad then (gI (sI (sI Ac Aa<|List.replicate (Int.toNat a1) (0:Int)) Aa<|sI Ae Aa 2) Aa).bind λAf=>(gI (sI (sI Ac Aa<|List.replicate (Int.toNat a1) (0:Int)) Aa<|sI Ae Aa 2) Ad).bind λAk=>(gI Af Ad).bind λAm=>(gI (sI (sI (sI Ac Aa<|List.replicate (Int.toNat a1) (0:Int)) Aa<|sI Ae Aa 2) Aa<|sI Af Ad<|-1) Ad).bind λAg=>(gI Ag Aa).bind λAo=>some (.inl (w64<|Aa + 1,sI (sI (sI (sI Ac Aa<|List.replicate (Int.toNat a1) (0:Int)) Aa<|sI Ae Aa 2) Aa<|sI Af Ad<|-1) Ad<|sI Ag Aa<|-1)) else some<|.inl (w64<|Aa + 1,sI (sI Ac Aa<|List.replicate (Int.toNat a1) (0:Int)) Aa<|sI Ae Aa 2)) else none else some<|.inr Ac
def Anq (fuel:Nat) (a1:Int) (a2:Bool):Option LiI:=
 if 0<=a1/\a1<=100000000 then (iter (λs=>Aso fuel a1 a2 s.1 s.2) fuel (0,List.replicate (Int.toNat a1) ([]:List Int))).bind (λ(Ac:LiI)=>some Ac) else none
theorem Avz {a2:Bool} {r:LiI} (hp:Anq fuel a1 a2=some r):Ahs Tryz.prog 73 #[(.int .i64 a1),(.bool a2)] h (λx h'=>Ext h h'/\ ∃ (x0:Value) (F0:List Nat) (A5:List LnA) (A6:List Value),x=x0/\Aj1 (cI .i64) 61 2 h' F0 A5 A6 x0 r/\Sp h' h.size [F0]):=by
 unfold Anq at hp;refine cwf (l:=[_,_]) Tryz.func73 rfl rfl (AOv<|Ah7<|AOr ?_);obtain ⟨A7,A8⟩:=ifN hp;refine Ayj (cI .i64) 2 APa As9 rfl trivial tt2 rfl rfl AOs A7 λA9 Ba Bb v9 h7 I8 E5 S6=>AO1<|AOx<|AOv<|AOr ?_;have Ai:=(Kst.k0 h).no2 E5 S6 I8;refine Ahx APa rfl (Ai.o2 p0).rd (AOr<|AOz<|AO0<|Amy 72057594037924032 (λx:(Int) × (LiI) × LnA × LnN × LvA=>(x.1,x.2.1)) ((0,(List.replicate (Int.toNat a1) ([]:List Int)),A9,Ba,Bb):(Int) × (LiI) × LnA × LnN × LvA) A8 (λx=>[(12,(.int .i64 x.1))]) (λx=>Ai.L.set 0<|aO2 (cI .i64) 61 2 x.2.2.1 x.2.2.2.1 x.2.2.2.2 v9 x.2.1) Ai ⟨rfl,trivial⟩ ?_);rintro ⟨Aa,Cj,Ck,Cm,Cn⟩ Co Cp Cq Ae Aj Bh;unfold Aso at Aj;refine AOv<|Ahn rfl rfl (AOz<|AOx<|⟨_,rfl,λAk=>?_,λAk=>?_⟩)
 ·refine AO5<|q_t<|AOx<|AO0<|AOv<|AOr<|Ah7<|AOr<|AOr<|AOr ?_;obtain ⟨Bi,Bj⟩:=ifN<|Ahy Aj Ak;refine Awz (c:=(cI .i64)) (a:=0) APe Ars rfl rfl (λ_=>rfl) rfl trivial tt2 rfl rfl AOs Bi λCr Ct Cu Bl Bm Bn Bo=>?_;have Ab:=Ae.no Bm (Anw Bn Bo) Bl;obtain ⟨Cv,Ar,Bp⟩:=AOw Bj;refine Aij APa rfl (Ab.o2 p1) rfl Ar λCw Cx Bq Cy Cz=>Azf Aha (Ab.o2 p1) Ar Bq rfl rfl (Ab.o p0) (Ab.dj p0 p1 AOs) λC0 Br Bt Bu=>Apt<|AOr<|AOr ?_;have Au:=Ab.m2 p0 p1 AOs Bt Br λz hz=> .inl<|Bu z hz;obtain ⟨C1,Av,Bv⟩:=AOw Bp;refine Aiw APa Aha (Au.o2 p1) Av λ_ C2 Bw=>AOr ?_;obtain ⟨C3,Bx,By⟩:=AOw Bv;refine Aqv (m:=Aa) Au p1 APe AO9 Bw Av Bx (λ_=>rfl) λ_ C4 Ac=>Apt<|AOr<|Amr rfl rfl (AO1 ?_);obtain ⟨Bz,Aw,Ax⟩:=AOw By;refine Arb 2198754820224 (λx:(Int)=>[(7,(.int .i64 x))]) (λx h'=>( x)=Bz/\Kst h h' (Aoz Ac.L [1])) ?_ ?_
  ·refine AOv<|AOr<|AOr ?_;cases Ay:a2
   ·refine Alf 29 false<|APd rfl (AOr<|Aqc 35 false<|APd rfl (AOz<|Aht rfl (AO5<|q_t ?_)));exact ⟨((w64<|Aa - 1):(Int)),⟨AOu<|Aok Aw Ay,Ac.sel [1] AOs⟩,rfl,trivial⟩
   ·refine Ahb 29 true<|AOr<|Ahb 29 true<|AOr<|Ahb 29 true<|Amr rfl rfl (Ahb 29 true<|Ai0 rfl rfl (Ahc rfl (AOr ?_)));have Az:=ifT Aw Ay;by_cases Af:Aa=(w64<|a1 - 1)
    ·have A3:=ifT Az Af;rw [decide_eq_true Af];refine Ahb 35 true<|AOr<|Ahb 35 true<|Anj rfl rfl (Ahc rfl (AOz<|⟨_,rfl,λAm=>?_,λAm=>?_⟩))
     ·refine Ag6<|AOr<|Amr rfl rfl (AO1 ?_);exact ⟨((w64<|Aa - 2):(Int)),⟨AOu<|Ahy A3 Am,Ac.sel [1] AOs⟩,rfl,trivial⟩
     ·refine AO5<|q_t ?_;exact ⟨((w64<|Aa - 1):(Int)),⟨AOu<|Ahz A3 Am,Ac.sel [1] AOs⟩,rfl,trivial⟩
    ·rw [decide_eq_false Af];refine Aqc 35 false<|APd rfl (AOz<|Aht rfl (AO5<|q_t ?_));exact ⟨((w64<|Aa - 1):(Int)),⟨AOu<|ifF Az Af,Ac.sel [1] AOs⟩,rfl,trivial⟩
  rintro B1 C5 C6 ⟨B3,Ag⟩;subst B3;refine AOv<|AOr<|At7 rfl rfl (AOz<|⟨_,rfl,λAo=>?_,λAo=>?_⟩)
  ·refine Ame<|AOr<|AOr ?_;obtain ⟨C7,A4,B4⟩:=AOw<|Ahy Ax Ao;refine Aiw APa Aha (Ag.o2 p0) A4 λ_ C8 B5=>AOr<|AOr<|AOr ?_;obtain ⟨C9,B6,B7⟩:=AOw B4;refine Aiw APa Aha (Ag.o2 p0) B6 λ_ Da B8=>AOr ?_;obtain ⟨Db,B9,Ca⟩:=AOw B7;refine Aqv (m:=Aa) Ag p0 APe AO9 B5 A4 B9 (λ_=>rfl) λ_ Dc Cb=>?_;obtain ⟨Dd,Cd,Ce⟩:=AOw Ca;obtain ⟨De,Cf,Cg⟩:=AOw Ce;refine Aqv (m:=B1) Cb p0 APe AO9 B8 Cd Cf (λ_=>rfl) λ_ Df Ch=>Ahh<|q_b<|q_t<|Ag6<|Ahk rfl rfl (AOr<|AOz ?_);exact ⟨(_,_,_,_,_),(AOu Cg).symm,Ch,rfl,trivial⟩
  ·refine AO5<|q_b<|q_t<|Ag6<|Ahk rfl rfl (AOr<|AOz ?_);exact ⟨(_,_,_,_,_),(AOu<|Ahz Ax Ao).symm,Ag,rfl,trivial⟩
 ·refine Ahf<|Ahg<|Ahg<|Aio<|q_t<|AOv<|AOr<|AO1<|AO6 ?_;obtain rfl:=AOu<|Bh _ (AOu<|Ahz Aj Ak).symm;exact ⟨_,AO7,Ae.x,_,_,_,_,rfl,(Ae.o2 p0),Ae.s.sel [0] AOs⟩
def Apw (fuel:Nat) (a3:LiI):Option Bool:=
 (Ak9 fuel a3).bind λx5=>(Ajr fuel x5).bind λAc=>if Ac=0 then (Aif fuel x5).bind λAd=>(Ar9 fuel 10000).bind λAe=>(A8s fuel Ad Ae).bind λAf=>some (decide (Af<=0)) else some false
theorem A05 {r:Bool} (H2:Ajw (cI .i64) h Ad a3) (hp:Apw fuel a3=some r):Ahs Tryz.prog 76 #[Ad] h (λx h'=>Ext h h'/\x= .bool r):=by
 unfold Apw at hp;refine cwf (l:=[_]) Tryz.func76 rfl rfl (AOv<|Ah7<|AOr ?_);have K0:=Kst.k0 h;obtain ⟨x5,Aj,Ak⟩:=AOw hp;refine Aux K0 (Aqn (H2.ext K0.x) Aj) λA3 A4 A5 A6 h9 E8 Ag=>Ah7<|AOr ?_;obtain ⟨Am,Ao,Ah⟩:=AOw Ak;refine Akb Ag (Ap7 (Ag.o2 p0).rd Ao) λA9 Ba Ab=>Ai0 rfl rfl (AOr ?_);by_cases Aa:Am=0
 ·rw [decide_eq_true Aa];refine Ahb 9 true<|AOr<|Ahb 9 true ?_;obtain ⟨Bb,Ap,Aq⟩:=AOw<|ifT Ah Aa;refine Avd Ab (Ajt (Ab.o2 p0).rd Ap) λBc Be Bf Ar=>Ahb 9 true ?_;obtain ⟨Bg,Au,Av⟩:=AOw Aq;refine Avd Ar (Are Au) λBh Bi Bj Ac=>Ahb 9 true ?_;obtain ⟨Bl,Aw,Ax⟩:=AOw Av;refine Akb Ac (A7i (Ac.z p1).2 (Ac.z p0).2 Aw) λBm Bn Ay=>Ahb 9 true<|A3r rfl rfl (Ahc rfl (AO1<|AO6 ?_));obtain rfl:=AOu Ax;exact ⟨_,AO7,Ay.x,rfl⟩
 ·rw [decide_eq_false Aa];refine An1 9 false<|APd rfl (AO1<|AO6 ?_);obtain rfl:=AOu<|ifF Ah Aa;exact ⟨_,AO7,Ab.x,rfl⟩
def Atj (fuel:Nat) (Ab Aa:Int):Option ((Int × Int) ⊕ Int):=
 (A45 fuel Aa).bind λAc=>if ¬ Ac=0 then (Alq fuel Ab Aa).bind λAd=>some (.inl (Aa,Ad)) else some<|.inr Ab
def Apx (fuel:Nat) (a1 a5:Int):Option Int:=
 (BE5 fuel a1).bind λAc=>(BE5 fuel a5).bind λAd=>(iter (λs=>Atj fuel s.1 s.2) fuel (Ac,Ad)).bind (λ(Ae:Int)=>some Ae)
theorem A06 {Aq:Value} {Au:Value} {r:Int} (H3:ZZ h Aq a1) (H7:ZZ h Au a5) (hp:Apx fuel a1 a5=some r):Ahs Tryz.prog 212 #[Aq,Au] h (λx h'=>Ext h h'/\ ∃ (x0:Value),x=x0/\ZZ h' x0 r):=by
 unfold Apx at hp;obtain ⟨Bj,rfl,Ax⟩:=H3.cs;obtain ⟨Bl,rfl,Ay⟩:=H7.cs;refine cwf (l:=[_,_]) Tryz.func212 rfl rfl (AOv<|Ano (Kst.k0 h) Bj λb9 Cp Cq Bm=>Ano Bm Bl λCr Ct Cu Bn=>Aj4 Bn [.bool false,.slice none 0 0] Ams λCv Ak Cw Ab=>AOz<|AOx ?_);have Am:UpT [] Ak Ak:=UpT.start all_nil;refine A02 (B:=λh'=>UpT [] Ak h') 4 [⟨5,129,[.bool false,.slice none 0 0]⟩,⟨6,129,[.bool false,.slice none 0 0]⟩] (λ_ _ U E=>U.thenE E) AO4 Am (BDg rfl rfl Ams rfl Ams rfl (λ_ _ U E=>U.thenE E))<|h_l rfl (Avw (Ab.zx Ax) Am (Ab.b p2)<|Ahh<|h_e rfl λCx Az=>?_);have A3:=Ab.e Az;obtain ⟨Bo,Bp,Bq⟩:=AOw hp;refine Am4 A3 (Am.thenE Az) (BDm (A3.zx Ax).2 Bp) λA4 Cy Br A5 A6=>Ahh ⟨Br,?_⟩;refine h_l rfl (Avw (A5.zx Ay) A6 (Ab.b p1)<|Ahh<|h_e rfl λCz A7=>?_);have A8:=A5.e A7;obtain ⟨Bt,Bu,Bv⟩:=AOw Bq;refine Am4 A8 (A6.thenE A7) (BDm (A8.zx Ay).2 Bu) λA9 C0 Bw Bx By=>Ahh ⟨Bw,?_⟩;refine A7h λBz Ba=>BPk λB1 B3 Bb Bc B4 B5 B6 C1 C2=>?_;have Be:=Bx.e Ba;have Ae:=((Ab.nb2 (By.thenE Ba).ext (BDh B5 B6 Bb.lt Bc.lt B4) Bb Bc).az (Be.z p1)).az (Be.z p0);refine Ai5 A4 Aip (cZ.klen<|Ae.z p1) (cZ.klen<|Ahd Bz) rfl rfl (cZ.one<|Ae.z p1) (Ae.b p2) λB7 B8 B9=>?_;have Af:=Ae.sb p2 B9 B8 rfl;refine Ai5 A9 Aip (cZ.klen<|Af.z p0) (cZ.klen<|Ahd B7) rfl rfl (cZ.one<|Af.z p0) (Af.b p3) λC3 Ca Cb=>AOz<|AOx<|AO0 ?_;have Ao:=(Af.sb p3 Cb Ca rfl).sel [0,1,2,3,4] AOs;dsimp only [Aoz,Ar4] at Ao;refine Amy 260096 (λx:(Int) × LvA × (Int) × LvA=>(x.1,x.2.2.1)) ((Bo,A4,Bt,A9):(Int) × LvA × (Int) × LvA) Bv (λx=>[]) (λx=>(((Ao.L.set 1<|aZ x.2.1 x.1).set 0 (aZ x.2.2.2 x.2.2.1)).set 2 (aB 129 B1 x.2.1)).set 3 (aB 129 B3 x.2.2.2)) Ao trivial ?_;rintro ⟨C4,C5,C6,Cd⟩ C7 C8 C9 Ag Bf Ce;unfold Atj at Bf;refine AOx<|AOv<|Asj (Ag.z p0) (Ag.b p3) ?_;obtain ⟨Da,Cf,Bg⟩:=AOw Bf;refine Akb Ag (A4i (Ag.z p0).2 Cf) λAh Db Aa=>Ajs rfl rfl (AOz<|⟨_,rfl,λAp=>?_,λAp=>?_⟩)
 ·refine AO5<|q_t<|AO0<|Ai1 (λh'=>UpT [] Ah h') AO4 ?_;have Ai:UpT [] Ah Ah:=UpT.start all_nil;refine Avw (Aa.z p0) Ai (Aa.b p3)<|Avw (Aa.z p1) Ai (Aa.b p2)<|Avw (Aa.z p0) Ai (Aa.b p3) ?_;obtain ⟨Dc,Cg,Ch⟩:=AOw<|Ahy Bg Ap;refine Am4 Aa Ai (Awl (Aa.z p1).2 (Aa.z p0).2 Cg) λCi Dd De Ac Df=>Ai5 Cd Aip (cZ.klen<|Ac.z p1) (cZ.klen<|Ac.z p2) rfl rfl (cZ.one<|Ac.z p1) (Ac.b p3) λDg Cj Ck=>?_;have Ad:=Ac.sb p3 Ck Cj rfl;refine Ai5 Ci Aip (cZ.klen<|Ad.z p0) (cZ.klen<|Ad.z p1) rfl rfl (cZ.one<|Ad.z p0) (Ad.b p4) λDh Cm Cn=>Ahh<|q_b<|q_t ?_;exact ⟨(_,_,_,_),(AOu Ch).symm,(Ad.sb p4 Cn Cm rfl).sel [0,1,3,4,5] AOs,trivial⟩
 ·refine Ahf<|Ahg<|Ahg<|Aio<|q_t<|AOv<|Asj (Aa.z p1) (Aa.b p2)<|Anz Aa p4 (Ahd Ah) (Aa.z p1) λDi Aj=>AOz<|AO6 ?_;obtain rfl:=AOu<|Ce _ (AOu<|Ahz Bg Ap).symm;exact ⟨_,Ai3 Aip (cZ.klen<|Aj.z p1) rfl (Aj.b p4),Aj.x,_,rfl,(Aj.z p1).2⟩
def Aog (fuel:Nat) (a1 a5:Int):Option ((Int × Int) × Bool):=
 (A45 fuel a5).bind λAf=>if Af=0 then some ((0,0),false) else (((A45 fuel a5).bind λAg=>if Ag < 0 then (BBk fuel a1).bind λAh=>(BBk fuel a5).bind λAi=>some (Ah,Ai) else some (a1,a5)):Option (Int × Int)).bind (λ((Ac,Ad):Int × Int)=>(Apx fuel Ac Ad).bind λAe=>(Ajy fuel Ac Ae).bind λAj=>(Ajy fuel Ad Ae).bind λAk=>some ((Aj,Ak),true))
theorem Awm {A4:Value} {A5:Value} {r:((Int × Int) × Bool)} (H3:ZZ h A4 a1) (H7:ZZ h A5 a5) (hp:Aog fuel a1 a5=some r):Ahs Tryz.prog 201 #[A4,A5] h (λx h'=>Ext h h'/\ ∃ (x0:Value),x= .tuple #[x0,.bool r.2]/\A52 h' x0 r.1.1 r.1.2):=by
 unfold Aog at hp;obtain ⟨A7,rfl,Am⟩:=H3.cs;obtain ⟨A8,rfl,Ab⟩:=H7.cs;refine cwf (l:=[_,_]) Tryz.func201 rfl rfl (AOv<|Ano (Kst.k0 h) A7 λb9 Cq Cr Bo=>Ano Bo A8 λBp Ct Cu Bq=>Aj4 Bq [.bool false,.slice none 0 0,.bool false,.slice none 0 0] Axr λCv Cw Cx Ao=>AO1<|AOx<|AOv<|Asj (Ao.zx Ab) (Ao.b p1) ?_);obtain ⟨Cy,Br,A9⟩:=AOw hp;refine Akb Ao (A4i (Ao.zx Ab).2 Br) λAg Cz Ad=>Ai0 rfl rfl (AOz<|⟨_,rfl,λAu=>?_,λAu=>?_⟩)
 ·refine AOv<|Alh (BDi )<|Ai5 ([Value.bool false,Value.slice none 0 0] ++ [Value.bool false,Value.slice none 0 0]) An2 (Ajf (Ahd Ag)<|Ahd Ag) (Ajf (Ahd Ag)<|Ahd Ag) rfl rfl (Aub (Ahd Ag)<|Ahd Ag) (Ad.b p0) λAp Bt Bu=>AO1<|AO6<|Ag7 ?_;have Ba:=Ad.sb p0 Bu Bt rfl;obtain rfl:=AOu<|Ahy A9 Au;exact ⟨_,A4a An2 (Ajf (Ahd Ap)<|Ahd Ap) rfl (Ba.b p0),Ba.x,_,rfl,⟨_,_,rfl,(Ahd Ap),(Ahd Ap)⟩⟩
 ·refine AO5<|q_t ?_;obtain ⟨Bv,Bw,Bx⟩:=AOw<|Ahz A9 Au;refine Arb 260096 (λx:(Int) × LvA × (Int) × LvA=>[]) (λx h'=>( (x.1,x.2.2.1))=Bv/\Kst h h' (aZ x.2.1 x.1 :: aZ x.2.2.2 x.2.2.1 :: ((Ad.L.set 2<|aB 129 b9 x.2.1).set 1 (aB 129 Bp x.2.2.2)))) ?_ ?_
  ·refine AOv<|Asj (Ad.zx Ab) (Ad.b p1) ?_;obtain ⟨C0,By,Bb⟩:=AOw Bw;refine Akb Ad (A4i (Ad.zx Ab).2 By) λAv C1 Ae=>Ahn rfl rfl (AOz<|⟨_,rfl,λAw=>?_,λAw=>?_⟩)
   ·refine Ai1 (λh'=>UpT [] Av h') AO4 ?_;have Bc:UpT [] Av Av:=UpT.start all_nil;refine Avw (Ae.zx Am) Bc (Ae.b p2) ?_;obtain ⟨Bz,B1,B3⟩:=AOw<|Ahy Bb Aw;refine Am4 Ae Bc (A9x (Ae.zx Am).2 B1) λBe C2 C3 Ax Bf=>Avw (Ax.zx Ab) Bf (Ae.b p1) ?_;obtain ⟨B4,B5,B6⟩:=AOw B3;refine Am4 Ax Bf (A9x (Ax.zx Ab).2 B5) λBg C4 C5 Ai C6=>Ai5 Be Aip (cZ.klen<|Ai.z p1) (cZ.klen<|Ai.zx Am) rfl rfl (cZ.one<|Ai.z p1) (Ai.b p4) λC7 B7 B8=>?_;have Aj:=Ai.sb p4 B8 B7 rfl;refine Ai5 Bg Aip (cZ.klen<|Aj.z p0) (cZ.klen<|Aj.zx Ab) rfl rfl (cZ.one<|Aj.z p0) (Aj.b p3) λC8 B9 Ca=>AOz ?_;exact ⟨((Bz,Be,B4,Bg):(Int) × LvA × (Int) × LvA),⟨AOu B6,(Aj.sb p3 Ca B9 rfl).sel [1,0,2,3,4] AOs⟩,trivial⟩
   ·refine AO5<|q_t ?_;have Bh:=Ae.az<|Ae.zx Am;exact ⟨((a1,A7,a5,A8):(Int) × LvA × (Int) × LvA),⟨AOu<|Ahz Bb Aw,(Bh.az<|Bh.zx Ab).sel [1,0,2,3,4] AOs⟩,trivial⟩
  rintro ⟨C9,Da,Db,Dc⟩ Dd De ⟨Cb,Af⟩;subst Cb;refine AOv<|Asj (Af.z p0) (Af.b p4)<|Asj (Af.z p1) (Af.b p3) ?_;obtain ⟨Df,Cd,Ce⟩:=AOw Bx;refine Avd Af (A06 (Af.z p0).2 (Af.z p1).2 Cd) λDg Dh Di Cf=>Aj4 Cf [.bool false,.slice none 0 0] Ams λDj Cg Dk Bi=>Anz Bi p0 (Ahd Cg) (Bi.z p1) λAy Aa=>AOz<|AOx<|Ai1 (λh'=>UpT [] Ay h') AO4 ?_;have Az:UpT [] Ay Ay:=UpT.start all_nil;refine Avw (Aa.z p2) Az (Aa.b p6)<|Avw (Aa.z p1) Az (Aa.b p0) ?_;obtain ⟨Dl,Ch,Ci⟩:=AOw Ce;refine Am4 Aa Az (Ap1 (Aa.z p2).2 (Aa.z p1).2 Ch) λCj Do Dp Ak A3=>Avw (Ak.z p4) A3 (Aa.b p5)<|Avw (Ak.z p2) A3 (Aa.b p0) ?_;obtain ⟨Dq,Ck,Cm⟩:=AOw Ci;refine Am4 Ak A3 (Ap1 (Ak.z p4).2 (Ak.z p2).2 Ck) λCn Bj Dr Ac Ds=>Alh (A2w (Ac.z p1)<|Ac.z p0)<|Ai5 (Cj ++ Cn) An2 (Ajf (Ac.z p1)<|Ac.z p0) (Ajf (Ahd Bj)<|Ahd Bj) rfl rfl (Aub (Ac.z p1)<|Ac.z p0) (Ac.b p6) λDt Co Cp=>AO1<|AO6 ?_;have Ah:=Ac.sb p6 Cp Co rfl;obtain rfl:=AOu Cm;exact ⟨_,A4a An2 (Ajf (Ah.z p1)<|Ah.z p0) rfl (Ah.b p6),Ah.x,_,rfl,⟨_,_,rfl,(Ah.z p1),(Ah.z p0)⟩⟩
def At8 (fuel:Nat) (a1:Int):Option (Int × Int):=
 (Azg fuel a1).bind λAb=>(Ar9 fuel 1).bind λAc=>some (Ab,Ac)
theorem Azt {r:(Int × Int)} (H3:ZZ h Ad a1) (hp:At8 fuel a1=some r):Ahs Tryz.prog 213 #[Ad] h (λx h'=>Ext h h'/\ ∃ (x0:Value),x=x0/\A52 h' x0 r.1 r.2):=by
 unfold At8 at hp;obtain ⟨Aj,rfl,Ag⟩:=H3.cs;refine cwf (l:=[_]) Tryz.func213 rfl rfl (AOv<|Ano (Kst.k0 h) Aj λb5 h6 E8 Ak=>Aj4 Ak [.bool false,.slice none 0 0,.bool false,.slice none 0 0] Axr λA4 A5 A6 Ac=>Apt<|Asj (Ac.zx Ag) (Ac.b p1) ?_);obtain ⟨A7,Am,Ao⟩:=AOw hp;refine Avd Ac (A01 (Ac.zx Ag).2 Am) λAp A8 A9 Aq=>?_;obtain ⟨Ba,Ar,Au⟩:=AOw Ao;refine Avd Aq (Are Ar) λAv Ah Bb Aa=>Alh (A2w (Aa.z p1)<|Aa.z p0)<|Ai5 (Ap ++ Av) An2 (Ajf (Aa.z p1)<|Aa.z p0) (Ajf (Ahd Ah)<|Ahd Ah) rfl rfl (Aub (Aa.z p1)<|Aa.z p0) (Aa.b p2) λBc Aw Ax=>AOz<|AO6 ?_;have Ab:=Aa.sb p2 Ax Aw rfl;obtain rfl:=AOu Au;exact ⟨_,Ai3 An2 (Ajf (Ab.z p1)<|Ab.z p0) rfl (Ab.b p2),Ab.x,_,rfl,⟨_,_,rfl,(Ab.z p1),(Ab.z p0)⟩⟩
def At9 (fuel:Nat) (a1:Int):Option (Int × Int):=
 (Ar9 fuel a1).bind λx9=>(At8 fuel x9).bind λAa=>some (Aa.1,Aa.2)
theorem Azu {r:(Int × Int)} (hp:At9 fuel a1=some r):Ahs Tryz.prog 202 #[(.int .i64 a1)] h (λx h'=>Ext h h'/\ ∃ (x0:Value),x=x0/\A52 h' x0 r.1 r.2):=by
 unfold At9 at hp;refine cwf (l:=[_]) Tryz.func202 rfl rfl (AOv<|Aj4 (Kst.k0 h) [.bool false,.slice none 0 0,.bool false,.slice none 0 0] Axr λb2 h3 E5 K8=>Apt<|AOr ?_);obtain ⟨x9,Ah,Ai⟩:=AOw hp;refine Avd K8 (Are Ah) λA5 A6 A7 Ae=>?_;obtain ⟨A8,Aj,Ak⟩:=AOw Ai;refine Aqs rfl (Azt (Ae.z p0).2 Aj) λA9 Af Am Ao=>?_;obtain ⟨Ba,rfl,Ap⟩:=Ao;obtain ⟨Aq,Ar,rfl,Au,Av⟩:=Ap;have Aa:=((Ae.e Am).az Au).az Av;refine Ai5 (Aq ++ Ar) An2 (Ajf (Aa.z p1)<|Aa.z p0) (Ajf (Ahd Af)<|Ahd Af) rfl rfl (Aub (Aa.z p1)<|Aa.z p0) (Aa.b p3) λBb Aw Ax=>AOz<|AO6 ?_;have Ab:=Aa.sb p3 Ax Aw rfl;obtain rfl:=AOu Ak;exact ⟨_,Ai3 An2 (Ajf (Ab.z p1)<|Ab.z p0) rfl (Ab.b p3),Ab.x,_,rfl,⟨_,_,rfl,(Ab.z p1),(Ab.z p0)⟩⟩
def Ajm (fuel:Nat) (a3 a5:Int):Option (Int × Int):=
 (Aog fuel a3 a5).bind λ(Aa,Ae)=>if (!Ae)=true then (At9 fuel 0).bind λAb=>some (Ab.1,Ab.2) else some (Aa.1,Aa.2)
theorem Ana {Ak:Value} {a3:Int} {r:(Int × Int)} (H2:A52 h Ak a3 a5) (hp:Ajm fuel a3 a5=some r):Ahs Tryz.prog 183 #[Ak] h (λx h'=>Ext h h'/\ ∃ (x0:Value),x=x0/\A52 h' x0 r.1 r.2):=by
 unfold Ajm at hp;obtain ⟨Aq,Ar,rfl,H2z0,H2z1⟩:=H2;refine cwf (l:=[_]) Tryz.func183 rfl rfl (AOv<|Ano (Kst.k0 h) (Aq ++ Ar) λb7 h8 Br Ay=>Aj4 Ay [.bool false,.slice none 0 0,.bool false,.slice none 0 0] Axr λBt Bu Bv Ab=>Apt<|Anh (fs:=2) A6c AO4 AOs rfl (Anm Aq Aip (cZ.klen<|Ab.zx H2z0) rfl ((Ab.b p1).aggL) (Anh (fs:=2) A2v AO4 AOs rfl (Anm Ar Aip (cZ.klen<|Ab.zx H2z1) rfl ((Ab.b p1).aggR (cZ.klen<|Ab.zx H2z0)) ?_))));obtain ⟨⟨Bw,Bx⟩,Az,Ag⟩:=AOw hp;dsimp only at Ag;refine Aqs rfl (Awm (Ab.zx H2z0).2 (Ab.zx H2z1).2 Az) λBy Bz A3 A4=>?_;obtain ⟨B1,rfl,A5⟩:=A4;obtain ⟨Ah,Ai,rfl,A6,A7⟩:=A5;refine AOr<|Ait rfl rfl (Ait rfl rfl (Aj4 (((Ab.e A3).az A6).az A7) [.bool false,.slice none 0 0,.bool false,.slice none 0 0] Axr λB3 Au B4 Ac=>Ai5 (Ah ++ Ai) An2 (Ajf (Ac.z p2)<|Ac.z p1) (Ajf (Ahd Au)<|Ahd Au) rfl rfl (Aub (Ac.z p2)<|Ac.z p1) (Ac.b p0) λAv A8 A9=>AO1<|AOx<|AOv<|AOr<|Akc rfl (AOz ?_)));have Aa:=Ac.sb p0 A9 A8 rfl;refine ⟨_,rfl,λAj=>?_,λAj=>?_⟩
 ·refine AOv ?_;obtain ⟨B5,Ba,Bb⟩:=AOw<|ifT Ag Aj;refine Aqs rfl (Azu Ba) λB6 Aw Bc Be=>?_;obtain ⟨B7,rfl,Bf⟩:=Be;obtain ⟨Bg,Bh,rfl,Bi,Bj⟩:=Bf;have Ad:=((Aa.e Bc).az Bi).az Bj;refine Ai5 (Bg ++ Bh) An2 (Ajf (Ad.z p1)<|Ad.z p0) (Ajf (Ahd Aw)<|Ahd Aw) rfl rfl (Aub (Ad.z p1)<|Ad.z p0) (Ad.b p5) λB8 Bl Bm=>AOz<|AO6<|Ag7 ?_;have Ae:=Ad.sb p5 Bm Bl rfl;obtain rfl:=AOu Bb;exact ⟨_,Ai3 An2 (Ajf (Ae.z p1)<|Ae.z p0) rfl (Ae.b p5),Ae.x,_,rfl,⟨_,_,rfl,(Ae.z p1),(Ae.z p0)⟩⟩
 ·refine AO5<|q_t<|AOv<|Anm (Ah ++ Ai) An2 (Ajf (Aa.z p2)<|Aa.z p1) rfl ((Aa.b p0).agg) (Ai5 (Ah ++ Ai) An2 (Ajf (Aa.z p2)<|Aa.z p1) (Ajf (Ahd Av)<|Ahd Av) rfl rfl (Aub (Aa.z p2)<|Aa.z p1) (Aa.b p3) λB9 Bn Bo=>AOz<|AO6 ?_);have Af:=Aa.sb p3 Bo Bn rfl;obtain rfl:=AOu<|Aok Ag Aj;exact ⟨_,Ai3 An2 (Ajf (Af.z p2)<|Af.z p1) rfl (Af.b p3),Af.x,_,rfl,⟨_,_,rfl,(Af.z p2),(Af.z p1)⟩⟩
def Am7 (fuel:Nat) (a1 a5:Int):Option (Int × Int):=
 (Ajm fuel a1 a5).bind λAa=>some (Aa.1,Aa.2)
theorem Ax4 {r:(Int × Int)} (H3:ZZ h Af a1) (H7:ZZ h Ah a5) (hp:Am7 fuel a1 a5=some r):Ahs Tryz.prog 128 #[Af,Ah] h (λx h'=>Ext h h'/\ ∃ (x0:Value),x=x0/\A52 h' x0 r.1 r.2):=by
 unfold Am7 at hp;obtain ⟨Ap,rfl,Ad⟩:=H3.cs;obtain ⟨Aq,rfl,Ae⟩:=H7.cs;refine cwf (l:=[_,_]) Tryz.func128 rfl rfl (AOv<|Ano (Kst.k0 h) Ap λb9 Ba Bb Ar=>Ano Ar Aq λBc Be Bf Au=>Aj4 Au [.bool false,.slice none 0 0,.bool false,.slice none 0 0] Axr λBg Bh Bi Aa=>Apt<|Asj (Aa.zx Ad) (Aa.b p2)<|Asj (Aa.zx Ae) (Aa.b p1)<|Alh (A2w (Aa.zx Ad)<|Aa.zx Ae) ?_);obtain ⟨Bj,Av,Aw⟩:=AOw hp;refine Aqs rfl (Ana ⟨_,_,rfl,(Aa.zx Ad),(Aa.zx Ae)⟩ Av) λBl Ak Ax Ay=>?_;obtain ⟨Bm,rfl,Az⟩:=Ay;obtain ⟨A3,A4,rfl,A5,A6⟩:=Az;have Ab:=((Aa.e Ax).az A5).az A6;refine Ai5 (A3 ++ A4) An2 (Ajf (Ab.z p1)<|Ab.z p0) (Ajf (Ahd Ak)<|Ahd Ak) rfl rfl (Aub (Ab.z p1)<|Ab.z p0) (Ab.b p2) λBn A7 A8=>AOz<|AO6 ?_;have Ac:=Ab.sb p2 A8 A7 rfl;obtain rfl:=AOu Aw;exact ⟨_,Ai3 An2 (Ajf (Ac.z p1)<|Ac.z p0) rfl (Ac.b p2),Ac.x,_,rfl,⟨_,_,rfl,(Ac.z p1),(Ac.z p0)⟩⟩
def Arh (fuel:Nat):Option (Int × Int):=
 (Ar9 fuel 1).bind λx8=>(Ar9 fuel 2).bind λAb=>some (x8,Ab)
theorem Az9 {r:(Int × Int)} (hp:Arh fuel=some r):Ahs Tryz.prog 182 #[] h (λx h'=>Ext h h'/\ ∃ (x0:Value),x=x0/\A52 h' x0 r.1 r.2):=by
 unfold Arh at hp;refine cwf (l:=[]) Tryz.func182 rfl rfl (AOv<|Aj4 (Kst.k0 h) [.bool false,.slice none 0 0,.bool false,.slice none 0 0] Axr λb1 h2 E4 K7=>Apt ?_);obtain ⟨x8,Af,Ag⟩:=AOw hp;refine Avd K7 (Are Af) λAh Aw Ax Ai=>?_;obtain ⟨Ay,Aj,Ak⟩:=AOw Ag;refine Avd Ai (Are Aj) λAm Ad Az Aa=>Alh (A2w (Aa.z p1)<|Aa.z p0)<|Ai5 (Ah ++ Am) An2 (Ajf (Aa.z p1)<|Aa.z p0) (Ajf (Ahd Ad)<|Ahd Ad) rfl rfl (Aub (Aa.z p1)<|Aa.z p0) (Aa.b p2) λA3 Ao Ap=>AOz<|AO6 ?_;have Ab:=Aa.sb p2 Ap Ao rfl;obtain rfl:=AOu Ak;exact ⟨_,Ai3 An2 (Ajf (Ab.z p1)<|Ab.z p0) rfl (Ab.b p2),Ab.x,_,rfl,⟨_,_,rfl,(Ab.z p1),(Ab.z p0)⟩⟩
def Asa (fuel:Nat) (a3 a5 a9 Ag:Int):Option (Int × Int):=
 (Ajm fuel a3 a5).bind λAa=>(Ajm fuel a9 Ag).bind λAb=>(Ayo fuel Aa.1 Ab.2).bind λAh=>(Ayo fuel Ab.1 Aa.2).bind λAi=>(BE0 fuel Ah Ai).bind λAj=>(Ayo fuel Aa.2 Ab.2).bind λAk=>(Aog fuel Aj Ak).bind λ(Ac,Am)=>some (Ac.1,Ac.2)
theorem A07 {Bh:Value} {a3:Int} {Bl:Value} {Bn:Int} {r:(Int × Int)} (H2:A52 h Bh a3 a5) (H8:A52 h Bl a9 Bn) (hp:Asa fuel a3 a5 a9 Bn=some r):Ahs Tryz.prog 181 #[Bh,Bl] h (λx h'=>Ext h h'/\ ∃ (x0:Value),x=x0/\A52 h' x0 r.1 r.2):=by
 unfold Asa at hp;obtain ⟨Bp,Bq,rfl,H2z0,H2z1⟩:=H2;obtain ⟨Br,Bt,rfl,H8z0,H8z1⟩:=H8;refine cwf (l:=[_,_]) Tryz.func181 rfl rfl (AOv<|Ano (Kst.k0 h) (Bp ++ Bq) λD0 D1 D2 Cj=>Ano Cj (Br ++ Bt) λD3 D4 D5 Ck=>Aj4 Ck [.bool false,.slice none 0 0,.bool false,.slice none 0 0] Axr λD6 Ao D7 Ac=>AOz<|AOx ?_);have Ap:UpT [] Ao Ao:=UpT.start all_nil;refine A02 (B:=λh'=>UpT [] Ao h') 4 [⟨5,158,[.bool false,.slice none 0 0,.bool false,.slice none 0 0]⟩,⟨6,158,[.bool false,.slice none 0 0,.bool false,.slice none 0 0]⟩] (λ_ _ U E=>U.thenE E) AO4 Ap (BDg rfl rfl Axr rfl Axr rfl (λ_ _ U E=>U.thenE E))<|h_l rfl (Api (Bp ++ Bq) An2 (Ajf (Ac.zx H2z0)<|Ac.zx H2z1) rfl Ap (λh' hb=>((Ac.b p2).ext hb.ext).agg) (Ahh<|h_e rfl λD8 Bu=>?_));have Aq:=Ap.thenE Bu;have Ar:=Ac.e Bu;obtain ⟨D9,Cm,Cn⟩:=AOw hp;refine Aj3 Aq (λ_ E=>Aq.thenE E) rfl (Ana ⟨_,_,rfl,(Ar.zx H2z0),(Ar.zx H2z1)⟩ Cm) λEa Eb Au Co=>?_;obtain ⟨Ec,rfl,Cp⟩:=Co;have Bv:=Aq.thenE Au;obtain ⟨Bw,Av,rfl,Cq,Cr⟩:=Cp;have Aw:=((Ar.e Au).az Cq).az Cr;refine Ahh ⟨Au,?_⟩;refine h_l rfl (Api (Br ++ Bt) An2 (Ajf (Aw.zx H8z0)<|Aw.zx H8z1) rfl Bv (λh' hb=>((Ac.b p1).ext hb.ext).agg) (Ahh<|h_e rfl λEd Bx=>?_));have Ax:=Bv.thenE Bx;have Ay:=Aw.e Bx;obtain ⟨Ee,Ct,Cu⟩:=AOw Cn;refine Aj3 Ax (λ_ E=>Ax.thenE E) rfl (Ana ⟨_,_,rfl,(Ay.zx H8z0),(Ay.zx H8z1)⟩ Ct) λEf Eg Az Cv=>?_;obtain ⟨Eh,rfl,Cw⟩:=Cv;have Cx:=Ax.thenE Az;obtain ⟨By,A3,rfl,Cy,Cz⟩:=Cw;refine Ahh ⟨Az,?_⟩;refine A7h λBz B1=>BPk λEi Ej B3 B4 C0 C1 C2 Ek El=>?_;have Aj:=(((Ay.e Az).az Cy).az Cz).e B1;have Ad:=((((Ac.nb2 (Cx.thenE B1).ext (BDh C1 C2 B3.lt B4.lt C0) B3 B4).az (Aj.z p3)).az (Aj.z p2)).az (Aj.z p1)).az (Aj.z p0);refine Ai5 (Bw ++ Av) An2 (Ajf (Ad.z p3)<|Ad.z p2) (Ajf (Ahd Bz)<|Ahd Bz) rfl rfl (Aub (Ad.z p3)<|Ad.z p2) (Ad.b p4) λB5 C3 C4=>?_;have Ae:=Ad.sb p4 C4 C3 rfl;refine Ai5 (By ++ A3) An2 (Ajf (Ae.z p1)<|Ae.z p0) (Ajf (Ahd B5)<|Ahd B5) rfl rfl (Aub (Ae.z p1)<|Ae.z p0) (Ae.b p5) λA4 C5 C6=>AOz<|AOx ?_;have Aa:=Ae.sb p5 C6 C5 rfl;have Ak:UpT [] A4 A4:=UpT.start all_nil;refine A02 (B:=λh'=>UpT [] A4 h') 20 [⟨7,158,[.bool false,.slice none 0 0,.bool false,.slice none 0 0]⟩] (λ_ _ U E=>U.thenE E) AO4 Ak (A9y rfl Axr rfl (λ_ _ U E=>U.thenE E))<|h_l rfl (Anh (fs:=2) A6c AO4 AOs rfl (Ahh<|h_l rfl (Api Bw Aip (cZ.klen<|Aa.z p3) rfl Ak (λh' hb=>((Aa.b p4).ext hb.ext).aggL) (Ahh<|h_l rfl (Anh (fs:=2) A2v AO4 AOs rfl (Ahh<|h_l rfl (Api A3 Aip (cZ.klen<|Aa.z p0) rfl Ak (λh' hb=>((Aa.b p5).ext hb.ext).aggR (cZ.klen<|Aa.z p1)) (Ahh<|h_e rfl λEm B6=>?_))))))));have A5:=Aa.e B6;obtain ⟨En,C7,C8⟩:=AOw Cu;refine Am4 A5 (Ak.thenE B6) (Axq (A5.z p3).2 (A5.z p0).2 C7) λEo Ep C9 Am A6=>Ahh ⟨C9,?_⟩;refine h_l rfl (Anh (fs:=2) A6c AO4 AOs rfl (Ahh<|h_l rfl (Api By Aip (cZ.klen<|Am.z p2) rfl A6 (λh' hb=>((Aa.b p5).ext hb.ext).aggL) (Ahh<|h_l rfl (Anh (fs:=2) A2v AO4 AOs rfl (Ahh<|h_l rfl (Api Av Aip (cZ.klen<|Am.z p3) rfl A6 (λh' hb=>((Aa.b p4).ext hb.ext).aggR (cZ.klen<|Am.z p4)) (Ahh<|h_e rfl λEr B7=>?_))))))));have A7:=Am.e B7;obtain ⟨Es,Da,Db⟩:=AOw C8;refine Am4 A7 (A6.thenE B7) (Axq (A7.z p2).2 (A7.z p3).2 Da) λEt Eu Dc Dd De=>Ahh ⟨Dc,?_⟩;refine h_e rfl λEv B8=>?_;have A8:=Dd.e B8;obtain ⟨Ew,Df,Dg⟩:=AOw Db;refine Am4 A8 (De.thenE B8) (BDd (A8.z p1).2 (A8.z p0).2 Df) λEy Ez Dh Ai A9=>Ahh ⟨Dh,?_⟩;refine h_l rfl (Anh (fs:=2) A2v AO4 AOs rfl (Ahh<|h_l rfl (Api Av Aip (cZ.klen<|Ai.z p5) rfl A9 (λh' hb=>((Aa.b p4).ext hb.ext).aggR (cZ.klen<|Ai.z p6)) (Ahh<|h_l rfl (Anh (fs:=2) A2v AO4 AOs rfl (Ahh<|h_l rfl (Api A3 Aip (cZ.klen<|Ai.z p3) rfl A9 (λh' hb=>((Aa.b p5).ext hb.ext).aggR (cZ.klen<|Ai.z p4)) (Ahh<|h_e rfl λFa B9=>?_))))))));have Ba:=Ai.e B9;obtain ⟨Fb,Di,Dj⟩:=AOw Dg;refine Am4 Ba (A9.thenE B9) (Axq (Ba.z p5).2 (Ba.z p3).2 Di) λFc Fd Dk Dl Do=>Ahh ⟨Dk,?_⟩;refine h_e rfl λFe Ca=>?_;have Bb:=Do.thenE Ca;have Bc:=Dl.e Ca;obtain ⟨⟨Ff,Fg⟩,Dp,Cb⟩:=AOw Dj;dsimp only at Cb;refine Aj3 Bb (λ_ E=>Bb.thenE E) rfl (Awm (Bc.z p1).2 (Bc.z p0).2 Dp) λFh Fi Be Dq=>?_;obtain ⟨Fj,rfl,Dr⟩:=Dq;have Ds:=Bb.thenE Be;obtain ⟨Bf,Bg,rfl,Dt,Du⟩:=Dr;refine Ahh ⟨Be,?_⟩;refine h_l rfl (AOr<|Ahh<|h_l rfl (Ait rfl rfl (Ahh<|h_l rfl (Ait rfl rfl (Ahh<|A7h λCd Ce=>BMf λFk Cf Dv Fl=>?_)))));have Af:=(((Bc.e Be).az Dt).az Du).e Ce;have Ag:=((((((Aa.nb (Ds.thenE Ce).ext (Anw Dv Cf.lt) Cf).az (Af.z p5)).az (Af.z p4)).az (Af.z p3)).az (Af.z p2)).az (Af.z p1)).az (Af.z p0);refine Ai5 (Bf ++ Bg) An2 (Ajf (Ag.z p1)<|Ag.z p0) (Ajf (Ahd Cd)<|Ahd Cd) rfl rfl (Aub (Ag.z p1)<|Ag.z p0) (Ag.b p6) λCg Dw Dx=>Ah7 ?_;have Ab:=Ag.sb p6 Dx Dw rfl;refine Anm (Bf ++ Bg) An2 (Ajf (Ab.z p1)<|Ab.z p0) rfl ((Ab.b p6).agg) (Ai5 (Bf ++ Bg) An2 (Ajf (Ab.z p1)<|Ab.z p0) (Ajf (Ahd Cg)<|Ahd Cg) rfl rfl (Aub (Ab.z p1)<|Ab.z p0) (Ab.b p13) λFm Dy Dz=>AOz<|AO6 ?_);have Ah:=Ab.sb p13 Dz Dy rfl;obtain rfl:=AOu Cb;exact ⟨_,Ai3 An2 (Ajf (Ah.z p1)<|Ah.z p0) rfl (Ah.b p13),Ah.x,_,rfl,⟨_,_,rfl,(Ah.z p1),(Ah.z p0)⟩⟩
def Aqo (fuel:Nat) (a3 a5:Int):Option Int:=
 (Ajm fuel a3 a5).bind λAa=>(Ajy fuel Aa.1 Aa.2).bind λAd=>some Ad
theorem Azv {a3 r:Int} (H2:A52 h Ae a3 a5) (hp:Aqo fuel a3 a5=some r):Ahs Tryz.prog 180 #[Ae] h (λx h'=>Ext h h'/\ ∃ (x0:Value),x=x0/\ZZ h' x0 r):=by
 unfold Aqo at hp;obtain ⟨Ai,Aj,rfl,H2z0,H2z1⟩:=H2;refine cwf (l:=[_]) Tryz.func180 rfl rfl (AOv<|Ano (Kst.k0 h) (Ai ++ Aj) λb7 h8 Bb Ar=>Aj4 Ar [.bool false,.slice none 0 0] Ams λBc Be Bf Ab=>Apt<|Anm (Ai ++ Aj) An2 (Ajf (Ab.zx H2z0)<|Ab.zx H2z1) rfl ((Ab.b p1).agg) ?_);obtain ⟨Bg,Au,Av⟩:=AOw hp;refine Aqs rfl (Ana ⟨_,_,rfl,(Ab.zx H2z0),(Ab.zx H2z1)⟩ Au) λBh Bi Aw Ax=>?_;obtain ⟨Bj,rfl,Ay⟩:=Ax;obtain ⟨Ak,Am,rfl,Az,A3⟩:=Ay;refine Aj4 (((Ab.e Aw).az Az).az A3) [.bool false,.slice none 0 0,.bool false,.slice none 0 0] Axr λBl Ao Bm Ac=>Ai5 (Ak ++ Am) An2 (Ajf (Ac.z p2)<|Ac.z p1) (Ajf (Ahd Ao)<|Ahd Ao) rfl rfl (Aub (Ac.z p2)<|Ac.z p1) (Ac.b p0) λBn A4 A5=>Apt<|Anh (fs:=2) A6c AO4 AOs rfl ?_;have Aa:=Ac.sb p0 A5 A4 rfl;refine Anm Ak Aip (cZ.klen<|Aa.z p2) rfl ((Aa.b p0).aggL) (Anh (fs:=2) A2v AO4 AOs rfl (Anm Am Aip (cZ.klen<|Aa.z p1) rfl ((Aa.b p0).aggR (cZ.klen<|Aa.z p2)) ?_));obtain ⟨Bo,A6,A7⟩:=AOw Av;refine Avd Aa (Ap1 (Aa.z p2).2 (Aa.z p1).2 A6) λBp A8 Bq Ap=>Anz Ap p4 (Ahd A8) (Ap.z p0) λBr Ad=>AOz<|AO6 ?_;obtain rfl:=AOu A7;exact ⟨_,Ai3 Aip (cZ.klen<|Ad.z p0) rfl (Ad.b p4),Ad.x,_,rfl,(Ad.z p0).2⟩
def Anr (fuel:Nat) (a3 a5:Int):Option Int:=
 (Arh fuel).bind λAa=>(Asa fuel a3 a5 Aa.1 Aa.2).bind λAb=>(Aqo fuel Ab.1 Ab.2).bind λAe=>some Ae
theorem Ayq {a3 r:Int} (H2:A52 h Ai a3 a5) (hp:Anr fuel a3 a5=some r):Ahs Tryz.prog 127 #[Ai] h (λx h'=>Ext h h'/\ ∃ (x0:Value),x=x0/\ZZ h' x0 r):=by
 unfold Anr at hp;obtain ⟨Ao,Ap,rfl,H2z0,H2z1⟩:=H2;refine cwf (l:=[_]) Tryz.func127 rfl rfl (AOv<|Ano (Kst.k0 h) (Ao ++ Ap) λb7 h8 Bm Av=>Aj4 Av [.bool false,.slice none 0 0] Ams λBn Af Bo Ab=>AOz<|AOx<|Ai1 (λh'=>UpT [] Af h') AO4 ?_);have Ac:UpT [] Af Af:=UpT.start all_nil;refine Api (Ao ++ Ap) An2 (Ajf (Ab.zx H2z0)<|Ab.zx H2z1) rfl Ac (λh' hb=>((Ab.b p1).ext hb.ext).agg) ?_;obtain ⟨Bp,Aw,Ax⟩:=AOw hp;refine Aj3 Ac (λ_ E=>Ac.thenE E) rfl (Az9 Aw) λBq Br Aq Ay=>?_;obtain ⟨Bt,rfl,Az⟩:=Ay;have Ag:=Ac.thenE Aq;obtain ⟨Bu,Bv,rfl,A3,A4⟩:=Az;have Aa:=((Ab.e Aq).az A3).az A4;obtain ⟨Bw,A5,A6⟩:=AOw Ax;refine Aj3 Ag (λ_ E=>Ag.thenE E) rfl (A07 ⟨_,_,rfl,(Aa.zx H2z0),(Aa.zx H2z1)⟩ ⟨_,_,rfl,(Aa.z p1),(Aa.z p0)⟩ A5) λBx By Ar A7=>?_;obtain ⟨Bz,rfl,A8⟩:=A7;have A9:=Ag.thenE Ar;obtain ⟨B1,B3,rfl,Ba,Bb⟩:=A8;have Ah:=((Aa.e Ar).az Ba).az Bb;obtain ⟨B4,Bc,Be⟩:=AOw A6;refine Am4 Ah A9 (Azv ⟨_,_,rfl,(Ah.z p1),(Ah.z p0)⟩ Bc) λBf Bg B5 Ad B6=>Ai5 Bf Aip (cZ.klen<|Ad.z p0) (cZ.klen<|Ahd Bg) rfl rfl (cZ.one<|Ad.z p0) (Ad.b p5) λB7 Bh Bi=>AOz<|AO6 ?_;have Ae:=Ad.sb p5 Bi Bh rfl;obtain rfl:=AOu Be;exact ⟨_,Ai3 Aip (cZ.klen<|Ae.z p0) rfl (Ae.b p5),Ae.x,_,rfl,(Ae.z p0).2⟩
def Amm (fuel:Nat) (a3:LiI) (a7:LiA) (a9:Int):Option Bool:=
 (Alb fuel a3 a9<|w64<|a9 - 1).bind λAc=>(Ar9 fuel 4).bind λAe=>(Ajk fuel a7<|w64<|a9 - 1).bind λAf=>(Ajk fuel a7<|w64<|a9 + 1).bind λAg=>(Ayo fuel Af Ag).bind λAh=>(Ayo fuel Ac Ac).bind λAi=>(BE0 fuel Ah Ai).bind λAj=>(Ayo fuel Ae Aj).bind λAk=>(Ar9 fuel 3).bind λAm=>(Ajk fuel a7 a9).bind λAo=>(Ajk fuel a7 a9).bind λAp=>(Ayo fuel Ao Ap).bind λAq=>(Ayo fuel Am Aq).bind λAr=>(A8s fuel Ak Ar).bind λAu=>some<|decide (0<=Au)
theorem Au5 {Au:Value} {Aw:Value} {a7:LiA} {r:Bool} (H2:Ajw cZ h Au a3) (H6:SlC cZ h Aw a7) (hp:Amm fuel a3 a7 a9=some r):Ahs Tryz.prog 124 #[Au,Aw,(.int .i64 a9)] h (λx h'=>Ext h h'/\x= .bool r):=by
 unfold Amm at hp;refine cwf (l:=[_,_,_]) Tryz.func124 rfl rfl (AOv<|Ah7<|AOr<|AOr<|AOr<|Amr rfl rfl ?_);have K0:=Kst.k0 h;obtain ⟨Dg,Bm,Bn⟩:=AOw hp;refine Avd K0 (Aq3 (H2.ext K0.x) Bm) λDh Di Dj Bo=>Aj4 Bo [.bool false,.slice none 0 0] Ams λDk Bp Dl A3=>Anz A3 p0 (Ahd Bp) (A3.z p1) λAe Ac=>AOz<|AOx ?_;have A4:UpT [] Ae Ae:=UpT.start all_nil;refine A02 (B:=λh'=>UpT [] Ae h') 15 [⟨8,129,[.bool false,.slice none 0 0]⟩] (λ_ _ U E=>U.thenE E) AO4 A4 (A9y rfl Ams rfl (λ_ _ U E=>U.thenE E))<|h_e rfl λDo A5=>?_;obtain ⟨Dp,Bq,Br⟩:=AOw Bn;refine Am4 (Ac.e A5) (A4.thenE A5) (Are Bq) λDq Dr Bt Bu Bv=>Ahh ⟨Bt,?_⟩;refine h_l rfl (AOr<|Ahh<|h_l rfl (AOr<|Ahh<|h_l rfl (Amr rfl rfl (Ahh<|h_e rfl λDs A6=>?_))));have A7:=Bu.e A6;obtain ⟨Dt,Bw,Bx⟩:=AOw Br;refine Am4 A7 (Bv.thenE A6) (Alm (H6.ext A7.x) Bw) λDu Dv By Bz B1=>Ahh ⟨By,?_⟩;refine h_l rfl (AOr<|Ahh<|h_l rfl (AOr<|Ahh<|h_l rfl (Ahk rfl rfl (Ahh<|h_e rfl λDw A8=>?_))));have A9:=Bz.e A8;obtain ⟨Dx,B3,B4⟩:=AOw Bx;refine Am4 A9 (B1.thenE A8) (Alm (H6.ext A9.x) B3) λDy Dz B5 B6 B7=>Ahh ⟨B5,?_⟩;refine h_e rfl λD0 Ba=>?_;have Af:=B6.e Ba;obtain ⟨D1,B8,B9⟩:=AOw B4;refine Am4 Af (B7.thenE Ba) (Axq (Af.z p1).2 (Af.z p0).2 B8) λD2 D3 Ca Ag Ah=>Ahh ⟨Ca,?_⟩;refine h_l rfl (Avw (Ag.z p5) Ah (Ac.b p0)<|Ahh<|h_l rfl (Avw (Ag.z p5) Ah (Ac.b p0)<|Ahh<|h_e rfl λD4 Bb=>?_));have Ai:=Ag.e Bb;obtain ⟨D5,Cb,Cd⟩:=AOw B9;refine Am4 Ai (Ah.thenE Bb) (Axq (Ai.z p5).2 (Ai.z p5).2 Cb) λD6 D7 Ce Cf Cg=>Ahh ⟨Ce,?_⟩;refine h_e rfl λD8 Bc=>?_;have Aj:=Cf.e Bc;obtain ⟨D9,Ch,Ci⟩:=AOw Cd;refine Am4 Aj (Cg.thenE Bc) (BDd (Aj.z p1).2 (Aj.z p0).2 Ch) λEa Eb Cj Ck Cm=>Ahh ⟨Cj,?_⟩;refine h_e rfl λEc Be=>?_;have Ak:=Ck.e Be;obtain ⟨Ed,Cn,Co⟩:=AOw Ci;refine Am4 Ak (Cm.thenE Be) (Axq (Ak.z p5).2 (Ak.z p0).2 Cn) λCp Ee Cq Cr Ct=>Ahh ⟨Cq,?_⟩;refine A7h λCu Bf=>BMf λEf Bg Cv Eg=>?_;have Aa:=Cr.e Bf;have Ad:=(((((((Ac.nb (Ct.thenE Bf).ext (Anw Cv Bg.lt) Bg).az (Aa.z p6)).az (Aa.z p5)).az (Aa.z p4)).az (Aa.z p3)).az (Aa.z p2)).az (Aa.z p1)).az (Aa.z p0);refine Ai5 Cp Aip (cZ.klen<|Ad.z p0) (cZ.klen<|Ahd Cu) rfl rfl (cZ.one<|Ad.z p0) (Ad.b p7) λAm Cw Cx=>AOz<|AOx<|Ai1 (λh'=>UpT [] Am h') AO4 ?_;have Ao:=Ad.sb p7 Cx Cw rfl;have Bh:UpT [] Am Am:=UpT.start all_nil;refine Avw (Ao.z p0) Bh (Ao.b p7) ?_;obtain ⟨Eh,Cy,Cz⟩:=AOw Co;refine Am4 Ao Bh (Are Cy) λEi Ej Ek Bi C0=>AOr<|AOr ?_;obtain ⟨El,C1,C2⟩:=AOw Cz;refine Am4 Bi C0 (Alm (H6.ext Bi.x) C1) λEm En Eo Bj C3=>AOr<|AOr ?_;obtain ⟨Ep,C4,C5⟩:=AOw C2;refine Am4 Bj C3 (Alm (H6.ext Bj.x) C4) λEr Es Et Ap C6=>?_;obtain ⟨Eu,C7,C8⟩:=AOw C5;refine Am4 Ap C6 (Axq (Ap.z p1).2 (Ap.z p0).2 C7) λEv Ew Ey Aq C9=>?_;obtain ⟨Ez,Da,Db⟩:=AOw C8;refine Am4 Aq C9 (Axq (Aq.z p3).2 (Aq.z p0).2 Da) λFa Fb Fc Ar Dc=>?_;obtain ⟨Fd,Dd,De⟩:=AOw Db;refine A5s Ar Dc (A7i (Ar.z p5).2 (Ar.z p0).2 Dd) λFe Ff Df Fg=>At7 rfl rfl (AO1<|AO6 ?_);obtain rfl:=AOu De;exact ⟨_,AO7,Df.x,rfl⟩
def Asp (fuel:Nat) (a3:LiI) (x5:LiA) (Ab Aa:Int) (Ac:LiI):Option ((Int × LiI) ⊕ ((LiI × Bool) ⊕ LiI)):=
 if 0<=Aa then (Am0 fuel a3 x5 Ab Aa).bind λAh=>if (!Ah)=true then (gI Ac Aa).bind λAf=>(Alb fuel a3 Ab Aa).bind λAi=>(Ajk fuel x5<|w64<|Aa + 1).bind λAj=>(Am7 fuel Ai Aj).bind λAg=>(Anr fuel Ag.1 Ag.2).bind λAk=>(BBk fuel Ak).bind λAm=>(gI Af Ab).bind λAo=>some (.inr<|.inl (sI Ac Aa<|sI Af Ab Am,true)) else some (.inl (w64<|Aa - 1,Ac)) else some<|.inr<|.inr Ac
def Asq (fuel:Nat) (a3:LiI) (x5:LiA) (Aa:Int) (Ae:LiI):Option ((Int × LiI) ⊕ ((LiI × Bool) ⊕ Unit)):=
 if Aa < (a3.length:Int) then (iter (λs=>Asp fuel a3 x5 Aa s.1 s.2) fuel (w64<|Aa - 1,Ae)).bind (λex=>match ex with | .inl Af=>(some<|.inr<|.inl Af) | .inr Ab=>if 0 < Aa then (Amm fuel a3 x5 Aa).bind λAg=>if (!Ag)=true then (gI Ab<|w64<|Aa - 1).bind λAh=>(gI Ab Aa).bind λAi=>some (.inr<|.inl (sI (sI Ab Aa Ah) (w64<|Aa - 1) Ai,true)) else some (.inl (w64<|Aa + 1,Ab)) else some<|.inl (w64<|Aa + 1,Ab)) else some<|.inr<|.inr ()
def Ao6 (fuel:Nat) (a3:LiI):Option (LiI × Bool):=
 (Akf fuel a3).bind λ(x5,x6)=>(Alk fuel (a3.length:Int)).bind λ(Ac,Af)=>(iter (λs=>Asq fuel a3 x5 s.1 s.2) fuel (0,Ac)).bind (λex=>match ex with | .inl Ad=>(some Ad) | .inr _=>some ([],false))
theorem A0a {A3:Value} {r:(LiI × Bool)} (H2:Ajw cZ h A3 a3) (hp:Ao6 fuel a3=some r):Ahs Tryz.prog 68 #[A3] h (λx h'=>Ext h h'/\ ∃ (x0:Value) (F0:List Nat) (Br:List LnA) (Bt:List Value),x= .tuple #[x0,.bool r.2]/\Aj1 cZ 146 129 h' F0 Br Bt x0 r.1/\Sp h' h.size [F0]):=by
 unfold Ao6 at hp;refine cwf (l:=[_]) Tryz.func68 rfl rfl (AOv<|Aho<|Ah7<|AOr ?_);have K0:=Kst.k0 h;obtain ⟨⟨x5,x6⟩,Bu,A8⟩:=AOw hp;dsimp only at A8;refine Aqs rfl (Aqh (H2.ext K0.x) Bu) λDg Dh E9 Bw=>?_;obtain ⟨Di,Dj,rfl,Bx,By⟩:=Bw;refine AOr<|Ait rfl rfl (Ait rfl rfl (Aho<|Ah7<|AOr<|Ahx Ai9 rfl H2 ?_));obtain ⟨⟨Bz,Dk⟩,B1,A9⟩:=AOw A8;dsimp only at A9;refine Aqs rfl (Aud B1) λDl Do B3 B4=>?_;obtain ⟨Ba,B5,B6,B7,rfl,B8,B9⟩:=B4;refine AOr<|Ait rfl rfl (Ait rfl rfl (Aho<|AO1<|AOx<|AOv<|AOr<|Ahx Ai9 rfl H2 (AOr<|AOz<|AO0 ?_)));have Bb:=(K0.no E9 By Bx).no2 B3 B9 B8;refine Amy 9671406556917033389261580 (λx:(Int) × (LiI) × LnA × LnN × LvA=>(x.1,x.2.1)) ((0,Bz,B5,B6,B7):(Int) × (LiI) × LnA × LnN × LvA) A9 (λx=>[(23,(.int .i64 x.1))]) (λx=>Bb.L.set 0<|aO2 cZ 146 129 x.2.2.1 x.2.2.2.1 x.2.2.2.2 Ba x.2.1) Bb ⟨rfl,trivial⟩ ?_;rintro ⟨Bc,Ca,Cb,Cd,Ce⟩ Dp Dq Dr Ag Ah Ai;unfold Asq at Ah;refine AOv<|Ahn rfl rfl (AOz<|AOx<|⟨_,rfl,λAj=>?_,λAj=>?_⟩)
 ·refine AO5<|q_t<|AOx<|AO0<|AOv<|AOr<|AO1<|AOx<|AOv<|AOr<|Amr rfl rfl (AO1<|AO0<|Amy 72057593769493004 (λx:(Int) × (LiI) × LnA × LnN × LvA=>(x.1,x.2.1)) (((w64<|Bc - 1),Ca,Cb,Cd,Ce):(Int) × (LiI) × LnA × LnN × LvA) (Ahy Ah Aj) (λx=>[(9,(.int .i64 x.1))]) (λx=>Ag.L.set 0<|aO2 cZ 146 129 x.2.2.1 x.2.2.2.1 x.2.2.2.2 Ba x.2.1) Ag ⟨rfl,trivial⟩ ?_);rintro ⟨Be,Ds,Dt,Du,Dv⟩ Dw Dx Dy Aa Ak Bf;unfold Asp at Ak;refine AOx<|AOv<|AOr<|At7 rfl rfl (AOz<|⟨_,rfl,λAm=>?_,λAm=>?_⟩)
  ·refine AO5<|q_t<|AOx<|AO0<|AOv<|AOr<|AOr<|AOr<|AOr ?_;obtain ⟨Dz,Cf,Bg⟩:=AOw<|Ahy Ak Am;refine Akb Aa (Avf (H2.ext Aa.x) (Aa.o p1).rd Cf) λAo D0 Ac=>Akc rfl (AOz<|⟨_,rfl,λAp=>?_,λAp=>?_⟩)
   ·refine AOx<|Ai1 (λh'=>UpT [] Ao h') AO4 ?_;have Bh:UpT [] Ao Ao:=UpT.start all_nil;refine AOr<|AOr ?_;obtain ⟨D1,Aq,Cg⟩:=AOw<|ifT Bg Ap;refine Aij Ai9 rfl (Ac.o2 p0) rfl Aq λD2 D3 D4 Ch Ci=>Ahm Alp rfl Bh (λh' hb=>AO8 Ci hb.ext) (AOr<|AOr<|AOr<|AOr ?_);obtain ⟨D5,Cj,Ck⟩:=AOw Cg;refine Am4 Ac Bh (Aq3 (H2.ext Ac.x) Cj) λD6 D7 D8 Bi Cm=>AOr<|AOr<|Ahk rfl rfl ?_;obtain ⟨D9,Cn,Co⟩:=AOw Ck;refine Am4 Bi Cm (Alm (Bi.o p2).rd Cn) λEa Eb Ec Ar Au=>?_;obtain ⟨Ed,Cp,Cq⟩:=AOw Co;refine Aj3 Au (λ_ E=>Au.thenE E) rfl (Ax4 (Ar.z p1).2 (Ar.z p0).2 Cp) λEe Ef Bj Cr=>?_;obtain ⟨Eg,rfl,Ct⟩:=Cr;have Cu:=Au.thenE Bj;obtain ⟨Eh,Ei,rfl,Cv,Cw⟩:=Ct;have Av:=((Ar.e Bj).az Cv).az Cw;obtain ⟨Ej,Cx,Cy⟩:=AOw Cq;refine Am4 Av Cu (Ayq ⟨_,_,rfl,(Av.z p1),(Av.z p0)⟩ Cx) λEk El Em Bl Cz=>?_;obtain ⟨En,C0,C1⟩:=AOw Cy;refine Am4 Bl Cz (A9x (Bl.z p0).2 C0) λEo Ep Er Ad Es=>?_;obtain ⟨Et,Bm,C2⟩:=AOw C1;refine Air (m:=Be) Aj8 rfl (Ac.o2 p0) Ch Aq rfl Bm λEu C3=>Aol (m:=Be) (Aze Aip (cZ.klen<|Ad.z p0) rfl rfl (cZ.one<|Ad.z p0)) (Ad.o2 p6) C3 Aq Bm (Ad.z p0) λEv C4 C5=>Apt<|AOr<|Aho<|AO1<|AO6<|Ail<|Ag7<|Ag7<|Ail<|Ag7<|Ail<|Ag7<|Ag7<|Ail<|Ag7 ?_;have Aw:=Ad.uO2 p6 C5 C4;obtain rfl:=AOu<|Ai _ (AOu<|Bf _ (AOu C2).symm).symm;exact ⟨_,Aiz,Aw.x,_,_,_,_,rfl,(Aw.o2 p6),Aw.s.sel [6] AOs⟩
   ·refine AO5<|q_b<|q_t<|Ag6<|AOr<|Amr rfl rfl (AO1 ?_);exact ⟨(_,_,_,_,_),(AOu<|Aok Bg Ap).symm,Ac,rfl,trivial⟩
  ·refine Ahf<|Ahg<|Ahg<|Aio<|q_t<|AOv<|AOr<|Anj rfl rfl (AOr ?_);have Bn:=Bf _ (AOu<|Ahz Ak Am).symm;by_cases Af:0 < Bc
   ·rw [decide_eq_true Af];refine Ahb 58 true<|AOr<|Ahb 58 true<|AOr<|Ahb 58 true<|AOr<|Ahb 58 true ?_;obtain ⟨Ew,C6,Bo⟩:=AOw<|ifT Bn Af;refine Akb Aa (Au5 (H2.ext Aa.x) (Aa.o p1).rd C6) λEy Ez Ae=>Ahb 58 true<|Akc rfl (Ahc rfl (AOz<|⟨_,rfl,λAx=>?_,λAx=>?_⟩))
    ·refine AOx<|Ame<|AOr<|AOr<|AOr<|AOr<|Amr rfl rfl (AOr<|AOr<|Amr rfl rfl ?_);obtain ⟨Fa,Bp,C7⟩:=AOw<|ifT Bo Ax;refine Aiw Ai9 Alp (Ae.o2 p0) Bp λ_ Fb C8=>AOr<|AOr ?_;obtain ⟨Fc,Bq,C9⟩:=AOw C7;refine Aiw Ai9 Alp (Ae.o2 p0) Bq λ_ Fd Da=>Avr Ai9 Alp (Ae.o2 p0) Da C8 Bq Bp rfl rfl (λ_=>rfl) (λ_=>rfl) (λ_=>rfl) (λ_ _=>rfl) λFe Ff Fg Fh Fi Fj Db Dc Dd=>Apt<|AOr<|Aho<|AO1<|AO6<|Ail<|Ag7<|Ag7<|Ail<|Ag7 ?_;have Ay:=Ae.uo2 p0 Dc Db Dd;obtain rfl:=AOu<|Ai _ (AOu C9).symm;exact ⟨_,Aiz,Ay.x,_,_,_,_,rfl,(Ay.o2 p0),Ay.s.sel [0] AOs⟩
    ·refine AO5<|q_b<|q_t<|Ag6<|Ahk rfl rfl (AOr<|AOz ?_);exact ⟨(_,_,_,_,_),(AOu<|Aok Bo Ax).symm,Ae,rfl,trivial⟩
   ·rw [decide_eq_false Af];refine An1 58 false<|APd rfl (AOz<|Aht rfl (AO5<|q_b<|q_t<|Ag6<|Ahk rfl rfl (AOr<|AOz ?_)));exact ⟨(_,_,_,_,_),(AOu<|ifF Bn Af).symm,Aa,rfl,trivial⟩
 ·refine Ahf<|Ahg<|Ahg<|Aio<|q_t<|AOv<|Aho<|AO1<|AO6 ?_;have Az:=Kst.anil2 cZ 146 129 Ag;obtain rfl:=AOu<|Ai _ (AOu<|Ahz Ah Aj).symm;exact ⟨_,Aiz,Az.x,_,_,_,_,rfl,(Az.o2 p0),Az.s.sel [0] AOs⟩
def Aq4 (fuel:Nat) (Aa Ab:LiI):Option ((LiI × LiI) ⊕ (LiI × LiI × Int)):=
 (Ao6 fuel Aa).bind λ(Ac,Ad)=>if (!Ad)=true then (An4 fuel Aa).bind λ(Ae,Ah)=>some (.inr (Ae,Ab,0)) else (Ak5 fuel Aa Ac).bind λAf=>(Ajj fuel Ab Ac).bind λAg=>some<|.inl (Af,Ag)
def An5 (fuel:Nat) (a3:LiI):Option (LiI × LiI × Int):=
 (Ajr fuel a3).bind λx5=>if ¬ x5=0 then some ([],[],x5) else (Am1 fuel a3).bind λAc=>if (!Ac)=true then some ([],[],7) else (Anp fuel a3).bind λAd=>(Alk fuel (a3.length:Int)).bind λ(Ae,Ag)=>(iter (λs=>Aq4 fuel s.1 s.2) fuel (Ad,Ae)).bind (λ(Af:(LiI × LiI × Int))=>some Af)
theorem Ay2 {Ao:Value} {r:(LiI × LiI × Int)} (H2:Ajw cZ h Ao a3) (hp:An5 fuel a3=some r):Ahs Tryz.prog 29 #[Ao] h (λx h'=>Ext h h'/\ ∃ (x0:Value) (F0:List Nat) (A7:List LnA) (A8:List Value) (x1:Value) (F1:List Nat) (A9:List LnA) (Ba:List Value),x= .tuple #[x0,x1,.int .i64 r.2.2]/\Aj1 (cI .i64) 61 2 h' F0 A7 A8 x0 r.1/\Aj1 cZ 146 129 h' F1 A9 Ba x1 r.2.1/\Sp h' h.size [F0,F1]):=by
 unfold An5 at hp;refine cwf (l:=[_]) Tryz.func29 rfl rfl (AOv<|Aho<|Aho<|AO1<|AOx<|AOv<|AOr ?_);have K0:=Kst.k0 h;obtain ⟨x5,Bb,Ax⟩:=AOw hp;refine Akb K0 (Ap7 (H2.ext K0.x) Bb) λh9 E8 Af=>Ah7<|AOr<|Ajs rfl rfl (AOz<|⟨_,rfl,λAg=>?_,λAg=>?_⟩)
 ·refine AOv<|AOr<|Aho<|Aho<|AO1<|AO6<|Ag7 ?_;have Ac:=Kst.anil2 cZ 146 129<|Kst.anil2 (cI .i64) 61 2 Af;obtain rfl:=AOu<|Ahy Ax Ag;exact ⟨_,Arr,Ac.x,_,_,_,_,_,_,_,_,rfl,(Ac.o2 p1),(Ac.o2 p0),Ac.s.sel [1,0] AOs⟩
 ·refine AO5<|q_t<|AOx<|AOv<|AOr ?_;obtain ⟨Ck,Bc,Ay⟩:=AOw<|Ahz Ax Ag;refine Akb Af (Avg (H2.ext Af.x) Bc) λCm Cn Ah=>Akc rfl (AOz<|⟨_,rfl,λAi=>?_,λAi=>?_⟩)
  ·refine AOv<|Aho<|Aho<|AO1<|AO6<|Ag7 ?_;have Ad:=Kst.anil2 cZ 146 129<|Kst.anil2 (cI .i64) 61 2 Ah;obtain rfl:=AOu<|ifT Ay Ai;exact ⟨_,Arr,Ad.x,_,_,_,_,_,_,_,_,rfl,(Ad.o2 p1),(Ad.o2 p0),Ad.s.sel [1,0] AOs⟩
  ·refine AO5<|q_t<|AOv<|AOr ?_;obtain ⟨Be,Bf,Bg⟩:=AOw<|Aok Ay Ai;refine Aux Ah (Avy (H2.ext Ah.x) Bf) λBh Bi Bj Bl Co Cp Bm=>Ah7<|AOr<|Ahx Ai9 rfl H2 ?_;obtain ⟨⟨Bn,Cq⟩,Bo,Az⟩:=AOw Bg;dsimp only at Az;refine Aqs rfl (Aud Bo) λCr Ct Bp Bq=>?_;obtain ⟨Br,Bt,Bu,Bv,rfl,Bw,Bx⟩:=Bq;refine AOr<|Ait rfl rfl (Ait rfl rfl (Aho<|AO1<|AO0 ?_));have A3:=Bm.no2 Bp Bx Bw;refine Amy 562949416558300 (λx:(LiI) × (Value) × LnA × LnN × LvA × (LiI) × (Value) × LnA × LnN × LvA=>(x.1,x.2.2.2.2.2.1)) ((Be,Bl,Bh,Bi,Bj,Bn,Br,Bt,Bu,Bv):(LiI) × (Value) × LnA × LnN × LvA × (LiI) × (Value) × LnA × LnN × LvA) Az (λx=>[(6,x.2.1),(7,x.2.2.2.2.2.2.1)]) (λx=>(A3.L.set 1<|aO2 cZ 146 129 x.2.2.1 x.2.2.2.1 x.2.2.2.2.1 x.2.1 x.1).set 0 (aO2 cZ 146 129 x.2.2.2.2.2.2.2.1 x.2.2.2.2.2.2.2.2.1 x.2.2.2.2.2.2.2.2.2 x.2.2.2.2.2.2.1 x.2.2.2.2.2.1)) A3 ⟨rfl,rfl,trivial⟩ ?_;rintro ⟨Cu,Cv,Cw,Cx,Cy,Cz,C0,C1,C2,C3⟩ C4 C5 C6 A4 A5 By;unfold Aq4 at A5;refine AO0<|AOv<|AOr ?_;obtain ⟨⟨C7,C8⟩,Bz,Aj⟩:=AOw A5;dsimp only at Aj;refine Aqs rfl (A0a (A4.o2 p1).rd Bz) λC9 Da B1 B3=>?_;obtain ⟨Db,Dc,Dd,De,rfl,B4,B5⟩:=B3;refine AOr<|Ait rfl rfl (Ait rfl rfl (Aho<|AO1<|AOx<|AOv<|AOr<|Akc rfl (AOz ?_)));have Aa:=A4.no2 B1 B5 B4;refine ⟨_,rfl,λAk=>?_,λAk=>?_⟩
   ·refine AOv<|AOr ?_;obtain ⟨⟨Df,Dg⟩,B6,A6⟩:=AOw<|ifT Aj Ak;dsimp only at A6;refine Aqs rfl (Ay1 (Aa.o2 p2).rd B6) λDh Di B7 B8=>?_;obtain ⟨Dj,Dk,Dl,Do,rfl,B9,Ca⟩:=B8;refine AOr<|Ait rfl rfl (Ait rfl rfl (Aho<|Ah7<|AOr<|AOr<|Aho<|Aho<|AO1<|AO6<|Ag7<|Ail<|Ag7<|Ail ?_));have Ae:=Aa.no2 B7 Ca B9;obtain rfl:=AOu<|By _ (AOu A6).symm;exact ⟨_,Arr,Ae.x,_,_,_,_,_,_,_,_,rfl,(Ae.o2 p0),(Ae.o2 p2),Ae.s.sel [0,2] AOs⟩
   ·refine AO5<|q_t<|Ag6<|AOr<|AOr ?_;obtain ⟨Dp,Cb,Cd⟩:=AOw<|Aok Aj Ak;refine Aux Aa (Axs (Aa.o2 p2).rd (Aa.o2 p0).rd Cb) λDq Dr Ds Dt Du Dv Am=>AOr<|AOr ?_;obtain ⟨Dw,Ce,Cf⟩:=AOw Cd;refine Aux Am (Aqf (Am.o2 p2).rd (Am.o2 p1).rd Ce) λDx Dy Dz D0 D1 D2 Cg=>Aho<|Aho<|Ahh<|q_b<|q_t ?_;exact ⟨(_,_,_,_,_,_,_,_,_,_),(AOu Cf).symm,Cg.sel [0,1] AOs,rfl,rfl,trivial⟩
def Aqi (fuel:Nat) (a3:LiI) (x5:LiA) (Ab Aa:Int):Option (Int ⊕ (Bool ⊕ Unit)):=
 if Aa < Ab then (Am0 fuel a3 x5 Ab Aa).bind λAe=>if (!Ae)=true then some (.inr<|.inl false) else some (.inl<|w64<|Aa + 1) else some<|.inr<|.inr ()
def Aqj (fuel:Nat) (a3:LiI) (x5:LiA) (Aa:Int):Option (Int ⊕ (Bool ⊕ Unit)):=
 if Aa < (a3.length:Int) then (iter (λs=>Aqi fuel a3 x5 Aa s) fuel 0).bind (λex=>match ex with | .inl Ad=>(some<|.inr<|.inl Ad) | .inr _=>if 0 < Aa then (Amm fuel a3 x5 Aa).bind λAe=>if (!Ae)=true then some (.inr<|.inl false) else some (.inl<|w64<|Aa + 1) else some<|.inl<|w64<|Aa + 1) else some<|.inr<|.inr ()
def Ans (fuel:Nat) (a3:LiI):Option Bool:=
 (Akf fuel a3).bind λ(x5,x6)=>(iter (λs=>Aqj fuel a3 x5 s) fuel 0).bind (λex=>match ex with | .inl Ac=>(some Ac) | .inr _=>some true)
theorem Ayr {Am:Value} {r:Bool} (H2:Ajw cZ h Am a3) (hp:Ans fuel a3=some r):Ahs Tryz.prog 63 #[Am] h (λx h'=>Ext h h'/\x= .bool r):=by
 unfold Ans at hp;refine cwf (l:=[_]) Tryz.func63 rfl rfl (AOv<|Ah7<|AOr ?_);have K0:=Kst.k0 h;obtain ⟨⟨x5,x6⟩,A3,Aq⟩:=AOw hp;dsimp only at Aq;refine Aqs rfl (Aqh (H2.ext K0.x) A3) λBe Bf E9 A5=>?_;obtain ⟨Bg,Bh,rfl,A6,A7⟩:=A5;refine AOr<|Ait rfl rfl (Ait rfl rfl (Aho<|AO1<|AOx<|AOv<|AOr<|Ahx Ai9 rfl H2 (AOr<|AOz<|AO0 ?_)));have Ar:=K0.no E9 A7 A6;refine Arf 274877890660 Aq (λx=>[(14,(.int .i64 x))]) (λx=>Ar.L) Ar ⟨rfl,trivial⟩ ?_;rintro A8 Bi Bj Bl Ad Ae Af;unfold Aqj at Ae;refine AOv<|Ahn rfl rfl (AOz<|AOx<|⟨_,rfl,λAg=>?_,λAg=>?_⟩)
 ·refine AO5<|q_t<|AOx<|AO0<|AOv<|AOr<|AO1<|AOx<|AOv<|AO1<|AO0<|Arf 268304452 (Ahy Ae Ag) (λx=>[(6,(.int .i64 x))]) (λx=>Ad.L) Ad ⟨rfl,trivial⟩ ?_;rintro Bm Bn Bo Bp Aa Ah Au;unfold Aqi at Ah;refine AOx<|AOv<|AOr<|AOr<|Ahn rfl rfl (AOz<|⟨_,rfl,λAi=>?_,λAi=>?_⟩)
  ·refine AO5<|q_t<|AOx<|AO0<|AOv<|AOr<|AOr<|AOr<|AOr ?_;obtain ⟨Bq,A9,Av⟩:=AOw<|Ahy Ah Ai;refine Akb Aa (Avf (H2.ext Aa.x) (Aa.o p0).rd A9) λBr Bt Aw=>Akc rfl (AOz<|⟨_,rfl,λAj=>?_,λAj=>?_⟩)
   ·refine AOv<|AO1<|AO6<|Ail<|Ag7<|Ag7<|Ail<|Ag7<|Ail<|Ag7<|Ag7<|Ail<|Ag7 ?_;obtain rfl:=AOu<|Af _ (AOu<|Au _ (AOu<|ifT Av Aj).symm).symm;exact ⟨_,AO7,Aw.x,rfl⟩
   ·refine AO5<|q_b<|q_t<|Ag6<|AOr<|Ahk rfl rfl (AO1 ?_);exact ⟨_,(AOu<|Aok Av Aj).symm,Aw,rfl,trivial⟩
  ·refine Ahf<|Ahg<|Ahg<|Aio<|q_t<|AOv<|AOr<|Anj rfl rfl (AOr ?_);have Ax:=Au _ (AOu<|Ahz Ah Ai).symm;by_cases Ac:0 < A8
   ·rw [decide_eq_true Ac];refine Ahb 30 true<|AOr<|Ahb 30 true<|AOr<|Ahb 30 true<|AOr<|Ahb 30 true ?_;obtain ⟨Bu,Ba,Ay⟩:=AOw<|ifT Ax Ac;refine Akb Aa (Au5 (H2.ext Aa.x) (Aa.o p0).rd Ba) λBv Bw Az=>Ahb 30 true<|Akc rfl (Ahc rfl (AOz<|⟨_,rfl,λAk=>?_,λAk=>?_⟩))
    ·refine AOv<|AO1<|AO6<|Ail<|Ag7<|Ag7<|Ail<|Ag7 ?_;obtain rfl:=AOu<|Af _ (AOu<|ifT Ay Ak).symm;exact ⟨_,AO7,Az.x,rfl⟩
    ·refine AO5<|q_b<|q_t<|Ag6<|Ahk rfl rfl (AOr<|AOz ?_);exact ⟨_,(AOu<|Aok Ay Ak).symm,Az,rfl,trivial⟩
   ·rw [decide_eq_false Ac];refine An1 30 false<|APd rfl (AOz<|Aht rfl (AO5<|q_b<|q_t<|Ag6<|Ahk rfl rfl (AOr<|AOz ?_)));exact ⟨_,(AOu<|ifF Ax Ac).symm,Aa,rfl,trivial⟩
 ·refine Ahf<|Ahg<|Ahg<|Aio<|q_t<|AOv<|AO1<|AO6 ?_;obtain rfl:=AOu<|Af _ (AOu<|Ahz Ae Ag).symm;exact ⟨_,AO7,Ad.x,rfl⟩
def Ak6 (fuel:Nat) (a3:LiI):Option Bool:=
 (Ajg fuel a3).bind λ(x5,x6)=>if x6=true then (Ajr fuel x5).bind λAd=>if Ad=0 then (Am1 fuel x5).bind λAe=>if Ae=true then (Ans fuel x5).bind λAf=>some Af else some false else some false else some false
theorem Axt {r:Bool} (H2:Ajw (cI .i64) h Af a3) (hp:Ak6 fuel a3=some r):Ahs Tryz.prog 26 #[Af] h (λx h'=>Ext h h'/\x= .bool r):=by
 unfold Ak6 at hp;refine cwf (l:=[_]) Tryz.func26 rfl rfl (AOv<|Ah7<|AOr ?_);have K0:=Kst.k0 h;obtain ⟨⟨x5,x6⟩,Aq,Ab⟩:=AOw hp;dsimp only at Ab;refine Aqs rfl (Auc (H2.ext K0.x) Aq) λA8 A9 E9 Au=>?_;obtain ⟨Ba,Bb,Bc,Be,rfl,Av,Aw⟩:=Au;refine AOr<|Ait rfl rfl (Ait rfl rfl (Aho<|Ah7<|AOr<|AOr ?_));have Ac:=K0.no2 E9 Aw Av;cases Ai:x6
 ·refine Aki 11 false<|APd rfl (AOr<|Aqc 16 false<|APd rfl (AOr<|Aqc 20 false<|APd rfl (AO1<|AO6 ?_)));obtain rfl:=AOu<|Aok Ab Ai;exact ⟨_,AO7,Ac.x,rfl⟩
 ·refine Ahb 11 true<|AOr<|Ahb 11 true ?_;obtain ⟨Ax,Ay,Aj⟩:=AOw<|ifT Ab Ai;refine Akb Ac (Ap7 (Ac.o2 p0).rd Ay) λBf Bg Ad=>Ahb 11 true<|Ai0 rfl rfl (Ahc rfl (AOr ?_));by_cases Aa:Ax=0
  ·rw [decide_eq_true Aa];refine Ahb 16 true<|AOr<|Ahb 16 true ?_;obtain ⟨Az,A3,Ak⟩:=AOw<|ifT Aj Aa;refine Akb Ad (Avg (Ad.o2 p0).rd A3) λBh Bi Ae=>Ahc rfl (AOr ?_);cases Am:Az
   ·refine Aqc 20 false<|APd rfl (AO1<|AO6 ?_);obtain rfl:=AOu<|Aok Ak Am;exact ⟨_,AO7,Ae.x,rfl⟩
   ·refine Ahb 20 true<|AOr<|Ahb 20 true ?_;obtain ⟨Bj,A4,A5⟩:=AOw<|ifT Ak Am;refine Akb Ae (Ayr (Ae.o2 p0).rd A4) λBl Bm A6=>Ahc rfl (AO1<|AO6 ?_);obtain rfl:=AOu A5;exact ⟨_,AO7,A6.x,rfl⟩
  ·rw [decide_eq_false Aa];refine Aqc 16 false<|APd rfl (AOr<|Aqc 20 false<|APd rfl (AO1<|AO6 ?_));obtain rfl:=AOu<|ifF Aj Aa;exact ⟨_,AO7,Ad.x,rfl⟩
end Go.Proofs.YtkakafabeobahaaGreatDoor
namespace Go.QF
open Go
def Ok {α:Type} (o:Option α) (Q:α->Prop):Prop:= ∃ r,o=some r/\Q r
theorem AOt {a:α} {Q:α->Prop} (h:Q a):Ok (some a) Q:=⟨a,rfl,h⟩
theorem AOy {β:Type} {o:Option α} {f:α->Option β} {Q:α->Prop} {R:β->Prop} (h:Ok o Q) (k:∀ x,Q x->Ok (f x) R):Ok (o.bind f) R:=by
 obtain ⟨x,rfl,hx⟩:=h;exact k x hx
theorem Ag9 {c:Prop} [Decidable c] {a b:Option α} {R:α->Prop} (ht:c->Ok a R) (hf: ¬ c->Ok b R):Ok (if c then a else b) R:=by
 grind
theorem Ah8 {c:Prop} [Decidable c] {a:Option α} {R:α->Prop} (hc:c) (h:Ok a R):Ok (if c then a else none) R:=by grind
theorem A6d {o:Option α} {Q R:α->Prop} (h:Ok o Q) (k:∀ x,Q x->R x):Ok o R:=let ⟨x,h1,h2⟩:=h;⟨x,h1,k x h2⟩
theorem ok_eq {o:Option α} {a:α} (h:Ok o (· =a)):o=some a:=by obtain ⟨x,h1,rfl⟩:=h;exact h1
theorem Aid {o:Option α} {a:α} (h:o=some a):Ok o (· =a):=⟨a,h,rfl⟩
theorem Ahj {β:Type} {L:List α} {i:Int} {n:Nat} {x:α} {f:α->Option β} {R:β->Prop} (hx:L[n]? =some x) (hi:i=n) (k:Ok (f x) R):Ok ((gI L i).bind f) R:=by
 subst hi;unfold gI;grind
theorem Ah4 {S E:Type} {body:S->Option (S ⊕ E)} {s0:S} (I:Nat->S->Prop) (n:Nat) {Q:E->Prop} (h0:I 0 s0) (hf:n < fuel) (hs:∀ i s,i<=n->I i s->Ok (body s) λr=>match r with | .inl s'=>i < n/\I (i + 1) s' | .inr e=>Q e):Ok (iter body fuel s0) Q:=by
 have key:∀ k fuel i s,n - i=k->k < fuel->i<=n->I i s->Ok (iter body fuel s) Q:=by
  intro k;induction k with
  | zero=>
    intro fuel i s hk hf hi hI;obtain ⟨r,hr,hq⟩:=hs i s hi hI;cases fuel with
    | zero=>omega
    | succ f=>
      cases r with
      | inl s'=>omega
      | inr e=>exact ⟨e,by simp [iter,hr],hq⟩
  | succ k ih=>
    intro fuel i s hk hf hi hI;obtain ⟨r,hr,hq⟩:=hs i s hi hI;cases fuel with
    | zero=>omega
    | succ f=>
      cases r with
      | inl s'=>
        obtain ⟨e,he,hQ⟩:=ih f (i + 1) s' AOq AOq AOq hq.2;exact ⟨e,by simp [iter,hr,he],hQ⟩
      | inr e=>exact ⟨e,by simp [iter,hr],hq⟩
 grind
theorem Ajz (h1: -9223372036854775808<=x) (h2:x<=9223372036854775807):w64 x=x:=by
 show IntKind.i64.wrap x=x;rw [IntKind.wrap_i64];omega
theorem wk (h: -9223372036854775808<=x/\x<=9223372036854775807):w64 x=x:=Ajz h.1 h.2
def Aju {α:Type} (m:Nat) (f:Nat->α):List α:=(List.range m).map f
theorem Ah0 (m:Nat) (f:Nat->α):(Aju m f).length=m:=by simp [Aju]
theorem Ahr {m:Nat} {f:Nat->α} (h:j < m):(Aju m f)[j]? =some (f j):=by simp [Aju,h]
theorem Aiy {m:Nat} {f g:Nat->α} (h:∀ j,j < m->f j=g j):Aju m f=Aju m g:=by
 unfold Aju;simp_all
theorem Alw {m:Nat} {f:Nat->α} {x:α}:(Aju m f).set j x=Aju m λc=>if c=j then x else f c:=by
 apply List.ext_getElem?;intro i;rw [List.getElem?_set];by_cases h:j=i
 ·subst h;simp only [if_true,Ah0];by_cases hj:j < m
  ·simp [hj,Ahr hj]
  ·simp [hj,Aju]
 ·rw [if_neg h];by_cases hi:i < m
  ·rw [Ahr hi,Ahr hi,if_neg λhe=>h he.symm]
  ·simp [Aju,hi]
theorem Av0 (m:Nat) (f:Nat->α):Aju m f ++ [f m]=Aju (m + 1) f:=by simp [Aju,List.range_succ]
theorem Ama (m:Nat) (a:α):List.replicate m a=Aju m λ_=>a:=by
 apply List.ext_getElem?;intro i;by_cases h:i < m
 ·rw [Ahr h];simp [h]
 ·simp [Aju,h]
theorem Awn (r c:Nat) (F:Ahe):tab r c F=Aju r λi=>Aju c (F i):=rfl
theorem Ahw {c:Nat} (h:i < r):(tab r c F)[i]? =some (Aju c<|F i):=Ahr (f:=λi=>Aju c<|F i) h
theorem BJn {c:Nat}:(tab r c F).set i (Aju c λq=>if q=j then x else F i q)=tab r c (Ajc F i λq=>if q=j then x else F i q):=Ash
theorem Aja (L:List α) (n:Nat) (x:α):sI L (n:Int) x=L.set n x:=by simp [sI]
end Go.QF
namespace Go.QF
theorem Auy (F:Ahe) (i:Nat) (f g:Nat->Int):Ajc (Ajc F i f) i g=Ajc F i g:=by
 funext k;by_cases h:k=i
 ·subst h;rw [Ai2,Ai2]
 ·rw [Alu _ _ h,Alu _ _ h,Alu _ _ h]
theorem Av1 (F:Ahe) (i:Nat):Ajc F i (F i)=F:=by
 funext k;by_cases h:k=i
 ·subst h;rw [Ai2]
 ·rw [Alu _ _ h]
theorem Avh (f g:Nat->Int) (n:Nat):psum (λi=>f i + g i) n=psum f n + psum g n:=by
 induction n with
 | zero=>rfl
 | succ n ih=>simp only [psum];rw [ih];omega
theorem Aow (c:Int) (f:Nat->Int) (n:Nat):psum (λi=>c * f i) n=c * psum f n:=by
 induction n with
 | zero=>simp [psum]
 | succ n ih=>simp only [psum];grind
theorem Ax8 (n:Nat):psum (λ_=>0) n=0:=by
 induction n with
 | zero=>rfl
 | succ n ih=>simp only [psum];rw [ih];rfl
theorem A8t (f:Ahe) (n m:Nat):psum (λi=>psum (λj=>f i j) m) n=psum (λj=>psum (λi=>f i j) n) m:=by
 induction n with
 | zero=>simp only [psum];exact (Ax8 m).symm
 | succ n ih=>
   simp only [psum]
   rw [ih,<- Avh]
theorem BJo {n:Nat} (ha:a < n) (h:∀ i,i≠a->g i=f i):psum g n=psum f n + (g a - f a):=by
 induction n with
 | zero=>omega
 | succ n ih=>
   simp only [psum]
   by_cases hn:a=n
   ·subst hn;rw [Ais (f:=g) (g:=f) λk hk=>h k AOq];omega
   grind
theorem Ass {n:Nat} (ha:a < n) (h:∀ i,i≠a->f i=0):psum f n=f a:=by
 rw [BJo (f:=λ_=>0) ha h,Ax8];omega
def Eqm (m a b:Int):Prop:=a % m=b % m
theorem Eqm.refl (m a:Int):Eqm m a a:=rfl
theorem Eqm.of_eq {m a b:Int} (h:a=b):Eqm m a b:=h ▸ rfl
theorem Eqm.trans {m a b c:Int} (h:Eqm m a b) (k:Eqm m b c):Eqm m a c:=Eq.trans h k
theorem Eqm.add {m a b c:Int} (h:Eqm m a b) (k:Eqm m c d):Eqm m (a + c) (b + d):=by
 unfold Eqm at *;rw [Int.add_emod,h,k,<- Int.add_emod]
theorem Eqm.sub {m a b c:Int} (h:Eqm m a b) (k:Eqm m c d):Eqm m (a - c) (b - d):=by
 unfold Eqm at *;rw [Int.sub_emod,h,k,<- Int.sub_emod]
theorem Eqm.mul {m a b c:Int} (h:Eqm m a b) (k:Eqm m c d):Eqm m (a * c) (b * d):=by
 unfold Eqm at *;rw [Int.mul_emod,h,k,<- Int.mul_emod]
theorem Eqm.mod (m a:Int):Eqm m (a % m) a:=Int.emod_emod_of_dvd a<|Int.dvd_refl m
theorem Eqm.psum {m:Int} {f g:Nat->Int} {n:Nat} (h:∀ i,i < n->Eqm m (f i) (g i)):Eqm m (psum f n) (psum g n):=by
 induction n with
 | zero=>rfl
 | succ n ih=>exact (ih λi hi=>h i AOq).add (h n AOq)
end Go.QF
namespace Go.QF
theorem BJp (hk:k<=r) (h:∀ i,k<=i->i < r->f i=0):psum f r=psum f k:=by
 induction r with
 | zero=>rw [Nat.le_zero.1 hk]
 | succ r ih=>
   rcases Nat.lt_or_ge k (r + 1) with h1 | h1
   ·simp only [psum]
    rw [ih AOq λi h2 h3=>h i h2 AOq,h r AOq AOq];omega
   ·obtain rfl:k=r + 1:=by omega
    rfl
def dl (a b:Nat):Int:=if a=b then 1 else 0
def skp (i a:Nat):Nat:=if a < i then a else a + 1
def usk (i r:Nat):Nat:=if r < i then r else r - 1
def sg (i:Nat):Int:=if i % 2=0 then 1 else -1
theorem BMq (i:Nat):sg (i + 1)= -sg i:=by unfold sg;omega
theorem BPp (i a:Nat):skp i a≠i:=by unfold skp;split <;> omega
theorem BJq {n:Nat} (ha:a < n):skp i a < n + 1:=by unfold skp;split <;> omega
theorem BMr (h:r≠i):skp i (usk i r)=r:=by
 unfold usk;split <;> (unfold skp;split <;> omega)
theorem BMs (h:skp i a=r):a=usk i r:=by unfold skp at h;unfold usk;grind
theorem BPq {n:Nat} (h:r≠i) (hi:i < n + 1) (hr:r < n + 1):usk i r < n:=by unfold usk;split <;> omega
theorem Aiu (F:Ahe) (a:Nat) (g:Nat->Int) (i j:Nat):Ajc F a g i j=if i=a then g j else F i j:=by
 unfold Ajc;split <;> rfl
theorem Ast (F:Ahe) (a b i j:Nat):Ann F a b i j=if i=b then F a j else if i=a then F b j else F i j:=by
 unfold Ann;rw [Aiu,Aiu]
def Amv (i:Nat) (F:Ahe):Ahe:=λa b=>F (skp i a)<|b + 1
def det:Nat->(Ahe)->Int
 | 0,_=>1
 | n + 1,F=>psum (λi=>sg i * F i 0 * det n (Amv i F))<|n + 1
theorem Ajd:∀ {n:Nat} {F G:Ahe},(∀ i j,i < n->j < n->F i j=G i j)->det n F=det n G:=by
 intro n
 induction n with
 | zero=>intro _ _ _;rfl
 | succ n ih=>
   intro F G h
   refine Ais λi hi=>?_
   rw [h i 0 hi AOq,ih (F:=Amv i F) (G:=Amv i G) λa b ha hb=>h _ _ (BJq ha) AOq]
theorem A3t (h:r≠i):Amv i (Ajc F r g)=Ajc (Amv i F) (usk i r) (λb=>g<|b + 1):=by
 funext a b;unfold Amv Ajc;by_cases ha:skp i a=r
 ·rw [if_pos ha,if_pos<|BMs ha]
 ·rw [if_neg ha,if_neg λhe=>ha<|by rw [he,BMr h]]
theorem A53:Amv i (Ajc F i g)=Amv i F:=by
 funext a b;unfold Amv;rw [Alu _ _<|BPp i a]
theorem A08:∀ {n:Nat} {F:Ahe} {r:Nat} (u v:Nat->Int) (c d:Int),r < n->det n (Ajc F r λq=>c * u q + d * v q)=c * det n (Ajc F r u) + d * det n (Ajc F r v):=by
 intro n
 induction n with
 | zero=>omega
 | succ n ih=>
   intro F r u v c d hr
   simp only [det]
   rw [<- Aow,<- Aow,<- Avh]
   refine Ais λi hi=>?_
   by_cases h:r=i
   ·subst h
    simp only [A53,Ai2]
    grind
   ·rw [A3t h,A3t h,A3t h,Alu _ _<|Ne.symm h,Alu _ _<|Ne.symm h,Alu _ _<|Ne.symm h,ih (λb=>u<|b + 1) (λb=>v<|b + 1) c d<|BPq h hi hr]
    grind
theorem BJr {n s:Nat} (hr:r < n) (hs:s < n) (hrs:r≠s) (h:∀ i,i < n->i≠r->i≠s->f i=0):psum f n=f r + f s:=by
 have h1:psum f n=psum (λi=>(if i=r then f r else 0) + (if i=s then f s else 0)) n:=Ais λi hi=>by
  grind
 rw [h1,Avh,Ass (f:=λi=>if i=r then f r else 0) hr λi hi=>if_neg hi,Ass (f:=λi=>if i=s then f s else 0) hs λi hi=>if_neg hi,if_pos rfl,if_pos rfl]
theorem BE6:∀ {n:Nat} {F:Ahe} {r:Nat},r + 1 < n->(∀ q,q < n->F r q=F (r + 1) q)->det n F=0:=by
 intro n
 induction n with
 | zero=>omega
 | succ n ih=>
   intro F r hr h
   simp only [det]
   rw [BJr (r:=r) (s:=r + 1) AOq AOq AOq]
   ·have:det n (Amv r F)=det n (Amv (r + 1) F):=Ajd λa b ha hb=>by
     unfold Amv skp
     grind
    rw [this,BMq,h 0 AOq]
    grind
   ·intro i hi h1 h2
    rcases Nat.lt_or_ge i r with hlt | hge
    ·rw [ih (F:=Amv i F) (r:=r - 1) AOq]
     ·simp
     ·intro q hq
      unfold Amv skp
      grind
    ·rw [ih (F:=Amv i F) (r:=r) AOq]
     ·simp
     ·intro q hq
      unfold Amv skp
      grind
theorem Ax9 {b:Nat} (h:a≠b) (u v:Nat->Int):Ajc (Ajc F a u) b v=Ajc (Ajc F b v) a u:=by
 funext k;unfold Ajc;grind
theorem BBp {n:Nat} {b:Nat} (ha:a < n) (hb:b < n) (hab:a≠b) (h0:∀ G:Ahe,G a=G b->det n G=0):det n (Ann F a b)= -det n F:=by
 have key:∀ u v:Nat->Int,det n (Ajc (Ajc F a u) b v)= -det n (Ajc (Ajc F a v) b u):=by
  intro u v;have h1:=h0 (Ajc (Ajc F a λq=>1 * u q + 1 * v q) b λq=>1 * u q + 1 * v q) (by rw [Ai2,Alu _ _ hab,Ai2]);rw [A08 u v 1 1 hb,Ax9 hab,Ax9 hab,A08 u v 1 1 ha,A08 u v 1 1 ha,Ax9<|Ne.symm hab,Ax9<|Ne.symm hab,Ax9<|Ne.symm hab,Ax9<|Ne.symm hab] at h1;have h2:=h0 (Ajc (Ajc F a u) b u) (by rw [Ai2,Alu _ _ hab,Ai2]);have h3:=h0 (Ajc (Ajc F a v) b v) (by rw [Ai2,Alu _ _ hab,Ai2]);omega
 unfold Ann;rw [key (F b)<|F a,Av1];rw [show Ajc F b (F b)=F from Av1 F b]
theorem BE7:∀ {d n:Nat} {F:Ahe} {a:Nat},a + d + 1 < n->F a=F (a + d + 1)->det n F=0:=by
 intro d
 induction d with
 | zero=>intro n F a hn h;exact BE6 hn λq _=>by rw [h]
 | succ d ih=>
   intro n F a hn h
   have h1:=BBp (n:=n) (F:=F) (a:=a + d + 1) (b:=a + d + 1 + 1) AOq AOq AOq λG hG=>BE6 (r:=a + d + 1) AOq λq _=>congrFun hG q
   have h2:=ih (n:=n) (F:=Ann F (a + d + 1)<|a + d + 1 + 1) (a:=a) AOq (by rw [A2p,A39 _ AOq AOq,h];rfl)
   omega
theorem Av2 {n:Nat} {b:Nat} (ha:a < n) (hb:b < n) (hab:a≠b) (h:F a=F b):det n F=0:=by
 rcases Nat.lt_or_ge a b with hlt | hge
 ·exact BE7 (d:=b - a - 1) (a:=a) AOq (by grind)
 ·exact BE7 (d:=a - b - 1) (a:=b) AOq (by grind)
theorem Ays {n:Nat} {b:Nat} (ha:a < n) (hb:b < n) (hab:a≠b):det n (Ann F a b)= -det n F:=
 BBp ha hb hab λ_ h=>Av2 ha hb hab h
theorem BGw {n:Nat} (u:Nat->Int) (c:Int) (hr:r < n):det n (Ajc F r λq=>c * u q)=c * det n (Ajc F r u):=by
 have:=A08 (F:=F) u (λ_=>0) c 0 hr;grind
theorem A4k {n:Nat} (hr:r < n) (h:∀ q,q < n->F r q=0):det n F=0:=by
 have:=BGw (F:=F) (F r) 0 hr;rw [Int.zero_mul] at this;rw [<- this]
 exact Ajd λi j hi hj=>by
  unfold Ajc
  split
  ·grind
  ·rfl
theorem Auo {n:Nat} {b:Nat} (ha:a < n) (hb:b < n) (hab:a≠b) (q:Int):det n (Ajc F a λx=>F a x + q * F b x)=det n F:=by
 have:=A08 (F:=F) (F a) (F b) 1 q ha;rw [Av1,Av2 (F:=Ajc F a<|F b) ha hb hab<|by rw [Ai2,Alu _ _<|Ne.symm hab]] at this;grind
theorem A7j {n:Nat} (hr:r < n) (y:Nat->Int) (u:Ahe):∀ t,det n (Ajc F r λq=>psum (λk=>y k * u k q) t)=psum (λk=>y k * det n (Ajc F r<|u k)) t:=by
 intro t
 induction t with
 | zero=>exact A4k hr λq _=>by rw [Ai2];rfl
 | succ t ih=>
   have:=A08 (F:=F) (λq=>psum (λk=>y k * u k q) t) (u t) 1 (y t) hr
   simp only [psum]
   grind
theorem BJs {n:Nat} (hr:r < n) (y:Nat->Int):det n (Ajc F r λq=>psum (λk=>y k * F k q) n)=y r * det n F:=by
 rw [A7j hr y F n,Ais (g:=λk=>if k=r then y r * det n F else 0),Ass hr λi hi=>if_neg hi,if_pos rfl];intro k hk
 by_cases h:k=r
 ·subst h;rw [if_pos rfl,Av1]
 ·rw [if_neg h,Av2 (F:=Ajc F r<|F k) hr hk (Ne.symm h)<|by rw [Ai2,Alu _ _ h]];simp
def Aoj (f:Nat->Int):Nat->Int
 | 0=>1
 | n + 1=>Aoj f n * f n
theorem A5t (f:Nat->Int) (n:Nat):Aoj f (n + 1)=f 0 * Aoj (λi=>f<|i + 1) n:=by
 induction n with
 | zero=>simp [Aoj]
 | succ n ih=>rw [Aoj,ih,Aoj];grind
theorem A5u {n:Nat} (h:∀ i,i < n->f i=g i):Aoj f n=Aoj g n:=by
 induction n with
 | zero=>rfl
 | succ n ih=>rw [Aoj,Aoj,ih λi hi=>h i AOq,h n AOq]
theorem A0b:∀ {n:Nat} {F:Ahe},Zc n F n->det n F=Aoj (λi=>F i i) n:=by
 intro n
 induction n with
 | zero=>intro _ _;rfl
 | succ n ih=>
   intro F h
   rw [A5t,det,Ais (g:=λi=>if i=0 then F 0 0 * det n (Amv 0 F) else 0),Ass (a:=0) AOq λi hi=>if_neg hi,if_pos rfl]
   ·rw [ih (F:=Amv 0 F) (λc' i h1 h2 h3=>by unfold Amv skp;rw [if_neg AOq];exact h (c' + 1) (i + 1) AOq AOq AOq)]
    rfl
   ·intro i hi
    by_cases h0:i=0
    ·subst h0;simp [sg]
    ·rw [if_neg h0,h 0 i AOq AOq hi];simp
theorem A8u:∀ {n:Nat} {F:Ahe},(∀ i j,i < j->j < n->F i j=0)->det n F=Aoj (λi=>F i i) n:=by
 intro n
 induction n with
 | zero=>intro _ _;rfl
 | succ n ih=>
   intro F h
   rw [A5t,det,Ais (g:=λi=>if i=0 then F 0 0 * det n (Amv 0 F) else 0),Ass (a:=0) AOq λi hi=>if_neg hi,if_pos rfl]
   ·rw [ih (F:=Amv 0 F) (λi j h1 h2=>by unfold Amv skp;grind)]
    rfl
   ·intro i hi
    by_cases h0:i=0
    ·subst h0;simp [sg]
    ·rw [if_neg h0,A4k (F:=Amv i F) (r:=0) AOq (λq hq=>by unfold Amv skp;grind)];simp
def A3e (F:Ahe) (c i:Nat) (q:Int):Ahe:=Ann (Ajc F c λx=>F c x + -q * F i x) c i
theorem BE8 (F:Ahe) {c:Nat} (q:Int):A3e F c i q i=λx=>F c x + -q * F i x:=by
 unfold A3e;rw [A61,Ai2]
theorem BMt (F:Ahe) {c:Nat} (h:c≠i) (q:Int):A3e F c i q c=F i:=by
 unfold A3e;rw [A2p,Alu _ _<|Ne.symm h]
theorem BBq (F:Ahe) {c:Nat} (hc:k≠c) (hi:k≠i) (q:Int):A3e F c i q k=F k:=by
 unfold A3e;rw [A39 _ hc hi,Alu _ _ hc]
theorem BJt {n:Nat} {c:Nat} (H:Zc n F c) (hci:c < i) (hi:i < n):Zc n (A3e F c i q) c:=by
 intro c' k h1 h2 h3;by_cases hk:k=i
 ·subst hk;rw [BE8];simp [H c' c h1 h1 AOq,H c' k h1 h2 h3]
 ·by_cases Ad:k=c
  ·subst Ad;rw [BMt F hk];exact H c' i h1 AOq hi
  ·rw [BBq F Ad hk];exact H c' k h1 h2 h3
theorem BJu {c:Nat} (H:Zi F c i):Zi (A3e F c i q) c i:=by
 intro k h1 h2;rw [BBq F AOq AOq];exact H k h1 h2
theorem BE9 {n:Nat} {P:(Ahe)->Prop} (hadd:∀ F a b q,a < n->b < n->a≠b->P (Ajc F a λx=>F a x + q * F b x)->P F) (hswap:∀ F a b,a < n->b < n->a≠b->P (Ann F a b)->P F) (htri:∀ F,Zc n F n->P F):∀ F,P F:=by
 have key:∀ d c,c + d=n-> ∀ F,Zc n F c->P F:=by
  intro d;induction d with
  | zero=>grind
  | succ d ih=>
    intro c hc
    have inner:∀ e i,i + e=n->c < i-> ∀ F,Zc n F c->Zi F c i->P F:=by
     intro e;induction e with
     | zero=>
        intro i hi hci F hF hz;obtain rfl:i=n:=by omega
        exact ih (c + 1) AOq F (BEh hF hz)
     | succ e ihe=>
       intro i hi hci
       have strong:∀ k F,(F i c).natAbs=k->Zc n F c->Zi F c i->P F:=by
        intro k;induction k using Nat.strongRecOn with
        | _ k ihk=>
          intro F hk hF hz
          by_cases h0:F i c=0
          ·exact ihe (i + 1) AOq AOq F hF<|BEg hz h0
          ·refine hadd F c i (-(F c c / F i c)) AOq AOq AOq<|hswap _ c i AOq AOq AOq ?_;refine ihk ((A3e F c i<|F c c / F i c) i c).natAbs ?_ (A3e F c i<|F c c / F i c) rfl (BJt hF hci AOq) (BJu hz);rw [BE8,<- hk];show (F c c + -(F c c / F i c) * F i c).natAbs < _;have h1:=Int.mul_ediv_add_emod (F c c)<|F i c;have h2:F c c + -(F c c / F i c) * F i c=F c c % F i c:=by grind
           rw [h2];have h3:=Int.emod_nonneg (F c c) h0;have h4:=Int.emod_lt (F c c) h0;omega
       grind
    exact λF hF=>inner (n - (c + 1)) (c + 1) AOq AOq F hF λk h1 h2=>by omega
 exact λF=>key n 0 AOq F λc' i h=>by omega
def Amb (n:Nat) (A B:Ahe):Ahe:=λi j=>psum (λk=>A i k * B k j) n
theorem BJv {n:Nat} {B:Ahe} {b:Nat}:Amb n (Ajc A a λx=>A a x + q * A b x) B=Ajc (Amb n A B) a λx=>Amb n A B a x + q * Amb n A B b x:=by
 funext i j;unfold Amb Ajc;by_cases h:i=a
 ·simp only [if_pos h];rw [<- Aow,<- Avh];grind
 simp_all
theorem BBr {n:Nat} {B:Ahe} {u:Nat->Int}:Amb n (Ajc A a u) B=Ajc (Amb n A B) a λx=>psum (λk=>u k * B k x) n:=by
 funext i j;unfold Amb Ajc;by_cases h:i=a
 ·simp_all
 simp_all
theorem BGx {n:Nat} {B:Ahe} {b:Nat}:Amb n (Ann A a b) B=Ann (Amb n A B) a b:=by
 unfold Ann;rw [BBr,BBr];rfl
theorem A6e {n:Nat} (A B:Ahe):det n (Amb n A B)=det n A * det n B:=by
 refine BE9 (n:=n) (P:=λA=>det n (Amb n A B)=det n A * det n B) (λF a b q ha hb hab h=>?_) (λF a b ha hb hab h=>?_) (λF hF=>?_) A
 ·rw [BJv,Auo ha hb hab,Auo ha hb hab] at h;exact h
 ·rw [BGx,Ays ha hb hab,Ays ha hb hab] at h;grind
 ·rw [A0b hF]
  have key:∀ j,j<=n->det n (λi=>if i < j then Amb n F B i else B i)=Aoj (λi=>F i i) j * det n B:=by
   intro j
   induction j with
   | zero=>intro _;simp [Aoj]
   | succ j ih=>
     intro hj
     rw [Aoj,Int.mul_assoc,Int.mul_comm<|F j j,<- Int.mul_assoc,<- ih AOq,Int.mul_comm]
     rw [<- BJs (F:=λi=>if i < j then Amb n F B i else B i) (r:=j) AOq (F j)]
     refine Ajd λi q hi hq=>?_
     unfold Ajc
     by_cases h:i=j
     ·subst h
      simp only [if_pos<|Nat.lt_succ_self i,if_pos]
      unfold Amb
      refine Ais λk hk=>?_
      by_cases hlt:k < i
      ·rw [hF k i AOq hlt hi];simp
      grind
     grind
  rw [<- key n (Nat.le_refl _)];exact Ajd λi j hi hj=>by rw [if_pos hi]
def trF (F:Ahe):Ahe:=λi j=>F j i
theorem BJw (n:Nat):det n dl=1:=by
 rw [A0b (λc' i h1 h2 h3=>by unfold dl;omega)]
 have:∀ k,Aoj (λi=>dl i i) k=1:=by
  intro k
  induction k with
  | zero=>rfl
  | succ k ih=>rw [Aoj,ih];simp [dl]
 exact this n
theorem BJx {n:Nat} (hj:j < n):psum (λk=>F i k * dl k j) n=F i j:=by
 rw [Ass hj (λk hk=>by unfold dl;grind)];simp [dl]
theorem BDn {n:Nat} (y:Nat->Int) (ha:a < n):det n (trF<|Ajc F a λx=>psum (λk=>y k * F k x) n)=det n (trF F) * det n (trF<|Ajc dl a y):=by
 rw [<- A6e];refine Ajd λi j hi hj=>?_;unfold Amb trF Ajc
 by_cases h:j=a
 ·simp only [if_pos h];grind
 ·simp only [if_neg h];rw [Ass hj (λk hk=>by unfold dl;grind)];simp [dl]
theorem Ayu {n:Nat} (F:Ahe):det n (trF F)=det n F:=by
 refine BE9 (n:=n) (P:=λF=>det n (trF F)=det n F) (λF a b q ha hb hab h=>?_) (λF a b ha hb hab h=>?_) (λF hF=>?_) F
 ·rw [Auo ha hb hab] at h;rw [<- h];have h1:=BDn (n:=n) (F:=F) (a:=a) (λk=>dl k a + q * dl k b) ha
  have h2:det n (trF<|Ajc dl a λk=>dl k a + q * dl k b)=1:=by
   rw [<- BJw n,<- Auo (F:=dl) hb ha (Ne.symm hab) q]
   refine Ajd λi j hi hj=>?_
   clear h1 h
   simp only [trF,Aiu,dl]
   grind
  rw [h2,Int.mul_one] at h1;rw [<- h1];refine Ajd λi j hi hj=>?_;unfold trF Ajc;by_cases hja:j=a
  ·simp only [if_pos hja];rw [Ais (g:=λk=>F k i * dl k a + q * (F k i * dl k b)) (λk _=>by grind),Avh,Aow];rw [Ass (a:=a) ha (λk hk=>by unfold dl;grind),Ass (a:=b) hb (λk hk=>by unfold dl;grind)];simp [dl]
  grind
 ·rw [Ays ha hb hab] at h
  have h1:det n (trF<|Ann F a b)=det n (trF F) * det n (Ann dl a b):=by
   rw [<- A6e]
   refine Ajd λi j hi hj=>?_
   unfold Amb trF
   have hsym:∀ k,Ann dl a b k j=if j=a then dl k b else if j=b then dl k a else dl k j:=by
    intro k
    simp only [Ast,dl]
    grind
   rw [Ais (g:=λk=>F k i * dl k (if j=a then b else if j=b then a else j)) (λk _=>by rw [hsym];grind)]
   rw [Ass (a:=if j=a then b else if j=b then a else j) (by grind) (λk hk=>by unfold dl;grind)]
   simp only [dl,if_pos,Int.mul_one]
   by_cases h3:j=a
   ·subst h3;rw [A2p,if_pos rfl]
   ·rw [if_neg h3]
    by_cases h4:j=b
    ·subst h4;rw [A61,if_pos rfl]
    ·rw [A39 _ h3 h4,if_neg h4]
  rw [Ays ha hb hab,BJw] at h1;omega
 ·rw [A0b hF,A8u (F:=trF F) λi j h1 h2=>hF i j AOq h1 h2];rfl
def shF (k:Nat) (F:Ahe):Ahe:=λi j=>F (k + i)<|k + j
theorem A8v (h:i < k + 1):skp i (k + a)=k + 1 + a:=by unfold skp;grind
theorem A47:∀ {k m:Nat} {T:Ahe},(∀ i j,k<=i->i < k + m->j < k->T i j=0)->det (k + m) T=det k T * det m (shF k T):=by
 intro k;induction k with
 | zero=>
   intro m T _;have e:shF 0 T=T:=by funext i j;simp [shF]
   rw [e,Nat.zero_add];simp [det]
 | succ k ih=>
   intro m T h;rw [show k + 1 + m=(k + m) + 1 by omega];simp only [det];rw [BJp (k:=k + 1) AOq λi h1 h2=>by grind];rw [Int.mul_comm,<- Aow];refine Ais λi hi=>?_
   rw [ih (T:=Amv i T) (m:=m) (λa b ha ha2 hb=>by
    obtain ⟨c,rfl⟩:∃ c,a=k + c:=⟨a - k,AOq⟩;unfold Amv;rw [A8v hi];grind)]
   have e:shF k (Amv i T)=shF (k + 1) T:=by
    funext a b;unfold shF Amv;rw [A8v hi,show k + b + 1=k + 1 + b by omega]
   rw [e];grind
theorem A92 {n:Nat} (h:∀ i,i < n + 1->F i 0=0):det (n + 1) F=0:=by
 simp only [det];rw [Ais (g:=λ_=>0) λi hi=>by grind];exact Ax8 _
theorem BBs {n:Nat} {b:Nat} (ha:a < n) (hb:b < n) (hab:a≠b) (h:∀ i,F i a=F i b):det n F=0:=by
 rw [<- Ayu];exact Av2 ha hb hab (by funext i;exact h i)
theorem BMu (F:Ahe):det 2 F=F 0 0 * F 1 1 - F 1 0 * F 0 1:=by
 simp [det,psum,Amv,skp,sg];grind
def bro (k i r:Nat):Nat:=if r < k then r else i
def Mn (k:Nat) (A:Ahe) (i j:Nat):Int:=det (k + 1) λr c=>A (bro k i r)<|bro k j c
theorem Awo (A:Ahe) (i j:Nat):Mn 0 A i j=A i j:=by
 simp [Mn,det,psum,bro,sg]
theorem Asb (k:Nat) (A:Ahe):Mn k A k k=det (k + 1) A:=by
 refine Ajd λr c hr hc=>?_;have e:∀ r,r < k + 1->bro k k r=r:=λr hr=>by unfold bro;split <;> omega
 grind
theorem BOt (A:Ahe) (i:Nat) (hj:j < k):Mn k A i j=0:=by
 refine BBs (a:=j) (b:=k) AOq AOq AOq λr=>?_;unfold bro;simp [hj]
def cof (k:Nat) (A:Ahe) (i s:Nat):Int:=det (k + 1)<|Ajc (λc r=>A (bro k i r) c) k<|dl s
theorem A93 {n:Nat} (f:Nat->Int) {q:Nat} (hq:q < n):psum (λs=>f s * dl s q) n=f q:=by
 rw [Ass hq (λi hi=>by unfold dl;grind)];simp [dl]
theorem BPr (k:Nat) (A:Ahe) (i j:Nat):Mn k A i j=psum (λs=>cof k A i s * A s j) k + det k A * A i j:=by
 have h1:Mn k A i j=det (k + 1) (Ajc (λc r=>A (bro k i r) c) k λq=>psum (λs=>A (bro k i s) j * dl s q)<|k + 1):=by
  unfold Mn
  rw [<- Ayu]
  refine Ajd λc r hc hr=>?_
  rw [Aiu,A93 _ hr]
  unfold trF
  split
  ·subst_vars;simp [bro]
  ·have:c < k:=by omega
   simp [bro,this]
 rw [h1,A7j AOq]
 have hk:det (k + 1) (Ajc (λc r=>A (bro k i r) c) k<|dl k)=det k A:=by
  rw [A47 (k:=k) (m:=1) (T:=Ajc (λc r=>A (bro k i r) c) k<|dl k) (λa b h1 h2 h3=>by
   obtain rfl:a=k:=by omega
   rw [Aiu,if_pos rfl];unfold dl;omega)]
  have e1:det k (Ajc (λc r=>A (bro k i r) c) k<|dl k)=det k A:=by
   rw [<- Ayu]
   refine Ajd λr c hr hc=>?_
   unfold trF
   rw [Aiu,if_neg AOq]
   simp [bro,hr]
  have e2:det 1 (shF k<|Ajc (λc r=>A (bro k i r) c) k<|dl k)=1:=by
   simp [det,psum,shF,sg,Aiu,dl]
  grind
 show psum (λs=>A (bro k i s) j * det (k + 1) (Ajc (λc r=>A (bro k i r) c) k<|dl s)) k + A (bro k i k) j * det (k + 1) (Ajc (λc r=>A (bro k i r) c) k<|dl k)=_;rw [hk];congr 1
 ·refine Ais λs hs=>?_;show _=cof k A i s * A s j;unfold cof;rw [Int.mul_comm];simp [bro,hs]
 ·simp [bro,Int.mul_comm]
theorem BBt (f:Nat->Int) (k m:Nat):Aoj f (k + m)=Aoj f k * Aoj (λi=>f<|k + i) m:=by
 induction m with
 | zero=>simp [Aoj]
 | succ m ih=>rw [<- Nat.add_assoc];simp only [Aoj];rw [ih];grind
theorem A8w {f:Nat->Int}:∀ {n:Nat},(∀ i,i < n->f i=1)->Aoj f n=1
 | 0,_=>rfl
 | n + 1,h=>by rw [Aoj,A8w λi hi=>h i AOq,h n AOq];rfl
theorem BBu {f:Nat->Int}:∀ {n:Nat},(∀ i,i < n->f i≠0)->Aoj f n≠0
 | 0,_=>by simp [Aoj]
 | n + 1,h=>by rw [Aoj];exact Int.mul_ne_zero (BBu λi hi=>h i AOq)<|h n AOq
def A1p (k:Nat) (A:Ahe) (ρ:Nat->Nat):Ahe:=λr s=>if r < k then dl r s else if s < k then cof k A (ρ r) s else if s=r then det k A else 0
theorem BBv {n:Nat} {B:Ahe} {ρ γ:Nat->Nat} (hkn:k<=n) (hρ:∀ r,r < k->ρ r=r) (hB:∀ r c,B r c=A (ρ r) (γ c)) {c:Nat} (hr:r < n):Amb n (A1p k A ρ) B r c=if r < k then B r c else Mn k A (ρ r) (γ c):=by
 unfold Amb;by_cases h:r < k
 ·rw [if_pos h,Ass hr (λi hi=>by unfold A1p;rw [if_pos h];unfold dl;grind)];unfold A1p;rw [if_pos h];simp [dl]
 ·rw [if_neg h,BPr];obtain ⟨m,rfl⟩:∃ m,n=k + m:=⟨n - k,AOq⟩
  have hs:∀ t,psum (λs=>A1p k A ρ r s * B s c) (k + t)=psum (λs=>cof k A (ρ r) s * A s (γ c)) k + (if r < k + t then det k A * A (ρ r) (γ c) else 0):=by
   intro t
   induction t with
   | zero=>
     rw [if_neg AOq,Int.add_zero,Nat.add_zero]
     refine Ais λs hs=>?_
     unfold A1p
     grind
   | succ t ih=>
     show psum (λs=>A1p k A ρ r s * B s c) (k + t) + A1p k A ρ r (k + t) * B (k + t) c=_
     rw [ih]
     have e:A1p k A ρ r (k + t)=if k + t=r then det k A else 0:=by unfold A1p;omega
     grind
  grind
theorem BBw {m:Nat} {ρ:Nat->Nat}:det (k + m) (A1p k A ρ)=Aoj (λ_=>det k A) m:=by
 rw [A8u (λi j hij hj=>by
  unfold A1p
  split
  ·unfold dl;omega
  omega),BBt,A8w,Int.one_mul]
 ·refine A5u λi hi=>?_;unfold A1p;omega
 ·intro i hi;unfold A1p;rw [if_pos hi];simp [dl]
theorem A2x (h0:det k A≠0) (i j:Nat):Mn k A k k * Mn k A i j - Mn k A i k * Mn k A k j=det k A * Mn (k + 1) A i j:=by
 have h1:=A6e (n:=k + 2) (A1p k A<|bro (k + 1) i) λr c=>A (bro (k + 1) i r)<|bro (k + 1) j c
 have hm:∀ r c,r < k + 2->Amb (k + 2) (A1p k A<|bro (k + 1) i) (λr c=>A (bro (k + 1) i r)<|bro (k + 1) j c) r c=if r < k then A (bro (k + 1) i r) (bro (k + 1) j c) else Mn k A (bro (k + 1) i r) (bro (k + 1) j c):=λr c hr=>
  BBv (k:=k) (n:=k + 2) (A:=A) (B:=λr c=>A (bro (k + 1) i r)<|bro (k + 1) j c) (ρ:=bro (k + 1) i) (γ:=bro (k + 1) j) AOq (λr hr=>by unfold bro;grind) (λr c=>rfl) hr
 rw [BBw,A47 (k:=k) (m:=2) (λa b ha ha2 hb=>by
  rw [hm a b ha2,if_neg AOq,show bro (k + 1) j b=b by unfold bro;grind];exact BOt _ _ hb)] at h1
 have e1:det k (Amb (k + 2) (A1p k A<|bro (k + 1) i) λr c=>A (bro (k + 1) i r)<|bro (k + 1) j c)=det k A:=by
  refine Ajd λr c hr hc=>?_;rw [hm r c AOq,if_pos hr];simp only [bro];grind
 have b0:∀ q,bro (k + 1) q (k + 0)=k:=λq=>by unfold bro;grind
 have b1:∀ q,bro (k + 1) q (k + 1)=q:=λq=>by unfold bro;grind
 rw [e1,BMu] at h1;simp only [shF] at h1;rw [hm _ _ AOq,hm _ _ AOq,hm _ _ AOq,hm _ _ AOq,if_neg AOq,if_neg AOq,if_neg AOq,if_neg AOq,b0,b0,b1,b1] at h1;have e2:Aoj (λ_=>det k A) 2=det k A * det k A:=by simp [Aoj]
 have e3:(det (k + 2) λr c=>A (bro (k + 1) i r)<|bro (k + 1) j c)=Mn (k + 1) A i j:=rfl;rw [e2,e3,Int.mul_assoc] at h1;exact Int.eq_of_mul_eq_mul_left h0 h1
theorem BBx {n:Nat} (h0:det k A≠0) (hk:k < n) (hz:∀ i,k<=i->i < n->Mn k A i k=0):det n A=0:=by
 obtain ⟨m,rfl⟩:∃ m,n=k + (m + 1):=⟨n - k - 1,AOq⟩;have h1:=A6e (n:=k + (m + 1)) (A1p k A id) A
 have hm:∀ r c,r < k + (m + 1)->Amb (k + (m + 1)) (A1p k A id) A r c=if r < k then A r c else Mn k A r c:=λr c hr=>
  BBv (k:=k) (n:=k + (m + 1)) (A:=A) (B:=A) (ρ:=id) (γ:=id) AOq (λr hr=>rfl) (λr c=>rfl) hr
 rw [BBw,A47 (k:=k) (m:=m + 1) (λa b ha ha2 hb=>by rw [hm a b ha2,if_neg AOq];exact BOt _ _ hb),A92 (F:=shF k _) (λi hi=>by
  unfold shF;grind),Int.mul_zero] at h1
 rcases Int.mul_eq_zero.1 h1.symm with h2 | h2
 ·exact absurd h2<|BBu λi hi=>h0
 ·exact h2
def dBd (m:Nat):Nat->Nat
 | 0=>1
 | n + 1=>(n + 1) * m * dBd m n
theorem psum_abs {f:Nat->Int} {B:Nat}:∀ {n:Nat},(∀ i,i < n->(f i).natAbs<=B)->(psum f n).natAbs<=n * B
 | 0,_=>by simp [psum]
 | n + 1,h=>by
   have h1:=psum_abs (n:=n) λi hi=>h i AOq
   have h2:=h n AOq
   have h3:=Int.natAbs_add_le (psum f n)<|f n
   show (psum f n + f n).natAbs<=_
   grind
theorem A4l {m:Nat}:∀ {n:Nat} {F:Ahe},(∀ i j,(F i j).natAbs<=m)->(det n F).natAbs<=dBd m n
 | 0,_,_=>by simp [det,dBd]
 | n + 1,F,h=>by
   have h1:=psum_abs (f:=λi=>sg i * F i 0 * det n (Amv i F)) (B:=m * dBd m n) (n:=n + 1) λi hi=>by
    have e:=A4l (n:=n) (F:=Amv i F) λa b=>h _ _
    have es:(sg i).natAbs=1:=by unfold sg;split <;> rfl
    rw [Int.natAbs_mul,Int.natAbs_mul,es,Nat.one_mul]
    exact Nat.mul_le_mul (h i 0) e
   rw [dBd,Nat.mul_assoc]
   exact h1
theorem BMv {n:Nat} (hp:k < p) (hi:k<=i):Mn k (Ann A p k) i j=Mn k A (if i=k then p else if i=p then k else i) j:=by
 refine Ajd λr c hr hc=>?_;rw [Ast];unfold bro;grind
theorem A94 (hp:k < p):det k (Ann A p k)=det k A:=by
 refine Ajd λr c hr hc=>?_;rw [Ast,if_neg AOq,if_neg AOq]
def sgB (neg:Bool):Int:=if neg then -1 else 1
def A26 (m:Nat) (A0:Ahe) (n k:Nat) (F:Ahe) (last:Int) (neg:Bool):Prop:=
 ∃ A:Ahe,det n A=sgB neg * det n A0/\(∀ i j,k<=i->i < n->k<=j->j < n->F i j=Mn k A i j)/\last=det k A/\last≠0/\ ∀ i j,(A i j).natAbs<=m
theorem A7k {m n:Nat} (h:∀ i j,(A0 i j).natAbs<=m):A26 m A0 n 0 A0 1 false:=
 ⟨A0,by simp [sgB],λi j _ _ _ _=>(Awo A0 i j).symm,rfl,AOs,h⟩
theorem A8x {m n:Nat} (H:A26 m A0 n k F last neg) (hkp:k < p) (hp:p < n):A26 m A0 n k (Ann F p k) last (!neg):=by
 obtain ⟨A,h1,h2,h3,h4,h5⟩:=H;refine ⟨Ann A p k,?_,λi j hi hin hj hjn=>?_,by rw [A94 hkp];exact h3,h4,λi j=>?_⟩
 ·rw [Ays hp AOq AOq,h1];cases neg <;> simp [sgB]
 ·rw [BMv (n:=n) hkp hi,Ast];grind
 ·rw [Ast];grind
def bQ (k:Nat) (F:Ahe) (last:Int) (r c:Nat):Int:=(F k k * F r c - F r k * F k c) / last
def bF (k:Nat) (F:Ahe) (last:Int) (i j:Nat):Ahe:=λr c=>if k < r/\k < c/\(r < i∨r=i/\c < j) then bQ k F last r c else F r c
theorem A7l (k:Nat) (F:Ahe) (last:Int):bF k F last (k + 1) (k + 1)=F:=by
 funext r c;unfold bF;omega
theorem BDo (k n:Nat) (F:Ahe) (last:Int) (i:Nat) {c:Nat} (hc:c < n):bF k F last i n r c=bF k F last (i + 1) (k + 1) r c:=by
 unfold bF;omega
theorem BDp (k:Nat) (F:Ahe) (last:Int) (hi:k < i) (hj:k < j):(Ajc (bF k F last i j) i λc=>if c=j then bQ k F last i j else bF k F last i j i c)=bF k F last i (j + 1):=by
 funext r c;rw [Aiu];split
 ·subst_vars
  split
  ·subst_vars;unfold bF;omega
  ·unfold bF;omega
 ·unfold bF;omega
theorem A7m (k:Nat) (F:Ahe) (last:Int) (i j c:Nat):bF k F last i j k c=F k c:=by unfold bF;omega
theorem BJz (k:Nat) (F:Ahe) (last:Int) (i j r:Nat):bF k F last i j r k=F r k:=by unfold bF;omega
theorem BJ0 (k:Nat) (F:Ahe) (last:Int) (i j:Nat):bF k F last i j i j=F i j:=by unfold bF;omega
theorem BOu {m n:Nat} (H:A26 m A0 n k F last neg) (hk:k < n):∃ A,(∀ i j,(A i j).natAbs<=m)/\det n A=sgB neg * det n A0/\F k k=det (k + 1) A/\ ∀ i j,k<=i->i < n->k<=j->j < n->F i j=Mn k A i j/\bQ k F last i j=Mn (k + 1) A i j:=by
 obtain ⟨A,h1,h2,h3,h4,h5⟩:=H;refine ⟨A,h5,h1,by rw [h2 k k AOq hk AOq hk,Asb],λi j hi hin hj hjn=>⟨h2 i j hi hin hj hjn,?_⟩⟩;unfold bQ;rw [h2 k k AOq hk AOq hk,h2 i j hi hin hj hjn,h2 i k hi hin AOq hk,h2 k j AOq hk hj hjn,A2x AOq,<- h3,Int.mul_ediv_cancel_left _ h4]
theorem A8y {m n:Nat} (H:A26 m A0 n k F last neg) (hk:k < n) (h0:F k k≠0):A26 m A0 n (k + 1) (bF k F last n<|k + 1) (F k k) neg:=by
 obtain ⟨A,h5,h1,h6,h2⟩:=BOu H hk;refine ⟨A,h1,λi j hi hin hj hjn=>?_,h6,h0,h5⟩;unfold bF;grind
theorem A8z {m n:Nat} (H:A26 m A0 n k F last neg) (hk:k < n) (hz:∀ i,k<=i->i < n->F i k=0):det n A0=0:=by
 obtain ⟨A,h1,h2,h3,h4,h5⟩:=H;have h:=BBx (A:=A) AOq hk λi hi hin=>by grind
 rw [h1] at h;rcases Int.mul_eq_zero.1 h with h6 | h6
 ·cases neg <;> simp [sgB] at h6
 ·exact h6
theorem BBy {m n:Nat} (H:A26 m A0 n n F last neg):det n A0=if neg then -last else last:=by
 obtain ⟨A,h1,h2,h3,h4,h5⟩:=H;rw [<- h3] at h1;rw [h1];cases neg
 ·simp [sgB]
 ·simp [sgB]
theorem BDq {m:Nat} (h:∀ i j,(A i j).natAbs<=m) (i j:Nat):(Mn k A i j).natAbs<=dBd m (k + 1):=A4l λr c=>h _ _
theorem Avi {m:Nat} (hm:1<=m) {b:Nat} (h:a<=b):dBd m a<=dBd m b:=by
 induction h with
 | refl=>omega
 | step h ih=>
   refine Nat.le_trans ih ?_
   rw [dBd]
   exact Nat.le_mul_of_pos_left _<|Nat.mul_pos AOq AOq
theorem BBz {m n:Nat} (hm:1<=m) (H:A26 m A0 n k F last neg) (hk:k < n) (hi:k<=i) (hin:i < n) (hj:k<=j) (hjn:j < n):(F i j).natAbs<=dBd m n/\(bQ k F last i j).natAbs<=dBd m (n + 1):=by
 obtain ⟨A,h5,h1,h6,h2⟩:=BOu H hk;obtain ⟨h7,h8⟩:=h2 i j hi hin hj hjn;rw [h7,h8];exact ⟨Nat.le_trans (BDq h5 _ _)<|Avi hm AOq,Nat.le_trans (BDq h5 _ _)<|Avi hm AOq⟩
theorem A80 {m n:Nat} (hm:1<=m) (H:A26 m A0 n k F last neg) (hk:k<=n):last≠0/\last.natAbs<=dBd m n:=by
 obtain ⟨A,h1,h2,h3,h4,h5⟩:=H;exact ⟨h4,by rw [h3];exact Nat.le_trans (A4l h5)<|Avi hm hk⟩
end Go.QF
namespace Go.Proofs.YtkakafabeobahaaGreatDoor
open Go Go.QF
theorem BMw {n:Nat} {a b c:α} (h:i < n):(List.replicate i a ++ List.replicate (n - i) b).set i c=List.replicate i a ++ (c :: List.replicate (n - i - 1) b):=by
 rw [List.set_append_right _ _ Ah6,List.length_replicate,Nat.sub_self,show n - i=(n - i - 1) + 1 by omega,List.replicate_succ];rfl
theorem A6f {n m:Nat} (hn:n<=100000000) (hm:m<=100000000) (hf:n < fuel):Akj fuel n m=some (List.replicate n<|List.replicate m 0):=by
 apply ok_eq;unfold Akj;refine Ah8 AOq<|AOy (Ah4 (λi s=>s=((i:Int),List.replicate i (List.replicate m 0) ++ List.replicate (n - i) [])) n (Q:=(· =List.replicate n (List.replicate m 0))) Ah6 hf λi s hi hI=>?_) λx hx=>AOt hx;subst hI;unfold Asl;dsimp only;rw [List.length_replicate,Int.toNat_natCast];refine Ag9 (λh=>Ah8 AOq<|Ahj (n:=i) (x:=[]) ?_ rfl (AOt ⟨AOq,?_⟩)) λh=>AOt ?_
 ·grind
 ·rw [wk AOq,Aja,Int.toNat_natCast,BMw AOq];congr 1;rw [show n - (i + 1)=n - i - 1 by omega,List.replicate_succ'];simp
 ·obtain rfl:i=n:=by omega
  simp
theorem A95 {A:List (List α)} {row:List α} (hi:i < A.length):(A.take i ++ row :: List.replicate (A.length - i - 1) []).set i=λr=>A.take i ++ r :: List.replicate (A.length - i - 1) []:=by
 funext r;rw [List.set_append_right _ _ (by simp;omega),List.length_take,Nat.min_eq_left AOq,Nat.sub_self];rfl
theorem A96 {A:List (List Int)} (hn:A.length<=100000000) (hm:∀ z∈A,z.length<=100000000/\z.length < fuel) (hf:A.length < fuel):Anp fuel A=some A:=by
 apply ok_eq;unfold Anp;refine Ah8 AOq<|AOy (Ah4 (λi s=>s=((i:Int),A.take i ++ List.replicate (A.length - i) [])) A.length (Q:=(· =A)) Ah6 hf λi s hi hI=>?_) λx hx=>AOt hx;subst hI;unfold Asn;dsimp only;refine Ag9 (λh=>?_) λh=>AOt ?_
 ·have hi':i < A.length:=by omega
  obtain ⟨row,hrow⟩:∃ row,A[i]? =some row:=⟨A[i],List.getElem?_eq_getElem hi'⟩;have hr:=hm row<|List.mem_of_getElem? hrow;refine Ahj hrow rfl (AOy (Ah4 (λj s=>s=((j:Int),A.take i ++ row.take j :: List.replicate (A.length - i - 1) [])) row.length (Q:=(· =A.take i ++ row :: List.replicate (A.length - i - 1) [])) ?_ hr.2 λj s hj hJ=>?_) λx hx=>AOt ⟨hi',?_⟩)
  ·rw [show A.length - i=(A.length - i - 1) + 1 by omega,List.replicate_succ];simp
  ·subst hJ;unfold Asm;dsimp only;refine Ag9 (λh2=>?_) λh2=>AOt ?_
   ·obtain ⟨x,hx⟩:∃ x,row[j]? =some x:=⟨row[j]'AOq,List.getElem?_eq_getElem _⟩;refine Ahj hx rfl (Ahj (n:=i) (x:=row.take j) ?_ rfl (AOy (Q:=(· =x)) ⟨x,rfl,rfl⟩ λy hy=>Ah8 ?_<|AOt ⟨AOq,?_⟩))
    ·grind
    ·grind
    ·subst hy;rw [wk AOq,Aja,A95 hi',List.take_add_one,hx];rfl
   grind
  ·subst hx;rw [wk AOq,List.take_add_one,hrow,show A.length - (i + 1)=A.length - i - 1 by omega];simp
 ·obtain rfl:i=A.length:=by omega
  simp
def okM (A:List (List Int)):Bool:=decide (1<=A.length/\A.length<=16/\ ∀ z∈A,1<=z.length/\z.length<=16/\z.length=Au8 A)
theorem Aya {A:List (List Int)} {z:List Int} (h:A[0]? =some z):Au8 A=z.length:=by unfold Au8;rw [h];rfl
theorem A5v {A:List (List Int)} (hr:∀ z∈A,∀ x∈z,-9223372036854775808<=x/\x<=9223372036854775807) (hf:17 < fuel):Ajg fuel A=some (if okM A then (A,true) else ([],false)):=by
 apply ok_eq;unfold Ajg
 have key:∀ R:List (List Int) × Bool->Prop,(okM A=false->R ([],false))->(okM A=true->R (A,true))->Ok (Ajg fuel A) R:=by
  intro R hF hT
  unfold Ajg
  refine AOy (Q:=λex=>match ex with | .inl e=>e=([],false)/\okM A=false | .inr _=>1<=A.length/\A.length<=16) (Ag9 (λh=>AOt ⟨rfl,by unfold okM;grind⟩) λh=>Ag9 (λh2=>AOt ⟨rfl,by unfold okM;grind⟩) λh2=>AOt ⟨AOq,AOq⟩) λex hex=>?_
  cases ex with
  | inl e=>obtain ⟨rfl,h⟩:=hex;exact AOt (hF h)
  | inr u=>
    dsimp only at hex ⊢
    obtain ⟨z0,Ac⟩:∃ z,A[0]? =some z:=⟨A[0]'AOq,List.getElem?_eq_getElem _⟩
    have hc:=Aya Ac
    refine AOy (Ah4 (λi (s:Int)=>s=(i:Int)/\ ∀ z∈A.take i,1<=z.length/\z.length<=16/\z.length=Au8 A) A.length (Q:=λex=>match ex with | .inl e=>e=([],false)/\okM A=false | .inr _=>okM A=true) ⟨rfl,Ah6⟩ AOq λi s hi hI=>?_) λex Ab=>?_
    ·obtain ⟨rfl,hI⟩:=hI
     unfold Ap4
     refine Ag9 (λh=>?_) λh=>AOt ?_
     ·have hi':i < A.length:=by omega
      obtain ⟨row,hrow⟩:∃ row,A[i]? =some row:=⟨A[i],List.getElem?_eq_getElem hi'⟩
      have bad: ¬ (1<=row.length/\row.length<=16/\row.length=Au8 A)->okM A=false:=λhb=>by
       unfold okM;grind
      refine Ahj hrow rfl (Ag9 (λh1=>AOt ⟨rfl,bad AOq⟩) λh1=>Ag9 (λh2=>AOt ⟨rfl,bad AOq⟩) λh2=>Ahj Ac rfl (Ag9 (λh3=>AOt ⟨rfl,bad AOq⟩) λh3=>AOt ⟨hi',wk AOq,?_⟩))
      rw [List.take_add_one,hrow]
      grind
     ·obtain rfl:i=A.length:=by omega
      rw [List.take_length] at hI
      unfold okM;grind
    ·cases ex with
     | inl e=>obtain ⟨rfl,h⟩:=Ab;exact AOt (hF h)
     | inr u=>
       dsimp only at Ab ⊢
       have hv:=Ab
       unfold okM at hv;rw [decide_eq_true_eq] at hv
       have hcA:∀ z∈A,z.length=Au8 A:=λz hz=>(hv.2.2 z hz).2.2
       have Ag:1<=Au8 A/\Au8 A<=16:=by grind
       refine Ahj Ac rfl (AOy (Aid<|A6f AOq AOq AOq) λO hO=>?_)
       subst hO
       rw [<- hc]
       refine AOy (Ah4 (λi s=>s=((i:Int),A.take i ++ List.replicate (A.length - i) (List.replicate (Au8 A) 0))) A.length (Q:=(· =A)) Ah6 AOq λi s hi hI=>?_) λx hx=>AOt<|hx ▸ hT Ab
       subst hI
       unfold Ap3
       dsimp only
       refine Ag9 (λh=>?_) λh=>AOt ?_
       ·have hi':i < A.length:=by omega
        obtain ⟨row,hrow⟩:∃ row,A[i]? =some row:=⟨A[i],List.getElem?_eq_getElem hi'⟩
        have hrl:=hcA row<|List.mem_of_getElem? hrow
        refine Ahj hrow rfl (AOy (Ah4 (λj s=>s=((j:Int),A.take i ++ (row.take j ++ List.replicate (Au8 A - j) 0) :: List.replicate (A.length - i - 1) (List.replicate (Au8 A) 0))) row.length (Q:=(· =A.take i ++ row :: List.replicate (A.length - i - 1) (List.replicate (Au8 A) 0))) ?_ AOq λj s hj hJ=>?_) λx hx=>AOt ⟨hi',?_⟩)
        ·rw [show A.length - i=(A.length - i - 1) + 1 by omega,List.replicate_succ];simp
        ·subst hJ
         unfold Ap2
         dsimp only
         refine Ag9 (λh2=>?_) λh2=>AOt ?_
         ·obtain ⟨x,hx⟩:∃ x,row[j]? =some x:=⟨row[j]'AOq,List.getElem?_eq_getElem _⟩
          have hxr:=hr row (List.mem_of_getElem? hrow) x<|List.mem_of_getElem? hx
          refine Ahj (n:=i) (x:=row.take j ++ List.replicate (Au8 A - j) 0) ?_ rfl (Ahj hrow rfl (Ahj hx rfl (AOy (Q:=(· =x)) ⟨x,if_pos hxr,rfl⟩ λy hy=>Ahj (n:=j) (x:=0) ?_ rfl (AOt ⟨AOq,?_⟩))))
          ·grind
          ·grind
          ·subst hy
           rw [wk AOq,Aja,Aja]
           congr 1
           rw [List.set_append_right _ _ (by simp;omega),List.length_take,Nat.min_eq_left AOq,Nat.sub_self,List.set_cons_zero]
           congr 2
           rw [List.set_append_right _ _ (by simp;omega),List.length_take,Nat.min_eq_left AOq,Nat.sub_self,show Au8 A - j=(Au8 A - (j + 1)) + 1 by omega,List.replicate_succ,List.set_cons_zero,List.take_add_one,hx]
           simp
         ·obtain rfl:j=row.length:=by omega
          rw [List.take_length,show Au8 A - row.length=0 by omega];simp
        ·subst hx
         rw [wk AOq,List.take_add_one,hrow,show A.length - (i + 1)=A.length - i - 1 by omega]
         simp
       ·obtain rfl:i=A.length:=by omega
        simp
 have:=key (λr=>r=if okM A then (A,true) else ([],false)) (λh=>by rw [h];rfl) (λh=>by rw [h];rfl);unfold Ajg at this;exact this
theorem BOv {A:List (List Int)} (hr:∀ z∈A,∀ x∈z,-9223372036854775808<=x/\x<=9223372036854775807) (hf:17 < fuel):Ak9 fuel A=some (if okM A then A else []):=by
 unfold Ak9;rw [A5v hr hf];grind
def m63:Nat:=9223372036854775808
def A09:Nat:=dBd m63 17
theorem A97:2 * (A09 * A09) < Alj:=by decide
theorem BJ1:1<=A09:=by decide
theorem A7n {b:Nat} (ha:a<=A09) (hb:b<=A09):a * b < Alj:=by
 have:=Nat.mul_le_mul ha hb;have:=A97;omega
theorem BJ2 (ha:a<=A09):a < Alj:=by
 have h1:=A97;have h2:=Nat.mul_le_mul BJ1<|Nat.le_refl A09;omega
theorem BJ3 {n:Nat} (hn:n<=16):dBd m63 n<=A09/\dBd m63 (n + 1)<=A09:=⟨Avi AOs AOq,Avi AOs AOq⟩
theorem A4m {z:Int}:Anx z=0↔z=0:=by
 unfold Anx;omega
theorem BB0 {a b:Int} (ha:a.natAbs<=A09) (hb:b.natAbs<=A09):Ayo fuel a b=some (a * b):=if_pos<|A7n ha hb
theorem BB1 {a b:Int} (ha:a.natAbs<=A09) (hb:b.natAbs<=A09):(a * b).natAbs < Alj:=by rw [Int.natAbs_mul];exact A7n ha hb
theorem BMy {a b c:Int} (ha:a.natAbs<=A09) (hb:b.natAbs<=A09) (hc:c.natAbs<=A09) (hd:d.natAbs<=A09):(a * b - c * d).natAbs < Alj:=by
 have h1:=Nat.mul_le_mul ha hb;have h2:=Nat.mul_le_mul hc hd;rw [<- Int.natAbs_mul] at h1 h2;have:=A97;omega
theorem A3v {c:Nat}:sI (tab r c F) (i:Int) (sI (Aju c<|F i) (j:Int) x)=tab r c (Ajc F i λq=>if q=j then x else F i q):=by
 rw [Aja,Aja,Alw];exact BJn
theorem BPt {n:Nat} (hn:n<=16) (hb:∀ i j,(F i j).natAbs<=m63) (hf:17 < fuel):Aif fuel (tab n n F)=some (det n F):=by
 apply ok_eq;unfold Aif;refine AOy (Aid<|A96 (by rw [Ahv];omega) (λz hz=>by rw [A11 z hz];omega) (by rw [Ahv];omega)) λA hA=>?_;subst hA;refine AOy (Q:=(· =1)) ⟨1,if_pos AOq,rfl⟩ λone h1=>?_;subst h1;obtain ⟨hD,Ap⟩:=BJ3 hn;refine AOy (Ah4 (λk s=> ∃ G last neg,s=(neg,((k:Int),tab n n G,last))/\A26 m63 F n k G last neg) n (Q:=λex=>match ex with | .inl e=>e=det n F | .inr (neg,last)=>det n F=if neg then -last else last) ⟨F,1,false,rfl,A7k hb⟩ AOq λk s hk hI=>?_) λex hex=>?_
 ·obtain ⟨G,last,neg,rfl,hB⟩:=hI;unfold Aml;dsimp only;rw [Ahv];refine Ag9 (λh=>?_) λh=>AOt ?_
  ·have hk':k < n:=by omega
   refine AOy (Q:=λex=>match ex with | .inl e=>e=det n F | .inr (neg',a',last')=> ∃ G',a'=tab n n G'/\A26 m63 F n (k + 1) G' last' neg') ?_ λex hex=>?_
   ·refine AOy (Q:=λ(e:Int)=> ∃ p:Nat,e=p/\k<=p/\p<=n/\(∀ i,k<=i->i < p->G i k=0)/\(p < n->G p k≠0)) (AOy (Ah4 (λj (s:Int)=>s=((k + j:Nat):Int)/\k + j<=n/\ ∀ i,k<=i->i < k + j->G i k=0) (n - k) (Q:=λ(e:Int)=> ∃ p:Nat,e=p/\k<=p/\p<=n/\(∀ i,k<=i->i < p->G i k=0)/\(p < n->G p k≠0)) ⟨rfl,AOq,λi h1 h2=>by omega⟩ AOq λj s hj hJ=>?_) λe he=>AOt he) λe he=>?_
    ·obtain ⟨rfl,hjn,hz⟩:=hJ;unfold Ami;rw [Ahv];refine AOy (Q:=λex=>match ex with | .inl _=>k + j < n/\G (k + j) k=0 | .inr _=>k + j < n->G (k + j) k≠0) (Ag9 (λh2=>Ahj (Ahw AOq) rfl (Ahj (Ahr AOq) rfl (AOy (Aid (a:=Anx<|G (k + j) k) rfl) λsg hsg=>Ag9 (λh3=>AOt ⟨AOq,?_⟩) λh3=>AOt λ_=>?_))) λh2=>AOt λh3=>by omega) λex hex=>?_
     ·subst hsg;exact A4m.1 h3
     ·subst hsg;exact λh4=>h3<|A4m.2 h4
     ·cases ex with
      | inl u=>exact AOt ⟨AOq,by rw [wk AOq];omega,AOq,λi h1 h2=>by
         grind⟩
      | inr u=>exact AOt ⟨k + j,rfl,AOq,hjn,hz,hex⟩
    ·obtain ⟨p,rfl,hkp,hpn,hz,hp⟩:=he;refine Ag9 (λh2=>AOt ?_) λh2=>?_
     ·obtain rfl:p=n:=by omega
      exact (A8z hB hk' hz).symm
     ·have hp':p < n:=by omega
      refine AOy (Q:=λ(r:Bool × List (List Int))=> ∃ G',r.2=tab n n G'/\A26 m63 F n k G' last r.1/\G' k k≠0) (Ag9 (λh3=>Ahj (Ahw AOq) rfl (Ahj (Ahw AOq) rfl (AOt ⟨Ann G p k,?_,A8x hB AOq hp',?_⟩))) λh3=>AOt ⟨G,rfl,hB,?_⟩) λr hr=>?_
      ·dsimp only;rw [Aja,Aja];show ((tab n n G).set p (Aju n<|G k)).set k (Aju n<|G p)=_;rw [show Aju n (G k)=(List.range n).map (G k) from rfl,show Aju n (G p)=(List.range n).map (G p) from rfl,Ash,Ash];rfl
      ·rw [Ast,if_pos rfl];exact hp hp'
      ·grind
      ·obtain ⟨Aq,a2⟩:=r;obtain ⟨G2,Ag,Af,hne⟩:=hr;dsimp only at Ag Af ⊢;subst Ag;have hlast:=A80 AOs Af AOq;have habs:∀ i j,k<=i->i < n->k<=j->j < n->(G2 i j).natAbs<=A09:=λi j h1 h2 h3 h4=>Nat.le_trans (BBz AOs Af hk' h1 h2 h3 h4).1 hD;have hl':last.natAbs<=A09:=Nat.le_trans hlast.2 hD;rw [wk AOq];refine AOy (Ah4 (λi s=>s=(((k + 1 + i:Nat):Int),tab n n<|bF k G2 last (k + 1 + i)<|k + 1)/\k + 1 + i<=n) (n - (k + 1)) (Q:=(· =tab n n (bF k G2 last n<|k + 1))) ⟨by rw [Nat.add_zero,A7l];simp,AOq⟩ AOq λi s hi hI=>?_) λa3 Ah=>?_
       ·obtain ⟨rfl,hin⟩:=hI;unfold Amk;dsimp only;rw [Ahv];obtain ⟨q,hq⟩:∃ q,k + 1 + i=q:=⟨_,rfl⟩;rw [hq] at hin ⊢;refine Ag9 (λh3=>?_) λh3=>AOt ?_
        ·have hqn:q < n:=by omega
         rw [wk AOq];refine AOy (Ah4 (λj s=>s=(((k + 1 + j:Nat):Int),tab n n<|bF k G2 last q<|k + 1 + j)/\k + 1 + j<=n) (n - (k + 1)) (Q:=(· =tab n n (bF k G2 last q n))) ⟨Ah6,AOq⟩ AOq λj s hj hJ=>?_) λa4 Ai=>AOt ?_
         ·obtain ⟨rfl,hjn⟩:=hJ;unfold Amj;dsimp only;rw [Ahv];obtain ⟨c,hc⟩:∃ c,k + 1 + j=c:=⟨_,rfl⟩;rw [hc] at hjn ⊢;refine Ag9 (λh4=>?_) λh4=>AOt ?_
          ·have hcn:c < n:=by omega
           refine Ahj (Ahw hqn) rfl (Ahj (Ahw hk') rfl (Ahj (Ahr hk') rfl (Ahj (Ahr hcn) rfl ?_)));rw [A7m,BJ0];refine AOy (Aid<|BB0 (habs _ _ AOq AOq AOq AOq)<|habs _ _ AOq AOq AOq AOq) λx1 Aj=>Ahj (Ahr hk') rfl (Ahj (Ahr hcn) rfl ?_);subst Aj;rw [BJz,A7m];refine AOy (Aid<|BB0 (habs _ _ AOq AOq AOq AOq)<|habs _ _ AOq AOq AOq AOq) λx2 Ak=>?_;subst Ak;refine AOy (Q:=(· =G2 k k * G2 q c - G2 q k * G2 k c)) ⟨_,if_pos ⟨BB1 (habs _ _ AOq AOq AOq AOq)<|habs _ _ AOq AOq AOq AOq,BB1 (habs _ _ AOq AOq AOq AOq)<|habs _ _ AOq AOq AOq AOq⟩,rfl⟩ λx3 Am=>?_
           ·subst Am;refine AOy (Q:=(· =bQ k G2 last q c)) ?_ λx4 Ao=>AOt ⟨AOq,?_,AOq⟩
            ·unfold Ajy Az7;rw [if_pos ⟨BMy (habs _ _ AOq AOq AOq AOq) (habs _ _ AOq AOq AOq AOq) (habs _ _ AOq AOq AOq AOq)<|habs _ _ AOq AOq AOq AOq,BJ2 hl',hlast.1⟩];exact ⟨_,rfl,rfl⟩
            ·subst Ao;rw [wk AOq,A3v,BDp k G2 last AOq AOq];grind
          grind
         ·subst Ai;refine ⟨AOq,?_,AOq⟩;rw [wk AOq];congr 1
          ·omega
          ·refine A2o λr c hr hc=>?_;rw [BDo k n G2 last q hc,<- Nat.add_assoc,hq]
        grind
       ·subst Ah;refine Ahj (Ahw hk') rfl (Ahj (Ahr hk') rfl (AOt ⟨_,rfl,?_⟩));rw [A7m];exact A8y Af hk' hne
   ·match ex,hex with
    | .inl e,hex=>exact AOt hex
    | .inr (neg',a',last'),hex=>
      obtain ⟨G',rfl,hB'⟩:=hex
      exact AOt ⟨hk',G',last',neg',by rw [wk AOq];rfl,hB'⟩
  ·obtain rfl:k=n:=by omega
   exact BBy hB
 ·match ex,hex with
  | .inl e,hex=>exact AOt hex
  | .inr (neg,last),hex=>
    dsimp only at hex ⊢
    rw [hex]
    refine Ag9 (λh=>AOy (Aid (a:= -last) rfl) λx hx=>AOt ?_) λh=>AOt ?_
    ·rw [hx,h];rfl
    ·rw [if_neg h]
theorem A5w {b:Nat} (hG:2 * (D * D) < Alj) (ha:a<=D) (hb:b<=D):a * b < Alj:=by
 have:=Nat.mul_le_mul ha hb;omega
theorem BMz (hG:2 * (D * D) < Alj) (ha:a<=D):a < Alj:=by
 rcases Nat.eq_zero_or_pos D with h | h
 ·omega
 ·have h2:=Nat.mul_le_mul h<|Nat.le_refl D;omega
theorem A48 {a b:Int} (hG:2 * (D * D) < Alj) (ha:a.natAbs<=D) (hb:b.natAbs<=D):Ayo fuel a b=some (a * b):=if_pos<|A5w hG ha hb
theorem A81 {a b:Int} (hG:2 * (D * D) < Alj) (ha:a.natAbs<=D) (hb:b.natAbs<=D):(a * b).natAbs < Alj:=by rw [Int.natAbs_mul];exact A5w hG ha hb
theorem BJ4 {a b c:Int} (hG:2 * (D * D) < Alj) (ha:a.natAbs<=D) (hb:b.natAbs<=D) (hc:c.natAbs<=D) (hd:d.natAbs<=D):(a * b - c * d).natAbs < Alj:=by
 have h1:=Nat.mul_le_mul ha hb;have h2:=Nat.mul_le_mul hc hd;rw [<- Int.natAbs_mul] at h1 h2;omega
theorem BM0 {n M N:Nat} (hM:1<=M) (hG:2 * (dBd M (N + 1) * dBd M (N + 1)) < Alj) (hnN:n<=N) (hn:n<=16) (hb:∀ i j,(F i j).natAbs<=M) (hf:17 < fuel):Aif fuel (tab n n F)=some (det n F):=by
 apply ok_eq;unfold Aif;refine AOy (Aid<|A96 (by rw [Ahv];omega) (λz hz=>by rw [A11 z hz];omega) (by rw [Ahv];omega)) λA hA=>?_;subst hA;refine AOy (Q:=(· =1)) ⟨1,if_pos AOq,rfl⟩ λone h1=>?_;subst h1;have hD:dBd M n<=dBd M (N + 1):=Avi hM AOq;have Ap:dBd M (n + 1)<=dBd M (N + 1):=Avi hM AOq;refine AOy (Ah4 (λk s=> ∃ G last neg,s=(neg,((k:Int),tab n n G,last))/\A26 M F n k G last neg) n (Q:=λex=>match ex with | .inl e=>e=det n F | .inr (neg,last)=>det n F=if neg then -last else last) ⟨F,1,false,rfl,A7k hb⟩ AOq λk s hk hI=>?_) λex hex=>?_
 ·obtain ⟨G,last,neg,rfl,hB⟩:=hI;unfold Aml;dsimp only;rw [Ahv];refine Ag9 (λh=>?_) λh=>AOt ?_
  ·have hk':k < n:=by omega
   refine AOy (Q:=λex=>match ex with | .inl e=>e=det n F | .inr (neg',a',last')=> ∃ G',a'=tab n n G'/\A26 M F n (k + 1) G' last' neg') ?_ λex hex=>?_
   ·refine AOy (Q:=λ(e:Int)=> ∃ p:Nat,e=p/\k<=p/\p<=n/\(∀ i,k<=i->i < p->G i k=0)/\(p < n->G p k≠0)) (AOy (Ah4 (λj (s:Int)=>s=((k + j:Nat):Int)/\k + j<=n/\ ∀ i,k<=i->i < k + j->G i k=0) (n - k) (Q:=λ(e:Int)=> ∃ p:Nat,e=p/\k<=p/\p<=n/\(∀ i,k<=i->i < p->G i k=0)/\(p < n->G p k≠0)) ⟨rfl,AOq,λi h1 h2=>by omega⟩ AOq λj s hj hJ=>?_) λe he=>AOt he) λe he=>?_
    ·obtain ⟨rfl,hjn,hz⟩:=hJ;unfold Ami;rw [Ahv];refine AOy (Q:=λex=>match ex with | .inl _=>k + j < n/\G (k + j) k=0 | .inr _=>k + j < n->G (k + j) k≠0) (Ag9 (λh2=>Ahj (Ahw AOq) rfl (Ahj (Ahr AOq) rfl (AOy (Aid (a:=Anx<|G (k + j) k) rfl) λsg hsg=>Ag9 (λh3=>AOt ⟨AOq,?_⟩) λh3=>AOt λ_=>?_))) λh2=>AOt λh3=>by omega) λex hex=>?_
     ·subst hsg;exact A4m.1 h3
     ·subst hsg;exact λh4=>h3<|A4m.2 h4
     ·cases ex with
      | inl u=>exact AOt ⟨AOq,by rw [wk AOq];omega,AOq,λi h1 h2=>by
         grind⟩
      | inr u=>exact AOt ⟨k + j,rfl,AOq,hjn,hz,hex⟩
    ·obtain ⟨p,rfl,hkp,hpn,hz,hp⟩:=he;refine Ag9 (λh2=>AOt ?_) λh2=>?_
     ·obtain rfl:p=n:=by omega
      exact (A8z hB hk' hz).symm
     ·have hp':p < n:=by omega
      refine AOy (Q:=λ(r:Bool × List (List Int))=> ∃ G',r.2=tab n n G'/\A26 M F n k G' last r.1/\G' k k≠0) (Ag9 (λh3=>Ahj (Ahw AOq) rfl (Ahj (Ahw AOq) rfl (AOt ⟨Ann G p k,?_,A8x hB AOq hp',?_⟩))) λh3=>AOt ⟨G,rfl,hB,?_⟩) λr hr=>?_
      ·dsimp only;rw [Aja,Aja];show ((tab n n G).set p (Aju n<|G k)).set k (Aju n<|G p)=_;rw [show Aju n (G k)=(List.range n).map (G k) from rfl,show Aju n (G p)=(List.range n).map (G p) from rfl,Ash,Ash];rfl
      ·rw [Ast,if_pos rfl];exact hp hp'
      ·grind
      ·obtain ⟨Aq,a2⟩:=r;obtain ⟨G2,Ag,Af,hne⟩:=hr;dsimp only at Ag Af ⊢;subst Ag;have hlast:=A80 hM Af AOq;have habs:∀ i j,k<=i->i < n->k<=j->j < n->(G2 i j).natAbs<=dBd M (N + 1):=λi j h1 h2 h3 h4=>Nat.le_trans (BBz hM Af hk' h1 h2 h3 h4).1 hD;have hl':last.natAbs<=dBd M (N + 1):=Nat.le_trans hlast.2 hD;rw [wk AOq];refine AOy (Ah4 (λi s=>s=(((k + 1 + i:Nat):Int),tab n n<|bF k G2 last (k + 1 + i)<|k + 1)/\k + 1 + i<=n) (n - (k + 1)) (Q:=(· =tab n n (bF k G2 last n<|k + 1))) ⟨by rw [Nat.add_zero,A7l];simp,AOq⟩ AOq λi s hi hI=>?_) λa3 Ah=>?_
       ·obtain ⟨rfl,hin⟩:=hI;unfold Amk;dsimp only;rw [Ahv];obtain ⟨q,hq⟩:∃ q,k + 1 + i=q:=⟨_,rfl⟩;rw [hq] at hin ⊢;refine Ag9 (λh3=>?_) λh3=>AOt ?_
        ·have hqn:q < n:=by omega
         rw [wk AOq];refine AOy (Ah4 (λj s=>s=(((k + 1 + j:Nat):Int),tab n n<|bF k G2 last q<|k + 1 + j)/\k + 1 + j<=n) (n - (k + 1)) (Q:=(· =tab n n (bF k G2 last q n))) ⟨Ah6,AOq⟩ AOq λj s hj hJ=>?_) λa4 Ai=>AOt ?_
         ·obtain ⟨rfl,hjn⟩:=hJ;unfold Amj;dsimp only;rw [Ahv];obtain ⟨c,hc⟩:∃ c,k + 1 + j=c:=⟨_,rfl⟩;rw [hc] at hjn ⊢;refine Ag9 (λh4=>?_) λh4=>AOt ?_
          ·have hcn:c < n:=by omega
           refine Ahj (Ahw hqn) rfl (Ahj (Ahw hk') rfl (Ahj (Ahr hk') rfl (Ahj (Ahr hcn) rfl ?_)));rw [A7m,BJ0];refine AOy (Aid<|A48 hG (habs _ _ AOq AOq AOq AOq)<|habs _ _ AOq AOq AOq AOq) λx1 Aj=>Ahj (Ahr hk') rfl (Ahj (Ahr hcn) rfl ?_);subst Aj;rw [BJz,A7m];refine AOy (Aid<|A48 hG (habs _ _ AOq AOq AOq AOq)<|habs _ _ AOq AOq AOq AOq) λx2 Ak=>?_;subst Ak;refine AOy (Q:=(· =G2 k k * G2 q c - G2 q k * G2 k c)) ⟨_,if_pos ⟨A81 hG (habs _ _ AOq AOq AOq AOq)<|habs _ _ AOq AOq AOq AOq,A81 hG (habs _ _ AOq AOq AOq AOq)<|habs _ _ AOq AOq AOq AOq⟩,rfl⟩ λx3 Am=>?_
           ·subst Am;refine AOy (Q:=(· =bQ k G2 last q c)) ?_ λx4 Ao=>AOt ⟨AOq,?_,AOq⟩
            ·unfold Ajy Az7;rw [if_pos ⟨BJ4 hG (habs _ _ AOq AOq AOq AOq) (habs _ _ AOq AOq AOq AOq) (habs _ _ AOq AOq AOq AOq)<|habs _ _ AOq AOq AOq AOq,BMz hG hl',hlast.1⟩];exact ⟨_,rfl,rfl⟩
            ·subst Ao;rw [wk AOq,A3v,BDp k G2 last AOq AOq];grind
          grind
         ·subst Ai;refine ⟨AOq,?_,AOq⟩;rw [wk AOq];congr 1
          ·omega
          ·refine A2o λr c hr hc=>?_;rw [BDo k n G2 last q hc,<- Nat.add_assoc,hq]
        grind
       ·subst Ah;refine Ahj (Ahw hk') rfl (Ahj (Ahr hk') rfl (AOt ⟨_,rfl,?_⟩));rw [A7m];exact A8y Af hk' hne
   ·match ex,hex with
    | .inl e,hex=>exact AOt hex
    | .inr (neg',a',last'),hex=>
      obtain ⟨G',rfl,hB'⟩:=hex
      exact AOt ⟨hk',G',last',neg',by rw [wk AOq];rfl,hB'⟩
  ·obtain rfl:k=n:=by omega
   exact BBy hB
 ·match ex,hex with
  | .inl e,hex=>exact AOt hex
  | .inr (neg,last),hex=>
    dsimp only at hex ⊢
    rw [hex]
    refine Ag9 (λh=>AOy (Aid (a:= -last) rfl) λx hx=>AOt ?_) λh=>AOt ?_
    ·rw [hx,h];rfl
    ·rw [if_neg h]
def mN (n:Nat):Nat:=if n<=6 then 2 ^ 194 else 2 ^ 100
def gN (n:Nat):Nat:=if n<=6 then dBd (2 ^ 194) 7 else dBd (2 ^ 100) 9
theorem A82 (n:Nat):2 ^ 100<=mN n:=by unfold mN;split <;> decide
theorem BJ5 (n:Nat):64 * (gN n * gN n) < Alj:=by unfold gN;split <;> decide
theorem BJ6 (n:Nat):3<=gN n:=by unfold gN;split <;> decide
theorem BRz (n:Nat):24 * (gN n * mN n)<=(2 ^ 158) ^ 10:=by unfold gN mN;split <;> decide
theorem BJ7 {n:Nat} (hn:n<=8) (hk:k<=n + 1):dBd (mN n) k<=gN n:=by
 unfold mN gN;split
 ·exact Avi AOs AOq
 ·exact Avi AOs AOq
theorem BJ8 (n:Nat):2 * (gN n * gN n) < Alj:=by have:=BJ5 n;omega
theorem A4n {n N:Nat} (hN:N<=8) (hn:n<=N) (hb:∀ i j,i < n->j < n->(F i j).natAbs<=mN N) (hf:17 < fuel):Aif fuel (tab n n F)=some (det n F):=by
 have e1:tab n n F=tab n n λi j=>if i < n/\j < n then F i j else 0:=by
  rw [Awn,Awn]
  exact Aiy λi hi=>Aiy λj hj=>by omega
 have e2:det n F=det n λi j=>if i < n/\j < n then F i j else 0:=Ajd λi j hi hj=>by omega
 have hg:=BJ7 hN<|Nat.le_refl<|N + 1;have h1:=A82 N;rw [e1,e2];refine BM0 (M:=mN N) (Nat.le_trans AOs h1) (Nat.lt_of_le_of_lt (Nat.mul_le_mul_left 2<|Nat.mul_le_mul hg hg)<|BJ8 N) hn AOq (λi j=>?_) hf;grind
theorem BM1:FdT Tryz.prog 24 0 0 5:=⟨_,_,Tryz.underlying24,rfl,rfl,rfl⟩
theorem BM2:FdT Tryz.prog 24 1 1 5:=⟨_,_,Tryz.underlying24,rfl,rfl,rfl⟩
theorem BM3:FdT Tryz.prog 24 2 2 22:=⟨_,_,Tryz.underlying24,rfl,rfl,rfl⟩
theorem BJ9:AgT Tryz.prog 24 4:=A3l Tryz.underlying24 rfl AO4
end Go.Proofs.YtkakafabeobahaaGreatDoor
namespace Go.Proofs.YtkakafabeobahaaGreatDoor
open Go Go.QF
set_option maxRecDepth 100000
set_option maxHeartbeats 40000000
def Amn (fuel:Nat) (a1:Int) (a5:LiA) (Ac Aa Ad:Int) (Ae:LiI):Option ((Int × Int × LiI) ⊕ (Int × LiI)):=
 if Aa < ((List.replicate (Int.toNat<|w64<|1 + Int.tmod (w64 a1) Ac) ([]:List Int)).length:Int) then if 0<=w64 (1 + Int.tmod (w64 a1) Ac)/\w64 (1 + Int.tmod (w64 a1) Ac)<=100000000 then (gI Ae Aa).bind λAo=>(gI (sI Ae Aa<|List.replicate (Int.toNat<|w64<|1 + Int.tmod (w64 a1) Ac) (0:Int)) Aa).bind λAg=>((((if (a5.length:Int)<=Ad then some (0,Ad) else (gI a5<|w64<|w64 (Ad + 1) - 1).bind λAh=>some (w64 Ah,w64<|Ad + 1)):Option (Int × Int)).bind λ(Ai,Aj)=>some (Int.tmod (w64<|IntKind.wrap .u8 Ai) 6,Aj)):Option (Int × Int)).bind λ(Ak,Am)=>(gI Ag Aa).bind λAp=>some (.inl (w64<|Aa + 1,Am,sI (sI Ae Aa<|List.replicate (Int.toNat<|w64<|1 + Int.tmod (w64 a1) Ac) (0:Int)) Aa<|sI Ag Aa<|w64<|1 + Ak)) else none else some<|.inr (Ad,Ae)
def Ao0 (fuel:Nat) (a5:LiA) (Ab Aa Ac:Int) (Ad:LiI):Option ((Int × Int × LiI) ⊕ (Int × LiI)):=
 if Aa < Ab then (gI Ad Ab).bind λAe=>((if (a5.length:Int)<=Ac then some (0,Ac) else (gI a5<|w64<|w64 (Ac + 1) - 1).bind λAi=>some (w64 Ai,w64<|Ac + 1)):Option (Int × Int)).bind λ(Af,Aj)=>(gI Ae Aa).bind λAo=>(gI (sI Ad Ab<|sI Ae Aa<|Int.tmod Af 3) Aa).bind λAh=>(gI (sI Ad Ab<|sI Ae Aa<|Int.tmod Af 3) Ab).bind λAk=>(gI Ak Aa).bind λAm=>(gI Ah Ab).bind λAp=>some (.inl (w64<|Aa + 1,Aj,sI (sI Ad Ab<|sI Ae Aa<|Int.tmod Af 3) Aa<|sI Ah Ab Am)) else some<|.inr (Ac,Ad)
def Amo (fuel:Nat) (a5:LiA) (Ae:LiI) (Aa Ab:Int) (Ac:LiI):Option ((Int × Int × LiI) ⊕ (Int × LiI)):=
 if Aa < (Ae.length:Int) then (iter (λs=>Ao0 fuel a5 Aa s.1 s.2.1 s.2.2) fuel (0,Ab,Ac)).bind (λ((Af,Ag):Int × LiI)=>some<|.inl (w64<|Aa + 1,Af,Ag)) else some<|.inr (Ab,Ac)
def Al5 (fuel:Nat) (a1:Int) (a5:LiA) (Ac Aa Ad:Int) (Ae:LiI):Option ((Int × Int × LiI) ⊕ (Int × LiI)):=
 if Aa < ((List.replicate (Int.toNat<|w64<|1 + Int.tmod (w64 a1) Ac) ([]:List Int)).length:Int) then if 0<=w64 (1 + Int.tmod (w64 a1) Ac)/\w64 (1 + Int.tmod (w64 a1) Ac)<=100000000 then (gI Ae Aa).bind λAo=>(gI (sI Ae Aa<|List.replicate (Int.toNat<|w64<|1 + Int.tmod (w64 a1) Ac) (0:Int)) Aa).bind λAg=>((((if (a5.length:Int)<=Ad then some (0,Ad) else (gI a5<|w64<|w64 (Ad + 1) - 1).bind λAh=>some (w64 Ah,w64<|Ad + 1)):Option (Int × Int)).bind λ(Ai,Aj)=>some (Int.tmod (w64<|IntKind.wrap .u8 Ai) 9,Aj)):Option (Int × Int)).bind λ(Ak,Am)=>(gI Ag Aa).bind λAp=>some (.inl (w64<|Aa + 1,Am,sI (sI Ae Aa<|List.replicate (Int.toNat<|w64<|1 + Int.tmod (w64 a1) Ac) (0:Int)) Aa<|sI Ag Aa<|w64<|1 + Ak)) else none else some<|.inr (Ad,Ae)
def Al6 (fuel:Nat) (a1:Int) (a5:LiA) (Ac Aa Ad:Int) (Ae:LiI):Option ((Int × Int × LiI) ⊕ (Int × LiI)):=
 if Aa < ((List.replicate (Int.toNat<|w64<|1 + Int.tmod (w64 a1) Ac) ([]:List Int)).length:Int) then if 0<=w64 (1 + Int.tmod (w64 a1) Ac)/\w64 (1 + Int.tmod (w64 a1) Ac)<=100000000 then (gI Ae Aa).bind λAo=>(gI (sI Ae Aa<|List.replicate (Int.toNat<|w64<|1 + Int.tmod (w64 a1) Ac) (0:Int)) Aa).bind λAg=>((((if (a5.length:Int)<=Ad then some (0,Ad) else (gI a5<|w64<|w64 (Ad + 1) - 1).bind λAh=>some (w64 Ah,w64<|Ad + 1)):Option (Int × Int)).bind λ(Ai,Aj)=>some (Int.tmod (w64<|IntKind.wrap .u8 Ai) 1,Aj)):Option (Int × Int)).bind λ(Ak,Am)=>(gI Ag Aa).bind λAp=>some (.inl (w64<|Aa + 1,Am,sI (sI Ae Aa<|List.replicate (Int.toNat<|w64<|1 + Int.tmod (w64 a1) Ac) (0:Int)) Aa<|sI Ag Aa<|w64<|1 + Ak)) else none else some<|.inr (Ad,Ae)
def Al7 (fuel:Nat) (a1:Int) (a5:LiA) (Ac Aa Ad:Int) (Ae:LiI):Option ((Int × Int × LiI) ⊕ (Int × LiI)):=
 if Aa < ((List.replicate (Int.toNat<|w64<|1 + Int.tmod (w64 a1) Ac) ([]:List Int)).length:Int) then if 0<=w64 (1 + Int.tmod (w64 a1) Ac)/\w64 (1 + Int.tmod (w64 a1) Ac)<=100000000 then (gI Ae Aa).bind λAo=>(gI (sI Ae Aa<|List.replicate (Int.toNat<|w64<|1 + Int.tmod (w64 a1) Ac) (0:Int)) Aa).bind λAg=>((((if (a5.length:Int)<=Ad then some (0,Ad) else (gI a5<|w64<|w64 (Ad + 1) - 1).bind λAh=>some (w64 Ah,w64<|Ad + 1)):Option (Int × Int)).bind λ(Ai,Aj)=>some (Int.tmod (w64<|IntKind.wrap .u8 Ai) 2,Aj)):Option (Int × Int)).bind λ(Ak,Am)=>(gI Ag Aa).bind λAp=>some (.inl (w64<|Aa + 1,Am,sI (sI Ae Aa<|List.replicate (Int.toNat<|w64<|1 + Int.tmod (w64 a1) Ac) (0:Int)) Aa<|sI Ag Aa<|w64<|1 + Ak)) else none else some<|.inr (Ad,Ae)
def Alx (fuel:Nat) (a1 a2:Int) (a5 a9:LiA) (Aa:Int):Option LiI:=
 if Aa≠0 then ((((if Int.tmod a2 8=0 then some (decide (Int.tmod a2 8=0)) else if Int.tmod a2 8=1 then some (decide (Int.tmod a2 8=1)) else if Int.tmod a2 8=2 then some (decide (Int.tmod a2 8=2)) else some<|decide (Int.tmod a2 8=3)):Option Bool).bind (λ(Ak:Bool)=>if Ak=true then ((((if 0<=w64 (1 + Int.tmod (w64 a1) Aa)/\w64 (1 + Int.tmod (w64 a1) Aa)<=100000000 then (iter (λs=>Amn fuel a1 a5 Aa s.1 s.2.1 s.2.2) fuel (0,0,List.replicate (Int.toNat<|w64<|1 + Int.tmod (w64 a1) Aa) ([]:List Int))).bind (λ((Am,Ao):Int × LiI)=>some (Ao,Am)) else none):Option (LiI × Int)).bind λ(Ae,Ap)=>(iter (λs=>Amo fuel a5 Ae s.1 s.2.1 s.2.2) fuel (0,Ap,Ae)).bind (λ((Aq,Ar):Int × LiI)=>some (Ar,Aq))):Option (LiI × Int)).bind λ(Au,Av)=>some (Au,Av) else if Int.tmod a2 8=4 then (Anq fuel (w64<|1 + Int.tmod (w64 a1) Aa) false).bind λAf=>(gI Af 0).bind λAg=>(gI Ag 0).bind λAw=>((((if (a5.length:Int)<=0 then some (0,0) else (gI a5<|w64<|w64 (0 + 1) - 1).bind λAx=>some (w64 Ax,w64<|0 + 1)):Option (Int × Int)).bind λ(Ay,Az)=>some (Int.tmod (w64<|IntKind.wrap .u8 Ay) 3,Az)):Option (Int × Int)).bind λ(A3,A4)=>some (sI Af 0<|sI Ag 0<|w64<|Aw + A3,A4) else if Int.tmod a2 8=5 then (Anq fuel (w64<|1 + Int.tmod (w64 a1) Aa) true).bind λAh=>(gI Ah<|w64<|w64 (1 + Int.tmod (w64 a1) Aa) - 1).bind λAi=>(gI Ai<|w64<|w64 (1 + Int.tmod (w64 a1) Aa) - 1).bind λA5=>((((if (a5.length:Int)<=0 then some (0,0) else (gI a5<|w64<|w64 (0 + 1) - 1).bind λA6=>some (w64 A6,w64<|0 + 1)):Option (Int × Int)).bind λ(A7,A8)=>some (Int.tmod (w64<|IntKind.wrap .u8 A7) 2,A8)):Option (Int × Int)).bind λ(A9,Ba)=>some (sI Ah (w64<|w64 (1 + Int.tmod (w64 a1) Aa) - 1)<|sI Ai (w64<|w64 (1 + Int.tmod (w64 a1) Aa) - 1)<|w64<|A5 + A9,Ba) else if Int.tmod a2 8=6 then ((if 0<=w64 (1 + Int.tmod (w64 a1) Aa)/\w64 (1 + Int.tmod (w64 a1) Aa)<=100000000 then (iter (λs=>Al5 fuel a1 a5 Aa s.1 s.2.1 s.2.2) fuel (0,0,List.replicate (Int.toNat<|w64<|1 + Int.tmod (w64 a1) Aa) ([]:List Int))).bind (λ((Bb,Bc):Int × LiI)=>some (Bc,Bb)) else none):Option (LiI × Int)).bind λ(Be,Bf)=>some (Be,Bf) else ((if 0<=w64 (1 + Int.tmod (w64 a1) Aa)/\w64 (1 + Int.tmod (w64 a1) Aa)<=100000000 then (iter (λs=>Al6 fuel a1 a5 Aa s.1 s.2.1 s.2.2) fuel (0,0,List.replicate (Int.toNat<|w64<|1 + Int.tmod (w64 a1) Aa) ([]:List Int))).bind (λ((Bg,Bh):Int × LiI)=>some (Bh,Bg)) else none):Option (LiI × Int)).bind λ(Bi,Bj)=>some (Bi,Bj))):Option (LiI × Int)).bind (λ((Aj,Bl):LiI × Int)=>(Apw fuel Aj).bind λBm=>if (!Bm)=true then ((if 0<=w64 (1 + Int.tmod (w64 a1) Aa)/\w64 (1 + Int.tmod (w64 a1) Aa)<=100000000 then (iter (λs=>Al7 fuel a1 a5 Aa s.1 s.2.1 s.2.2) fuel (0,Bl,List.replicate (Int.toNat<|w64<|1 + Int.tmod (w64 a1) Aa) ([]:List Int))).bind (λ((Bn,Bo):Int × LiI)=>some (Bo,Bn)) else none):Option (LiI × Int)).bind λ(Bp,Br)=>some Bp else some Aj) else none
theorem Aw2 {Ab:Value} {a5:LiA} {B6:Value} {a9:LiA} {Am:Int} {r:LiI} (H4:SlC (cI .i8) h Ab a5) (H8:SlC (cI .i8) h B6 a9) (hp:Alx fuel a1 a2 a5 a9 Am=some r):Ahs Tryz.prog 31 #[(.agg #[(.int .u8 a1),(.int .u8 a2),Ab,B6]),(.int .i64 Am)] h (λx h'=>Ext h h'/\ ∃ (x0:Value) (F0:List Nat) (Hf:List LnA) (Hg:List Value),x=x0/\Aj1 (cI .i64) 61 2 h' F0 Hf Hg x0 r/\Sp h' h.size [F0]):=by
 unfold Alx at hp;refine cwf (l:=[_,_]) Tryz.func31 rfl rfl (AOv<|Ano (Kst.k0 h) [(.int .u8 a1),(.int .u8 a2),Ab,B6] λTu Tv Tw B7=>Ah7<|Ai6 BM3 Ayf (B7.b p0) 2 rfl ?_);obtain ⟨_,_,_,Hh⟩:=(H4.ext B7.x).shape;refine Alh (v:=(.agg #[Ab,(.int .i64 0)])) (λ_=>by subst Hh;kernel_rfl)<|Ano B7 [Ab,(.int .i64 0)] λAa Tx Ty Ax=>Ah7<|Ai6 BM1 BOm (Ax.b p1) 0 rfl (As3 Axz Axn rfl (AOr ?_));obtain ⟨Hj,Hk⟩:=ifN hp;refine Aj6 rfl rfl Hj (Ahk rfl rfl (Ah7<|AO1 ?_));obtain ⟨Hl,Hm,Dy⟩:=AOw Hk;refine Arb 147573952589676150912 (λx:(LiI) × (Value) × LnA × LnN × LvA × (Int)=>[(7,x.2.1)]) (λx h'=>( (x.1,x.2.2.2.2.2))=Hl/\Kst h h' (aO2 (cI .i64) 61 2 x.2.2.1 x.2.2.2.1 x.2.2.2.2.1 x.2.1 x.1 :: ((Aoz Ax.L [0]).set 0 (aB 109 Aa [Ab,(.int .i64 x.2.2.2.2.2)])))) ?_ ?_
 ·refine AOv<|Ai6 BM2 BOm (Ax.b p1) 1 rfl (Aj6 rfl rfl AOs (AOz<|AO0 ?_));obtain ⟨Hn,Dz,B8⟩:=AOw Hm;refine Arb 520093696 (λx:(Bool)=>[(24,(.bool x))]) (λx h'=>( x)=Hn/\Kst h h' (Aoz Ax.L [0])) ?_ ?_
  ·refine AOv<|Ai0 rfl rfl (AO1<|⟨_,rfl,λB9=>?_,λB9=>?_⟩)
   ·refine AO5<|q_t ?_;exact ⟨((decide ((Int.tmod a2 8)=0)):(Bool)),⟨AOu<|Ahy Dz B9,Ax.sel [0] AOs⟩,rfl,trivial⟩
   ·refine AOv<|Ai0 rfl rfl (AO1 ?_);have D0:=Ahz Dz B9;refine ⟨_,rfl,λCa=>?_,λCa=>?_⟩
    ·refine AO5<|q_t ?_;exact ⟨((decide ((Int.tmod a2 8)=1)):(Bool)),⟨AOu<|Ahy D0 Ca,Ax.sel [0] AOs⟩,rfl,trivial⟩
    ·refine AOv<|Ai0 rfl rfl (AO1 ?_);have D1:=Ahz D0 Ca;refine ⟨_,rfl,λCb=>?_,λCb=>?_⟩
     ·refine AO5<|q_t ?_;exact ⟨((decide ((Int.tmod a2 8)=2)):(Bool)),⟨AOu<|Ahy D1 Cb,Ax.sel [0] AOs⟩,rfl,trivial⟩
     ·refine Ag6<|Ai0 rfl rfl (AO1 ?_);exact ⟨((decide ((Int.tmod a2 8)=3)):(Bool)),⟨AOu<|Ahz D1 Cb,Ax.sel [0] AOs⟩,rfl,trivial⟩
  rintro Ho Hq Hr ⟨Hs,Ao⟩;(try dsimp only [Kst.L,List.set,Aoz,Ar4] at Ao);refine (show W _ _ _ (setL [(24,(.bool Ho))]<|mix _ Hq _) Hr from ?_);subst Hs;(try dsimp only at B8);refine ⟨_,rfl,λCd=>?_,λCd=>?_⟩
  ·refine Ag6<|AOr<|AOr ?_;obtain ⟨Ht,Hu,D2⟩:=AOw<|ifT B8 Cd;refine Ahq (K':=(λxr h'=> ∃ x:(LiI) × (Value) × LnA × LnN × LvA × (Int),(x.1,x.2.2.2.2.2)=Ht/\xr=x.2.1/\Kst h h' (aO2 (cI .i64) 61 2 x.2.2.1 x.2.2.2.1 x.2.2.2.2.1 x.2.1 x.1 :: (Ao.L.set 0<|aB 109 Aa [Ab,(.int .i64 x.2.2.2.2.2)])))) trivial rfl ?_ λD3 Tz Hv=>?_
   ·refine cwf (l:=[_,_]) Tryz.func72 rfl rfl (AOv<|Ah7<|AOr<|AOr ?_);obtain ⟨Hw,Hx,D4⟩:=AOw Hu;refine Ahq (K':=(λxr h'=> ∃ x:(LiI) × (Value) × LnA × LnN × LvA × (Int),(x.1,x.2.2.2.2.2)=Hw/\xr=x.2.1/\Kst h h' (aO2 (cI .i64) 61 2 x.2.2.1 x.2.2.2.1 x.2.2.2.2.1 x.2.1 x.1 :: (Ao.L.set 0<|aB 109 Aa [Ab,(.int .i64 x.2.2.2.2.2)])))) trivial rfl ?_ λBa T0 Hy=>?_
    ·refine cwf (l:=[_,_,_]) Tryz.func75 rfl rfl (AOv<|Ah7<|AOr ?_);obtain ⟨Hz,H5⟩:=ifN Hx;refine Ayj (cI .i64) 2 APa As9 rfl trivial tt2 rfl rfl AOs Hz λIa Ib Ic D5 T3 Id Ie If=>AO1<|AOx<|AOv<|AOr ?_;have Ce:=Ao.no2 Ie If Id;refine Ahx APa rfl (Ce.o2 p0).rd (AOr<|AOz<|AO0<|Amy 4294959360 (λx:(Int) × (Int) × (LiI) × LnA × LnN × LvA=>(x.1,x.2.1,x.2.2.1)) ((0,0,(List.replicate (Int.toNat<|w64<|1 + (Int.tmod (w64 a1) Am)) ([]:List Int)),Ia,Ib,Ic):(Int) × (Int) × (LiI) × LnA × LnN × LvA) H5 (λx=>[(13,(.int .i64 x.1))]) (λx=>(Ce.L.set 0<|aO2 (cI .i64) 61 2 x.2.2.2.1 x.2.2.2.2.1 x.2.2.2.2.2 D5 x.2.2.1).set 1 (aB 109 Aa [Ab,(.int .i64 x.2.1)])) Ce ⟨rfl,trivial⟩ ?_);rintro ⟨Cf,Bb,Ih,Ii,Ij,Ik⟩ Il Im T4 Cg Bc Io;(try dsimp only [Kst.L,List.set,Aoz,Ar4] at Cg);refine (show W _ _ _ (setL [(13,(.int .i64 Cf))]<|mix _ Il _) Im from ?_);(try dsimp only at Bc);unfold Amn at Bc;refine AOv<|Ahn rfl rfl (AOz<|AOx<|⟨_,rfl,λCh=>?_,λCh=>?_⟩)
     ·refine AO5<|q_t<|AOx<|AO0<|AOv<|AOr<|Ah7<|AOr<|AOr<|AOr ?_;obtain ⟨Ip,Iq⟩:=ifN<|Ahy Bc Ch;refine Awz (c:=(cI .i64)) (a:=0) APe Ars rfl rfl (λ_=>rfl) rfl trivial tt2 rfl rfl AOs Ip λT5 T6 T7 Ir Is It Iu=>?_;have A3:=Cg.no Is (Anw It Iu) Ir;obtain ⟨T8,D6,Iv⟩:=AOw Iq;refine Aij APa rfl (A3.o2 p1) rfl D6 λT9 Ua Iw Ub Uc=>Azf Aha (A3.o2 p1) D6 Iw rfl rfl (A3.o p0) (A3.dj p0 p1 AOs) λAp Ix Iy Iz=>AOz<|Ai1 (λh'=>UpT ([Aa] ++ []) Ap h') AO4 ?_;have Af:=A3.m2 p0 p1 AOs Iy Ix λz hz=> .inl<|Iz z hz;have Ci:UpT ([Aa] ++ []) Ap Ap:=UpT.start<|Aiv (Ani (Af.b p2) rfl) all_nil;refine AOr<|AOr ?_;obtain ⟨Ud,Cj,I0⟩:=AOw Iv;refine Aij APa rfl (Af.o2 p1) rfl Cj λUe Uf I1 I2 I3=>Ahm Aha rfl Ci (λh' hb=>At4 I3 hb<|Azq (Af.dj p1 p2 AOs _<|by simp [aO,aO2,I1]) Azr) (AOr<|AOr<|AOr ?_);obtain ⟨I6,I7,D7⟩:=AOw I0;have I9:UpT ([Aa] ++ []) Ap Ap:=UpT.start<|Aiv (Ani (Af.b p2) rfl) all_nil;refine Ahq (K':=(λxr h'=> ∃ x:(Int) × (Int),(x.1,x.2)=I6/\xr=(.int .i64 x.1)/\Kst h h' ((Aoz Af.L [1,2]).set 1 (aB 109 Aa [Ab,(.int .i64 x.2)]))/\UpT ([Aa] ++ []) Ap h')) Ci rfl ?_ λUg Uh Ja=>?_
      ·refine cwf (l:=[_,_]) Tryz.func74 rfl rfl (AOv<|Ah7<|AOr ?_);obtain ⟨Jc,D8,D9⟩:=AOw I7;have Ea:UpT ([Aa] ++ []) Ap Ap:=UpT.start<|Aiv (Ani (Af.b p2) rfl) all_nil;refine Ahq (K':=(λxr h'=> ∃ x:(Int) × (Int),(x.1,x.2)=Jc/\xr=(.int .i64 x.1)/\Kst h h' ((Aoz Af.L [1,2]).set 1 (aB 109 Aa [Ab,(.int .i64 x.2)]))/\UpT ([Aa] ++ []) Ap h')) trivial rfl ?_ λUi Uj Je=>?_
       ·refine cwf (l:=[_]) Tryz.func135 rfl rfl (AOv<|AO1<|AOx<|AOx<|Ame<|AOr<|Ah3 rfl (Ah2 Aj9 rfl (Ahu Aii rfl ((Af.b p2).cell (i:=1) rfl) (AOr<|Ah3 rfl (Ah2 Ard rfl (Ahu Ayf rfl ((Af.b p2).cell (i:=0) rfl) (Aim Azb rfl H4 (At7 rfl rfl (AOz<|⟨_,rfl,λCk=>?_,λCk=>?_⟩)))))))))
        ·refine AOv<|AO1<|AO6<|Ag7<|⟨_,AO7,((0,Bb):(Int) × (Int)),?_,rfl,?_,?_⟩
         ·exact AOu<|Ahy D8 Ck
         ·exact Af.sel [1,2] AOs
         ·exact Ea
        ·refine AO5<|q_t<|AOv<|AOr<|Ah3 rfl (Ah2 Aj9 rfl (Ahu Aii rfl ((Af.b p2).cell (i:=1) rfl) (Ahk rfl rfl (Ah3 rfl (Ah2 Aj9 rfl (Awc [Ab,(.int .i64<|w64<|Bb + 1)] Aii rfl rfl rfl (Af.b p2) (Nat.le_of_ble_eq_true rfl) rfl λUk Eb Ec=>AOz<|AOx<|Ame<|AOr<|Ah3 rfl (Ah2 Ard rfl ?_)))))));have Be:=Af.sb p2 Ec Eb rfl;refine Ahu Ayf rfl ((Be.b p2).cell (i:=0) rfl) (AOr<|Ah3 rfl (Ah2 Aj9 rfl (Ahu Aii rfl ((Be.b p2).cell (i:=1) rfl) (Amr rfl rfl ?_))));obtain ⟨Jf,Jg,Jh⟩:=AOw<|Ahz D8 Ck;refine Aqu (c:=(cI .i8)) Azb rfl H4 rfl Jg λUl Um Un Ji Jj=>?_;obtain rfl:=Ji;refine Ahu A6x rfl (AO8 (Jj 0 _ rfl) Be.x) (As3 A6y Asg rfl (AO1<|AO6<|⟨_,AO7,(((w64 Jf),(w64<|Bb + 1)):(Int) × (Int)),?_,rfl,?_,?_⟩))
         ·exact AOu Jh
         ·exact Be.sel [1,2] AOs
         ·exact (Ea.then (Eb.stA Ec (Ani (Af.b p2) rfl) rfl)<|Am3 rfl)
       obtain ⟨⟨Jk,Jl⟩,Jm,rfl,Ed,Jn⟩:=Je;(try dsimp only [Kst.L,List.set,Aoz,Ar4] at Ed);refine ⟨trivial,?_⟩;subst Jm;(try dsimp only at D9);refine As3 Asg Axz rfl (As3 Axz Axn rfl (AOr<|Aj6 rfl rfl AOs (AO1<|AO6<|⟨_,AO7,(((Int.tmod (w64<|IntKind.wrap .u8 Jk) 6),Jl):(Int) × (Int)),?_,rfl,?_,?_⟩)))
       ·exact AOu D9
       ·exact Ed
       ·exact (I9.then Jn<|Aiv (Am3 rfl) all_nil)
      obtain ⟨⟨Jo,Uo⟩,Jp,rfl,Cm,Jq⟩:=Ja;(try dsimp only [Kst.L,List.set,Aoz,Ar4] at Cm);refine ⟨(Ci.then Jq<|Aiv (Am3 rfl) all_nil),?_⟩;subst Jp;(try dsimp only at D7);refine Ahk rfl rfl ?_;obtain ⟨Up,Ee,Jr⟩:=AOw D7;refine Air (m:=Cf) APe rfl (Af.o2 p1) I2 Cj rfl Ee λUq Js=>Aol (m:=Cf) (Amg AO9 rfl rfl rfl) (Cm.o2 p0) Js Cj Ee (show ((cI .i64)).rep _ (w64<|1 + Jo) _ from rfl) λUr Jt Ju=>Ahh<|q_b<|q_t<|Ag6<|Ahk rfl rfl (AOr<|AOz ?_);exact ⟨(_,_,_,_,_,_),(AOu Jr).symm,(Cm.uO2 p0 Ju Jt),rfl,trivial⟩
     ·have Ef:=Io _ (AOu<|Ahz Bc Ch).symm;(try dsimp only at Ef);refine Ahf<|Ahg<|Ahg<|Aio<|q_t<|AOv<|AOr<|AO1<|AO6<|⟨_,AO7,((Ih,D5,Ii,Ij,Ik,Bb):(LiI) × (Value) × LnA × LnN × LvA × (Int)),?_,rfl,?_⟩
      ·exact AOu Ef
      ·exact Cg
    obtain ⟨⟨Jv,Ba,Jw,Jx,Jy,Jz⟩,J0,rfl,Bf⟩:=Hy;(try dsimp only [Kst.L,List.set,Aoz,Ar4] at Bf);refine ⟨trivial,?_⟩;subst J0;(try dsimp only at D4);refine AO1<|AOx<|AOv<|AOr<|Ahx APa rfl (Bf.o2 p0).rd (AOr<|AOz<|AO0<|Amy 17592186036416 (λx:(Int) × (Int) × (LiI) × LnA × LnN × LvA=>(x.1,x.2.1,x.2.2.1)) ((0,Jz,Jv,Jw,Jx,Jy):(Int) × (Int) × (LiI) × LnA × LnN × LvA) D4 (λx=>[(13,(.int .i64 x.1))]) (λx=>(Bf.L.set 0<|aO2 (cI .i64) 61 2 x.2.2.2.1 x.2.2.2.2.1 x.2.2.2.2.2 Ba x.2.2.1).set 1 (aB 109 Aa [Ab,(.int .i64 x.2.1)])) Bf ⟨rfl,trivial⟩ ?_);rintro ⟨Bg,Eg,Eh,Ei,Ej,Ek⟩ J1 J2 Us Bh Bi J3;(try dsimp only [Kst.L,List.set,Aoz,Ar4] at Bh);refine (show W _ _ _ (setL [(13,(.int .i64 Bg))]<|mix _ J1 _) J2 from ?_);(try dsimp only at Bi);unfold Amo at Bi;refine AOv<|Ahn rfl rfl (AOz<|AOx<|⟨_,rfl,λCn=>?_,λCn=>?_⟩)
    ·refine AO5<|q_t<|AOx<|AO0<|AOv<|AOr<|Ah7<|AO1<|AO0<|Amy 8796092956800 (λx:(Int) × (Int) × (LiI) × LnA × LnN × LvA=>(x.1,x.2.1,x.2.2.1)) ((0,Eg,Eh,Ei,Ej,Ek):(Int) × (Int) × (LiI) × LnA × LnN × LvA) (Ahy Bi Cn) (λx=>[(7,(.int .i64 x.1))]) (λx=>(Bh.L.set 0<|aO2 (cI .i64) 61 2 x.2.2.2.1 x.2.2.2.2.1 x.2.2.2.2.2 Ba x.2.2.1).set 1 (aB 109 Aa [Ab,(.int .i64 x.2.1)])) Bh ⟨rfl,trivial⟩ ?_;rintro ⟨El,Co,Ut,Uu,Uv,Uw⟩ J4 Az Ux Ag Bj J5;(try dsimp only [Kst.L,List.set,Aoz,Ar4] at Ag);refine (show W _ _ _ (setL [(7,(.int .i64 El))]<|mix _ J4 _) Az from ?_);(try dsimp only at Bj);unfold Ao0 at Bj;refine AOx<|AOv<|AOr<|AOr<|Ahn rfl rfl (AOz<|⟨_,rfl,λCp=>?_,λCp=>?_⟩)
     ·refine AO5<|q_t<|AOx<|AO0<|AOx<|Ai1 (λh'=>UpT ([Aa] ++ []) Az h') AO4 ?_;have Cq:UpT ([Aa] ++ []) Az Az:=UpT.start<|Aiv (Ani (Ag.b p1) rfl) all_nil;refine AOr<|AOr ?_;obtain ⟨Uy,Cr,J6⟩:=AOw<|Ahy Bj Cp;refine Aij APa rfl (Ag.o2 p0) rfl Cr λUz U0 J7 J8 J9=>Ahm Aha rfl Cq (λh' hb=>At4 J9 hb<|Azq (Ag.dj p0 p1 AOs _<|by simp [aO,aO2,J7]) Azr) (AOr<|AOr ?_);obtain ⟨Ka,Em,En⟩:=AOw J6;have Eo:UpT ([Aa] ++ []) Az Az:=UpT.start<|Aiv (Ani (Ag.b p1) rfl) all_nil;refine Ahq (K':=(λxr h'=> ∃ x:(Int) × (Int),(x.1,x.2)=Ka/\xr=(.int .i64 x.1)/\Kst h h' (Ag.L.set 1<|aB 109 Aa [Ab,(.int .i64 x.2)])/\UpT ([Aa] ++ []) Az h')) Cq rfl ?_ λU3 U8 Kb=>?_
      ·refine cwf (l:=[_]) Tryz.func135 rfl rfl (AOv<|AO1<|AOx<|AOx<|Ame<|AOr<|Ah3 rfl (Ah2 Aj9 rfl (Ahu Aii rfl ((Ag.b p1).cell (i:=1) rfl) (AOr<|Ah3 rfl (Ah2 Ard rfl (Ahu Ayf rfl ((Ag.b p1).cell (i:=0) rfl) (Aim Azb rfl H4 (At7 rfl rfl (AOz<|⟨_,rfl,λCt=>?_,λCt=>?_⟩)))))))))
       ·refine AOv<|AO1<|AO6<|Ag7<|⟨_,AO7,((0,Co):(Int) × (Int)),?_,rfl,?_,?_⟩
        ·exact AOu<|Ahy Em Ct
        ·exact Ag
        ·exact Eo
       ·refine AO5<|q_t<|AOv<|AOr<|Ah3 rfl (Ah2 Aj9 rfl (Ahu Aii rfl ((Ag.b p1).cell (i:=1) rfl) (Ahk rfl rfl (Ah3 rfl (Ah2 Aj9 rfl (Awc [Ab,(.int .i64<|w64<|Co + 1)] Aii rfl rfl rfl (Ag.b p1) (Nat.le_of_ble_eq_true rfl) rfl λVa Ep Er=>AOz<|AOx<|Ame<|AOr<|Ah3 rfl (Ah2 Ard rfl ?_)))))));have Bl:=Ag.sb p1 Er Ep rfl;refine Ahu Ayf rfl ((Bl.b p1).cell (i:=0) rfl) (AOr<|Ah3 rfl (Ah2 Aj9 rfl (Ahu Aii rfl ((Bl.b p1).cell (i:=1) rfl) (Amr rfl rfl ?_))));obtain ⟨Kc,Kd,Ke⟩:=AOw<|Ahz Em Ct;refine Aqu (c:=(cI .i8)) Azb rfl H4 rfl Kd λVb Vc Vd Kf Kg=>?_;obtain rfl:=Kf;refine Ahu A6x rfl (AO8 (Kg 0 _ rfl) Bl.x) (As3 A6y Asg rfl (AO1<|AO6<|⟨_,AO7,(((w64 Kc),(w64<|Co + 1)):(Int) × (Int)),?_,rfl,?_,?_⟩))
        ·exact AOu Ke
        ·exact Bl
        ·exact (Eo.then (Ep.stA Er (Ani (Ag.b p1) rfl) rfl)<|Am3 rfl)
      obtain ⟨⟨Kh,Ve⟩,Ki,rfl,Cu,Kj⟩:=Kb;(try dsimp only [Kst.L,List.set,Aoz,Ar4] at Cu);refine ⟨(Cq.then Kj<|Aiv (Am3 rfl) all_nil),?_⟩;subst Ki;(try dsimp only at En);refine Aj6 rfl rfl AOs ?_;obtain ⟨Vf,Es,Kk⟩:=AOw En;refine Air (m:=Bg) APe rfl (Ag.o2 p0) J8 Cr rfl Es λVg Kl=>Aol (m:=Bg) (Amg AO9 rfl rfl rfl) (Cu.o2 p0) Kl Cr Es (show ((cI .i64)).rep _ (Int.tmod Kh 3) _ from rfl) λVh Km Kn=>AOz<|Ame<|AOr<|AOr ?_;have Bm:=Cu.uO2 p0 Kn Km;obtain ⟨Vi,Et,Ko⟩:=AOw Kk;refine Aiw APa Aha (Bm.o2 p0) Et λ_ Vj Kp=>AOr<|AOr<|AOr ?_;obtain ⟨Vk,Eu,Kr⟩:=AOw Ko;refine Aiw APa Aha (Bm.o2 p0) Eu λ_ Vl Kt=>AOr ?_;obtain ⟨Vm,Ku,Kv⟩:=AOw Kr;refine Atw (m:=Bg) APe AO9 (Bm.o2 p0) Kt Eu Ku λ_=>?_;obtain ⟨Vn,Kw,Kx⟩:=AOw Kv;refine Aqv (m:=El) Bm p0 APe AO9 Kp Et Kw (λ_=>rfl) λ_ Vo Ky=>Ahh<|q_b<|q_t<|Ag6<|AOr<|Ahk rfl rfl (AO1 ?_);exact ⟨(_,_,_,_,_,_),(AOu Kx).symm,Ky,rfl,trivial⟩
     ·have Ev:=J5 _ (AOu<|Ahz Bj Cp).symm;(try dsimp only at Ev);refine Ahf<|Ahg<|Ahg<|Aio<|q_b<|q_t<|Ag6<|Ahk rfl rfl (AOr<|AOz ?_);exact ⟨(_,_,_,_,_,_),(AOu Ev).symm,Ag,rfl,trivial⟩
    ·have Ew:=J3 _ (AOu<|Ahz Bi Cn).symm;(try dsimp only at Ew);refine Ahf<|Ahg<|Ahg<|Aio<|q_t<|AOv<|AOr<|AO1<|AO6<|⟨_,AO7,((Eh,Ba,Ei,Ej,Ek,Eg):(LiI) × (Value) × LnA × LnN × LvA × (Int)),?_,rfl,?_⟩
     ·exact AOu Ew
     ·exact Bh
   obtain ⟨⟨Kz,D3,La,Lb,Lc,Ld⟩,Le,rfl,Ey⟩:=Hv;(try dsimp only [Kst.L,List.set,Aoz,Ar4] at Ey);refine ⟨trivial,?_⟩;subst Le;(try dsimp only at D2);refine Aho<|Ahh<|q_b<|q_t ?_;exact ⟨((Kz,D3,La,Lb,Lc,Ld):(LiI) × (Value) × LnA × LnN × LvA × (Int)),⟨AOu D2,Ey⟩,rfl,trivial⟩
  ·refine AOv<|Ai0 rfl rfl (AO1 ?_);have Ez:=Aok B8 Cd;refine ⟨_,rfl,λCv=>?_,λCv=>?_⟩
   ·refine AOv<|AOr ?_;obtain ⟨Lf,Lg,Lh⟩:=AOw<|Ahy Ez Cv;refine Aux Ao (Avz Lg) λLi Lj Lk Ll Aq Vp Ac=>AO1<|Ai1 (λh'=>UpT ([Aa] ++ []) Aq h') AO4 ?_;have Bn:UpT ([Aa] ++ []) Aq Aq:=UpT.start<|Aiv (Ani (Ac.b p1) rfl) all_nil;refine AOr ?_;obtain ⟨Lm,A4,Lo⟩:=AOw Lh;refine Aij APa rfl (Ac.o2 p0) rfl A4 λVs Vt Lq Fa Lr=>Ahm Aha rfl Bn (λh' hb=>At4 Lr hb<|Azq (Ac.dj p0 p1 AOs _<|by simp [aO,aO2,Lq]) Azr) ?_;obtain ⟨Fb,Bo,Lv⟩:=AOw Lo;refine Air (m:=0) APe rfl (Ac.o2 p0) Fa A4 rfl Bo λVu Fc=>?_;obtain ⟨Vv,Lw,Lx⟩:=(Ac.o2 p0).cells Fc A4 Bo;obtain rfl:=Lw;refine Ahm AO9 rfl Bn (λh' hb=>At4 (Lx 0 _ rfl) hb<|Azq (Ac.dj p0 p1 AOs _<|(Ac.o2 p0).gmem Fc) Azr) (AOr ?_);obtain ⟨Ly,Lz,Fd⟩:=AOw Lv;have L9:UpT ([Aa] ++ []) Aq Aq:=UpT.start<|Aiv (Ani (Ac.b p1) rfl) all_nil;refine Ahq (K':=(λxr h'=> ∃ x:(Int) × (Int),(x.1,x.2)=Ly/\xr=(.int .i64 x.1)/\Kst h h' (Ac.L.set 1<|aB 109 Aa [Ab,(.int .i64 x.2)])/\UpT ([Aa] ++ []) Aq h')) Bn rfl ?_ λVw Vx Ma=>?_
    ·refine cwf (l:=[_,_]) Tryz.func74 rfl rfl (AOv<|Ah7<|AOr ?_);obtain ⟨Mb,Fe,Ff⟩:=AOw Lz;have Fg:UpT ([Aa] ++ []) Aq Aq:=UpT.start<|Aiv (Ani (Ac.b p1) rfl) all_nil;refine Ahq (K':=(λxr h'=> ∃ x:(Int) × (Int),(x.1,x.2)=Mb/\xr=(.int .i64 x.1)/\Kst h h' (Ac.L.set 1<|aB 109 Aa [Ab,(.int .i64 x.2)])/\UpT ([Aa] ++ []) Aq h')) trivial rfl ?_ λVy Vz Mc=>?_
     ·refine cwf (l:=[_]) Tryz.func135 rfl rfl (AOv<|AO1<|AOx<|AOx<|Ame<|AOr<|Ah3 rfl (Ah2 Aj9 rfl (Ahu Aii rfl ((Ac.b p1).cell (i:=1) rfl) (AOr<|Ah3 rfl (Ah2 Ard rfl (Ahu Ayf rfl ((Ac.b p1).cell (i:=0) rfl) (Aim Azb rfl H4 (At7 rfl rfl (AOz<|⟨_,rfl,λCw=>?_,λCw=>?_⟩)))))))))
      ·refine AOv<|AO1<|AO6<|Ag7<|⟨_,AO7,((0,0):(Int) × (Int)),?_,rfl,?_,?_⟩
       ·exact AOu<|Ahy Fe Cw
       ·exact Ac
       ·exact Fg
      ·refine AO5<|q_t<|AOv<|AOr<|Ah3 rfl (Ah2 Aj9 rfl (Ahu Aii rfl ((Ac.b p1).cell (i:=1) rfl) (Ahk rfl rfl (Ah3 rfl (Ah2 Aj9 rfl (Awc [Ab,(.int .i64<|w64<|0 + 1)] Aii rfl rfl rfl (Ac.b p1) (Nat.le_of_ble_eq_true rfl) rfl λV1 Fh Fi=>AOz<|AOx<|Ame<|AOr<|Ah3 rfl (Ah2 Ard rfl ?_)))))));have Bp:=Ac.sb p1 Fi Fh rfl;refine Ahu Ayf rfl ((Bp.b p1).cell (i:=0) rfl) (AOr<|Ah3 rfl (Ah2 Aj9 rfl (Ahu Aii rfl ((Bp.b p1).cell (i:=1) rfl) (Amr rfl rfl ?_))));obtain ⟨Md,Me,Mf⟩:=AOw<|Ahz Fe Cw;refine Aqu (c:=(cI .i8)) Azb rfl H4 rfl Me λV4 V6 V8 Mg Mh=>?_;obtain rfl:=Mg;refine Ahu A6x rfl (AO8 (Mh 0 _ rfl) Bp.x) (As3 A6y Asg rfl (AO1<|AO6<|⟨_,AO7,(((w64 Md),(w64<|0 + 1)):(Int) × (Int)),?_,rfl,?_,?_⟩))
       ·exact AOu Mf
       ·exact Bp
       ·exact (Fg.then (Fh.stA Fi (Ani (Ac.b p1) rfl) rfl)<|Am3 rfl)
     obtain ⟨⟨Mi,Mj⟩,Mk,rfl,Fj,Ml⟩:=Mc;(try dsimp only [Kst.L,List.set,Aoz,Ar4] at Fj);refine ⟨trivial,?_⟩;subst Mk;(try dsimp only at Ff);refine As3 Asg Axz rfl (As3 Axz Axn rfl (AOr<|Aj6 rfl rfl AOs (AO1<|AO6<|⟨_,AO7,(((Int.tmod (w64<|IntKind.wrap .u8 Mi) 3),Mj):(Int) × (Int)),?_,rfl,?_,?_⟩)))
     ·exact AOu Ff
     ·exact Fj
     ·exact (L9.then Ml<|Aiv (Am3 rfl) all_nil)
    obtain ⟨⟨Fk,Mm⟩,Mo,rfl,Cx,Mq⟩:=Ma;(try dsimp only [Kst.L,List.set,Aoz,Ar4] at Cx);refine ⟨(Bn.then Mq<|Aiv (Am3 rfl) all_nil),?_⟩;subst Mo;(try dsimp only at Fd);refine Ahk rfl rfl (Air (m:=0) APe rfl (Ac.o2 p0) Fa A4 rfl Bo λWa Mr=>Aol (m:=0) (Amg AO9 rfl rfl rfl) (Cx.o2 p0) Mr A4 Bo (show ((cI .i64)).rep _ (w64<|Fb + Fk) _ from rfl) λWb Ms Mt=>Ahh<|q_b<|q_t ?_);exact ⟨(((sI Lf 0<|sI Lm 0<|w64<|Fb + Fk),Ll,Li,Lj,Lk,Mm):(LiI) × (Value) × LnA × LnN × LvA × (Int)),⟨AOu Fd,(Cx.uO2 p0 Mt Ms)⟩,rfl,trivial⟩
   ·refine AOv<|Ai0 rfl rfl (AO1 ?_);have Fl:=Ahz Ez Cv;refine ⟨_,rfl,λCy=>?_,λCy=>?_⟩
    ·refine AOv<|AOr ?_;obtain ⟨Mu,Mv,Mw⟩:=AOw<|Ahy Fl Cy;refine Aux Ao (Avz Mv) λMx My Mz M0 Ar Wc Ad=>AO1<|Ai1 (λh'=>UpT ([Aa] ++ []) Ar h') AO4 ?_;have Bq:UpT ([Aa] ++ []) Ar Ar:=UpT.start<|Aiv (Ani (Ad.b p1) rfl) all_nil;refine AOr<|AOr<|Amr rfl rfl ?_;obtain ⟨M1,A5,M2⟩:=AOw Mw;refine Aij APa rfl (Ad.o2 p0) rfl A5 λWd We M3 Fm M4=>Ahm Aha rfl Bq (λh' hb=>At4 M4 hb<|Azq (Ad.dj p0 p1 AOs _<|by simp [aO,aO2,M3]) Azr) (AOr<|Amr rfl rfl ?_);obtain ⟨Fo,Br,M5⟩:=AOw M2;refine Air (m:=(w64<|(w64<|1 + (Int.tmod (w64 a1) Am)) - 1)) APe rfl (Ad.o2 p0) Fm A5 rfl Br λWf Fp=>?_;obtain ⟨Wg,M6,M7⟩:=(Ad.o2 p0).cells Fp A5 Br;obtain rfl:=M6;refine Ahm AO9 rfl Bq (λh' hb=>At4 (M7 0 _ rfl) hb<|Azq (Ad.dj p0 p1 AOs _<|(Ad.o2 p0).gmem Fp) Azr) (AOr ?_);obtain ⟨M8,M9,Fq⟩:=AOw M5;have Na:UpT ([Aa] ++ []) Ar Ar:=UpT.start<|Aiv (Ani (Ad.b p1) rfl) all_nil;refine Ahq (K':=(λxr h'=> ∃ x:(Int) × (Int),(x.1,x.2)=M8/\xr=(.int .i64 x.1)/\Kst h h' (Ad.L.set 1<|aB 109 Aa [Ab,(.int .i64 x.2)])/\UpT ([Aa] ++ []) Ar h')) Bq rfl ?_ λWh Wi Nb=>?_
     ·refine cwf (l:=[_,_]) Tryz.func74 rfl rfl (AOv<|Ah7<|AOr ?_);obtain ⟨Nc,Fr,Ft⟩:=AOw M9;have Fu:UpT ([Aa] ++ []) Ar Ar:=UpT.start<|Aiv (Ani (Ad.b p1) rfl) all_nil;refine Ahq (K':=(λxr h'=> ∃ x:(Int) × (Int),(x.1,x.2)=Nc/\xr=(.int .i64 x.1)/\Kst h h' (Ad.L.set 1<|aB 109 Aa [Ab,(.int .i64 x.2)])/\UpT ([Aa] ++ []) Ar h')) trivial rfl ?_ λWj Wk Nd=>?_
      ·refine cwf (l:=[_]) Tryz.func135 rfl rfl (AOv<|AO1<|AOx<|AOx<|Ame<|AOr<|Ah3 rfl (Ah2 Aj9 rfl (Ahu Aii rfl ((Ad.b p1).cell (i:=1) rfl) (AOr<|Ah3 rfl (Ah2 Ard rfl (Ahu Ayf rfl ((Ad.b p1).cell (i:=0) rfl) (Aim Azb rfl H4 (At7 rfl rfl (AOz<|⟨_,rfl,λCz=>?_,λCz=>?_⟩)))))))))
       ·refine AOv<|AO1<|AO6<|Ag7<|⟨_,AO7,((0,0):(Int) × (Int)),?_,rfl,?_,?_⟩
        ·exact AOu<|Ahy Fr Cz
        ·exact Ad
        ·exact Fu
       ·refine AO5<|q_t<|AOv<|AOr<|Ah3 rfl (Ah2 Aj9 rfl (Ahu Aii rfl ((Ad.b p1).cell (i:=1) rfl) (Ahk rfl rfl (Ah3 rfl (Ah2 Aj9 rfl (Awc [Ab,(.int .i64<|w64<|0 + 1)] Aii rfl rfl rfl (Ad.b p1) (Nat.le_of_ble_eq_true rfl) rfl λWl Fv Fw=>AOz<|AOx<|Ame<|AOr<|Ah3 rfl (Ah2 Ard rfl ?_)))))));have Bt:=Ad.sb p1 Fw Fv rfl;refine Ahu Ayf rfl ((Bt.b p1).cell (i:=0) rfl) (AOr<|Ah3 rfl (Ah2 Aj9 rfl (Ahu Aii rfl ((Bt.b p1).cell (i:=1) rfl) (Amr rfl rfl ?_))));obtain ⟨Nf,Ng,Nh⟩:=AOw<|Ahz Fr Cz;refine Aqu (c:=(cI .i8)) Azb rfl H4 rfl Ng λWm Wn Wo Ni Nj=>?_;obtain rfl:=Ni;refine Ahu A6x rfl (AO8 (Nj 0 _ rfl) Bt.x) (As3 A6y Asg rfl (AO1<|AO6<|⟨_,AO7,(((w64 Nf),(w64<|0 + 1)):(Int) × (Int)),?_,rfl,?_,?_⟩))
        ·exact AOu Nh
        ·exact Bt
        ·exact (Fu.then (Fv.stA Fw (Ani (Ad.b p1) rfl) rfl)<|Am3 rfl)
      obtain ⟨⟨Nk,Nl⟩,Nm,rfl,Fx,Nn⟩:=Nd;(try dsimp only [Kst.L,List.set,Aoz,Ar4] at Fx);refine ⟨trivial,?_⟩;subst Nm;(try dsimp only at Ft);refine As3 Asg Axz rfl (As3 Axz Axn rfl (AOr<|Aj6 rfl rfl AOs (AO1<|AO6<|⟨_,AO7,(((Int.tmod (w64<|IntKind.wrap .u8 Nk) 2),Nl):(Int) × (Int)),?_,rfl,?_,?_⟩)))
      ·exact AOu Ft
      ·exact Fx
      ·exact (Na.then Nn<|Aiv (Am3 rfl) all_nil)
     obtain ⟨⟨Fy,Np⟩,Nq,rfl,C0,Nr⟩:=Nb;(try dsimp only [Kst.L,List.set,Aoz,Ar4] at C0);refine ⟨(Bq.then Nr<|Aiv (Am3 rfl) all_nil),?_⟩;subst Nq;(try dsimp only at Fq);refine Ahk rfl rfl (Air (m:=(w64<|(w64<|1 + (Int.tmod (w64 a1) Am)) - 1)) APe rfl (Ad.o2 p0) Fm A5 rfl Br λWp Ns=>Aol (m:=(w64<|(w64<|1 + (Int.tmod (w64 a1) Am)) - 1)) (Amg AO9 rfl rfl rfl) (C0.o2 p0) Ns A5 Br (show ((cI .i64)).rep _ (w64<|Fo + Fy) _ from rfl) λWq Nt Nu=>Ahh<|q_b<|q_t ?_);exact ⟨(((sI Mu (w64<|(w64<|1 + (Int.tmod (w64 a1) Am)) - 1)<|sI M1 (w64<|(w64<|1 + (Int.tmod (w64 a1) Am)) - 1)<|w64<|Fo + Fy),M0,Mx,My,Mz,Np):(LiI) × (Value) × LnA × LnN × LvA × (Int)),⟨AOu Fq,(C0.uO2 p0 Nu Nt)⟩,rfl,trivial⟩
    ·refine AOv<|Ai0 rfl rfl (AO1 ?_);have Fz:=Ahz Fl Cy;refine ⟨_,rfl,λC1=>?_,λC1=>?_⟩
     ·refine Ag6<|AOr<|AOr ?_;obtain ⟨Nv,Nw,F4⟩:=AOw<|Ahy Fz C1;refine Ahq (K':=(λxr h'=> ∃ x:(LiI) × (Value) × LnA × LnN × LvA × (Int),(x.1,x.2.2.2.2.2)=Nv/\xr=x.2.1/\Kst h h' (aO2 (cI .i64) 61 2 x.2.2.1 x.2.2.2.1 x.2.2.2.2.1 x.2.1 x.1 :: (Ao.L.set 0<|aB 109 Aa [Ab,(.int .i64 x.2.2.2.2.2)])))) trivial rfl ?_ λF5 Wr Ny=>?_
      ·refine cwf (l:=[_,_,_]) Tryz.func75 rfl rfl (AOv<|Ah7<|AOr ?_);obtain ⟨Nz,N0⟩:=ifN Nw;refine Ayj (cI .i64) 2 APa As9 rfl trivial tt2 rfl rfl AOs Nz λN3 N4 N5 F6 Ws N6 N7 N8=>AO1<|AOx<|AOv<|AOr ?_;have C2:=Ao.no2 N7 N8 N6;refine Ahx APa rfl (C2.o2 p0).rd (AOr<|AOz<|AO0<|Amy 4294959360 (λx:(Int) × (Int) × (LiI) × LnA × LnN × LvA=>(x.1,x.2.1,x.2.2.1)) ((0,0,(List.replicate (Int.toNat<|w64<|1 + (Int.tmod (w64 a1) Am)) ([]:List Int)),N3,N4,N5):(Int) × (Int) × (LiI) × LnA × LnN × LvA) N0 (λx=>[(13,(.int .i64 x.1))]) (λx=>(C2.L.set 0<|aO2 (cI .i64) 61 2 x.2.2.2.1 x.2.2.2.2.1 x.2.2.2.2.2 F6 x.2.2.1).set 1 (aB 109 Aa [Ab,(.int .i64 x.2.1)])) C2 ⟨rfl,trivial⟩ ?_);rintro ⟨C3,Bu,N9,Oa,Ob,Oc⟩ Od Oe Wt C4 Bv Og;(try dsimp only [Kst.L,List.set,Aoz,Ar4] at C4);refine (show W _ _ _ (setL [(13,(.int .i64 C3))]<|mix _ Od _) Oe from ?_);(try dsimp only at Bv);unfold Al5 at Bv;refine AOv<|Ahn rfl rfl (AOz<|AOx<|⟨_,rfl,λC5=>?_,λC5=>?_⟩)
       ·refine AO5<|q_t<|AOx<|AO0<|AOv<|AOr<|Ah7<|AOr<|AOr<|AOr ?_;obtain ⟨Oh,Oi⟩:=ifN<|Ahy Bv C5;refine Awz (c:=(cI .i64)) (a:=0) APe Ars rfl rfl (λ_=>rfl) rfl trivial tt2 rfl rfl AOs Oh λWu Wv Ww Oj Ol Om On=>?_;have A6:=C4.no Ol (Anw Om On) Oj;obtain ⟨Wx,F7,Oo⟩:=AOw Oi;refine Aij APa rfl (A6.o2 p1) rfl F7 λWy Wz Oq W0 W1=>Azf Aha (A6.o2 p1) F7 Oq rfl rfl (A6.o p0) (A6.dj p0 p1 AOs) λAu Ot Ou Ov=>AOz<|Ai1 (λh'=>UpT ([Aa] ++ []) Au h') AO4 ?_;have Ah:=A6.m2 p0 p1 AOs Ou Ot λz hz=> .inl<|Ov z hz;have C6:UpT ([Aa] ++ []) Au Au:=UpT.start<|Aiv (Ani (Ah.b p2) rfl) all_nil;refine AOr<|AOr ?_;obtain ⟨W3,C7,Ow⟩:=AOw Oo;refine Aij APa rfl (Ah.o2 p1) rfl C7 λW4 W5 Ox Oy Oz=>Ahm Aha rfl C6 (λh' hb=>At4 Oz hb<|Azq (Ah.dj p1 p2 AOs _<|by simp [aO,aO2,Ox]) Azr) (AOr<|AOr<|AOr ?_);obtain ⟨O0,O1,F8⟩:=AOw Ow;have O2:UpT ([Aa] ++ []) Au Au:=UpT.start<|Aiv (Ani (Ah.b p2) rfl) all_nil;refine Ahq (K':=(λxr h'=> ∃ x:(Int) × (Int),(x.1,x.2)=O0/\xr=(.int .i64 x.1)/\Kst h h' ((Aoz Ah.L [1,2]).set 1 (aB 109 Aa [Ab,(.int .i64 x.2)]))/\UpT ([Aa] ++ []) Au h')) C6 rfl ?_ λW6 W7 O3=>?_
        ·refine cwf (l:=[_,_]) Tryz.func74 rfl rfl (AOv<|Ah7<|AOr ?_);obtain ⟨O4,F9,Ga⟩:=AOw O1;have Gb:UpT ([Aa] ++ []) Au Au:=UpT.start<|Aiv (Ani (Ah.b p2) rfl) all_nil;refine Ahq (K':=(λxr h'=> ∃ x:(Int) × (Int),(x.1,x.2)=O4/\xr=(.int .i64 x.1)/\Kst h h' ((Aoz Ah.L [1,2]).set 1 (aB 109 Aa [Ab,(.int .i64 x.2)]))/\UpT ([Aa] ++ []) Au h')) trivial rfl ?_ λW8 Xa O5=>?_
         ·refine cwf (l:=[_]) Tryz.func135 rfl rfl (AOv<|AO1<|AOx<|AOx<|Ame<|AOr<|Ah3 rfl (Ah2 Aj9 rfl (Ahu Aii rfl ((Ah.b p2).cell (i:=1) rfl) (AOr<|Ah3 rfl (Ah2 Ard rfl (Ahu Ayf rfl ((Ah.b p2).cell (i:=0) rfl) (Aim Azb rfl H4 (At7 rfl rfl (AOz<|⟨_,rfl,λC8=>?_,λC8=>?_⟩)))))))))
          ·refine AOv<|AO1<|AO6<|Ag7<|⟨_,AO7,((0,Bu):(Int) × (Int)),?_,rfl,?_,?_⟩
           ·exact AOu<|Ahy F9 C8
           ·exact Ah.sel [1,2] AOs
           ·exact Gb
          ·refine AO5<|q_t<|AOv<|AOr<|Ah3 rfl (Ah2 Aj9 rfl (Ahu Aii rfl ((Ah.b p2).cell (i:=1) rfl) (Ahk rfl rfl (Ah3 rfl (Ah2 Aj9 rfl (Awc [Ab,(.int .i64<|w64<|Bu + 1)] Aii rfl rfl rfl (Ah.b p2) (Nat.le_of_ble_eq_true rfl) rfl λXb Gc Gd=>AOz<|AOx<|Ame<|AOr<|Ah3 rfl (Ah2 Ard rfl ?_)))))));have Bw:=Ah.sb p2 Gd Gc rfl;refine Ahu Ayf rfl ((Bw.b p2).cell (i:=0) rfl) (AOr<|Ah3 rfl (Ah2 Aj9 rfl (Ahu Aii rfl ((Bw.b p2).cell (i:=1) rfl) (Amr rfl rfl ?_))));obtain ⟨O6,O7,O8⟩:=AOw<|Ahz F9 C8;refine Aqu (c:=(cI .i8)) Azb rfl H4 rfl O7 λXc Xd Xe O9 Pa=>?_;obtain rfl:=O9;refine Ahu A6x rfl (AO8 (Pa 0 _ rfl) Bw.x) (As3 A6y Asg rfl (AO1<|AO6<|⟨_,AO7,(((w64 O6),(w64<|Bu + 1)):(Int) × (Int)),?_,rfl,?_,?_⟩))
           ·exact AOu O8
           ·exact Bw.sel [1,2] AOs
           ·exact (Gb.then (Gc.stA Gd (Ani (Ah.b p2) rfl) rfl)<|Am3 rfl)
         obtain ⟨⟨Pb,Pc⟩,Pd,rfl,Ge,Pe⟩:=O5;(try dsimp only [Kst.L,List.set,Aoz,Ar4] at Ge);refine ⟨trivial,?_⟩;subst Pd;(try dsimp only at Ga);refine As3 Asg Axz rfl (As3 Axz Axn rfl (AOr<|Aj6 rfl rfl AOs (AO1<|AO6<|⟨_,AO7,(((Int.tmod (w64<|IntKind.wrap .u8 Pb) 9),Pc):(Int) × (Int)),?_,rfl,?_,?_⟩)))
         ·exact AOu Ga
         ·exact Ge
         ·exact (O2.then Pe<|Aiv (Am3 rfl) all_nil)
        obtain ⟨⟨Pf,Xf⟩,Pg,rfl,C9,Ph⟩:=O3;(try dsimp only [Kst.L,List.set,Aoz,Ar4] at C9);refine ⟨(C6.then Ph<|Aiv (Am3 rfl) all_nil),?_⟩;subst Pg;(try dsimp only at F8);refine Ahk rfl rfl ?_;obtain ⟨Xg,Gf,Pj⟩:=AOw F8;refine Air (m:=C3) APe rfl (Ah.o2 p1) Oy C7 rfl Gf λXh Pk=>Aol (m:=C3) (Amg AO9 rfl rfl rfl) (C9.o2 p0) Pk C7 Gf (show ((cI .i64)).rep _ (w64<|1 + Pf) _ from rfl) λXi Pl Pm=>Ahh<|q_b<|q_t<|Ag6<|Ahk rfl rfl (AOr<|AOz ?_);exact ⟨(_,_,_,_,_,_),(AOu Pj).symm,(C9.uO2 p0 Pm Pl),rfl,trivial⟩
       ·have Gg:=Og _ (AOu<|Ahz Bv C5).symm;(try dsimp only at Gg);refine Ahf<|Ahg<|Ahg<|Aio<|q_t<|AOv<|AOr<|AO1<|AO6<|⟨_,AO7,((N9,F6,Oa,Ob,Oc,Bu):(LiI) × (Value) × LnA × LnN × LvA × (Int)),?_,rfl,?_⟩
        ·exact AOu Gg
        ·exact C4
      obtain ⟨⟨Pn,F5,Po,Pp,Pq,Ps⟩,Pt,rfl,Gh⟩:=Ny;(try dsimp only [Kst.L,List.set,Aoz,Ar4] at Gh);refine ⟨trivial,?_⟩;subst Pt;(try dsimp only at F4);refine Aho<|Ahh<|q_b<|q_t ?_;exact ⟨((Pn,F5,Po,Pp,Pq,Ps):(LiI) × (Value) × LnA × LnN × LvA × (Int)),⟨AOu F4,Gh⟩,rfl,trivial⟩
     ·refine Ag6<|AOr<|AOr ?_;obtain ⟨Pu,Pv,Gi⟩:=AOw<|Ahz Fz C1;refine Ahq (K':=(λxr h'=> ∃ x:(LiI) × (Value) × LnA × LnN × LvA × (Int),(x.1,x.2.2.2.2.2)=Pu/\xr=x.2.1/\Kst h h' (aO2 (cI .i64) 61 2 x.2.2.1 x.2.2.2.1 x.2.2.2.2.1 x.2.1 x.1 :: (Ao.L.set 0<|aB 109 Aa [Ab,(.int .i64 x.2.2.2.2.2)])))) trivial rfl ?_ λGj Xj Pw=>?_
      ·refine cwf (l:=[_,_,_]) Tryz.func75 rfl rfl (AOv<|Ah7<|AOr ?_);obtain ⟨Px,Py⟩:=ifN Pv;refine Ayj (cI .i64) 2 APa As9 rfl trivial tt2 rfl rfl AOs Px λPz P0 P1 Gk Xk P2 P3 P4=>AO1<|AOx<|AOv<|AOr ?_;have Da:=Ao.no2 P3 P4 P2;refine Ahx APa rfl (Da.o2 p0).rd (AOr<|AOz<|AO0<|Amy 4294959360 (λx:(Int) × (Int) × (LiI) × LnA × LnN × LvA=>(x.1,x.2.1,x.2.2.1)) ((0,0,(List.replicate (Int.toNat<|w64<|1 + (Int.tmod (w64 a1) Am)) ([]:List Int)),Pz,P0,P1):(Int) × (Int) × (LiI) × LnA × LnN × LvA) Py (λx=>[(13,(.int .i64 x.1))]) (λx=>(Da.L.set 0<|aO2 (cI .i64) 61 2 x.2.2.2.1 x.2.2.2.2.1 x.2.2.2.2.2 Gk x.2.2.1).set 1 (aB 109 Aa [Ab,(.int .i64 x.2.1)])) Da ⟨rfl,trivial⟩ ?_);rintro ⟨Db,Bx,P5,P6,P7,P8⟩ P9 Qa Xl Dc By Qb;(try dsimp only [Kst.L,List.set,Aoz,Ar4] at Dc);refine (show W _ _ _ (setL [(13,(.int .i64 Db))]<|mix _ P9 _) Qa from ?_);(try dsimp only at By);unfold Al6 at By;refine AOv<|Ahn rfl rfl (AOz<|AOx<|⟨_,rfl,λDd=>?_,λDd=>?_⟩)
       ·refine AO5<|q_t<|AOx<|AO0<|AOv<|AOr<|Ah7<|AOr<|AOr<|AOr ?_;obtain ⟨Qc,Qd⟩:=ifN<|Ahy By Dd;refine Awz (c:=(cI .i64)) (a:=0) APe Ars rfl rfl (λ_=>rfl) rfl trivial tt2 rfl rfl AOs Qc λXm Xn Xo Qe Qf Qg Qh=>?_;have A7:=Dc.no Qf (Anw Qg Qh) Qe;obtain ⟨Xp,Gl,Qi⟩:=AOw Qd;refine Aij APa rfl (A7.o2 p1) rfl Gl λXq Xr Qj Xt Xu=>Azf Aha (A7.o2 p1) Gl Qj rfl rfl (A7.o p0) (A7.dj p0 p1 AOs) λAv Qk Ql Qm=>AOz<|Ai1 (λh'=>UpT ([Aa] ++ []) Av h') AO4 ?_;have Ai:=A7.m2 p0 p1 AOs Ql Qk λz hz=> .inl<|Qm z hz;have De:UpT ([Aa] ++ []) Av Av:=UpT.start<|Aiv (Ani (Ai.b p2) rfl) all_nil;refine AOr<|AOr ?_;obtain ⟨Xv,Df,Qn⟩:=AOw Qi;refine Aij APa rfl (Ai.o2 p1) rfl Df λXw Xx Qo Qp Qq=>Ahm Aha rfl De (λh' hb=>At4 Qq hb<|Azq (Ai.dj p1 p2 AOs _<|by simp [aO,aO2,Qo]) Azr) (AOr<|AOr<|AOr ?_);obtain ⟨Qr,Qs,Gm⟩:=AOw Qn;have Qt:UpT ([Aa] ++ []) Av Av:=UpT.start<|Aiv (Ani (Ai.b p2) rfl) all_nil;refine Ahq (K':=(λxr h'=> ∃ x:(Int) × (Int),(x.1,x.2)=Qr/\xr=(.int .i64 x.1)/\Kst h h' ((Aoz Ai.L [1,2]).set 1 (aB 109 Aa [Ab,(.int .i64 x.2)]))/\UpT ([Aa] ++ []) Av h')) De rfl ?_ λXy Xz Qu=>?_
        ·refine cwf (l:=[_,_]) Tryz.func74 rfl rfl (AOv<|Ah7<|AOr ?_);obtain ⟨Qv,Gn,Gp⟩:=AOw Qs;have Gq:UpT ([Aa] ++ []) Av Av:=UpT.start<|Aiv (Ani (Ai.b p2) rfl) all_nil;refine Ahq (K':=(λxr h'=> ∃ x:(Int) × (Int),(x.1,x.2)=Qv/\xr=(.int .i64 x.1)/\Kst h h' ((Aoz Ai.L [1,2]).set 1 (aB 109 Aa [Ab,(.int .i64 x.2)]))/\UpT ([Aa] ++ []) Av h')) trivial rfl ?_ λX0 X3 Qw=>?_
         ·refine cwf (l:=[_]) Tryz.func135 rfl rfl (AOv<|AO1<|AOx<|AOx<|Ame<|AOr<|Ah3 rfl (Ah2 Aj9 rfl (Ahu Aii rfl ((Ai.b p2).cell (i:=1) rfl) (AOr<|Ah3 rfl (Ah2 Ard rfl (Ahu Ayf rfl ((Ai.b p2).cell (i:=0) rfl) (Aim Azb rfl H4 (At7 rfl rfl (AOz<|⟨_,rfl,λDg=>?_,λDg=>?_⟩)))))))))
          ·refine AOv<|AO1<|AO6<|Ag7<|⟨_,AO7,((0,Bx):(Int) × (Int)),?_,rfl,?_,?_⟩
           ·exact AOu<|Ahy Gn Dg
           ·exact Ai.sel [1,2] AOs
           ·exact Gq
          ·refine AO5<|q_t<|AOv<|AOr<|Ah3 rfl (Ah2 Aj9 rfl (Ahu Aii rfl ((Ai.b p2).cell (i:=1) rfl) (Ahk rfl rfl (Ah3 rfl (Ah2 Aj9 rfl (Awc [Ab,(.int .i64<|w64<|Bx + 1)] Aii rfl rfl rfl (Ai.b p2) (Nat.le_of_ble_eq_true rfl) rfl λX4 Gr Gt=>AOz<|AOx<|Ame<|AOr<|Ah3 rfl (Ah2 Ard rfl ?_)))))));have Bz:=Ai.sb p2 Gt Gr rfl;refine Ahu Ayf rfl ((Bz.b p2).cell (i:=0) rfl) (AOr<|Ah3 rfl (Ah2 Aj9 rfl (Ahu Aii rfl ((Bz.b p2).cell (i:=1) rfl) (Amr rfl rfl ?_))));obtain ⟨Qx,Qy,Qz⟩:=AOw<|Ahz Gn Dg;refine Aqu (c:=(cI .i8)) Azb rfl H4 rfl Qy λX5 X6 X8 Q0 Q1=>?_;obtain rfl:=Q0;refine Ahu A6x rfl (AO8 (Q1 0 _ rfl) Bz.x) (As3 A6y Asg rfl (AO1<|AO6<|⟨_,AO7,(((w64 Qx),(w64<|Bx + 1)):(Int) × (Int)),?_,rfl,?_,?_⟩))
           ·exact AOu Qz
           ·exact Bz.sel [1,2] AOs
           ·exact (Gq.then (Gr.stA Gt (Ani (Ai.b p2) rfl) rfl)<|Am3 rfl)
         obtain ⟨⟨Q2,Q3⟩,Q4,rfl,Gu,Q6⟩:=Qw;(try dsimp only [Kst.L,List.set,Aoz,Ar4] at Gu);refine ⟨trivial,?_⟩;subst Q4;(try dsimp only at Gp);refine As3 Asg Axz rfl (As3 Axz Axn rfl (AOr<|Aj6 rfl rfl AOs (AO1<|AO6<|⟨_,AO7,(((Int.tmod (w64<|IntKind.wrap .u8 Q2) 1),Q3):(Int) × (Int)),?_,rfl,?_,?_⟩)))
         ·exact AOu Gp
         ·exact Gu
         ·exact (Qt.then Q6<|Aiv (Am3 rfl) all_nil)
        obtain ⟨⟨Q7,Ya⟩,Q8,rfl,Dh,Q9⟩:=Qu;(try dsimp only [Kst.L,List.set,Aoz,Ar4] at Dh);refine ⟨(De.then Q9<|Aiv (Am3 rfl) all_nil),?_⟩;subst Q8;(try dsimp only at Gm);refine Ahk rfl rfl ?_;obtain ⟨Yb,Gv,Rc⟩:=AOw Gm;refine Air (m:=Db) APe rfl (Ai.o2 p1) Qp Df rfl Gv λYc Rd=>Aol (m:=Db) (Amg AO9 rfl rfl rfl) (Dh.o2 p0) Rd Df Gv (show ((cI .i64)).rep _ (w64<|1 + Q7) _ from rfl) λYd Re Rf=>Ahh<|q_b<|q_t<|Ag6<|Ahk rfl rfl (AOr<|AOz ?_);exact ⟨(_,_,_,_,_,_),(AOu Rc).symm,(Dh.uO2 p0 Rf Re),rfl,trivial⟩
       ·have Gw:=Qb _ (AOu<|Ahz By Dd).symm;(try dsimp only at Gw);refine Ahf<|Ahg<|Ahg<|Aio<|q_t<|AOv<|AOr<|AO1<|AO6<|⟨_,AO7,((P5,Gk,P6,P7,P8,Bx):(LiI) × (Value) × LnA × LnN × LvA × (Int)),?_,rfl,?_⟩
        ·exact AOu Gw
        ·exact Dc
      obtain ⟨⟨Rg,Gj,Rh,Ri,Rj,Rm⟩,Rn,rfl,Gx⟩:=Pw;(try dsimp only [Kst.L,List.set,Aoz,Ar4] at Gx);refine ⟨trivial,?_⟩;subst Rn;(try dsimp only at Gi);refine Aho<|Ahh<|q_b<|q_t ?_;exact ⟨((Rg,Gj,Rh,Ri,Rj,Rm):(LiI) × (Value) × LnA × LnN × LvA × (Int)),⟨AOu Gi,Gx⟩,rfl,trivial⟩
 rintro ⟨Ye,Ro,Yf,Yg,Yh,Rq⟩ Rr Rs ⟨Rt,Di⟩;(try dsimp only [Kst.L,List.set,Aoz,Ar4] at Di);refine (show W _ _ _ (setL [(7,Ro)]<|mix _ Rr _) Rs from ?_);subst Rt;(try dsimp only at Dy);refine AOx<|AOv<|AOr ?_;obtain ⟨Yi,Ru,Gy⟩:=AOw Dy;refine Akb Di (A05 (Di.o2 p0).rd Ru) λYj Yk A8=>Akc rfl (AOz<|⟨_,rfl,λDj=>?_,λDj=>?_⟩)
 ·refine AOv<|AOr<|AOr ?_;obtain ⟨Rv,Rw,Gz⟩:=AOw<|ifT Gy Dj;refine Ahq (K':=(λxr h'=> ∃ x:(LiI) × (Value) × LnA × LnN × LvA × (Int),(x.1,x.2.2.2.2.2)=Rv/\xr=x.2.1/\Kst h h' (aO2 (cI .i64) 61 2 x.2.2.1 x.2.2.2.1 x.2.2.2.2.1 x.2.1 x.1 :: (A8.L.set 1<|aB 109 Aa [Ab,(.int .i64 x.2.2.2.2.2)])))) trivial rfl ?_ λRx Yl Ry=>?_
  ·refine cwf (l:=[_,_,_]) Tryz.func75 rfl rfl (AOv<|Ah7<|AOr ?_);obtain ⟨Rz,R3⟩:=ifN Rw;refine Ayj (cI .i64) 2 APa As9 rfl trivial tt2 rfl rfl AOs Rz λR4 R5 R6 G3 Ym R7 R8 R9=>AO1<|AOx<|AOv<|AOr ?_;have Dk:=A8.no2 R8 R9 R7;refine Ahx APa rfl (Dk.o2 p0).rd (AOr<|AOz<|AO0<|Amy 4294959360 (λx:(Int) × (Int) × (LiI) × LnA × LnN × LvA=>(x.1,x.2.1,x.2.2.1)) ((0,Rq,(List.replicate (Int.toNat<|w64<|1 + (Int.tmod (w64 a1) Am)) ([]:List Int)),R4,R5,R6):(Int) × (Int) × (LiI) × LnA × LnN × LvA) R3 (λx=>[(13,(.int .i64 x.1))]) (λx=>(Dk.L.set 0<|aO2 (cI .i64) 61 2 x.2.2.2.1 x.2.2.2.2.1 x.2.2.2.2.2 G3 x.2.2.1).set 2 (aB 109 Aa [Ab,(.int .i64 x.2.1)])) Dk ⟨rfl,trivial⟩ ?_);rintro ⟨Dl,B1,Sa,Sb,Sc,Sd⟩ Se Sf Yn Do B3 Sg;(try dsimp only [Kst.L,List.set,Aoz,Ar4] at Do);refine (show W _ _ _ (setL [(13,(.int .i64 Dl))]<|mix _ Se _) Sf from ?_);(try dsimp only at B3);unfold Al7 at B3;refine AOv<|Ahn rfl rfl (AOz<|AOx<|⟨_,rfl,λDp=>?_,λDp=>?_⟩)
   ·refine AO5<|q_t<|AOx<|AO0<|AOv<|AOr<|Ah7<|AOr<|AOr<|AOr ?_;obtain ⟨Sh,Si⟩:=ifN<|Ahy B3 Dp;refine Awz (c:=(cI .i64)) (a:=0) APe Ars rfl rfl (λ_=>rfl) rfl trivial tt2 rfl rfl AOs Sh λYo Yp Yq Sj Sk Sm Sn=>?_;have A9:=Do.no Sk (Anw Sm Sn) Sj;obtain ⟨Yr,G4,So⟩:=AOw Si;refine Aij APa rfl (A9.o2 p1) rfl G4 λYs Yt Sq Yu Yv=>Azf Aha (A9.o2 p1) G4 Sq rfl rfl (A9.o p0) (A9.dj p0 p1 AOs) λAw Sr Ss St=>AOz<|Ai1 (λh'=>UpT ([Aa] ++ []) Aw h') AO4 ?_;have Aj:=A9.m2 p0 p1 AOs Ss Sr λz hz=> .inl<|St z hz;have Dq:UpT ([Aa] ++ []) Aw Aw:=UpT.start<|Aiv (Ani (Aj.b p3) rfl) all_nil;refine AOr<|AOr ?_;obtain ⟨Yw,Dr,Su⟩:=AOw So;refine Aij APa rfl (Aj.o2 p1) rfl Dr λYx Yy Sv Sw Sx=>Ahm Aha rfl Dq (λh' hb=>At4 Sx hb<|Azq (Aj.dj p1 p3 AOs _<|by simp [aO,aO2,Sv]) Azr) (AOr<|AOr<|AOr ?_);obtain ⟨Sy,Sz,G5⟩:=AOw Su;have S5:UpT ([Aa] ++ []) Aw Aw:=UpT.start<|Aiv (Ani (Aj.b p3) rfl) all_nil;refine Ahq (K':=(λxr h'=> ∃ x:(Int) × (Int),(x.1,x.2)=Sy/\xr=(.int .i64 x.1)/\Kst h h' ((Aoz Aj.L [1,2,3]).set 2 (aB 109 Aa [Ab,(.int .i64 x.2)]))/\UpT ([Aa] ++ []) Aw h')) Dq rfl ?_ λYz Y1 S7=>?_
    ·refine cwf (l:=[_,_]) Tryz.func74 rfl rfl (AOv<|Ah7<|AOr ?_);obtain ⟨Ta,G6,G7⟩:=AOw Sz;have G8:UpT ([Aa] ++ []) Aw Aw:=UpT.start<|Aiv (Ani (Aj.b p3) rfl) all_nil;refine Ahq (K':=(λxr h'=> ∃ x:(Int) × (Int),(x.1,x.2)=Ta/\xr=(.int .i64 x.1)/\Kst h h' ((Aoz Aj.L [1,2,3]).set 2 (aB 109 Aa [Ab,(.int .i64 x.2)]))/\UpT ([Aa] ++ []) Aw h')) trivial rfl ?_ λY2 Y3 Tb=>?_
     ·refine cwf (l:=[_]) Tryz.func135 rfl rfl (AOv<|AO1<|AOx<|AOx<|Ame<|AOr<|Ah3 rfl (Ah2 Aj9 rfl (Ahu Aii rfl ((Aj.b p3).cell (i:=1) rfl) (AOr<|Ah3 rfl (Ah2 Ard rfl (Ahu Ayf rfl ((Aj.b p3).cell (i:=0) rfl) (Aim Azb rfl H4 (At7 rfl rfl (AOz<|⟨_,rfl,λDs=>?_,λDs=>?_⟩)))))))))
      ·refine AOv<|AO1<|AO6<|Ag7<|⟨_,AO7,((0,B1):(Int) × (Int)),?_,rfl,?_,?_⟩
       ·exact AOu<|Ahy G6 Ds
       ·exact Aj.sel [1,2,3] AOs
       ·exact G8
      ·refine AO5<|q_t<|AOv<|AOr<|Ah3 rfl (Ah2 Aj9 rfl (Ahu Aii rfl ((Aj.b p3).cell (i:=1) rfl) (Ahk rfl rfl (Ah3 rfl (Ah2 Aj9 rfl (Awc [Ab,(.int .i64<|w64<|B1 + 1)] Aii rfl rfl rfl (Aj.b p3) (Nat.le_of_ble_eq_true rfl) rfl λY4 G9 Hb=>AOz<|AOx<|Ame<|AOr<|Ah3 rfl (Ah2 Ard rfl ?_)))))));have B4:=Aj.sb p3 Hb G9 rfl;refine Ahu Ayf rfl ((B4.b p3).cell (i:=0) rfl) (AOr<|Ah3 rfl (Ah2 Aj9 rfl (Ahu Aii rfl ((B4.b p3).cell (i:=1) rfl) (Amr rfl rfl ?_))));obtain ⟨Tc,Td,Te⟩:=AOw<|Ahz G6 Ds;refine Aqu (c:=(cI .i8)) Azb rfl H4 rfl Td λY5 Y6 Y7 Tf Tg=>?_;obtain rfl:=Tf;refine Ahu A6x rfl (AO8 (Tg 0 _ rfl) B4.x) (As3 A6y Asg rfl (AO1<|AO6<|⟨_,AO7,(((w64 Tc),(w64<|B1 + 1)):(Int) × (Int)),?_,rfl,?_,?_⟩))
       ·exact AOu Te
       ·exact B4.sel [1,2,3] AOs
       ·exact (G8.then (G9.stA Hb (Ani (Aj.b p3) rfl) rfl)<|Am3 rfl)
     obtain ⟨⟨Th,Ti⟩,Tj,rfl,Hc,Tk⟩:=Tb;(try dsimp only [Kst.L,List.set,Aoz,Ar4] at Hc);refine ⟨trivial,?_⟩;subst Tj;(try dsimp only at G7);refine As3 Asg Axz rfl (As3 Axz Axn rfl (AOr<|Aj6 rfl rfl AOs (AO1<|AO6<|⟨_,AO7,(((Int.tmod (w64<|IntKind.wrap .u8 Th) 2),Ti):(Int) × (Int)),?_,rfl,?_,?_⟩)))
     ·exact AOu G7
     ·exact Hc
     ·exact (S5.then Tk<|Aiv (Am3 rfl) all_nil)
    obtain ⟨⟨Tl,Y8⟩,Tm,rfl,Dt,Tn⟩:=S7;(try dsimp only [Kst.L,List.set,Aoz,Ar4] at Dt);refine ⟨(Dq.then Tn<|Aiv (Am3 rfl) all_nil),?_⟩;subst Tm;(try dsimp only at G5);refine Ahk rfl rfl ?_;obtain ⟨Y9,Hd,To⟩:=AOw G5;refine Air (m:=Dl) APe rfl (Aj.o2 p1) Sw Dr rfl Hd λZa Tp=>Aol (m:=Dl) (Amg AO9 rfl rfl rfl) (Dt.o2 p0) Tp Dr Hd (show ((cI .i64)).rep _ (w64<|1 + Tl) _ from rfl) λZd Tq Tr=>Ahh<|q_b<|q_t<|Ag6<|Ahk rfl rfl (AOr<|AOz ?_);exact ⟨(_,_,_,_,_,_),(AOu To).symm,(Dt.uO2 p0 Tr Tq),rfl,trivial⟩
   ·have He:=Sg _ (AOu<|Ahz B3 Dp).symm;(try dsimp only at He);refine Ahf<|Ahg<|Ahg<|Aio<|q_t<|AOv<|AOr<|AO1<|AO6<|⟨_,AO7,((Sa,G3,Sb,Sc,Sd,B1):(LiI) × (Value) × LnA × LnN × LvA × (Int)),?_,rfl,?_⟩
    ·exact AOu He
    ·exact Do
  obtain ⟨⟨Ze,Rx,Zf,Zg,Zh,Zj⟩,Ts,rfl,B5⟩:=Ry;(try dsimp only [Kst.L,List.set,Aoz,Ar4] at B5);refine ⟨trivial,?_⟩;subst Ts;(try dsimp only at Gz);refine AO1<|AO6<|Ag7 ?_;obtain rfl:=AOu Gz;exact ⟨_,AO7,B5.x,_,_,_,_,rfl,(B5.o2 p0),B5.s.sel [0] AOs⟩
 ·refine AO5<|q_t<|AOv<|AOr<|AO1<|AO6 ?_;obtain rfl:=AOu<|Aok Gy Dj;exact ⟨_,AO7,A8.x,_,_,_,_,rfl,(A8.o2 p0),A8.s.sel [0] AOs⟩
def Aly (fuel:Nat) (a1 a2:Int) (a5 a9:LiA) (Ae:Int):Option LiI:=
 (Alx fuel a1 a2 a5 a9 Ae).bind λAf=>(Ak9 fuel Af).bind λAg=>(An5 fuel Ag).bind λ(Ah,Ai,Aj)=>some Ah
theorem Aw3 {a5:LiA} {a9:LiA} {Ai:Int} {r:LiI} (H4:SlC (cI .i8) h Ac a5) (H8:SlC (cI .i8) h Ad a9) (hp:Aly fuel a1 a2 a5 a9 Ai=some r):Ahs Tryz.prog 9 #[(.agg #[(.int .u8 a1),(.int .u8 a2),Ac,Ad]),(.int .i64 Ai)] h (λx h'=>Ext h h'/\ ∃ (x0:Value) (F0:List Nat) (Au:List LnA) (Av:List Value),x=x0/\Aj1 (cI .i64) 61 2 h' F0 Au Av x0 r/\Sp h' h.size [F0]):=by
 unfold Aly at hp;refine cwf (l:=[_,_]) Tryz.func9 rfl rfl (AOv<|Ano (Kst.k0 h) [(.int .u8 a1),(.int .u8 a2),Ac,Ad] λBl Bm Bn Ae=>Ah7<|Anm [(.int .u8 a1),(.int .u8 a2),Ac,Ad] BJ9 rfl rfl (Ae.b p0).agg (AOr ?_));obtain ⟨Bo,Aw,Ax⟩:=AOw hp;refine Aux Ae (Aw2 (H4.ext Ae.x) (H8.ext Ae.x) Aw) λBp Bq Br Bt Bu Bv Am=>?_;obtain ⟨Bw,Ay,Az⟩:=AOw Ax;refine Aux Am (Aqn (Am.o2 p0).rd Ay) λBx By Bz B1 B3 B4 Ao=>?_;obtain ⟨⟨A3,A4,B5⟩,A5,Ap⟩:=AOw Az;dsimp only at Ap;refine Aqs rfl (Ay2 (Ao.o2 p0).rd A5) λB6 B7 A6 A7=>?_;obtain ⟨A8,A9,Ba,Bb,Bc,Be,Bf,Bg,rfl,Bh,Bi,Bj⟩:=A7;have Af:=Ao.n A6 [aO2 (cI .i64) 61 2 A9 Ba Bb A8 A3,aO2 cZ 146 129 Be Bf Bg Bc A4] Bj ⟨Bh,Bi,trivial⟩;simp only [List.cons_append,List.nil_append] at Af;refine AOr<|Ait rfl rfl (Ait rfl rfl (Ait rfl rfl (Aho<|Aho<|Ah7<|AOr<|AO1<|AO6 ?_)));obtain rfl:=AOu Ap;exact ⟨_,AO7,Af.x,_,_,_,_,rfl,(Af.o2 p0),Af.s.sel [0] AOs⟩
end Go.Proofs.YtkakafabeobahaaGreatDoor
namespace Go.Proofs.YtkakafabeobahaaGreatDoor.Ig
open Go Go.QF
set_option maxRecDepth 100000
structure BM4 (h:AO2) (v:Value) (L:List Nat) (v':Value) (L':List Nat):Prop where
 sl:Sl h v' (L'.map Avb)
 cap:Auj v'
 dig:Dig L'
 blk:v'.ownBlock=v.ownBlock
 val:nv L'=nv L
 len:L'.length<=L.length
 tg:∀ g,v.ownBlock=some g-> ∃ cur off,h[g]? =some (.cells cur 200 off)
theorem BM4.ds {lo:Nat} {v':Value} {L L':List Nat} (H:BM4 h v L v' L') (hl:∀ g,v.ownBlock=some g->lo<=g):DS h lo v' L':=⟨H.sl,H.cap,H.dig,λg hg=>hl g<|H.blk ▸ hg,λg hg=>H.tg g<|H.blk ▸ hg⟩
theorem BKa {L:List Nat} (h:L[L.length - 1]? =some 0):nv (L.take<|L.length - 1)=nv L:=by
 have h1:L=L.take (L.length - 1) ++ [0]:=by
  have:=A8k h
  grind
 conv=>rhs;rw [h1,Atb]
 simp
theorem Aue {L:List Nat} (H:DS h 0 v L) (hn:L.length<=1000000):Ahs Tryz.prog 191 #[v] h λx h'=>h'=h/\ ∃ L',BM4 h v L x L'/\TL L':=by
 refine Aie (l:=[_]) mx Tryz.func191 rfl rfl rfl rfl rfl AO4 (AOv<|AO1<|AOx<|AO0<|Aj7 1048569 (λy:Value × List Nat=>[(0,y.1)]) (λk y h'=>h'=h/\y.2.length=k/\BM4 h v L y.1 y.2) AO4 L.length (v,L) ?_ ⟨rfl,trivial⟩ ?_)
 ·exact ⟨rfl,rfl,H.sl,H.cap,H.dig,rfl,rfl,Nat.le_refl _,H.tg⟩
 rintro k ⟨u,Lu⟩ s1 h ⟨rfl,rfl,HT⟩;dsimp only at HT ⊢;refine AOx<|AOv<|AOr<|A3k Ahl rfl HT.sl ?_;rw [List.length_map];have hLlen:=HT.len;refine Aye rfl rfl (λAa=>?_) (λAa=>?_)
 ·refine AOr<|Aix 6 true AO4 rfl rfl (AOr<|Aix 6 true AO4 rfl rfl (AOr<|Aix 6 true AO4 rfl rfl (A3k Ahl rfl HT.sl ?_)));rw [List.length_map];refine Aix 6 true AO4 rfl rfl (Aui rfl rfl AOq AOq ?_);rw [show ((Lu.length:Nat):Int) - 1=((Lu.length - 1:Nat):Int) by omega];obtain ⟨x,hx⟩:∃ x,Lu[Lu.length - 1]? =some x:=⟨_,List.getElem?_eq_getElem AOq⟩;refine Aix 6 true AO4 rfl rfl (A6s Ahl rfl HT.sl rfl (Azc hx) λa1 Ab=>Aix 6 true AO4 rfl rfl (Ahu Ajo rfl Ab (Aix 6 true AO4 rfl rfl (Az0 rfl rfl (λAc=>?_) (λAc=>?_)))))
  ·refine Ahc rfl (AOz<|Ahp rfl (AO5<|q_t<|AO0<|Ag6<|AOr<|AOr<|A3k Ahl rfl HT.sl ?_));rw [List.length_map];refine Aui rfl rfl AOq AOq ?_;rw [show ((Lu.length:Nat):Int) - 1=((Lu.length - 1:Nat):Int) by omega];have Ad:Lu[Lu.length - 1]? =some 0:=by rw [hx];congr 1;omega
   refine A9j (v:=u) Ahl rfl HT.sl HT.cap rfl (by rw [List.length_map];omega) λv9 Af Ag Ah=>?_;refine Aho<|Ahh<|q_b<|q_t ?_;exact ⟨Lu.length - 1,(v9,Lu.take<|Lu.length - 1),by first | omega | (dsimp only;omega),⟨rfl,Ah6,⟨by dsimp only;rw [List.map_take];exact Af,Ag,A4b HT.dig _,Ah.trans HT.blk,by rw [BKa Ad];exact HT.val,by rw [List.length_take];have:=HT.len;omega,HT.tg⟩⟩,rfl,trivial⟩
  ·refine Ahc rfl (AOz<|Aht rfl (Ahf<|Ahg<|Ahg<|Aio<|q_t<|AOv<|AOr<|AO1<|AO6<|⟨_,AO7,?_⟩));refine ⟨rfl,Lu,HT,λy hy=>?_⟩
   first
   | (have:Lu=[]:=List.length_eq_zero_iff.1 AOq;rw [this] at hy;cases hy)
   | (rw [List.getLast?_eq_getElem?,hx] at hy;injection hy with hy;subst hy;omega)
 ·refine AOr<|Aiq 6 false AO4 rfl rfl (Aiq 6 false AO4 rfl rfl (Aiq 6 false AO4 rfl rfl (Aiq 6 false AO4 rfl rfl (Aiq 6 false AO4 rfl rfl (Aiq 6 false AO4 rfl rfl (Aiq 6 false AO4 rfl rfl (APd rfl (AOz<|Aht rfl (Ahf<|Ahg<|Ahg<|Aio<|q_t<|AOv<|AOr<|AO1<|AO6<|⟨_,AO7,?_⟩)))))))));refine ⟨rfl,Lu,HT,λy hy=>?_⟩
  first
  | (have:Lu=[]:=List.length_eq_zero_iff.1 AOq;rw [this] at hy;cases hy)
  | (rw [List.getLast?_eq_getElem?,hx] at hy;injection hy with hy;subst hy;omega)
theorem Axf (w:Nat) (hw:w < 18446744073709551616) (h:AO2):Ahs Tryz.prog 188 #[.int .u64 (w:Int)] h λx h'=>Ext h h'/\ ∃ L,DS h' (Array.size h) x L/\TL L/\nv L=w/\L.length<=2:=by
 refine Aie (l:=[_]) mx Tryz.func188 rfl rfl rfl rfl rfl AO4 (AOv<|Ah7<|AOr<|As3 Ajp Ake rfl ?_);rw [show IntKind.u32.wrap (w:Int)=((w % 4294967296:Nat):Int) by rw [wrap_u32];omega];refine AOr<|A62 (n:=32) rfl rfl AOs (As3 Ajp Ake rfl ?_);rw [show IntKind.u32.wrap ((w:Int) / 2 ^ 32)=((w / 4294967296:Nat):Int) by rw [wrap_u32];omega];have e1:IntKind.u32.wrap (w:Int)=((w % 4294967296:Nat):Int):=by rw [wrap_u32];omega
 have e2:IntKind.u32.wrap ((w:Int) / 2 ^ 32)=((w / 4294967296:Nat):Int):=by rw [wrap_u32];omega
 have hdg:Dig [w % 4294967296,w / 4294967296]:=by intro x hx;simp only [List.mem_cons,List.not_mem_nil,or_false] at hx;rcases hx with rfl | rfl <;> omega
 refine BIs ([w % 4294967296,w / 4294967296].map Avb) Ahl Atf rfl (λ_=>trivial) rfl AOq AOq rfl (by simp [Avb,isOne]) λg1 v1 h1 Ad E1 Ae Aj=>?_;have Ak:=E1.1;have Z2:=(Ext.refl h).trans E1;have Ab:=Ad.ds (lo:=Array.size h) hdg Ae;refine Ahq trivial rfl (Aue (Ab.mono<|Nat.zero_le _) Ah6) λx3 h1 hk=>?_;obtain ⟨rfl,L2,HT,htl⟩:=hk;refine ⟨trivial,?_⟩;refine AO1<|AO6<|⟨_,AO7,?_⟩;exact ⟨E1,L2,HT.ds Ab.lo,htl,by rw [HT.val];simp only [nv];omega,by have:=HT.len;simpa using this⟩
theorem A6g {lo:Nat} {L:List Nat} (H:DS h lo v L) (hn:L.length<=2):Ahs Tryz.prog 205 #[v] h λx h'=>h'=h/\x= .int .u64 (nv L:Int):=by
 refine Aie (l:=[_]) mx Tryz.func205 rfl rfl rfl rfl rfl AO4 (AOv<|Ah7<|AO1<|AOx<|AOv<|AOr<|A3k Ahl rfl H.sl ?_);rw [List.length_map];refine AOr<|AOz<|AO0<|Aj7 2096952 (λy:Nat × Nat=>[(8,.int .i64 (y.1:Int)),(3,.int .u64 (y.2:Int))]) (λk y h'=>h'=h/\k=L.length - y.1/\y.1<=L.length/\y.2=nv (L.take y.1)) AO4 L.length (0,0) ?_ ⟨rfl,rfl,trivial⟩ ?_
 ·exact ⟨rfl,rfl,Nat.zero_le _,rfl⟩
 rintro k ⟨i,w⟩ s1 h ⟨rfl,rfl,hi,hw⟩;dsimp only at hi hw ⊢;subst hw;refine AOv<|Amf rfl rfl (λAb=>?_) (λAb=>?_)
 ·refine AOz<|AOx<|Ahp rfl (AO5<|q_t<|AOx<|AO0<|AOx ?_);obtain ⟨x,hx⟩:∃ x,L[i]? =some x:=⟨_,List.getElem?_eq_getElem AOq⟩;have hxb:=H.dig x<|List.mem_of_getElem? hx;refine Ag6<|AOr<|A6s Ahl rfl H.sl rfl (Azc hx) λAf Ac=>Ahu Ajo rfl Ac (Aho<|AO1<|Ag6<|AOr<|AOr<|BOo Ake Ajp rfl (by rw [wrap_u64];omega) ?_);refine AOr<|Avq rfl rfl AOq AOq ?_;rw [show (32:Int) * (i:Int)=((32 * i:Nat):Int) by omega];refine A8m (n:=32 * i) rfl rfl (by show 32 * i<=64;omega) ?_;have Aa:i=0∨i=1:=by omega
  have hlt:=Ayi H.dig hi
  have hsh:IntKind.u64.wrap ((x:Int) * 2 ^ (32 * i))=((2 ^ (32 * i) * x:Nat):Int):=by
   rw [wrap_u64]
   rcases Aa with rfl | rfl
   ·simp;omega
   ·simp;omega
  rw [hsh]
  have Ad:2 ^ (32 * i) * x < 18446744073709551616:=by
   rcases Aa with rfl | rfl
   ·simp;omega
   ·simp;omega
  have Ae:nv (L.take i) < 18446744073709551616:=by
   rcases Aa with rfl | rfl
   ·simp at hlt ⊢;omega
   ·simp at hlt ⊢;omega
  refine A14 rfl rfl (.inr<|.inl rfl) (BIu Ae Ad) ?_;rw [BIv (by rw [<- A3q];exact hlt),<- A3q,<- Ajb hx];refine Aho<|Ahh<|q_b<|q_t<|Ag6<|Ara rfl AOq (AOr<|AOz ?_);exact ⟨L.length - (i + 1),(i + 1,nv<|L.take<|i + 1),by first | omega | (dsimp only;omega),⟨rfl,rfl,by first | omega | (dsimp only;omega),rfl⟩,rfl,rfl,trivial⟩
 ·refine AOz<|AOx<|Aht rfl (Ahf<|Ahg<|Ahg<|Aio<|q_t<|AOv<|AOr<|AO1<|AO6<|⟨_,AO7,?_⟩);obtain rfl:i=L.length:=by omega
  exact ⟨rfl,by rw [List.take_length] at *;rfl⟩
theorem Awk (w:World):(Instr.build 129 #[]).run Tryz.prog w= .ok (.agg #[.bool false,.slice none 0 0]) w:=by kernel_rfl
theorem A4e (b:Bool) (a:Option Addr) (n c:Nat) (w:World):(Instr.build 129 #[(0,.bool b),(1,.slice a n c)]).run Tryz.prog w= .ok (.agg #[.bool b,.slice a n c]) w:=by kernel_rfl
theorem Ari {lo:Nat} {s:Value} {L:List Nat} (neg:Bool) (H:DS h lo s L) (htl:TL L) (hn:L.length<=100):Ahs Tryz.prog 187 #[.bool neg,s] h λx h'=>Ext h h'/\ZV h' lo x (sgn neg<|nv L):=by
 obtain ⟨a,n,c,rfl,hnc⟩:=H.cap;refine Aie (l:=[_,_]) mx Tryz.func187 rfl rfl rfl rfl rfl AO4 (AOv<|Aov [.bool false,.slice none 0 0] Ams rfl (λ_=>trivial) λAa h2 V3 E4 Ak Ar=>?_);have Au:Array.size h<=Aa:=Ak;have Av:=E4.1;have Z8:=(Ext.refl h).trans E4;refine AOz<|AOx<|AOv<|AOr<|A3k Ahl rfl (H.sl.ext E4) ?_;rw [List.length_map];refine Az0 rfl rfl (λAm=>?_) (λAm=>?_)
 ·refine AOz<|Ahp rfl (AOv<|Alh (v:= .agg #[.bool false,.slice none 0 0]) Awk<|Ai5 [.bool false,.slice none 0 0] Aip rfl rfl rfl rfl (by simp [isOne]) V3 λh9 Ao Ad=>?_);have Af:=E4.thenUpd Ad (λk hk=>by have Ac:k=Aa:=hk;omega);have Ax:=Ad.1;have Ay:=Z8.thenUpd Ad (λk hk=>by have Ac:k=Aa:=hk;omega);have Az:=E4.thenUpd Ad (λk hk=>by have Ac:k=Aa:=hk;omega);refine AOz (AO6<|Ag7<|⟨_,Ai3 Aip rfl rfl Ao,?_⟩)
  first
  | (have h0:L=[]:=List.length_eq_zero_iff.1 AOq
     subst h0
     exact ⟨Af,⟨false,_,[],rfl,Ayh _ _,Azn,Ah6,by cases neg <;> rfl⟩⟩)
  | exact ⟨Af,⟨neg,_,L,rfl,H.ext Af,htl,hn,rfl⟩⟩
 ·refine AOz<|Aht rfl (AO5<|q_t<|AOv<|AOr<|AOr<|Alh (v:= .agg #[.bool neg,.slice a n c]) (A4e neg a n c)<|Ai5 [.bool neg,.slice a n c] Aip rfl rfl rfl rfl (by simp [isOne]) V3 λA3 Ap Ae=>?_);have Ah:=E4.thenUpd Ae (λk hk=>by have Ac:k=Aa:=hk;omega);have A4:=Ae.1;have A5:=Z8.thenUpd Ae (λk hk=>by have Ac:k=Aa:=hk;omega);have A6:=E4.thenUpd Ae (λk hk=>by have Ac:k=Aa:=hk;omega);refine AOz (AO6<|⟨_,Ai3 Aip rfl rfl Ap,?_⟩)
  first
  | (have h0:L=[]:=List.length_eq_zero_iff.1 AOq
     subst h0
     exact ⟨Ah,⟨false,_,[],rfl,Ayh _ _,Azn,Ah6,by cases neg <;> rfl⟩⟩)
  | exact ⟨Ah,⟨neg,_,L,rfl,H.ext Ah,htl,hn,rfl⟩⟩
theorem Small_ok {n:Int} (hn: -9223372036854775808<=n/\n<=9223372036854775807) (h:AO2):Ahs Tryz.prog 152 #[.int .i64 n] h λx h'=>Ext h h'/\ZV h' (Array.size h) x n:=by
 refine Aie (l:=[_]) mx Tryz.func152 rfl rfl rfl rfl rfl AO4 (AOv<|Aov [.bool false,.slice none 0 0] Ams rfl (λ_=>trivial) λAa h2 V3 E4 Az By=>?_);have Bz:Array.size h<=Aa:=Az;have B1:=E4.1;have Z8:=(Ext.refl h).trans E4;refine AOz<|AOx<|AOv<|AOr<|Amf rfl rfl (λA3=>?_) (λA3=>?_)
 ·refine AOz<|Ahp rfl (AOv<|AOr<|As3 Asg Ajp rfl ?_);rw [show IntKind.u64.wrap n=n + 18446744073709551616 by rw [wrap_u64];omega];refine A36 rfl ?_;rw [show IntKind.u64.wrap (0 - (n + 18446744073709551616))=((n.natAbs:Nat):Int) by rw [wrap_u64];omega];refine Ahq trivial rfl (Axf n.natAbs AOq _) λx9 B4 hk=>?_;obtain ⟨Ag,L1,Ah,Ao,Ap,A5⟩:=hk;refine ⟨trivial,?_⟩;have B5:=Ag.1;have A6:=Z8.trans Ag;have A7:=E4.trans Ag;have A8:=V3.ext Ag;have A9:=E4.trans Ag;refine Ahq trivial rfl (Ari true Ah Ao AOq) λB6 B7 hk=>?_;obtain ⟨Ac,Aq⟩:=hk;refine ⟨trivial,?_⟩;have B8:=Ac.1;have Ba:=A6.trans Ac;have Bb:=A7.trans Ac;have Bc:=A8.ext Ac;have Be:=A9.trans Ac;have Bf:=Ah.ext Ac;obtain ⟨Ai,s2,L2,rfl,Aj,Au,Av,Aw⟩:=Aq.out;refine Ai5 [.bool Ai,s2] Aip rfl rfl rfl rfl (Aqt Aj.cap) Bc λB9 Bg Ad=>?_;have Bh:=Bb.thenUpd Ad (λk hk=>by have Ak:k=Aa:=hk;omega);have Ca:=Ad.1;have Cb:=Ba.thenUpd Ad (λk hk=>by have Ak:k=Aa:=hk;omega);have Cd:=Be.thenUpd Ad (λk hk=>by have Ak:k=Aa:=hk;omega);have Ce:=Bf.updLo Ad AOq;have Bi:=Aj.updLo Ad AOq;refine AOz<|AO6<|Ag7<|⟨_,Ai3 Aip rfl rfl Bg,?_⟩;exact ⟨Bh,⟨Ai,s2,L2,rfl,Bi.mono AOq,Au,Av,by rw [<- Aw,Ap];unfold sgn;first | (rw [if_pos rfl];omega) | (rw [if_neg AOs];omega)⟩⟩
 ·refine AOz<|Aht rfl (AO5<|q_t<|AOv<|AOr<|As3 Asg Ajp rfl ?_);rw [show IntKind.u64.wrap n=((n.natAbs:Nat):Int) by rw [wrap_u64];omega];refine Ahq trivial rfl (Axf n.natAbs AOq _) λCf Cg hk=>?_;obtain ⟨Am,L1,Ah,Ao,Ap,A5⟩:=hk;refine ⟨trivial,?_⟩;have Ch:=Am.1;have Bj:=Z8.trans Am;have Bl:=E4.trans Am;have Bm:=V3.ext Am;have Bn:=E4.trans Am;refine Ahq trivial rfl (Ari false Ah Ao AOq) λCi Cj hk=>?_;obtain ⟨Ae,Aq⟩:=hk;refine ⟨trivial,?_⟩;have Ck:=Ae.1;have Bo:=Bj.trans Ae;have Bp:=Bl.trans Ae;have Bq:=Bm.ext Ae;have Br:=Bn.trans Ae;have Bt:=Ah.ext Ae;obtain ⟨Ai,s2,L2,rfl,Aj,Au,Av,Aw⟩:=Aq.out;refine Ai5 [.bool Ai,s2] Aip rfl rfl rfl rfl (Aqt Aj.cap) Bq λCm Bu Af=>?_;have Bv:=Bp.thenUpd Af (λk hk=>by have Ak:k=Aa:=hk;omega);have Cn:=Af.1;have Co:=Bo.thenUpd Af (λk hk=>by have Ak:k=Aa:=hk;omega);have Cp:=Br.thenUpd Af (λk hk=>by have Ak:k=Aa:=hk;omega);have Cq:=Bt.updLo Af AOq;have Bw:=Aj.updLo Af AOq;refine AOz<|AO6<|⟨_,Ai3 Aip rfl rfl Bu,?_⟩;exact ⟨Bv,⟨Ai,s2,L2,rfl,Bw.mono AOq,Au,Av,by rw [<- Aw,Ap];unfold sgn;first | (rw [if_pos rfl];omega) | (rw [if_neg AOs];omega)⟩⟩
theorem A49 {lo:Nat} {L:List Nat} (H:DS h lo v L) (hn:L.length<=1000000):Ahs Tryz.prog 192 #[v] h λx h'=>Ext h h'/\DS h' (Array.size h) x L:=by
 obtain ⟨a,n,c,rfl,hnc⟩:=H.cap;refine Aie (l:=[_]) mx Tryz.func192 rfl rfl rfl rfl rfl AO4 (AOv<|AO1<|AOx<|AOv<|AOr<|BLy Tryz.underlying127 rfl ?_);cases Ad:a.isNone
 ·refine AOz<|Aht rfl (AO5<|q_t<|AOx ?_);obtain ⟨xa,rfl⟩:∃ q,a=some q:=Option.ne_none_iff_exists'.1 (λhe=>by rw [he] at Ad;cases Ad);refine Ag6<|BRq Ahl (λ_=>trivial) λg1 v1 h1 Af E1 Ag Ap=>?_;have Aq:=E1.1;have Z2:=(Ext.refl h).trans E1;refine AOr ?_;by_cases hL:L=[]
  ·subst hL;obtain rfl:n=0:=BIt H;refine BPb Ahl (λ_=>trivial) rfl Af rfl λv2 h2 Ab U2=>AO1<|AO6<|⟨_,AO7,?_⟩;exact ⟨E1.thenUpd U2 (λk hk=>by have Ai:k=g1:=hk;omega),Ab.ds H.dig Ag⟩
  refine BOi Ahl Atf rfl trivial rfl Af rfl (H.sl.ext E1) (λu hu=>by obtain ⟨y,_,rfl⟩:=List.mem_map.1 hu;rfl) (by simpa using hL) (by simp;omega) (by simp;omega) λv2 g2 h2 Ab Ak U2=>?_;refine ⟨trivial,?_⟩;have XZ:=E1.thenUpd U2 (λk hk=>by have Ai:k=g1:=hk;omega);have hg2l:Array.size h<=g2:=by rcases Ak with rfl | rfl;exact Ag;omega
  refine AO1<|AO6<|⟨_,AO7,?_⟩;exact ⟨XZ,Ab.ds H.dig hg2l⟩
 ·refine AOz<|Ahp rfl (AOx ?_);have h0:L=[]:=BLz (Option.isNone_iff_eq_none.1<|by assumption) H;refine Ag6<|AO1<|AO6<|Ag7<|⟨_,AO7,?_⟩;subst h0;exact ⟨Ext.refl _,Ayh _ _⟩
def Anx (z:Int):Int:=if z < 0 then -1 else if z=0 then 0 else 1
theorem sign_zero {z:Int} (h:z=0):Anx z=0:=by subst h;rfl
theorem sign_neg {z:Int} (h:z < 0):Anx z= -1:=if_pos h
theorem Ayk {z:Int} (h:0 < z):Anx z=1:=by unfold Anx;omega
theorem Sign_ok {lo:Nat} {z:Int} (HA:ZV h lo va z):Ahs Tryz.prog 155 #[va] h λx h'=>Ext h h'/\x= .int .i64 (Anx z):=by
 obtain ⟨na,sa,LA,rfl,HDa,htla,hla,hza⟩:=HA.out;have hna:LA.length<=1000000:=by omega
 refine Aie (l:=[_]) mx Tryz.func155 rfl rfl rfl rfl rfl AO4 (AOv<|Aqx [.bool na,sa] (λ_=>trivial) rfl rfl λAj h2 V3 E4 Ak Aq=>?_);have Ar:Array.size h<=Aj:=Ak;have Au:=E4.1;have Z8:=(Ext.refl h).trans E4;refine AO1<|AOx<|AO0<|AOv<|Anh (fs:=1) Atv AO4 AOs rfl (Ahu Apj rfl (V3.cell (i:=1) rfl) (Ahq trivial rfl (Aue (DS.mono (HDa.ext E4)<|Nat.zero_le _) hna) λx9 h2 hk=>?_));obtain ⟨rfl,L1,Af,Ag⟩:=hk;refine ⟨trivial,?_⟩;have Am:=Af.ds (lo:=lo) HDa.lo;refine Ai4 Ahl rfl Am (Az0 rfl rfl (λAo=>?_) (λAo=>?_))
 ·refine AO1 (Ahp rfl (AOv<|AO1<|AO6<|Ail<|Ag7<|⟨_,AO7,?_⟩))
  first
  | (have h0:L1=[]:=List.length_eq_zero_iff.1 AOq
     have h1:nv LA=0:=by rw [<- Af.val,h0];rfl
     exact ⟨E4,congrArg (Value.int .i64) (sign_zero<|hza.trans (by rw [h1];cases na <;> rfl)).symm⟩)
  | (have h1:nv LA≠0:=λh0=>by rw [<- Af.val] at h0;have:=congrArg List.length<|Aoy Ag h0;rw [List.length_nil] at this;omega
     have h2:z=sgn na (nv LA):=hza
     have h3:na=true:=by assumption
     exact ⟨E4,congrArg (Value.int .i64) (sign_neg (by rw [h2,h3];unfold sgn;rw [if_pos rfl];omega)).symm⟩)
  | (have h1:nv LA≠0:=λh0=>by rw [<- Af.val] at h0;have:=congrArg List.length<|Aoy Ag h0;rw [List.length_nil] at this;omega
     have h2:z=sgn na (nv LA):=hza
     have h3:na=false:=by assumption
     exact ⟨E4,congrArg (Value.int .i64) (Ayk (by rw [h2,h3];unfold sgn;rw [if_neg AOs];omega)).symm⟩)
 ·refine AO1<|Aht rfl (AOv<|Anh (fs:=1) As7 AO4 AOs rfl (Ahu Als rfl (V3.cell (i:=0) rfl) (AO1<|⟨_,rfl,λAp=>?_,λAp=>?_⟩)))
  ·refine AOv (AO1<|AO6<|Ail<|Ag7<|⟨_,AO7,?_⟩)
   first
   | (have h0:L1=[]:=List.length_eq_zero_iff.1 AOq
      have h1:nv LA=0:=by rw [<- Af.val,h0];rfl
      exact ⟨E4,congrArg (Value.int .i64) (sign_zero<|hza.trans (by rw [h1];cases na <;> rfl)).symm⟩)
   | (have h1:nv LA≠0:=λh0=>by rw [<- Af.val] at h0;have:=congrArg List.length<|Aoy Ag h0;rw [List.length_nil] at this;omega
      have h2:z=sgn na (nv LA):=hza
      have h3:na=true:=by assumption
      exact ⟨E4,congrArg (Value.int .i64) (sign_neg (by rw [h2,h3];unfold sgn;rw [if_pos rfl];omega)).symm⟩)
   | (have h1:nv LA≠0:=λh0=>by rw [<- Af.val] at h0;have:=congrArg List.length<|Aoy Ag h0;rw [List.length_nil] at this;omega
      have h2:z=sgn na (nv LA):=hza
      have h3:na=false:=by assumption
      exact ⟨E4,congrArg (Value.int .i64) (Ayk (by rw [h2,h3];unfold sgn;rw [if_neg AOs];omega)).symm⟩)
  ·refine AO5 (q_b<|q_t<|AOv<|AO1<|AO6<|⟨_,AO7,?_⟩)
   first
   | (have h0:L1=[]:=List.length_eq_zero_iff.1 AOq
      have h1:nv LA=0:=by rw [<- Af.val,h0];rfl
      exact ⟨E4,congrArg (Value.int .i64) (sign_zero<|hza.trans (by rw [h1];cases na <;> rfl)).symm⟩)
   | (have h1:nv LA≠0:=λh0=>by rw [<- Af.val] at h0;have:=congrArg List.length<|Aoy Ag h0;rw [List.length_nil] at this;omega
      have h2:z=sgn na (nv LA):=hza
      have h3:na=true:=by assumption
      exact ⟨E4,congrArg (Value.int .i64) (sign_neg (by rw [h2,h3];unfold sgn;rw [if_pos rfl];omega)).symm⟩)
   | (have h1:nv LA≠0:=λh0=>by rw [<- Af.val] at h0;have:=congrArg List.length<|Aoy Ag h0;rw [List.length_nil] at this;omega
      have h2:z=sgn na (nv LA):=hza
      have h3:na=false:=by assumption
      exact ⟨E4,congrArg (Value.int .i64) (Ayk (by rw [h2,h3];unfold sgn;rw [if_neg AOs];omega)).symm⟩)
theorem Neg_ok {lo:Nat} {z:Int} (HA:ZV h lo va z):Ahs Tryz.prog 190 #[va] h λx h'=>Ext h h'/\ZV h' (Array.size h) x (-z):=by
 obtain ⟨na,sa,LA,rfl,HDa,htla,hla,hza⟩:=HA.out;have hna:LA.length<=1000000:=by omega
 refine Aie (l:=[_]) mx Tryz.func190 rfl rfl rfl rfl rfl AO4 (AOv<|Aqx [.bool na,sa] (λ_=>trivial) rfl rfl λAm h2 V3 E4 Az Bx=>?_);have By:Array.size h<=Am:=Az;have Bz:=E4.1;have Z8:=(Ext.refl h).trans E4;refine Aov [.bool false,.slice none 0 0] Ams rfl (λ_=>trivial) λAd Ah A4 Ae A5 B1=>?_;have B3:Array.size h<=Ad:=Nat.le_trans E4.1 A5;have nebq1bq9:Am≠Ad:=by have:=V3.lt;omega
 have B4:=Ae.1;have A6:=Z8.trans Ae;have Ap:=E4.trans Ae;have Aq:=V3.ext Ae;have A7:=E4.trans Ae;refine AOz<|AOx<|Ai1 (λh'=>Ext Ah h') AO4 ?_;have Af:=Ext.refl Ah;refine Anh (fs:=1) As7 AO4 AOs rfl (Ahm Als rfl Af (λh' hb=>(Aq.ext hb).cell (i:=0) rfl) (Akc rfl (Anh (fs:=1) Atv AO4 AOs rfl (Ahm Apj rfl Af (λh' hb=>(Aq.ext hb).cell (i:=1) rfl) (Ahq Af rfl (Aue (DS.mono (HDa.ext Ap)<|Nat.zero_le _) hna) λB5 Ah hk=>?_)))));obtain ⟨rfl,L1,Ai,A8⟩:=hk;refine ⟨Af,?_⟩;have A9:=Ai.ds (lo:=lo) HDa.lo;have Ar:=Ai.val;have B7:=Ai.len;refine Ahq Af rfl (A49 A9 AOq) λB8 B9 hk=>?_;obtain ⟨Ab,Au⟩:=hk;have Aj:=Af.trans Ab;refine ⟨Aj,?_⟩;have Ca:=Ab.1;have Ba:=A6.trans Ab;have Bb:=Ap.trans Ab;have Bc:=A7.trans Ab;have Be:=A4.ext Ab;have Bf:=Ae.trans Ab;refine Ahq Aj rfl (Ari (!na) Au A8 AOq) λCb Cd hk=>?_;obtain ⟨Aa,Bg⟩:=hk;have Bh:=Aj.trans Aa;refine ⟨Bh,?_⟩;have Ce:=Aa.1;have Bi:=Ba.trans Aa;have Bj:=Bb.trans Aa;have Bl:=Bc.trans Aa;have Bm:=Be.ext Aa;have Bn:=Bf.trans Aa;have Bo:=Au.ext Aa;obtain ⟨Av,s3,L3,rfl,Ax,Bq,Br,Ay⟩:=Bg.out;refine Ai5 [.bool Av,s3] Aip rfl rfl rfl rfl (Aqt Ax.cap) Bm λCf Bt Ac=>?_;have Bu:=Bj.thenUpd Ac (λk hk=>by have Ak:k=Ad:=hk;omega);have Cg:=Ac.1;have Ch:=Bi.thenUpd Ac (λk hk=>by have Ak:k=Ad:=hk;omega);have Ci:=Bn.thenUpd Ac (λk hk=>by have Ak:k=Ad:=hk;omega);have Cj:=Bl.thenUpd Ac (λk hk=>by have Ak:k=Ad:=hk;omega);have Ck:=Bo.updLo Ac AOq;have Bv:=Ax.updLo Ac AOq;refine AOz<|AO6<|⟨_,Ai3 Aip rfl rfl Bt,?_⟩;exact ⟨Bu,⟨Av,s3,L3,rfl,Bv.mono AOq,Bq,Br,by first | (rw [<- Ay,Ar,hza];done) | (rw [<- Ay,Ar,hza];cases na <;> simp [sgn])⟩⟩
theorem Normalize_ok {lo:Nat} {z:Int} (HA:ZV h lo va z):Ahs Tryz.prog 156 #[va] h λx h'=>Ext h h'/\ZV h' (Array.size h) x (z):=by
 obtain ⟨na,sa,LA,rfl,HDa,htla,hla,hza⟩:=HA.out;have hna:LA.length<=1000000:=by omega
 refine Aie (l:=[_]) mx Tryz.func156 rfl rfl rfl rfl rfl AO4 (AOv<|Aqx [.bool na,sa] (λ_=>trivial) rfl rfl λAm h2 V3 E4 Az Bx=>?_);have By:Array.size h<=Am:=Az;have Bz:=E4.1;have Z8:=(Ext.refl h).trans E4;refine Aov [.bool false,.slice none 0 0] Ams rfl (λ_=>trivial) λAd Ah A4 Ae A5 B1=>?_;have B3:Array.size h<=Ad:=Nat.le_trans E4.1 A5;have nebq1bq9:Am≠Ad:=by have:=V3.lt;omega
 have B4:=Ae.1;have A6:=Z8.trans Ae;have Ap:=E4.trans Ae;have Aq:=V3.ext Ae;have A7:=E4.trans Ae;refine AOz<|AOx<|Ai1 (λh'=>Ext Ah h') AO4 ?_;have Af:=Ext.refl Ah;refine Anh (fs:=1) As7 AO4 AOs rfl (Ahm Als rfl Af (λh' hb=>(Aq.ext hb).cell (i:=0) rfl) (Anh (fs:=1) Atv AO4 AOs rfl (Ahm Apj rfl Af (λh' hb=>(Aq.ext hb).cell (i:=1) rfl) (Ahq Af rfl (Aue (DS.mono (HDa.ext Ap)<|Nat.zero_le _) hna) λB5 Ah hk=>?_))));obtain ⟨rfl,L1,Ai,A8⟩:=hk;refine ⟨Af,?_⟩;have A9:=Ai.ds (lo:=lo) HDa.lo;have Ar:=Ai.val;have B7:=Ai.len;refine Ahq Af rfl (A49 A9 AOq) λB8 B9 hk=>?_;obtain ⟨Ab,Au⟩:=hk;have Aj:=Af.trans Ab;refine ⟨Aj,?_⟩;have Ca:=Ab.1;have Ba:=A6.trans Ab;have Bb:=Ap.trans Ab;have Bc:=A7.trans Ab;have Be:=A4.ext Ab;have Bf:=Ae.trans Ab;refine Ahq Aj rfl (Ari na Au A8 AOq) λCb Cd hk=>?_;obtain ⟨Aa,Bg⟩:=hk;have Bh:=Aj.trans Aa;refine ⟨Bh,?_⟩;have Ce:=Aa.1;have Bi:=Ba.trans Aa;have Bj:=Bb.trans Aa;have Bl:=Bc.trans Aa;have Bm:=Be.ext Aa;have Bn:=Bf.trans Aa;have Bo:=Au.ext Aa;obtain ⟨Av,s3,L3,rfl,Ax,Bq,Br,Ay⟩:=Bg.out;refine Ai5 [.bool Av,s3] Aip rfl rfl rfl rfl (Aqt Ax.cap) Bm λCf Bt Ac=>?_;have Bu:=Bj.thenUpd Ac (λk hk=>by have Ak:k=Ad:=hk;omega);have Cg:=Ac.1;have Ch:=Bi.thenUpd Ac (λk hk=>by have Ak:k=Ad:=hk;omega);have Ci:=Bn.thenUpd Ac (λk hk=>by have Ak:k=Ad:=hk;omega);have Cj:=Bl.thenUpd Ac (λk hk=>by have Ak:k=Ad:=hk;omega);have Ck:=Bo.updLo Ac AOq;have Bv:=Ax.updLo Ac AOq;refine AOz<|AO6<|⟨_,Ai3 Aip rfl rfl Bt,?_⟩;exact ⟨Bu,⟨Av,s3,L3,rfl,Bv.mono AOq,Bq,Br,by first | (rw [<- Ay,Ar,hza];done) | (rw [<- Ay,Ar,hza];cases na <;> simp [sgn])⟩⟩
def Au9 (a b:Nat):Int:=if a < b then -1 else if a=b then 0 else 1
theorem Aru {b:Nat} (h:a < b):Au9 a b= -1:=if_pos h
theorem Arv {b:Nat} (h:b < a):Au9 a b=1:=by unfold Au9;omega
theorem Ayl {b:Nat} (h:a=b):Au9 a b=0:=by unfold Au9;omega
theorem Arw {A:List Nat} (ha:Dig A) (hb:TL B) (h:A.length < B.length):nv A < nv B:=by
 have h1:=Au2 ha;have h2:=BIr hb (λhe=>by grind);have h3:4294967296 ^ A.length<=4294967296 ^ (B.length - 1):=Nat.pow_le_pow_right AOs AOq;omega
theorem Arx {A:List Nat} (ha:Dig A) (hb:Dig B) {x:Nat} (hl:A.length=B.length) (hx:A[i]? =some x) (hy:B[i]? =some y) (hxy:x < y) (hs:∀ q,i < q->A[q]? =B[q]?):nv A < nv B:=by
 have hi:=(List.getElem?_eq_some_iff.1 hx).1;have hd:A.drop (i + 1)=B.drop (i + 1):=List.ext_getElem? λq=>by grind
 have e:∀ L:List Nat,nv L=nv (L.take<|i + 1) + 4294967296 ^ (L.take<|i + 1).length * nv (L.drop<|i + 1):=λL=>by rw [<- A2q,List.take_append_drop]
 rw [e A,e B,hd,Ajb hx,Ajb hy,List.length_take,List.length_take,hl];have h1:=Ayi ha (i:=i) AOq;have h2:4294967296 ^ i * (x + 1)<=4294967296 ^ i * y:=Nat.mul_le_mul_left _ hxy;grind
theorem A3f (HA:DS h la va LA) (HB:DS h lb vb LB) (hta:TL LA) (htb:TL LB) (hna:LA.length<=1000000) (hnb:LB.length<=1000000):Ahs Tryz.prog 204 #[va,vb] h λx h'=>h'=h/\x= .int .i64 (Au9 (nv LA)<|nv LB):=by
 refine Aie (l:=[_,_]) mx Tryz.func204 rfl rfl rfl rfl rfl AO4 (AOv<|AO1<|AOx<|AO0<|AOv<|AOr<|Ai4 Ahl rfl HA (AOr<|Ai4 Ahl rfl HB (Amf rfl rfl (λAc=>?_) (λAc=>?_))))
 ·refine AO1 (Ahp rfl (AOv<|AO1<|AO6<|Ail<|Ag7<|⟨_,AO7,?_⟩))
  first
  | exact ⟨rfl,congrArg (Value.int .i64) (Aru<|Arw HA.dig htb AOq).symm⟩
  | exact ⟨rfl,congrArg (Value.int .i64) (Arv<|Arw HB.dig hta AOq).symm⟩
  | exact ⟨rfl,congrArg (Value.int .i64) (Aru<|Arx HA.dig HB.dig AOq hx hy AOq λq hq=>hsame q AOq).symm⟩
  | exact ⟨rfl,congrArg (Value.int .i64) (Arv<|Arx HB.dig HA.dig AOq hy hx AOq λq hq=>(hsame q AOq).symm).symm⟩
  | exact ⟨rfl,congrArg (Value.int .i64) (Ayl<|congrArg nv<|List.ext_getElem? λq=>hsame q AOq).symm⟩
 ·refine AO1<|Aht rfl (AOv<|AOr<|Ai4 Ahl rfl HA (AOr<|Ai4 Ahl rfl HB (Aye rfl rfl (λAd=>?_) (λAd=>?_))))
  ·refine AO1 (Ahp rfl (AOv<|AO1<|AO6<|Ail<|Ag7<|⟨_,AO7,?_⟩))
   first
   | exact ⟨rfl,congrArg (Value.int .i64) (Aru<|Arw HA.dig htb AOq).symm⟩
   | exact ⟨rfl,congrArg (Value.int .i64) (Arv<|Arw HB.dig hta AOq).symm⟩
   | exact ⟨rfl,congrArg (Value.int .i64) (Aru<|Arx HA.dig HB.dig AOq hx hy AOq λq hq=>hsame q AOq).symm⟩
   | exact ⟨rfl,congrArg (Value.int .i64) (Arv<|Arx HB.dig HA.dig AOq hy hx AOq λq hq=>(hsame q AOq).symm).symm⟩
   | exact ⟨rfl,congrArg (Value.int .i64) (Ayl<|congrArg nv<|List.ext_getElem? λq=>hsame q AOq).symm⟩
  ·refine AO1<|Aht rfl (AO5<|q_b<|q_t<|AOx<|AOv<|AOr<|Ai4 Ahl rfl HA (Aui rfl rfl AOq AOq (AO1<|AO0<|Aj7 35184369991728 (λi:Nat=>[(5,.int .i64<|(i:Int) - 1)]) (λk i h'=>h'=h/\i=k/\i<=LA.length/\ ∀ q,i<=q->LA[q]? =LB[q]?) AO4 LA.length LA.length ?_ ⟨rfl,trivial⟩ ?_)))
   ·exact ⟨rfl,rfl,Nat.le_refl _,λq hq=>by rw [List.getElem?_eq_none hq,List.getElem?_eq_none AOq]⟩
   rintro k i s1 h ⟨rfl,rfl,hi,hsame⟩;refine AOx<|AOv<|AOr<|A1z rfl rfl (λAe=>?_) (λAe=>?_)
   ·refine AOz<|Ahp rfl (AO5<|q_t<|AOx<|AO0<|AO0<|AOx ?_);obtain ⟨x,hx⟩:∃ x,LA[i - 1]? =some x:=⟨_,List.getElem?_eq_getElem AOq⟩;obtain ⟨y,hy⟩:∃ y,LB[i - 1]? =some y:=⟨_,List.getElem?_eq_getElem AOq⟩;have e1:((i:Int) - 1)=((i - 1:Nat):Int):=by omega
    refine Ayd AO4<|AOr<|AOr<|Aqd (n:=i - 1) Ahl rfl HA (show Value.int .i64 ((i:Int) - 1)=_ by rw [e1]) hx λa1 Af=>?_;refine Ahu Ajo rfl Af (AOr<|AOr<|Aqd (n:=i - 1) Ahl rfl HB (show Value.int .i64 ((i:Int) - 1)=_ by rw [e1]) hy λa2 Ag=>?_);refine Ahu Ajo rfl Ag (Amf rfl rfl (λAh=>?_) (λAh=>?_))
    ·refine AO1 (Ahp rfl (AOv<|AO1<|AO6<|Ail<|Ail<|Ag7<|Ag7<|Ail<|Ag7<|⟨_,AO7,?_⟩))
     first
     | exact ⟨rfl,congrArg (Value.int .i64) (Aru<|Arw HA.dig htb AOq).symm⟩
     | exact ⟨rfl,congrArg (Value.int .i64) (Arv<|Arw HB.dig hta AOq).symm⟩
     | exact ⟨rfl,congrArg (Value.int .i64) (Aru<|Arx HA.dig HB.dig AOq hx hy AOq λq hq=>hsame q AOq).symm⟩
     | exact ⟨rfl,congrArg (Value.int .i64) (Arv<|Arx HB.dig HA.dig AOq hy hx AOq λq hq=>(hsame q AOq).symm).symm⟩
     | exact ⟨rfl,congrArg (Value.int .i64) (Ayl<|congrArg nv<|List.ext_getElem? λq=>hsame q AOq).symm⟩
    ·refine AO1<|Aht rfl (AOx<|Ayd AO4<|AOr<|AOr<|Aqd (n:=i - 1) Ahl rfl HA (show Value.int .i64 ((i:Int) - 1)=_ by rw [e1]) hx λa3 Ai=>?_);refine Ahu Ajo rfl Ai (AOr<|AOr<|Aqd (n:=i - 1) Ahl rfl HB (show Value.int .i64 ((i:Int) - 1)=_ by rw [e1]) hy λa4 Aj=>?_);refine Ahu Ajo rfl Aj (Aye rfl rfl (λAk=>?_) (λAk=>?_))
     ·refine AO1 (Ahp rfl (AOv<|AO1<|AO6<|Ail<|Ail<|Ag7<|Ag7<|Ail<|Ag7<|⟨_,AO7,?_⟩))
      first
      | exact ⟨rfl,congrArg (Value.int .i64) (Aru<|Arw HA.dig htb AOq).symm⟩
      | exact ⟨rfl,congrArg (Value.int .i64) (Arv<|Arw HB.dig hta AOq).symm⟩
      | exact ⟨rfl,congrArg (Value.int .i64) (Aru<|Arx HA.dig HB.dig AOq hx hy AOq λq hq=>hsame q AOq).symm⟩
      | exact ⟨rfl,congrArg (Value.int .i64) (Arv<|Arx HB.dig HA.dig AOq hy hx AOq λq hq=>(hsame q AOq).symm).symm⟩
      | exact ⟨rfl,congrArg (Value.int .i64) (Ayl<|congrArg nv<|List.ext_getElem? λq=>hsame q AOq).symm⟩
     ·refine AO1<|Aht rfl (AO5<|q_b<|q_b<|q_t<|Ag6<|AOr<|Aui rfl rfl AOq AOq (AO1 ?_));exact ⟨i - 1,i - 1,AOq,⟨rfl,rfl,AOq,λq hq=>by rcases Nat.lt_or_ge q i with h2 | h2;obtain rfl:q=i - 1:=AOq;rw [hx,hy];congr 1;omega;exact hsame q h2⟩,by rw [show ((i - 1:Nat):Int) - 1=(i:Int) - 1 - 1 by omega];rfl,trivial⟩
   ·refine AOz (Aht rfl (Ahf<|Ahg<|Ahg<|Aio<|q_t<|AOv<|AO1<|AO6<|⟨_,AO7,?_⟩))
    first
    | exact ⟨rfl,congrArg (Value.int .i64) (Aru<|Arw HA.dig htb AOq).symm⟩
    | exact ⟨rfl,congrArg (Value.int .i64) (Arv<|Arw HB.dig hta AOq).symm⟩
    | exact ⟨rfl,congrArg (Value.int .i64) (Aru<|Arx HA.dig HB.dig AOq hx hy AOq λq hq=>hsame q AOq).symm⟩
    | exact ⟨rfl,congrArg (Value.int .i64) (Arv<|Arx HB.dig HA.dig AOq hy hx AOq λq hq=>(hsame q AOq).symm).symm⟩
    | exact ⟨rfl,congrArg (Value.int .i64) (Ayl<|congrArg nv<|List.ext_getElem? λq=>hsame q AOq).symm⟩
theorem A83 (HA:DS h la va LA) (HB:DS h lb vb LB) (hna:LA.length<=1000) (hnb:LB.length<=1000):Ahs Tryz.prog 194 #[va,vb] h λx h'=>Ext h h'/\ ∃ L,DS h' (Array.size h) x L/\TL L/\nv L=nv LA + nv LB/\L.length<=1001:=by
 refine Aie (l:=[_,_]) mx Tryz.func194 rfl rfl rfl rfl rfl AO4 (AOv<|AO1<|A1v 65027 (λy:Value × Value × List Nat × List Nat=>[(0,y.1),(1,y.2.1)]) (λy h'=>h'=h/\DS h 0 y.1 y.2.2.1/\DS h 0 y.2.1 y.2.2.2/\y.2.2.2.length<=y.2.2.1.length/\y.2.2.1.length<=1000/\nv y.2.2.1 + nv y.2.2.2=nv LA + nv LB) AO4 ?_ ?_)
 ·refine AOv<|AOr<|Ai4 Ahl rfl HA (AOr<|Ai4 Ahl rfl HB (Amf rfl rfl (λAo=>?_) (λAo=>?_)))
  ·refine AOz<|Ahp rfl (Ag6<|AOr<|AOr<|Aho<|AO1 ?_);exact ⟨(_,_,LB,LA),⟨rfl,HB.mono<|Nat.zero_le _,HA.mono<|Nat.zero_le _,by first | omega | (dsimp only;omega),hnb,Nat.add_comm _ _⟩,rfl,rfl,trivial⟩
  ·refine AOz<|Aht rfl (AO5<|q_t ?_);exact ⟨(_,_,LA,LB),⟨rfl,HA.mono<|Nat.zero_le _,HB.mono<|Nat.zero_le _,by first | omega | (dsimp only;omega),hna,rfl⟩,rfl,rfl,trivial⟩
 rintro ⟨A9,Ba,A,B⟩ s0 h ⟨rfl,HX,HY,hBA,Ap,hsum⟩;dsimp only at HX HY hBA Ap hsum ⊢;refine AOv<|AOr<|Ai4 Ahl rfl HX (Awx (b:=1) rfl rfl AOq (A65 (n:=A.length + 1) Ahl Atf (λ_=>trivial) rfl rfl AOs AOq λg1 v1 h1 Aq E1 Ar Be=>?_));have Bf:=E1.1;have Z2:=(Ext.refl h).trans E1;refine Ah7<|AO1<|AOx<|AOv<|AOr<|Ai4 Ahl rfl (HY.ext E1) (AOr<|AOz<|AO0<|Aj7 70368739983552 (λy:Nat × Nat=>[(22,.int .i64 (y.1:Int)),(6,.int .u64 (y.2:Int))]) (λk y h'=>k=B.length - y.1/\y.1<=B.length/\Ext h h'/\y.2<=1/\ ∃ D,Ali h' 200 g1 v1 ((D ++ List.replicate ((A.length + 1) - y.1) 0).map Avb)/\D.length=y.1/\Dig D/\nv D + 4294967296 ^ y.1 * y.2=nv (A.take y.1) + nv (B.take y.1)) AO4 B.length (0,0) ?_ ⟨rfl,rfl,trivial⟩ ?_)
 ·exact ⟨rfl,Nat.zero_le _,E1,by first | omega | (dsimp only;omega),[],by simpa using Aq,rfl,λx hx=>(by simp at hx),rfl⟩
 rintro k ⟨i,c⟩ s1 h2 ⟨rfl,hi,E2,hc,D,Ag,hDl,hDd,hDv⟩;dsimp only at hi hc Ag hDl hDv ⊢;have Bi:=E2.1;refine AOv<|Amf rfl rfl (λAu=>?_) (λAu=>?_)
 ·refine AOz<|AOx<|Ahp rfl (AO5<|q_t<|AOx<|AO0<|AOv<|AOr<|AO1<|AOx ?_);obtain ⟨x,hx⟩:∃ x,A[i]? =some x:=⟨_,List.getElem?_eq_getElem AOq⟩;have hbx:=HX.dig x<|List.mem_of_getElem? hx;obtain ⟨y,hy⟩:∃ x,B[i]? =some x:=⟨_,List.getElem?_eq_getElem AOq⟩;have hby:=HY.dig y<|List.mem_of_getElem? hy;refine Ayd AO4<|AOr<|AOr<|AOr<|Aqd Ahl rfl (HX.ext E2) rfl hx λBj Av=>Ahu Ajo rfl Av (Azo Ake Ajp rfl hbx (AOr<|AOr<|Aqd Ahl rfl (HY.ext E2) rfl hy λBl Aw=>Ahu Ajo rfl Aw (Azo Ake Ajp rfl hby (Awf rfl rfl AOq (Awf rfl rfl AOq (Ah7<|AOr<|AOr<|AOr<|A1i Ajp Ake rfl (Azy Ahl rfl Ag rfl (by simp;omega) ?_)))))));refine A1h (D ++ [(c + (x + y)) % 4294967296] ++ List.replicate (A.length + 1 - (i + 1)) 0) Ajo rfl rfl Ag (by simp;omega) (A57 hDl AOq) λh4 Ax U4=>?_;have Bn:=U4.1;have X7:=E2.thenUpd U4 (λk hk=>by have Ad:k=g1:=hk;omega);have Z8:=E2.thenUpd U4 (λk hk=>by have Ad:k=g1:=hk;omega);refine AOz<|Ag6<|AOr<|A0t rfl rfl (Aho<|Ahh<|q_b<|q_t<|Ag6<|Ara rfl AOq (AOr<|AOz ?_));exact ⟨B.length - (i + 1),(i + 1,(c + (x + y)) / 4294967296),by first | omega | (dsimp only;omega),⟨rfl,by first | omega | (dsimp only;omega),X7,by first | omega | (dsimp only;omega),_,Ax,by simp [hDl],Auk hDd<|Nat.mod_lt _ AOs,by rw [Atb,hDl,A0u hDv,Ajb hx,Ajb hy,Nat.mul_add];omega⟩,rfl,rfl,trivial⟩
 ·refine AOz<|AOx<|Aht rfl (Ahf<|Ahg<|Ahg<|Aio<|q_t<|AOx<|AOv<|AOr<|Ai4 Ahl rfl (HX.ext E2) (AOr<|Ai4 Ahl rfl (HY.ext E2) (Aui rfl rfl AOq AOq ?_)));rw [show ((A.length:Nat):Int) - ((B.length:Nat):Int)=((A.length - B.length:Nat):Int) by omega];refine AOr<|AOz<|AO0 ?_;obtain rfl:i=B.length:=by omega
  rw [List.take_length] at hDv;refine Aj7 37778929611157348024640 (λy:Nat × Nat=>[(51,.int .i64 (y.1:Int)),(6,.int .u64 (y.2:Int))]) (λk y h'=>k=A.length - B.length - y.1/\y.1<=A.length - B.length/\Ext h h'/\y.2<=1/\ ∃ D,Ali h' 200 g1 v1 ((D ++ List.replicate ((A.length + 1) - (B.length + y.1)) 0).map Avb)/\D.length=B.length + y.1/\Dig D/\nv D + 4294967296 ^ (B.length + y.1) * y.2=nv (A.take<|B.length + y.1) + nv B) AO4 (A.length - B.length) (0,c) ?_ ⟨rfl,rfl,trivial⟩ ?_
  ·exact ⟨rfl,Nat.zero_le _,E2,hc,D,Ag,hDl,hDd,hDv⟩
  rintro k ⟨j,c⟩ s2 h3 ⟨rfl,hj,E3,hc,D,Ae,hDl,hDd,hDv⟩;dsimp only at hj hc Ae hDl hDv ⊢;have Bq:=E3.1;refine AOv<|Amf rfl rfl (λAz=>?_) (λAz=>?_)
  ·refine AOz<|AOx<|Ahp rfl (AO5<|q_t<|AOx<|AO0<|AOv<|AOr<|AO1<|AOx ?_);obtain ⟨x,hx⟩:∃ x,A[(B.length + j)]? =some x:=⟨_,List.getElem?_eq_getElem AOq⟩;have hbx:=HX.dig x<|List.mem_of_getElem? hx;refine Ag6<|AOr<|AOr<|AOr<|Ai4 Ahl rfl (HY.ext E3) (AOr<|Awx rfl rfl AOq (Aqd Ahl rfl (HX.ext E3) rfl hx λBr A3=>Ahu Ajo rfl A3 (Azo Ake Ajp rfl hbx (Awf rfl rfl AOq (Ah7<|AOr<|AOr<|Ai4 Ahl rfl (HY.ext E3) (AOr<|Awx rfl rfl AOq (AOr<|A1i Ajp Ake rfl (Azy Ahl rfl Ae rfl (by simp;omega) ?_))))))));refine A1h (D ++ [(c + x) % 4294967296] ++ List.replicate (A.length + 1 - (B.length + j + 1)) 0) Ajo rfl rfl Ae (by simp;omega) (A57 hDl AOq) λh5 A4 U5=>?_;have Bu:=U5.1;have A5:=E3.thenUpd U5 (λk hk=>by have Ad:k=g1:=hk;omega);have Bv:=E3.thenUpd U5 (λk hk=>by have Ad:k=g1:=hk;omega);refine AOz<|Ag6<|AOr<|A0t rfl rfl (Aho<|Ahh<|q_b<|q_t<|Ag6<|Ara rfl AOq (AOr<|AOz ?_));exact ⟨A.length - B.length - (j + 1),(j + 1,(c + x) / 4294967296),by first | omega | (dsimp only;omega),⟨rfl,by first | omega | (dsimp only;omega),A5,by first | omega | (dsimp only;omega),_,A4,by simp [hDl];omega,Auk hDd<|Nat.mod_lt _ AOs,by rw [Atb,hDl,<- Nat.add_assoc,A0u hDv,Ajb hx];omega⟩,rfl,rfl,trivial⟩
  ·refine AOz<|AOx<|Aht rfl (Ahf<|Ahg<|Ahg<|Aio<|q_t<|AOx ?_);obtain rfl:j=A.length - B.length:=by omega
   have hBj:B.length + (A.length - B.length)=A.length:=by omega
   rw [hBj,List.take_length] at hDv;rw [hBj] at hDl;refine Ag6<|AOr<|AOr<|Ai4 Ahl rfl (HX.ext E3) (AOr<|A1i Ajp Ake rfl (Azy Ahl rfl Ae rfl (by simp;omega) ?_));refine A1h (D ++ [c % 4294967296] ++ List.replicate (A.length + 1 - (A.length + 1)) 0) Ajo rfl rfl Ae (by simp;omega) (by rw [hBj];exact A57 hDl AOq) λh6 Ak U6=>?_;have Bw:=U6.1;have A7:=E3.thenUpd U6 (λk hk=>by have Ad:k=g1:=hk;omega);have Bx:=E3.thenUpd U6 (λk hk=>by have Ad:k=g1:=hk;omega);rw [Nat.sub_self,List.replicate_zero,List.append_nil,Nat.mod_eq_of_lt AOq] at Ak;have Am:=Ak.ds (lo:=Array.size h) (Auk hDd AOq) Ar;refine Apt<|AOr<|Ahq trivial rfl (Aue (Am.mono<|Nat.zero_le _) (by simp;omega)) λBy h6 hk=>?_;obtain ⟨rfl,L2,HT,htl⟩:=hk;refine ⟨trivial,?_⟩;refine AO1<|AO6<|⟨_,AO7,?_⟩;exact ⟨A7,L2,HT.ds Am.lo,htl,by rw [HT.val,Atb,hDl,hDv];exact hsum,by have:=HT.len;simp at this;omega⟩
theorem A5a (HA:DS h la va LA) (HB:DS h lb vb LB) (htb:TL LB) (hle:nv LB<=nv LA) (hna:LA.length<=1000):Ahs Tryz.prog 195 #[va,vb] h λx h'=>Ext h h'/\ ∃ L,DS h' (Array.size h) x L/\TL L/\nv L=nv LA - nv LB/\L.length<=LA.length:=by
 refine Aie (l:=[_,_]) mx Tryz.func195 rfl rfl rfl rfl rfl AO4 (AOv<|Ah7<|AOr<|Ai4 Ahl rfl HA (A65 (n:=LA.length) Ahl Atf (λ_=>trivial) rfl rfl AOs AOq λg1 v1 h1 Aj E1 Ak Az=>?_));have A3:=E1.1;have Z2:=(Ext.refl h).trans E1;refine Ah7<|AO1<|AOx<|AOv<|AOr<|Ai4 Ahl rfl (HA.ext E1) (AOr<|AOz<|AO0<|Aj7 8796093006272 (λy:Nat × Nat=>[(14,.int .i64 (y.1:Int)),(6,.int .u64 (y.2:Int))]) (λk y h'=>k=LA.length - y.1/\y.1<=LA.length/\Ext h h'/\y.2<=1/\ ∃ D,Ali h' 200 g1 v1 ((D ++ List.replicate (LA.length - y.1) 0).map Avb)/\D.length=y.1/\Dig D/\nv D + nv (LB.take y.1)=nv (LA.take y.1) + 4294967296 ^ y.1 * y.2) AO4 LA.length (0,0) ?_ ⟨rfl,rfl,trivial⟩ ?_)
 ·exact ⟨rfl,Nat.zero_le _,E1,by first | omega | (dsimp only;omega),[],by simpa using Aj,rfl,λx hx=>(by simp at hx),rfl⟩
 rintro k ⟨i,c⟩ s1 h2 ⟨rfl,hi,E2,hc,D,Ab,hDl,hDd,hDv⟩;dsimp only at hi hc Ab hDl hDv ⊢;have A5:=E2.1;refine AOv<|Amf rfl rfl (λAm=>?_) (λAm=>?_)
 ·refine AOz<|AOx<|Ahp rfl (AO5<|q_t<|AOx<|AO0<|AOv<|AOr<|AO1<|AOx ?_);obtain ⟨x,hx⟩:∃ x,LA[i]? =some x:=⟨_,List.getElem?_eq_getElem AOq⟩;have hbx:=HA.dig x<|List.mem_of_getElem? hx;refine Ag6<|AOr<|AOr<|Aqd Ahl rfl (HA.ext E2) rfl hx λA6 Ao=>Ahu Ajo rfl Ao (Azo Ake Ajp rfl hbx (AOr<|Amr rfl rfl ?_));rw [wrap_u64];refine AO1<|A1v 34342961408 (λs:Int=>[(8,.int .u64<|s % 18446744073709551616)]) (λs h'=>h'=h2/\s=((x:Int) - (c:Int) - ((LB[i]?.getD 0:Nat):Int))) AO4 ?_ ?_
  ·refine AOv<|AOr<|AOr<|Ai4 Ahl rfl (HB.ext E2) (Amf rfl rfl (λAp=>?_) (λAp=>?_))
   ·refine AOz<|Ahp rfl ?_;obtain ⟨y,Af⟩:∃ y,LB[i]? =some y:=⟨_,List.getElem?_eq_getElem AOq⟩;have hby:=HB.dig y<|List.mem_of_getElem? Af;refine Ag6<|AOr<|AOr<|AOr<|Aqd Ahl rfl (HB.ext E2) rfl Af λA7 Aq=>Ahu Ajo rfl Aq (Azo Ake Ajp rfl hby (Amr rfl rfl (AO1 ?_)));exact ⟨((x:Int) - (c:Int) - ((LB[i]?.getD 0:Nat):Int)),⟨rfl,rfl⟩,by rw [Af];show Value.int .u64 _=_;congr 1;rw [wrap_u64];simp only [Option.getD_some];omega,trivial⟩
   ·refine AOz<|Aht rfl (AO5<|q_t ?_);exact ⟨((x:Int) - (c:Int) - ((LB[i]?.getD 0:Nat):Int)),⟨rfl,rfl⟩,by rw [List.getElem?_eq_none AOq];show Value.int .u64 _=_;congr 1;simp only [Option.getD_none];omega,trivial⟩
  rintro s s2 h2 ⟨rfl,hs⟩;obtain ⟨y,hy⟩:∃ y,LB[i]?.getD 0=y:=⟨_,rfl⟩;rw [hy] at hs;refine AOx ?_
  have hby:y < 4294967296:=by
   rw [<- hy]
   cases hq:LB[i]? with
   | none=>simp
   | some q=>exact HB.dig q<|List.mem_of_getElem? hq
  refine Ag6<|AOr<|AOr<|AOr<|As3 Ajp Ake rfl ?_;obtain ⟨dg,hdg⟩:∃ dg:Nat,(dg:Int)=s % 4294967296:=⟨(s % 4294967296).toNat,AOq⟩;rw [show IntKind.u32.wrap (s % 18446744073709551616)=(dg:Int) by rw [wrap_u32,hdg];omega];refine Azy Ahl rfl Ab rfl (by simp;omega) ?_;refine A1h (D ++ [dg] ++ List.replicate (LA.length - (i + 1)) 0) Ajo rfl rfl Ab (by simp;omega) (A57 hDl AOq) λh4 Ar U4=>?_;have A9:=U4.1;have X7:=E2.thenUpd U4 (λk hk=>by have Av:k=g1:=hk;omega);have Z8:=E2.thenUpd U4 (λk hk=>by have Av:k=g1:=hk;omega);refine AOz<|Ag6<|AOr<|A62 (n:=63) rfl rfl AOs ?_;rw [show s % 18446744073709551616 / 2 ^ 63=((if s < 0 then 1 else 0:Nat):Int) by split <;> omega];refine Aho<|Ahh<|q_b<|q_t<|Ag6<|Ara rfl AOq (AOr<|AOz ?_);exact ⟨LA.length - (i + 1),(i + 1,if s < 0 then 1 else 0),by first | omega | (dsimp only;omega),⟨rfl,by first | omega | (dsimp only;omega),X7,by dsimp only;split <;> omega,_,Ar,by simp [hDl],Auk hDd AOq,by rw [Atb,hDl,Atc LB,hy,Ajb hx];exact A15 hDv (by split <;> omega)⟩,rfl,rfl,trivial⟩
 ·refine AOz<|AOx<|Aht rfl (Ahf<|Ahg<|Ahg<|Aio<|q_t<|AOx ?_);obtain rfl:i=LA.length:=by omega
  rw [List.take_length,List.take_of_length_le (by have:=At6 htb<|Nat.lt_of_le_of_lt hle<|Au2 HA.dig;omega)] at hDv;have hDlt:=Au2 hDd;rw [hDl] at hDlt
  have Aw:c=0:=by
   rcases Nat.eq_zero_or_pos c with h0 | h0
   ·exact h0
   ·obtain rfl:c=1:=by omega
    rw [Nat.mul_one] at hDv;omega
  subst Aw;rw [Nat.mul_zero,Nat.add_zero] at hDv;rw [Nat.sub_self,List.replicate_zero,List.append_nil] at Ab;have Ai:=Ab.ds (lo:=Array.size h) hDd Ak;refine Ag6<|AOr<|Ahq trivial rfl (Aue (Ai.mono<|Nat.zero_le _) AOq) λx9 h2 hk=>?_;obtain ⟨rfl,L2,HT,htl⟩:=hk;refine ⟨trivial,?_⟩;refine AO1<|AO6<|⟨_,AO7,?_⟩;exact ⟨E2,L2,HT.ds Ai.lo,htl,by rw [HT.val];omega,by have:=HT.len;omega⟩
theorem BKb {L:List Nat} (h:Dig L) (hl:L.length<=1):nv L<=4294967295:=by
 have h1:=Au2 h;have h2:4294967296 ^ L.length<=4294967296 ^ 1:=Nat.pow_le_pow_right AOs hl;omega
theorem BKc {A:List Nat} (ha:Dig A) (hb:Dig B) (la:A.length<=1) (lb:B.length<=1):nv A * nv B < 18446744073709551616:=by
 have:=Nat.mul_le_mul (BKb ha la)<|BKb hb lb;omega
theorem Aw0 {b:Nat} (h:0<=Au9 a b):b<=a:=by
 unfold Au9 at h;omega
theorem A0w {b:Nat} (h:Au9 a b < 0):a<=b:=by
 unfold Au9 at h;omega
theorem A68 {A:List Nat} (ha:Dig A) (hb:Dig B) (la:A.length<=99) (lb:B.length<=99):nv A + nv B < 4294967296 ^ 100:=by
 have h1:=Au2 ha;have h2:=Au2 hb;have h3:4294967296 ^ A.length<=4294967296 ^ 99:=Nat.pow_le_pow_right AOs la;have h4:4294967296 ^ B.length<=4294967296 ^ 99:=Nat.pow_le_pow_right AOs lb;omega
theorem A0x {a b:Bool} {x:Nat} (h:a=b):sgn a x + sgn b y=sgn a (x + y):=by
 subst h;cases a <;> simp [sgn] <;> omega
theorem A0y {a b:Bool} {x:Nat} (h:a≠b) (hl:y<=x):sgn a x + sgn b y=sgn a (x - y):=by
 cases a <;> cases b <;> simp [sgn] at h ⊢ <;> omega
theorem Aym {a b:Bool} {x:Nat} (h:a≠b) (hl:x<=y):sgn a x + sgn b y=sgn b (y - x):=by
 cases a <;> cases b <;> simp [sgn] at h ⊢ <;> omega
theorem A98 (na nb:Bool) (HA:DS h la va LA) (HB:DS h lb vb LB) (hta:TL LA) (htb:TL LB) (hna:LA.length<=99) (hnb:LB.length<=99):Ahs Tryz.prog 203 #[.bool na,va,.bool nb,vb] h λx h'=>Ext h h'/\ZV h' (Array.size h) x (sgn na (nv LA) + sgn nb (nv LB)):=by
 refine Aie (l:=[_,_,_,_]) mx Tryz.func203 rfl rfl rfl rfl rfl AO4 (AOv<|Aov [.bool false,.slice none 0 0] Ams rfl (λ_=>trivial) λAb h2 V3 E4 A8 Cg=>?_);have Ch:Array.size h<=Ab:=A8;have Ci:=E4.1;have Z8:=(Ext.refl h).trans E4;refine AOz<|AOx<|AO0<|AOv<|AOr<|AOr<|BA7 A2t rfl rfl ?_;cases Cj:na == nb
 ·refine AO1<|Aht rfl (AOv<|AOr<|AOr<|Ahq trivial rfl (A3f (HA.ext E4) (HB.ext E4) hta htb AOq AOq) λx9 h2 hk=>?_);obtain ⟨rfl,rfl⟩:=hk;refine ⟨trivial,?_⟩;refine A1z rfl rfl (λA9=>?_) (λA9=>?_)
  ·refine AO1<|Ahp rfl (AOv<|AOr<|AOr<|AOr<|Ahq trivial rfl (A5a (HA.ext E4) (HB.ext E4) htb (Aw0<|by assumption) AOq) λCm Cn hk=>?_);obtain ⟨Aq,L1,Ac,Ag,Ah,A6⟩:=hk;refine ⟨trivial,?_⟩;have Co:=Aq.1;have Ba:=Z8.trans Aq;have Bb:=E4.trans Aq;have Bc:=V3.ext Aq;have Be:=E4.trans Aq;refine Ahq trivial rfl (Ari na Ac Ag AOq) λCp Cq hk=>?_;obtain ⟨Ai,Ar⟩:=hk;refine ⟨trivial,?_⟩;have Cr:=Ai.1;have Bf:=Ba.trans Ai;have Bg:=Bb.trans Ai;have Bh:=Bc.ext Ai;have Bi:=Be.trans Ai;have Bj:=Ac.ext Ai;obtain ⟨Ad,s2,L2,rfl,Ae,Av,Aw,Ax⟩:=Ar.out;refine Ai5 [.bool Ad,s2] Aip rfl rfl rfl rfl (Aqt Ae.cap) Bh λCt Bl Aj=>?_;have Bm:=Bg.thenUpd Aj (λk hk=>by have Af:k=Ab:=hk;omega);have Cu:=Aj.1;have Cv:=Bf.thenUpd Aj (λk hk=>by have Af:k=Ab:=hk;omega);have Cw:=Bi.thenUpd Aj (λk hk=>by have Af:k=Ab:=hk;omega);have Cx:=Bj.updLo Aj AOq;have Bn:=Ae.updLo Aj AOq;refine AOz<|AO6<|Ail<|Ag7<|⟨_,Ai3 Aip rfl rfl Bl,?_⟩;exact ⟨Bm,⟨Ad,s2,L2,rfl,Bn.mono AOq,Av,Aw,by rw [<- Ax,Ah];first | exact A0x (eq_of_beq<|by assumption) | exact A0y (ne_of_beq_false<|by assumption) (Aw0<|by assumption) | exact Aym (ne_of_beq_false<|by assumption)<|A0w<|by assumption⟩⟩
  ·refine AO1<|Aht rfl (AO5<|q_b<|q_t<|AOv<|AOr<|AOr<|AOr<|Ahq trivial rfl (A5a (HB.ext E4) (HA.ext E4) hta (A0w<|by assumption) AOq) λCy Cz hk=>?_);obtain ⟨Ay,L1,Ac,Ag,Ah,A6⟩:=hk;refine ⟨trivial,?_⟩;have C0:=Ay.1;have Bo:=Z8.trans Ay;have Bp:=E4.trans Ay;have Bq:=V3.ext Ay;have Br:=E4.trans Ay;refine Ahq trivial rfl (Ari nb Ac Ag AOq) λC1 C2 hk=>?_;obtain ⟨Ak,Ar⟩:=hk;refine ⟨trivial,?_⟩;have C3:=Ak.1;have Bt:=Bo.trans Ak;have Bu:=Bp.trans Ak;have Bv:=Bq.ext Ak;have Bw:=Br.trans Ak;have Bx:=Ac.ext Ak;obtain ⟨Ad,s2,L2,rfl,Ae,Av,Aw,Ax⟩:=Ar.out;refine Ai5 [.bool Ad,s2] Aip rfl rfl rfl rfl (Aqt Ae.cap) Bv λC4 By Am=>?_;have Bz:=Bu.thenUpd Am (λk hk=>by have Af:k=Ab:=hk;omega);have C5:=Am.1;have C6:=Bt.thenUpd Am (λk hk=>by have Af:k=Ab:=hk;omega);have C7:=Bw.thenUpd Am (λk hk=>by have Af:k=Ab:=hk;omega);have C8:=Bx.updLo Am AOq;have B1:=Ae.updLo Am AOq;refine AOz<|AO6<|⟨_,Ai3 Aip rfl rfl By,?_⟩;exact ⟨Bz,⟨Ad,s2,L2,rfl,B1.mono AOq,Av,Aw,by rw [<- Ax,Ah];first | exact A0x (eq_of_beq<|by assumption) | exact A0y (ne_of_beq_false<|by assumption) (Aw0<|by assumption) | exact Aym (ne_of_beq_false<|by assumption)<|A0w<|by assumption⟩⟩
 ·refine AO1<|Ahp rfl (AOv<|AOr<|AOr<|AOr<|Ahq trivial rfl (A83 (HA.ext E4) (HB.ext E4) AOq AOq) λC9 Da hk=>?_);obtain ⟨Az,L1,Ac,Ag,Ah,A6⟩:=hk;refine ⟨trivial,?_⟩;have Db:=Az.1;have B3:=Z8.trans Az;have B4:=E4.trans Az;have B5:=V3.ext Az;have B6:=E4.trans Az;refine Ahq trivial rfl (Ari na Ac Ag<|At6 Ag (by rw [Ah];exact A68 HA.dig HB.dig hna hnb)) λDc Dd hk=>?_;obtain ⟨Ao,Ar⟩:=hk;refine ⟨trivial,?_⟩;have De:=Ao.1;have B7:=B3.trans Ao;have B8:=B4.trans Ao;have B9:=B5.ext Ao;have Ca:=B6.trans Ao;have Cb:=Ac.ext Ao;obtain ⟨Ad,s2,L2,rfl,Ae,Av,Aw,Ax⟩:=Ar.out;refine Ai5 [.bool Ad,s2] Aip rfl rfl rfl rfl (Aqt Ae.cap) B9 λDf Cd Ap=>?_;have Ce:=B8.thenUpd Ap (λk hk=>by have Af:k=Ab:=hk;omega);have Dg:=Ap.1;have Dh:=B7.thenUpd Ap (λk hk=>by have Af:k=Ab:=hk;omega);have Di:=Ca.thenUpd Ap (λk hk=>by have Af:k=Ab:=hk;omega);have Dj:=Cb.updLo Ap AOq;have Cf:=Ae.updLo Ap AOq;refine AOz<|AO6<|Ail<|Ag7<|⟨_,Ai3 Aip rfl rfl Cd,?_⟩;exact ⟨Ce,⟨Ad,s2,L2,rfl,Cf.mono AOq,Av,Aw,by rw [<- Ax,Ah];first | exact A0x (eq_of_beq<|by assumption) | exact A0y (ne_of_beq_false<|by assumption) (Aw0<|by assumption) | exact Aym (ne_of_beq_false<|by assumption)<|A0w<|by assumption⟩⟩
theorem Amw {ng:Bool} {n:Nat} {z:Int} (h:z=sgn ng n):z.natAbs=n:=by
 subst h;cases ng <;> simp [sgn]
theorem BEv (ng:Bool) (n:Nat):sgn (!ng) n= -sgn ng n:=by cases ng <;> simp [sgn]
theorem Sub_ok {a b:Int} (HA:ZV h la va a) (HB:ZV h lb vb b) (hba:a.natAbs < 4294967296 ^ 99) (hbb:b.natAbs < 4294967296 ^ 99):Ahs Tryz.prog 189 #[va,vb] h λx h'=>Ext h h'/\ZV h' (Array.size h) x (a - b):=by
 obtain ⟨na,sa,LA,rfl,HDa,htla,hla,hza⟩:=HA.out;obtain ⟨nb,sb,LB,rfl,HDb,htlb,hlb,hzb⟩:=HB.out;refine Aie (l:=[_,_]) mx Tryz.func189 rfl rfl rfl rfl rfl AO4 (AOv<|Aqx [.bool na,sa] (λ_=>trivial) rfl rfl λAj h2 V3 E4 A8 B3=>?_);have B4:Array.size h<=Aj:=A8;have B5:=E4.1;have Z8:=(Ext.refl h).trans E4;refine Aqx [.bool nb,sb] (λ_=>trivial) rfl rfl λAk B6 Ar Af Ba B7=>?_;have B8:Array.size h<=Ak:=Nat.le_trans E4.1 Ba;have nebq1bq9:Aj≠Ak:=by have:=V3.lt;omega
 have B9:=Af.1;have Au:=E4.trans Af;have Av:=V3.ext Af;refine Aov [.bool false,.slice none 0 0] Ams rfl (λ_=>trivial) λAb Ah Bb Ac Bc Ca=>?_;have Cb:Array.size h<=Ab:=Nat.le_trans Au.1 Bc;have nebq1bq20:Aj≠Ab:=by have:=Av.lt;omega
 have nebq9bq20:Ak≠Ab:=by have:=Ar.lt;omega
 have Cd:=Ac.1;have Be:=(Z8.trans Af).trans Ac;have Am:=Au.trans Ac;have Aw:=Av.ext Ac;have Bf:=(E4.trans Af).trans Ac;have Ax:=Ar.ext Ac;have Bg:=Af.trans Ac;refine AOz<|AOx<|Ai1 (λh'=>Ext Ah h') AO4 ?_;have Aa:=Ext.refl Ah;refine Anh (fs:=1) As7 AO4 AOs rfl (Ahm Als rfl Aa (λh' hb=>(Aw.ext hb).cell (i:=0) rfl) (Anh (fs:=1) Atv AO4 AOs rfl (Ahm Apj rfl Aa (λh' hb=>(Aw.ext hb).cell (i:=1) rfl) (Ahq Aa rfl (Aue (DS.mono (HDa.ext Am)<|Nat.zero_le _) AOq) λCe Ah hk=>?_))));obtain ⟨rfl,L1,Ao,Ay⟩:=hk;refine ⟨Aa,?_⟩;have Bh:=Ao.ds (lo:=la) HDa.lo;have Az:=Ao.val;have Cg:=Ao.len;refine Anh (fs:=1) As7 AO4 AOs rfl (Ahm Als rfl Aa (λh' hb=>(Ax.ext hb).cell (i:=0) rfl) (Akc rfl (Anh (fs:=1) Atv AO4 AOs rfl (Ahm Apj rfl Aa (λh' hb=>(Ax.ext hb).cell (i:=1) rfl) (Ahq Aa rfl (Aue (DS.mono (HDb.ext Am)<|Nat.zero_le _) AOq) λCh Ah hk=>?_)))));obtain ⟨rfl,L2,Ap,A3⟩:=hk;refine ⟨Aa,?_⟩;have Bi:=Ap.ds (lo:=lb) HDb.lo;have A4:=Ap.val;have Cj:=Ap.len;refine Ahq Aa rfl (A98 na (!nb) Bh Bi Ay A3 (At6 Ay (by rw [Az,<- Amw hza];exact hba))<|At6 A3 (by rw [A4,<- Amw hzb];exact hbb)) λCk Cm hk=>?_;obtain ⟨Ad,Bj⟩:=hk;have Bl:=Aa.trans Ad;refine ⟨Bl,?_⟩;have Cn:=Ad.1;have Bm:=Be.trans Ad;have Bn:=Am.trans Ad;have Bo:=Bf.trans Ad;have Bp:=Bg.trans Ad;have Bq:=Bb.ext Ad;have Br:=Ac.trans Ad;obtain ⟨A5,s3,L3,rfl,A7,Bu,Bv,Bw⟩:=Bj.out;refine Ai5 [.bool A5,s3] Aip rfl rfl rfl rfl (Aqt A7.cap) Bq λCo Bx Ae=>?_;have By:=Bn.thenUpd Ae (λk hk=>by have Ai:k=Ab:=hk;omega);have Cp:=Ae.1;have Cq:=Bm.thenUpd Ae (λk hk=>by have Ai:k=Ab:=hk;omega);have Cr:=Br.thenUpd Ae (λk hk=>by have Ai:k=Ab:=hk;omega);have Ct:=Bo.thenUpd Ae (λk hk=>by have Ai:k=Ab:=hk;omega);have Cu:=Bp.thenUpd Ae (λk hk=>by have Ai:k=Ab:=hk;omega);have Bz:=A7.updLo Ae AOq;refine AOz<|AO6<|⟨_,Ai3 Aip rfl rfl Bx,?_⟩;exact ⟨By,⟨A5,s3,L3,rfl,Bz.mono AOq,Bu,Bv,by rw [<- Bw,Az,A4,hza,hzb,BEv];omega⟩⟩
theorem A9r (a b:Bool) (x y:Nat):sgn a x * sgn b y=sgn (!(a == b)) (x * y):=by
 cases a <;> cases b <;> simp [sgn,Int.neg_mul,Int.mul_neg]
theorem BDb {L:List Nat} (h:Dig L) (hl:L.length<=2):nv L < 18446744073709551616:=by
 have h1:=Au2 h;have h2:4294967296 ^ L.length<=4294967296 ^ 2:=Nat.pow_le_pow_right AOs hl;omega
theorem A4h {b:Nat} (h:Au9 a b < 0):a < b:=by
 unfold Au9 at h;omega
theorem BDr (HA:DS h la va LA) (HB:DS h lb vb LB) (hta:TL LA) (htb:TL LB) (Ar:nv LB≠0) (hna:LA.length<=2) (hnb:LB.length<=2):Ahs Tryz.prog 193 #[va,vb] h λx h'=>Ext h h'/\ ∃ q r,x= .tuple #[q,r]/\ ∃ LQ LR,DS h' (Array.size h) q LQ/\DS h' (Array.size h) r LR/\TL LQ/\TL LR/\nv LQ=nv LA / nv LB/\nv LR=nv LA % nv LB/\LQ.length<=2/\LR.length<=2:=by
 refine Aie (l:=[_,_]) mx Tryz.func193 rfl rfl rfl rfl rfl AO4 (AOv<|Aho<|AO1<|AOx<|AO0<|AOv<|AOr<|AOr<|Ahq trivial rfl (A3f HA HB hta htb AOq AOq) λx1 h hk=>?_);obtain ⟨rfl,rfl⟩:=hk;refine ⟨trivial,?_⟩;refine Amf rfl rfl (λAm=>?_) (λAm=>?_)
 ·refine AO1<|Ahp rfl (AOv<|AOr<|Ahq trivial rfl (A49 HA AOq) λx2 h3 hk=>?_);obtain ⟨E4,Aa⟩:=hk;refine ⟨trivial,?_⟩;have Ax:=E4.1;have Z6:=(Ext.refl h).trans E4;refine Aho (AO1<|AO6<|Ail<|Ag7<|⟨_,Aiz,?_⟩)
  first
  | (have hlt:=A4h (by assumption:Au9 (nv LA) (nv LB) < 0)
     exact ⟨E4,_,_,rfl,[],LA,Ayh _ _,Aa,Azn,hta,by rw [Nat.div_eq_of_lt hlt];rfl,by rw [Nat.mod_eq_of_lt hlt],Ah6,AOq⟩)
  | exact ⟨E4,_,_,rfl,L1,L2,lacks_HD1.mono AOq,Aa.mono AOq,Ag,Ah,Ai,Aj,AOq,AOq⟩
 ·refine AO1<|Aht rfl (AOv<|AOr<|Ai4 Ahl rfl HA (Azz rfl rfl (λ_=>?_) (λhc=>absurd hc AOq)));refine AO1<|Ahp rfl (AOv<|AOr<|Ahq trivial rfl (A6g HA AOq) λx7 h hk=>?_);obtain ⟨rfl,rfl⟩:=hk;refine ⟨trivial,?_⟩;refine AOr<|Ahq trivial rfl (A6g HB AOq) λx8 h hk=>?_;obtain ⟨rfl,rfl⟩:=hk;refine ⟨trivial,?_⟩;refine Aho<|AO1<|AOx ?_;have hlt:=BDb HA.dig hna;refine Ayd AO4<|AOr<|AOr<|Avu rfl rfl AOq ?_;rw [show IntKind.u64.wrap (((nv LA:Nat):Int).tdiv ((nv LB:Nat):Int))=((nv LA / nv LB:Nat):Int) by rw [Int.tdiv_eq_ediv_of_nonneg AOq,<- Int.natCast_ediv,wrap_u64];have hq:=Nat.div_le_self (nv LA)<|nv LB;generalize nv LA / nv LB=q at hq ⊢;omega];refine Ahq trivial rfl (Axf (nv LA / nv LB) (by have:=Nat.div_le_self (nv LA)<|nv LB;omega) _) λx9 A5 hk=>?_;obtain ⟨Ad,L1,Ao,Ag,Ai,A6⟩:=hk;refine ⟨trivial,?_⟩;have A7:=Ad.1;have Ap:=(Ext.refl h).trans Ad;refine AOr<|AOr<|BIj rfl rfl AOq (Ahq trivial rfl (Axf (nv LA % nv LB) (by have:=Nat.mod_le (nv LA)<|nv LB;omega) _) λA8 A9 hk=>?_);obtain ⟨Ac,L2,Aa,Ah,Aj,Ba⟩:=hk;refine ⟨trivial,?_⟩;have Bb:=Ac.1;have Bc:=Ap.trans Ac;have Ak:=Ad.trans Ac;have Aq:=Ao.ext Ac;refine Aho (AO1<|AO6<|Ail<|Ag7<|⟨_,Aiz,?_⟩)
  first
  | (have hlt:=A4h (by assumption:Au9 (nv LA) (nv LB) < 0)
     exact ⟨Ak,_,_,rfl,[],LA,Ayh _ _,Aa,Azn,hta,by rw [Nat.div_eq_of_lt hlt];rfl,by rw [Nat.mod_eq_of_lt hlt],Ah6,AOq⟩)
  | exact ⟨Ak,_,_,rfl,L1,L2,Aq.mono AOq,Aa.mono AOq,Ag,Ah,Ai,Aj,AOq,AOq⟩
theorem At5 {a b r:Int} (hb:b≠0) (h:a=b * q + r) (h0:0<=r) (h1:r < b.natAbs):a / b=q/\a % b=r:=by
 have hr:r % b=r:=by
  rcases A3c 0 b with hp | hn
  ·exact Int.emod_eq_of_lt h0 AOq
  ·rw [<- Int.emod_neg];exact Int.emod_eq_of_lt h0 AOq
 have hm:a % b=r:=by simp_all
 refine ⟨?_,hm⟩;have h2:=Int.mul_ediv_add_emod a b;rw [hm] at h2;have h3:b * (a / b)=b * q:=by omega
 exact Int.eq_of_mul_eq_mul_left hb h3
theorem BPu {A B:Nat} (hA:A < 18446744073709551616) (hr:A % B≠0):A / B + 1 < 18446744073709551616:=by
 match B with
 | 0=>simp
 | 1=>omega
 | n + 2=>
   have:A / (n + 2)<=A / 2:=Nat.div_le_div_left (show 2<=n + 2 by omega) AOq
   omega
theorem BPv {nb:Bool} {A B:Nat} (hB:B≠0):sgn nb (A / B)=(A:Int) / sgn nb B/\sgn false (A % B)=(A:Int) % sgn nb B:=by
 have h:=Nat.div_add_mod A B;have hl:=Nat.mod_lt A<|Nat.pos_of_ne_zero hB;have h2:(A:Int)=(B:Int) * ((A / B:Nat):Int) + ((A % B:Nat):Int):=by omega
 have:=At5 (a:=A) (b:=sgn nb B) (q:=sgn nb<|A / B) (r:=((A % B:Nat):Int)) (by cases nb <;> simp [sgn] <;> omega) (by cases nb <;> simp only [sgn] <;> simp [Int.neg_mul_neg] <;> (rw [<- Int.natCast_ediv,<- Int.natCast_emod];exact h2)) AOq (by cases nb <;> simp only [sgn] <;> simp <;> omega);exact ⟨this.1.symm,this.2.symm⟩
theorem BM5 {nb:Bool} {A B:Nat} (hB:B≠0) (hr:A % B≠0):sgn (!nb) (A / B + 1)= -(A:Int) / sgn nb B/\sgn false (B - A % B)= -(A:Int) % sgn nb B:=by
 have h:=Nat.div_add_mod A B;have hl:=Nat.mod_lt A<|Nat.pos_of_ne_zero hB;have h2:(A:Int)=(B:Int) * ((A / B:Nat):Int) + ((A % B:Nat):Int):=by omega
 obtain ⟨q,hq⟩:∃ q,A / B=q:=⟨_,rfl⟩;obtain ⟨r,hrr⟩:∃ r,A % B=r:=⟨_,rfl⟩;rw [hq,hrr] at h2;rw [hrr] at hl hr;rw [hq,hrr];have e:((B - r:Nat):Int)=(B:Int) - (r:Int):=by omega
 have:=At5 (a:= -(A:Int)) (b:=sgn nb B) (q:=sgn (!nb)<|q + 1) (r:=((B - r:Nat):Int)) (by cases nb <;> simp [sgn] <;> omega) (by rw [h2,e];cases nb <;> simp [sgn] <;> grind) AOq (by cases nb <;> simp only [sgn] <;> simp <;> omega);exact ⟨this.1.symm,this.2.symm⟩
theorem BM6 {nb:Bool} {A B:Nat} (hB:B≠0) (hr:A % B=0):sgn (!nb) (A / B)= -(A:Int) / sgn nb B/\sgn false (A % B)= -(A:Int) % sgn nb B:=by
 have h:=Nat.div_add_mod A B;have h2:(A:Int)=(B:Int) * ((A / B:Nat):Int):=by omega
 obtain ⟨q,hq⟩:∃ q,A / B=q:=⟨_,rfl⟩;rw [hq] at h2;rw [hq,hr];have:=At5 (a:= -(A:Int)) (b:=sgn nb B) (q:=sgn (!nb) q) (r:=0) (by cases nb <;> simp [sgn] <;> omega) (by rw [h2];cases nb <;> simp [sgn] <;> grind) AOq (by cases nb <;> simp only [sgn] <;> simp <;> omega);exact ⟨this.1.symm,this.2.symm⟩
theorem DivMod2_ok {a b:Int} (HA:ZV h la va a) (HB:ZV h lb vb b) (hba:a.natAbs < 18446744073709551616) (hbb:b.natAbs < 18446744073709551616) (C6:b≠0):Ahs Tryz.prog 158 #[va,vb] h λx h'=>Ext h h'/\ ∃ q r,x= .tuple #[q,r,.bool true]/\ZV h' (Array.size h) q (a / b)/\ZV h' (Array.size h) r (a % b):=by
 obtain ⟨na,sa,LA,rfl,HDa,htla,hla,hza⟩:=HA.out;obtain ⟨nb,sb,LB,rfl,HDb,htlb,hlb,hzb⟩:=HB.out;refine Aie (l:=[_,_]) mx Tryz.func158 rfl rfl rfl rfl rfl AO4 (AOv<|Aqx [.bool na,sa] (λ_=>trivial) rfl rfl λA6 h2 V3 E4 C7 C8=>?_);have Ho:Array.size h<=A6:=C7;have Hq:=E4.1;have Z8:=(Ext.refl h).trans E4;refine Aqx [.bool nb,sb] (λ_=>trivial) rfl rfl λA7 Hr Bc Ba Da Hs=>?_;have Ht:Array.size h<=A7:=Nat.le_trans E4.1 Da;have nebq1bq9:A6≠A7:=by have:=V3.lt;omega
 have Hu:=Ba.1;have Ch:=E4.trans Ba;have Be:=V3.ext Ba;refine Aov [.bool false,.slice none 0 0] Ams rfl (λ_=>trivial) λAc Hv Ci Ay Db Hw=>?_;have Hx:Array.size h<=Ac:=Nat.le_trans Ch.1 Db;have nebq1bq20:A6≠Ac:=by have:=Be.lt;omega
 have nebq9bq20:A7≠Ac:=by have:=Bc.lt;omega
 have Hy:=Ay.1;have Dc:=(Z8.trans Ba).trans Ay;have Cj:=Ch.trans Ay;have Ck:=Be.ext Ay;have Dd:=(E4.trans Ba).trans Ay;have Cm:=Bc.ext Ay;refine Aov [.bool false,.slice none 0 0] Ams rfl (λ_=>trivial) λAa Cn De Ax Df Hz=>?_;have H5:Array.size h<=Aa:=Nat.le_trans Cj.1 Df;have nebq1bq33:A6≠Aa:=by have:=Ck.lt;omega
 have nebq9bq33:A7≠Aa:=by have:=Cm.lt;omega
 have nebq20bq33:Ac≠Aa:=by have:=Ci.lt;omega
 have Ia:=Ax.1;have Dg:=Dc.trans Ax;have Bv:=Cj.trans Ax;have Co:=Ck.ext Ax;have Dh:=Dd.trans Ax;have Cp:=Cm.ext Ax;have Di:=(Ba.trans Ay).trans Ax;have Dj:=Ci.ext Ax;have Dk:=Ay.trans Ax;refine Ah7<|Anh (fs:=1) Atv AO4 AOs rfl (Ahu Apj rfl (Cp.cell (i:=1) rfl) (Ahq trivial rfl (Aue (DS.mono (HDb.ext Bv)<|Nat.zero_le _) AOq) λIb Cn hk=>?_));obtain ⟨rfl,L2,Bw,Bx⟩:=hk;refine ⟨trivial,?_⟩;have By:=Bw.ds (lo:=lb) HDb.lo;have A8:=Bw.val;have Ic:=Bw.len;refine AO1<|AOx<|AOv<|AOr<|Ai4 Ahl rfl By ?_;have Bf:nv LB≠0:=λh0=>C6 (by rw [hzb,h0];cases nb <;> rfl);have hLB:L2≠[]:=λh0=>Bf (by rw [<- A8,h0];rfl);have hLp:=List.length_pos_iff.2 hLB;refine Az0 rfl rfl (λhc=>absurd hc AOq) (λ_=>AOz<|Aht rfl (AO5<|q_t<|AOv<|Anh (fs:=1) Atv AO4 AOs rfl (Ahu Apj rfl (Co.cell (i:=1) rfl) (Ahq trivial rfl (Aue (DS.mono (HDa.ext Bv)<|Nat.zero_le _) AOq) λId Cn hk=>?_))));obtain ⟨rfl,L1,Bz,Cr⟩:=hk;refine ⟨trivial,?_⟩;have Ct:=Bz.ds (lo:=la) HDa.lo;have Cu:=Bz.val;have If:=Bz.len;refine AOr<|Ahq trivial rfl (BDr Ct By Cr Bx (by rw [A8];exact Bf) (At6 Cr (by rw [Cu,<- Amw hza];omega))<|At6 Bx (by rw [A8,<- Amw hzb];omega)) λIh Ii hk=>?_;obtain ⟨Am,qv,rv,rfl,LQ,LR,HQ,HR,htq,htr,hvq,hvr,hlq,hlr⟩:=hk;refine ⟨trivial,?_⟩;have Ij:=Am.1;have B1:=Dg.trans Am;have B3:=Bv.trans Am;have B4:=Co.ext Am;have B5:=Dh.trans Am;have Dl:=Cp.ext Am;have B6:=Di.trans Am;have B7:=Dj.ext Am;have B8:=Dk.trans Am;have B9:=De.ext Am;have Ca:=By.ext Am;have Cb:=Ct.ext Am;rw [Cu,A8] at hvq hvr;have Ik:L2.length<=2:=At6 Bx (by rw [A8,<- Amw hzb];omega);refine AOr<|Ait rfl rfl (Ait rfl rfl (Aho<|Ah7<|Anh (fs:=1) As7 AO4 AOs rfl (Ahu Als rfl (Dl.cell (i:=0) rfl) (AO1<|AOx<|AO0<|AOx<|AO0<|AOx<|AO0<|AOx<|AOx<|AOx ?_))));have hrl:LR.length=0↔nv LA % nv LB=0:=⟨λh0=>by rw [<- hvr,List.length_eq_zero_iff.1 h0];rfl,λh0=>by rw [Aoy htr<|hvr.trans h0];rfl⟩;refine Ag6<|Anh (fs:=1) As7 AO4 AOs rfl (Ahu Als rfl (B4.cell (i:=0) rfl) ?_);cases Bg:na
 ·refine AOr<|Aiq 32 false AO4 rfl rfl (Aiq 32 false AO4 rfl rfl (Aiq 32 false AO4 rfl rfl (APd rfl (AO1<|Aht rfl (AO5<|q_t<|AOv<|Anh (fs:=1) As7 AO4 AOs rfl (Ahu Als rfl (B4.cell (i:=0) rfl) ?_))))));rw [Bg];refine AO1<|Aht rfl (AO5<|q_t<|Ahf<|A9e AOs<|Ahg<|A9e AOs<|Ahg<|Aio<|q_t<|AOv<|AOr<|AOr<|Ahq trivial rfl (Ari nb HQ htq AOq) λIl Im hk=>?_);obtain ⟨Ao,Bh⟩:=hk;refine ⟨trivial,?_⟩;have Io:=Ao.1;have Do:=B1.trans Ao;have Dp:=B3.trans Ao;have Dq:=B5.trans Ao;have Dr:=B6.trans Ao;have Ds:=B7.ext Ao;have Dt:=B8.trans Ao;have Du:=B9.ext Ao;have Ip:=Ca.ext Ao;have Iq:=Cb.ext Ao;have HQ_82:=HQ.ext Ao;have HR_83:=HR.ext Ao;obtain ⟨Az,s7,L7,rfl,Bj,Bl,Bm,Bn⟩:=Bh.out;refine AOr<|Ahq trivial rfl (Ari false HR_83 htr AOq) λIr Is hk=>?_;obtain ⟨Ar,Bo⟩:=hk;refine ⟨trivial,?_⟩;have It:=Ar.1;have Dv:=Do.trans Ar;have Dw:=Dp.trans Ar;have Dx:=Dq.trans Ar;have Dy:=Dr.trans Ar;have Dz:=Ds.ext Ar;have D0:=Dt.trans Ar;have D1:=Du.ext Ar;have HQ_98:=HQ_82.ext Ar;have HR_99:=HR_83.ext Ar;have Cv:=Bj.ext Ar;obtain ⟨A4,s8,L8,rfl,Bq,Br,Bt,Bu⟩:=Bo.out;refine Ai5 [.bool Az,s7] Aip rfl rfl rfl rfl (Aqt Cv.cap) Dz λIu D2 Au=>?_;have D3:=Dw.thenUpd Au (λk hk=>by have Ab:k=Ac:=hk;omega);have Iv:=Au.1;have D4:=Dv.thenUpd Au (λk hk=>by have Ab:k=Ac:=hk;omega);have Cd:=D0.thenUpd Au (λk hk=>by have Ab:k=Ac:=hk;omega);have D5:=Dx.thenUpd Au (λk hk=>by have Ab:k=Ac:=hk;omega);have D6:=Dy.thenUpd Au (λk hk=>by have Ab:k=Ac:=hk;omega);have D7:=D1.upd Au λhe=>(Ne.symm nebq20bq33) (he:Aa=Ac);have HQ_113:=HQ_98.updLo Au AOq;have HR_114:=HR_99.updLo Au AOq;have D8:=Cv.updLo Au AOq;have Cw:=Bq.updLo Au AOq;refine Ai5 [.bool A4,s8] Aip rfl rfl rfl rfl (Aqt Cw.cap) D7 λIw D9 Ag=>?_;have Ea:=D3.thenUpd Ag (λk hk=>by have Ab:k=Aa:=hk;omega);have Ix:=Ag.1;have Iy:=D4.thenUpd Ag (λk hk=>by have Ab:k=Aa:=hk;omega);have Iz:=(Be.ext Cd).upd Ag (λhe=>nebq1bq33 (he:A6=Aa));have I0:=D5.thenUpd Ag (λk hk=>by have Ab:k=Aa:=hk;omega);have I1:=(Bc.ext Cd).upd Ag (λhe=>nebq9bq33 (he:A7=Aa));have I2:=D6.thenUpd Ag (λk hk=>by have Ab:k=Aa:=hk;omega);have Eb:=D2.upd Ag λhe=>nebq20bq33 (he:Ac=Aa);have I3:=Cd.thenUpd Ag (λk hk=>by have Ab:k=Aa:=hk;omega);have HQ_129:=HQ_113.updLo Ag AOq;have HR_130:=HR_114.updLo Ag AOq;have Ec:=D8.updLo Ag AOq;have Ed:=Cw.updLo Ag AOq;refine AO1<|AO6<|⟨_,Awe Aip rfl rfl Eb Aip rfl rfl D9,?_⟩;have hk:=BPv (nb:=nb) (A:=nv LA) Bf;have ea:a=((nv LA:Nat):Int):=by rw [hza,Bg];rfl
  exact ⟨Ea,_,_,rfl,⟨Az,s7,L7,rfl,Ec.mono AOq,Bl,Bm,by rw [<- Bn,hvq,ea,hzb];exact hk.1.symm⟩,⟨A4,s8,L8,rfl,Ed.mono AOq,Br,Bt,by rw [<- Bu,hvr,ea,hzb];exact hk.2.symm⟩⟩
 ·refine AOr<|Aix 32 true AO4 rfl rfl (AOr<|Aix 32 true AO4 rfl rfl (Ai4 Ahl rfl HR (Aix 32 true AO4 rfl rfl (Aye rfl rfl (λEe=>?_) (λEe=>?_)))))
  ·refine Ahc rfl (AO1<|Ahp rfl (Ahf<|Ahg<|Ahg<|Aio<|q_t<|AOv<|AOr<|BIs [Avb 1] Ahl Atf rfl (λ_=>trivial) rfl AOq AOq rfl (by simp [Avb,isOne]) λg8 v8 h8 Eh E8 I7 I9=>?_));have Ja:=E8.1;have Ei:=B1.trans E8;have Ej:=B3.trans E8;have Ek:=B5.trans E8;have El:=B6.trans E8;have Em:=B7.ext E8;have En:=B8.trans E8;have Eo:=B9.ext E8;have Ep:=Ca.ext E8;have Er:=Cb.ext E8;have HQ_146:=HQ.ext E8;have HR_147:=HR.ext E8;have HDu:DS h8 0 v8 [1]:=Ali.ds (L:=[1]) Eh (by intro x hx;rw [List.mem_singleton.1 hx];decide)<|Nat.zero_le _;refine Ahq trivial rfl (A83 HQ_146 HDu AOq Ah6) λJc Je hk=>?_;obtain ⟨Ah,L5,Et,Cx,Cy,Jf⟩:=hk;refine ⟨trivial,?_⟩;have Jg:=Ah.1;have Eu:=Ei.trans Ah;have Ev:=Ej.trans Ah;have Ew:=Ek.trans Ah;have Ey:=El.trans Ah;have Ez:=Em.ext Ah;have Fa:=En.trans Ah;have Fb:=Eo.ext Ah;have Cz:=Ep.ext Ah;have Fc:=Er.ext Ah;have HQ_164:=HQ_146.ext Ah;have HR_165:=HR_147.ext Ah;have HDu_166:=HDu.ext Ah;refine AO1<|Ag6<|AOr<|AOr<|Ahq trivial rfl (A5a Cz HR_165 htr (by rw [hvr,A8];exact Nat.le_of_lt<|Nat.mod_lt _ AOq) AOq) λJh Ji hk=>?_;obtain ⟨Af,L6,Fd,Fe,Ff,C8⟩:=hk;refine ⟨trivial,?_⟩;have Jk:=Af.1;have Fg:=Eu.trans Af;have Fh:=Ev.trans Af;have Fi:=Ew.trans Af;have Fj:=Ey.trans Af;have Fk:=Ez.ext Af;have Fl:=Fa.trans Af;have Fm:=Fb.ext Af;have Fo:=Cz.ext Af;have Fp:=Fc.ext Af;have HQ_183:=HQ_164.ext Af;have HR_184:=HR_165.ext Af;have HDu_185:=HDu_166.ext Af;have C0:=Et.ext Af;refine Aho<|Ahh<|q_b<|q_t<|AOv<|AOr<|Akc rfl (AO1<|Ahf<|Aio<|q_t<|AOv<|AOr<|AOr<|Ahq trivial rfl (Ari (!nb) C0 Cx (by have h5:L5.length<=2:=At6 Cx (by rw [Cy,hvq];exact BPu (A:=nv LA) (B:=nv LB) (by rw [<- Amw hza];exact hba) AOq);omega)) λJm Jn hk=>?_);obtain ⟨Ad,Bh⟩:=hk;refine ⟨trivial,?_⟩;have Jo:=Ad.1;have Fq:=Fg.trans Ad;have Fr:=Fh.trans Ad;have Ft:=Fi.trans Ad;have Fu:=Fj.trans Ad;have Fv:=Fk.ext Ad;have Fw:=Fl.trans Ad;have Fx:=Fm.ext Ad;have Jp:=Fo.ext Ad;have Jq:=Fp.ext Ad;have HQ_203:=HQ_183.ext Ad;have HR_204:=HR_184.ext Ad;have HDu_205:=HDu_185.ext Ad;have Fy:=C0.ext Ad;have C1:=Fd.ext Ad;obtain ⟨Az,s7,L7,rfl,Bj,Bl,Bm,Bn⟩:=Bh.out;refine AOr<|Ahq trivial rfl (Ari false C1 Fe AOq) λJr Js hk=>?_;obtain ⟨Ai,Bo⟩:=hk;refine ⟨trivial,?_⟩;have Jt:=Ai.1;have Fz:=Fq.trans Ai;have F4:=Fr.trans Ai;have F5:=Ft.trans Ai;have F6:=Fu.trans Ai;have F7:=Fv.ext Ai;have F8:=Fw.trans Ai;have F9:=Fx.ext Ai;have HQ_222:=HQ_203.ext Ai;have HR_223:=HR_204.ext Ai;have Ga:=Fy.ext Ai;have Gb:=C1.ext Ai;have C2:=Bj.ext Ai;obtain ⟨A4,s8,L8,rfl,Bq,Br,Bt,Bu⟩:=Bo.out;refine Ai5 [.bool Az,s7] Aip rfl rfl rfl rfl (Aqt C2.cap) F7 λJu Gc Aj=>?_;have Gd:=F4.thenUpd Aj (λk hk=>by have Ab:k=Ac:=hk;omega);have Jv:=Aj.1;have Ge:=Fz.thenUpd Aj (λk hk=>by have Ab:k=Ac:=hk;omega);have Ce:=F8.thenUpd Aj (λk hk=>by have Ab:k=Ac:=hk;omega);have Gf:=F5.thenUpd Aj (λk hk=>by have Ab:k=Ac:=hk;omega);have Gg:=F6.thenUpd Aj (λk hk=>by have Ab:k=Ac:=hk;omega);have Gh:=F9.upd Aj λhe=>(Ne.symm nebq20bq33) (he:Aa=Ac);have HQ_239:=HQ_222.updLo Aj AOq;have HR_240:=HR_223.updLo Aj AOq;have Gi:=Ga.updLo Aj AOq;have Gj:=Gb.updLo Aj AOq;have Gk:=C2.updLo Aj AOq;have C3:=Bq.updLo Aj AOq;refine Ai5 [.bool A4,s8] Aip rfl rfl rfl rfl (Aqt C3.cap) Gh λJw Gl Ae=>?_;have Gm:=Gd.thenUpd Ae (λk hk=>by have Ab:k=Aa:=hk;omega);have Jx:=Ae.1;have Jy:=Ge.thenUpd Ae (λk hk=>by have Ab:k=Aa:=hk;omega);have Jz:=(Be.ext Ce).upd Ae (λhe=>nebq1bq33 (he:A6=Aa));have J0:=Gf.thenUpd Ae (λk hk=>by have Ab:k=Aa:=hk;omega);have J1:=(Bc.ext Ce).upd Ae (λhe=>nebq9bq33 (he:A7=Aa));have J2:=Gg.thenUpd Ae (λk hk=>by have Ab:k=Aa:=hk;omega);have Gn:=Gc.upd Ae λhe=>nebq20bq33 (he:Ac=Aa);have J3:=Ce.thenUpd Ae (λk hk=>by have Ab:k=Aa:=hk;omega);have HQ_257:=HQ_239.updLo Ae AOq;have HR_258:=HR_240.updLo Ae AOq;have J4:=Gi.updLo Ae AOq;have J5:=Gj.updLo Ae AOq;have Gp:=Gk.updLo Ae AOq;have Gq:=C3.updLo Ae AOq;refine AO1<|AO6<|⟨_,Awe Aip rfl rfl Gn Aip rfl rfl Gl,?_⟩;have hk:=BM5 (nb:=nb) (A:=nv LA) Bf AOq;have ea:a= -((nv LA:Nat):Int):=by rw [hza,Bg];rfl
   exact ⟨Gm,_,_,rfl,⟨Az,s7,L7,rfl,Gp.mono AOq,Bl,Bm,by rw [<- Bn,Cy,hvq,ea,hzb];exact hk.1.symm⟩,⟨A4,s8,L8,rfl,Gq.mono AOq,Br,Bt,by rw [<- Bu,Ff,A8,hvr,ea,hzb];exact hk.2.symm⟩⟩
  ·refine Ahc rfl (AO1<|Aht rfl (AO5<|q_t<|AOv<|Anh (fs:=1) As7 AO4 AOs rfl (Ahu Als rfl (B4.cell (i:=0) rfl) ?_)));rw [Bg];refine AO1<|Ahp rfl (Ahf<|Ahg<|A9e AOs<|Ahg<|Aio<|q_t<|AOv<|AOr<|Akc rfl (AO1<|Ahf<|Aio<|q_t<|AOv<|AOr<|AOr<|Ahq trivial rfl (Ari (!nb) HQ htq AOq) λJ6 J7 hk=>?_));obtain ⟨Aq,Bh⟩:=hk;refine ⟨trivial,?_⟩;have J8:=Aq.1;have Gr:=B1.trans Aq;have Gt:=B3.trans Aq;have Gu:=B5.trans Aq;have Gv:=B6.trans Aq;have Gw:=B7.ext Aq;have Gx:=B8.trans Aq;have Gy:=B9.ext Aq;have J9:=Ca.ext Aq;have Ka:=Cb.ext Aq;have HQ_279:=HQ.ext Aq;have HR_280:=HR.ext Aq;obtain ⟨Az,s7,L7,rfl,Bj,Bl,Bm,Bn⟩:=Bh.out;refine AOr<|Ahq trivial rfl (Ari false HR_280 htr AOq) λKb Kc hk=>?_;obtain ⟨Av,Bo⟩:=hk;refine ⟨trivial,?_⟩;have Kd:=Av.1;have Gz:=Gr.trans Av;have G3:=Gt.trans Av;have G4:=Gu.trans Av;have G5:=Gv.trans Av;have G6:=Gw.ext Av;have G7:=Gx.trans Av;have G8:=Gy.ext Av;have HQ_295:=HQ_279.ext Av;have HR_296:=HR_280.ext Av;have C4:=Bj.ext Av;obtain ⟨A4,s8,L8,rfl,Bq,Br,Bt,Bu⟩:=Bo.out;refine Ai5 [.bool Az,s7] Aip rfl rfl rfl rfl (Aqt C4.cap) G6 λKe G9 Aw=>?_;have Hb:=G3.thenUpd Aw (λk hk=>by have Ab:k=Ac:=hk;omega);have Kf:=Aw.1;have Hc:=Gz.thenUpd Aw (λk hk=>by have Ab:k=Ac:=hk;omega);have Cf:=G7.thenUpd Aw (λk hk=>by have Ab:k=Ac:=hk;omega);have Hd:=G4.thenUpd Aw (λk hk=>by have Ab:k=Ac:=hk;omega);have He:=G5.thenUpd Aw (λk hk=>by have Ab:k=Ac:=hk;omega);have Hf:=G8.upd Aw λhe=>(Ne.symm nebq20bq33) (he:Aa=Ac);have HQ_310:=HQ_295.updLo Aw AOq;have HR_311:=HR_296.updLo Aw AOq;have Hg:=C4.updLo Aw AOq;have C5:=Bq.updLo Aw AOq;refine Ai5 [.bool A4,s8] Aip rfl rfl rfl rfl (Aqt C5.cap) Hf λKg Hh Ak=>?_;have Hj:=Hb.thenUpd Ak (λk hk=>by have Ab:k=Aa:=hk;omega);have Kh:=Ak.1;have Ki:=Hc.thenUpd Ak (λk hk=>by have Ab:k=Aa:=hk;omega);have Kj:=(Be.ext Cf).upd Ak (λhe=>nebq1bq33 (he:A6=Aa));have Kk:=Hd.thenUpd Ak (λk hk=>by have Ab:k=Aa:=hk;omega);have Kl:=(Bc.ext Cf).upd Ak (λhe=>nebq9bq33 (he:A7=Aa));have Km:=He.thenUpd Ak (λk hk=>by have Ab:k=Aa:=hk;omega);have Hk:=G9.upd Ak λhe=>nebq20bq33 (he:Ac=Aa);have Kn:=Cf.thenUpd Ak (λk hk=>by have Ab:k=Aa:=hk;omega);have HQ_326:=HQ_310.updLo Ak AOq;have HR_327:=HR_311.updLo Ak AOq;have Hl:=Hg.updLo Ak AOq;have Hm:=C5.updLo Ak AOq;refine AO1<|AO6<|⟨_,Awe Aip rfl rfl Hk Aip rfl rfl Hh,?_⟩;have hk:=BM6 (nb:=nb) (A:=nv LA) Bf AOq;have ea:a= -((nv LA:Nat):Int):=by rw [hza,Bg];rfl
   exact ⟨Hj,_,_,rfl,⟨Az,s7,L7,rfl,Hl.mono AOq,Bl,Bm,by rw [<- Bn,hvq,ea,hzb];exact hk.1.symm⟩,⟨A4,s8,L8,rfl,Hm.mono AOq,Br,Bt,by rw [<- Bu,hvr,ea,hzb];exact hk.2.symm⟩⟩
end Go.Proofs.YtkakafabeobahaaGreatDoor.Ig
namespace Go.QF
open Go
section
variable {P:Program} {B:AO2->Prop} {st:Bool} {ops:Array Oper} {rest:List Oper} {e:Env} {h:AO2} {K:Env->AO2->Prop} {d:Nat} {ty:TypeId} {pos:String} {af:Array Edge}
theorem BFa {x y z:Operand} {t el er g lo hi:Nat} {l:List Value} {k1 k2:IntKind} (hT:SlT P t el 1) (hx:e.ev x=v) (HO:Ali h er g v l) (hy:e.ev y= .int k1 (lo:Int)) (hz:e.ev z= .int k2 (hi:Int)) (hlt:lo < hi) (hle:hi<=l.length)
 (H:∀ c,RL P B st ops rest (e.set d<|.slice (some ⟨g,lo,none⟩) (hi - lo) c) h K):RL P B st ops (⟨some d,.slice t x (some y) (some z) none,ty,pos,af,none⟩ :: rest) e h K:=by
 obtain ⟨cap,cur,rfl,hg,h1,h2,h3,h4⟩:=HO;refine Am2 (v:= .slice (some ⟨g,lo,none⟩) (hi - lo)<|cap - lo) rfl rfl (λw=>?_) (H _);obtain ⟨hu,i,hi',hs⟩:=hT;have a4: ¬ cap=lo:=by omega
 simp [execOp,hx,hy,hz,Instr.sliceAt,Instr.slice,Au1 hu,Instr.sliceBounds,Instr.sliceBound,asIntOf,a4,Awt hi',hs,Addr.add];rw [if_pos AOq,if_pos AOq]
 by_cases h0:lo=0
 ·subst h0;simp
 ·rw [if_neg h0]
theorem A84 {x i:Operand} {t el g o n c:Nat} {k:IntKind} (hT:SlT P t el 1) (hx:e.ev x= .slice (some ⟨g,o,none⟩) n c) (hi:e.ev i= .int k (j:Int)) (hj:j < n)
 (H:RL P B st ops rest (e.set d<|.pointer<|some ⟨g,o + j,none⟩) h K):RL P B st ops (⟨some d,.indexAddr t x i,ty,pos,af,none⟩ :: rest) e h K:=by
 refine BF4 hT hx hi AOq AOq ?_;have he:(⟨g,o,none⟩:Addr).add ((j:Int).toNat * 1)=⟨g,o + j,none⟩:=by rw [Anl];simp
 rw [he];exact H
end
end Go.QF
namespace Go.Proofs.YtkakafabeobahaaGreatDoor.Ig
open Go Go.QF
set_option maxRecDepth 100000
theorem BGy (HA:DS h la va LA) (HB:DS h lb vb LB) (hna:LA.length<=1000) (hnb:LB.length<=1000):Ahs Tryz.prog 196 #[va,vb] h λx h'=>Ext h h'/\ ∃ L,DS h' (Array.size h) x L/\TL L/\nv L=nv LA * nv LB/\L.length<=LA.length + LB.length + 2:=by
 refine Aie (l:=[_,_]) mx Tryz.func196 rfl rfl rfl rfl rfl AO4 (AOv<|AO1<|AOx<|AOv<|AOr<|Ai4 Ahl rfl HA (Azz rfl rfl (λAw=>?_) (λAw=>?_)))
 ·refine AOr<|Aix 15 true AO4 rfl rfl (AOr<|Aix 15 true AO4 rfl rfl (Ai4 Ahl rfl HB (Aix 15 true AO4 rfl rfl (Azz rfl rfl (λAx=>?_) (λAx=>?_)))))
  ·refine Ahc rfl (AOz<|Ahp rfl (AOv<|AOr<|Ahq trivial rfl (A6g HA AOq) λx1 h hk=>?_));obtain ⟨rfl,rfl⟩:=hk;refine ⟨trivial,?_⟩;refine AOr<|Ahq trivial rfl (A6g HB AOq) λx2 h hk=>?_;obtain ⟨rfl,rfl⟩:=hk;refine ⟨trivial,?_⟩;have hm:=BKc HA.dig HB.dig AOq AOq;refine A9k rfl rfl hm (Ahq trivial rfl (Axf (nv LA * nv LB) AOq _) λx3 h4 hk=>?_);obtain ⟨E5,L1,Ay,Ak,Am,Av⟩:=hk;refine ⟨trivial,?_⟩;have Bo:=E5.1;have Z7:=(Ext.refl h).trans E5;refine AO1 (AO6<|Ag7<|⟨_,AO7,?_⟩)
   first
   | exact ⟨E5,L1,Ay,Ak,Am,AOq⟩
   | exact ⟨E5,L2,HT.ds HDo.lo,htl,by rw [HT.val,hOv],by have:=HT.len;omega⟩
  ·refine Ahc rfl (AOz<|Aht rfl (AO5<|q_t<|AOv<|AOr<|Ai4 Ahl rfl HA (AOr<|Ai4 Ahl rfl HB (Awx rfl rfl AOq (A65 (n:=LA.length + LB.length) Ahl Atf (λ_=>trivial) rfl rfl AOs AOq λg1 v1 h1 Ao E1 Az Av=>?_)))));have Bq:=E1.1;have Z9:=(Ext.refl h).trans E1;refine AO1<|AOx<|AOv<|AOr<|Ai4 Ahl rfl (HA.ext E1) (AOr<|AOz<|AO0<|Aj7 19342813113834049615433664 (λy:Nat × List Nat=>[(34,.int .i64 (y.1:Int))]) (λk y h'=>k=LA.length - y.1/\y.1<=LA.length/\Ext h h'/\g1 < Array.size h'/\Ali h' 200 g1 v1 (y.2.map Avb)/\y.2.length=LA.length + LB.length/\Dig y.2/\nv y.2=nv (LA.take y.1) * nv LB/\ ∀ q,y.1 + LB.length<=q->q < LA.length + LB.length->y.2[q]? =some 0) AO4 LA.length (0,List.replicate (LA.length + LB.length) 0) ?_ ⟨rfl,trivial⟩ ?_)
   ·exact ⟨rfl,Nat.zero_le _,E1,AOq,Ao,Ah6,λx hx=>by rw [(List.mem_replicate.1 hx).2];decide,by simp [nv,A69],λq hq A3=>by dsimp only;rw [List.getElem?_replicate];simp;omega⟩
   rintro k ⟨i,O⟩ s1 hq ⟨rfl,hi,XQ,hgq,Aa,hOl,hOd,hOv,hOz⟩;dsimp only at hi Aa hOl hOd hOv hOz ⊢;refine AOv<|Amf rfl rfl (λA4=>?_) (λA4=>?_)
   ·refine AOz<|AOx<|Ahp rfl (AO5<|q_t<|AOx<|AO0<|AOx ?_);obtain ⟨x,hx⟩:∃ x,LA[i]? =some x:=⟨_,List.getElem?_eq_getElem AOq⟩;have hbx:=HA.dig x<|List.mem_of_getElem? hx;refine Ag6<|AOr<|Aqd Ahl rfl (HA.ext XQ) rfl hx λBt A5=>Ahu Ajo rfl A5 (Aho<|AO1<|AOx<|AOv<|AOr<|Az0 rfl rfl (λA6=>?_) (λA6=>?_))
    ·refine AOz<|Ahp rfl (Ahf<|Ahg<|Aio<|q_t<|Ag6<|Ara rfl AOq (AOr<|AOz ?_));exact ⟨LA.length - (i + 1),(i + 1,O),by first | omega | (dsimp only;omega),⟨rfl,by first | omega | (dsimp only;omega),XQ,AOq,Aa,hOl,hOd,by dsimp only;rw [hOv,Ajb hx,show x=0 by omega];simp,λq h1 h2=>hOz q (by dsimp only at h1;omega) h2⟩,rfl,trivial⟩
    ·refine AOz<|Aht rfl (AO5<|q_t<|AOv<|AOr<|AOr<|AOr<|AOr<|Ai4 Ahl rfl (HB.ext XQ) (Awx rfl rfl AOq (Awx (b:=1) rfl rfl AOq (BFa (lo:=i) (hi:=i + LB.length + 1) Ahl rfl Aa rfl rfl AOq (by rw [List.length_map];omega) λcw=>?_))));refine Ah7<|AO1<|AOx<|AOv<|AOr<|Ai4 Ahl rfl (HB.ext XQ) (AOr<|AOz<|AO0<|Aj7 151115725200028833156608 (λy:Nat × Nat × List Nat=>[(51,.int .i64 (y.1:Int)),(9,.int .u64 (y.2.1:Int))]) (λk y h'=>k=LB.length - y.1/\y.1<=LB.length/\Ext h h'/\g1 < Array.size h'/\Ali h' 200 g1 v1 (y.2.2.map Avb)/\y.2.2.length=LA.length + LB.length/\Dig y.2.2/\y.2.1 < 4294967296/\nv y.2.2 + 4294967296 ^ (i + y.1) * y.2.1=nv (LA.take i) * nv LB + 4294967296 ^ i * (x * nv (LB.take y.1))/\ ∀ q,i + LB.length<=q->q < LA.length + LB.length->y.2.2[q]? =some 0) AO4 LB.length (0,0,O) ?_ ⟨rfl,rfl,trivial⟩ ?_)
     ·exact ⟨rfl,Nat.zero_le _,XQ,AOq,Aa,hOl,hOd,by dsimp only;omega,by simp [nv,hOv],hOz⟩
     rintro k ⟨j,c,O⟩ s2 hp ⟨rfl,hj,XQ,hgq,Aa,hOl,hOd,hc,hOv,hOz⟩;dsimp only at hj Aa hOl hOd hc hOv hOz ⊢;refine AOv<|Amf rfl rfl (λA7=>?_) (λA7=>?_)
     ·refine AOz<|AOx<|Ahp rfl (AO5<|q_t<|AOx<|AO0<|AOx ?_);obtain ⟨y,hy⟩:∃ x,LB[j]? =some x:=⟨_,List.getElem?_eq_getElem AOq⟩;have hby:=HB.dig y<|List.mem_of_getElem? hy;obtain ⟨ov,hov⟩:∃ x,O[i + j]? =some x:=⟨_,List.getElem?_eq_getElem AOq⟩;have hbo:=hOd ov<|List.mem_of_getElem? hov;have htb:=A9l hc hbx hby hbo;have hxy:x * y<=4294967295 * 4294967295:=Nat.mul_le_mul AOq AOq;refine Ag6<|AOr<|Aqd Ahl rfl (HB.ext XQ) rfl hy λBu A8=>Ahu Ajo rfl A8 (Aho<|Ah7<|AOr<|AOr<|Azo Ake Ajp rfl hbx (AOr<|Azo Ake Ajp rfl hby (A9k rfl rfl AOq (AOr<|AOr<|A84 Ahl rfl rfl AOq (Ahu Ajo rfl (Ali.cell Aa<|Azc hov) (Azo Ake Ajp rfl hbo (Awf rfl rfl AOq (Awf rfl rfl AOq ?_))))))));refine Ah7<|AOr<|AOr<|AOr<|A1i Ajp Ake rfl (A84 Ahl rfl rfl AOq (A1h (O.set (i + j)<|(c + (x * y + ov)) % 4294967296) Ajo rfl rfl Aa AOq rfl λh4 Ap U4=>?_));have Bv:=U4.1;have A9:=XQ.thenUpd U4 (λk hk=>by have Aq:k=g1:=hk;omega);refine AOz<|Ag6<|AOr<|A0t rfl rfl (Aho<|Ahh<|q_b<|q_t<|Ag6<|Ara rfl AOq (AOr<|AOz ?_));exact ⟨LB.length - (j + 1),(j + 1,(c + (x * y + ov)) / 4294967296,O.set (i + j)<|(c + (x * y + ov)) % 4294967296),by first | omega | (dsimp only;omega),⟨rfl,by first | omega | (dsimp only;omega),A9,AOq,Ap,by simp [hOl],Azd hOd<|Nat.mod_lt _ AOs,by dsimp only;exact Nat.div_lt_of_lt_mul htb,by dsimp only;rw [Ajb hy];exact A66 (Pi:=0) (A16 _ hov) hOv<|Nat.mod_add_div _ _,λq h1 h2=>by dsimp only;rw [List.getElem?_set_ne AOq];exact hOz q h1 h2⟩,rfl,rfl,trivial⟩
     ·refine AOz<|AOx<|Aht rfl (Ahf<|Ahg<|Ahg<|Aio<|q_t ?_);obtain rfl:j=LB.length:=by omega
      refine Ag6<|AOr<|AOr<|Ai4 Ahl rfl (HB.ext XQ) (AOr<|A1i Ajp Ake rfl ?_);rw [Nat.mod_eq_of_lt hc];refine A84 Ahl rfl rfl AOq (A1h (O.set (i + LB.length)<|c) Ajo rfl rfl Aa AOq rfl λh5 Ar U5=>?_);have Bw:=U5.1;have Bb:=XQ.thenUpd U5 (λk hk=>by have Aq:k=g1:=hk;omega);refine Ahh<|q_b<|q_t<|Ag6<|Ara rfl AOq (AOr<|AOz ?_);exact ⟨LA.length - (i + 1),(i + 1,O.set (i + LB.length) c),by first | omega | (dsimp only;omega),⟨rfl,by first | omega | (dsimp only;omega),Bb,AOq,Ar,by simp [hOl],Azd hOd hc,by dsimp only;have h1:=A16 c<|hOz (i + LB.length) (Nat.le_refl _) AOq;rw [Nat.mul_zero,Nat.add_zero] at h1;rw [h1,hOv,List.take_length,Ajb hx,Nat.add_mul,Nat.mul_assoc],λq h1 h2=>by dsimp only;rw [List.getElem?_set_ne AOq];exact hOz q AOq h2⟩,rfl,trivial⟩
   ·refine AOz<|AOx<|Aht rfl (Ahf<|Ahg<|Ahg<|Aio<|q_t<|AOx ?_);obtain rfl:i=LA.length:=by omega
    rw [List.take_length] at hOv;have HDo:=Aa.ds (lo:=Array.size h) hOd AOq;refine Ag6<|AOr<|Ahq trivial rfl (Aue (DS.mono HDo<|Nat.zero_le _) AOq) λBx hq hk=>?_;obtain ⟨rfl,L2,HT,htl⟩:=hk;refine ⟨trivial,?_⟩;refine AO1 (AO6<|⟨_,AO7,?_⟩)
    first
    | exact ⟨XQ,L1,lacks_HD1,Ak,Am,AOq⟩
    | exact ⟨XQ,L2,HT.ds HDo.lo,htl,by rw [HT.val,hOv],by have:=HT.len;omega⟩
 ·refine AOr<|Aiq 15 false AO4 rfl rfl (Aiq 15 false AO4 rfl rfl (Aiq 15 false AO4 rfl rfl (APd rfl (AOz<|Aht rfl (AO5<|q_t<|AOv<|AOr<|Ai4 Ahl rfl HA (AOr<|Ai4 Ahl rfl HB (Awx rfl rfl AOq (A65 (n:=LA.length + LB.length) Ahl Atf (λ_=>trivial) rfl rfl AOs AOq λg1 v1 h1 Ao E1 Az Av=>?_))))))));have By:=E1.1;have Bz:=(Ext.refl h).trans E1;refine AO1<|AOx<|AOv<|AOr<|Ai4 Ahl rfl (HA.ext E1) (AOr<|AOz<|AO0<|Aj7 19342813113834049615433664 (λy:Nat × List Nat=>[(34,.int .i64 (y.1:Int))]) (λk y h'=>k=LA.length - y.1/\y.1<=LA.length/\Ext h h'/\g1 < Array.size h'/\Ali h' 200 g1 v1 (y.2.map Avb)/\y.2.length=LA.length + LB.length/\Dig y.2/\nv y.2=nv (LA.take y.1) * nv LB/\ ∀ q,y.1 + LB.length<=q->q < LA.length + LB.length->y.2[q]? =some 0) AO4 LA.length (0,List.replicate (LA.length + LB.length) 0) ?_ ⟨rfl,trivial⟩ ?_)
  ·exact ⟨rfl,Nat.zero_le _,E1,AOq,Ao,Ah6,λx hx=>by rw [(List.mem_replicate.1 hx).2];decide,by simp [nv,A69],λq hq A3=>by dsimp only;rw [List.getElem?_replicate];simp;omega⟩
  rintro k ⟨i,O⟩ s1 hq ⟨rfl,hi,XQ,hgq,Aa,hOl,hOd,hOv,hOz⟩;dsimp only at hi Aa hOl hOd hOv hOz ⊢;refine AOv<|Amf rfl rfl (λBc=>?_) (λBc=>?_)
  ·refine AOz<|AOx<|Ahp rfl (AO5<|q_t<|AOx<|AO0<|AOx ?_);obtain ⟨x,hx⟩:∃ x,LA[i]? =some x:=⟨_,List.getElem?_eq_getElem AOq⟩;have hbx:=HA.dig x<|List.mem_of_getElem? hx;refine Ag6<|AOr<|Aqd Ahl rfl (HA.ext XQ) rfl hx λB1 Be=>Ahu Ajo rfl Be (Aho<|AO1<|AOx<|AOv<|AOr<|Az0 rfl rfl (λBf=>?_) (λBf=>?_))
   ·refine AOz<|Ahp rfl (Ahf<|Ahg<|Aio<|q_t<|Ag6<|Ara rfl AOq (AOr<|AOz ?_));exact ⟨LA.length - (i + 1),(i + 1,O),by first | omega | (dsimp only;omega),⟨rfl,by first | omega | (dsimp only;omega),XQ,AOq,Aa,hOl,hOd,by dsimp only;rw [hOv,Ajb hx,show x=0 by omega];simp,λq h1 h2=>hOz q (by dsimp only at h1;omega) h2⟩,rfl,trivial⟩
   ·refine AOz<|Aht rfl (AO5<|q_t<|AOv<|AOr<|AOr<|AOr<|AOr<|Ai4 Ahl rfl (HB.ext XQ) (Awx rfl rfl AOq (Awx (b:=1) rfl rfl AOq (BFa (lo:=i) (hi:=i + LB.length + 1) Ahl rfl Aa rfl rfl AOq (by rw [List.length_map];omega) λcw=>?_))));refine Ah7<|AO1<|AOx<|AOv<|AOr<|Ai4 Ahl rfl (HB.ext XQ) (AOr<|AOz<|AO0<|Aj7 151115725200028833156608 (λy:Nat × Nat × List Nat=>[(51,.int .i64 (y.1:Int)),(9,.int .u64 (y.2.1:Int))]) (λk y h'=>k=LB.length - y.1/\y.1<=LB.length/\Ext h h'/\g1 < Array.size h'/\Ali h' 200 g1 v1 (y.2.2.map Avb)/\y.2.2.length=LA.length + LB.length/\Dig y.2.2/\y.2.1 < 4294967296/\nv y.2.2 + 4294967296 ^ (i + y.1) * y.2.1=nv (LA.take i) * nv LB + 4294967296 ^ i * (x * nv (LB.take y.1))/\ ∀ q,i + LB.length<=q->q < LA.length + LB.length->y.2.2[q]? =some 0) AO4 LB.length (0,0,O) ?_ ⟨rfl,rfl,trivial⟩ ?_)
    ·exact ⟨rfl,Nat.zero_le _,XQ,AOq,Aa,hOl,hOd,by dsimp only;omega,by simp [nv,hOv],hOz⟩
    rintro k ⟨j,c,O⟩ s2 hp ⟨rfl,hj,XQ,hgq,Aa,hOl,hOd,hc,hOv,hOz⟩;dsimp only at hj Aa hOl hOd hc hOv hOz ⊢;refine AOv<|Amf rfl rfl (λBg=>?_) (λBg=>?_)
    ·refine AOz<|AOx<|Ahp rfl (AO5<|q_t<|AOx<|AO0<|AOx ?_);obtain ⟨y,hy⟩:∃ x,LB[j]? =some x:=⟨_,List.getElem?_eq_getElem AOq⟩;have hby:=HB.dig y<|List.mem_of_getElem? hy;obtain ⟨ov,hov⟩:∃ x,O[i + j]? =some x:=⟨_,List.getElem?_eq_getElem AOq⟩;have hbo:=hOd ov<|List.mem_of_getElem? hov;have htb:=A9l hc hbx hby hbo;have hxy:x * y<=4294967295 * 4294967295:=Nat.mul_le_mul AOq AOq;refine Ag6<|AOr<|Aqd Ahl rfl (HB.ext XQ) rfl hy λB3 Bh=>Ahu Ajo rfl Bh (Aho<|Ah7<|AOr<|AOr<|Azo Ake Ajp rfl hbx (AOr<|Azo Ake Ajp rfl hby (A9k rfl rfl AOq (AOr<|AOr<|A84 Ahl rfl rfl AOq (Ahu Ajo rfl (Ali.cell Aa<|Azc hov) (Azo Ake Ajp rfl hbo (Awf rfl rfl AOq (Awf rfl rfl AOq ?_))))))));refine Ah7<|AOr<|AOr<|AOr<|A1i Ajp Ake rfl (A84 Ahl rfl rfl AOq (A1h (O.set (i + j)<|(c + (x * y + ov)) % 4294967296) Ajo rfl rfl Aa AOq rfl λh4 Ap U4=>?_));have B4:=U4.1;have Bi:=XQ.thenUpd U4 (λk hk=>by have Aq:k=g1:=hk;omega);refine AOz<|Ag6<|AOr<|A0t rfl rfl (Aho<|Ahh<|q_b<|q_t<|Ag6<|Ara rfl AOq (AOr<|AOz ?_));exact ⟨LB.length - (j + 1),(j + 1,(c + (x * y + ov)) / 4294967296,O.set (i + j)<|(c + (x * y + ov)) % 4294967296),by first | omega | (dsimp only;omega),⟨rfl,by first | omega | (dsimp only;omega),Bi,AOq,Ap,by simp [hOl],Azd hOd<|Nat.mod_lt _ AOs,by dsimp only;exact Nat.div_lt_of_lt_mul htb,by dsimp only;rw [Ajb hy];exact A66 (Pi:=0) (A16 _ hov) hOv<|Nat.mod_add_div _ _,λq h1 h2=>by dsimp only;rw [List.getElem?_set_ne AOq];exact hOz q h1 h2⟩,rfl,rfl,trivial⟩
    ·refine AOz<|AOx<|Aht rfl (Ahf<|Ahg<|Ahg<|Aio<|q_t ?_);obtain rfl:j=LB.length:=by omega
     refine Ag6<|AOr<|AOr<|Ai4 Ahl rfl (HB.ext XQ) (AOr<|A1i Ajp Ake rfl ?_);rw [Nat.mod_eq_of_lt hc];refine A84 Ahl rfl rfl AOq (A1h (O.set (i + LB.length)<|c) Ajo rfl rfl Aa AOq rfl λh5 Ar U5=>?_);have B5:=U5.1;have Bj:=XQ.thenUpd U5 (λk hk=>by have Aq:k=g1:=hk;omega);refine Ahh<|q_b<|q_t<|Ag6<|Ara rfl AOq (AOr<|AOz ?_);exact ⟨LA.length - (i + 1),(i + 1,O.set (i + LB.length) c),by first | omega | (dsimp only;omega),⟨rfl,by first | omega | (dsimp only;omega),Bj,AOq,Ar,by simp [hOl],Azd hOd hc,by dsimp only;have h1:=A16 c<|hOz (i + LB.length) (Nat.le_refl _) AOq;rw [Nat.mul_zero,Nat.add_zero] at h1;rw [h1,hOv,List.take_length,Ajb hx,Nat.add_mul,Nat.mul_assoc],λq h1 h2=>by dsimp only;rw [List.getElem?_set_ne AOq];exact hOz q AOq h2⟩,rfl,trivial⟩
  ·refine AOz<|AOx<|Aht rfl (Ahf<|Ahg<|Ahg<|Aio<|q_t<|AOx ?_);obtain rfl:i=LA.length:=by omega
   rw [List.take_length] at hOv;have HDo:=Aa.ds (lo:=Array.size h) hOd AOq;refine Ag6<|AOr<|Ahq trivial rfl (Aue (DS.mono HDo<|Nat.zero_le _) AOq) λB6 hq hk=>?_;obtain ⟨rfl,L2,HT,htl⟩:=hk;refine ⟨trivial,?_⟩;refine AO1 (AO6<|⟨_,AO7,?_⟩)
   first
   | exact ⟨XQ,L1,lacks_HD1,Ak,Am,AOq⟩
   | exact ⟨XQ,L2,HT.ds HDo.lo,htl,by rw [HT.val,hOv],by have:=HT.len;omega⟩
theorem MulZ_ok {a b:Int} (HA:ZV h la va a) (HB:ZV h lb vb b) (hab:a.natAbs * b.natAbs < 4294967296 ^ 100):Ahs Tryz.prog 159 #[va,vb] h λx h'=>Ext h h'/\ZV h' (Array.size h) x (a * b):=by
 obtain ⟨na,sa,LA,rfl,HDa,htla,hla,hza⟩:=HA.out;obtain ⟨nb,sb,LB,rfl,HDb,htlb,hlb,hzb⟩:=HB.out;refine Aie (l:=[_,_]) mx Tryz.func159 rfl rfl rfl rfl rfl AO4 (AOv<|Aqx [.bool na,sa] (λ_=>trivial) rfl rfl λAk h2 V3 E4 Bb Ce=>?_);have Cf:Array.size h<=Ak:=Bb;have Cg:=E4.1;have Z8:=(Ext.refl h).trans E4;refine Aqx [.bool nb,sb] (λ_=>trivial) rfl rfl λAm Ch Av Ag Be Ci=>?_;have Cj:Array.size h<=Am:=Nat.le_trans E4.1 Be;have nebq1bq9:Ak≠Am:=by have:=V3.lt;omega
 have Ck:=Ag.1;have Aw:=E4.trans Ag;have Ax:=V3.ext Ag;refine Aov [.bool false,.slice none 0 0] Ams rfl (λ_=>trivial) λAc Ai Bf Ad Bg Cm=>?_;have Cn:Array.size h<=Ac:=Nat.le_trans Aw.1 Bg;have nebq1bq20:Ak≠Ac:=by have:=Ax.lt;omega
 have nebq9bq20:Am≠Ac:=by have:=Av.lt;omega
 have Co:=Ad.1;have Bh:=(Z8.trans Ag).trans Ad;have Ao:=Aw.trans Ad;have Ay:=Ax.ext Ad;have Bi:=(E4.trans Ag).trans Ad;have Az:=Av.ext Ad;have Bj:=Ag.trans Ad;refine AOz<|AOx<|Ai1 (λh'=>Ext Ai h') AO4 ?_;have Aa:=Ext.refl Ai;refine Anh (fs:=1) As7 AO4 AOs rfl (Ahm Als rfl Aa (λh' hb=>(Ay.ext hb).cell (i:=0) rfl) (Anh (fs:=1) As7 AO4 AOs rfl (Ahm Als rfl Aa (λh' hb=>(Az.ext hb).cell (i:=0) rfl) (A64 A2t rfl rfl (Anh (fs:=1) Atv AO4 AOs rfl (Ahm Apj rfl Aa (λh' hb=>(Ay.ext hb).cell (i:=1) rfl) (Ahq Aa rfl (Aue (DS.mono (HDa.ext Ao)<|Nat.zero_le _) AOq) λCp Ai hk=>?_)))))));obtain ⟨rfl,L1,Ap,Cr⟩:=hk;refine ⟨Aa,?_⟩;have Bl:=Ap.ds (lo:=la) HDa.lo;have A3:=Ap.val;have Ct:=Ap.len;refine Anh (fs:=1) Atv AO4 AOs rfl (Ahm Apj rfl Aa (λh' hb=>(Az.ext hb).cell (i:=1) rfl) (Ahq Aa rfl (Aue (DS.mono (HDb.ext Ao)<|Nat.zero_le _) AOq) λCu Ai hk=>?_));obtain ⟨rfl,L2,Aq,Cw⟩:=hk;refine ⟨Aa,?_⟩;have Bm:=Aq.ds (lo:=lb) HDb.lo;have A4:=Aq.val;have Cx:=Aq.len;refine Ahq Aa rfl (BGy Bl Bm AOq AOq) λCy Cz hk=>?_;obtain ⟨Ae,L4,A5,A6,A7,C1⟩:=hk;have Ar:=Aa.trans Ae;refine ⟨Ar,?_⟩;have C2:=Ae.1;have Bn:=Bh.trans Ae;have Bo:=Ao.trans Ae;have Bp:=Bi.trans Ae;have Bq:=Bj.trans Ae;have Br:=Bf.ext Ae;have Bt:=Ad.trans Ae;refine Ahq Ar rfl (Ari (!(na == nb)) A5 A6<|At6 A6 (by rw [A7,A3,A4,<- Amw hza,<- Amw hzb];exact hab)) λC3 C4 hk=>?_;obtain ⟨Ab,Bu⟩:=hk;have Bv:=Ar.trans Ab;refine ⟨Bv,?_⟩;have C5:=Ab.1;have Bw:=Bn.trans Ab;have Bx:=Bo.trans Ab;have By:=Bp.trans Ab;have Bz:=Bq.trans Ab;have B1:=Br.ext Ab;have B3:=Bt.trans Ab;have B4:=A5.ext Ab;obtain ⟨A8,s3,L3,rfl,Ba,B6,B7,B8⟩:=Bu.out;refine Ai5 [.bool A8,s3] Aip rfl rfl rfl rfl (Aqt Ba.cap) B1 λC6 B9 Af=>?_;have Ca:=Bx.thenUpd Af (λk hk=>by have Aj:k=Ac:=hk;omega);have C7:=Af.1;have C8:=Bw.thenUpd Af (λk hk=>by have Aj:k=Ac:=hk;omega);have C9:=B3.thenUpd Af (λk hk=>by have Aj:k=Ac:=hk;omega);have Da:=By.thenUpd Af (λk hk=>by have Aj:k=Ac:=hk;omega);have Db:=Bz.thenUpd Af (λk hk=>by have Aj:k=Ac:=hk;omega);have Dc:=B4.updLo Af AOq;have Cb:=Ba.updLo Af AOq;refine AOz<|AO6<|⟨_,Ai3 Aip rfl rfl B9,?_⟩;exact ⟨Ca,⟨A8,s3,L3,rfl,Cb.mono AOq,B6,B7,by rw [<- B8,A7,A3,A4,hza,hzb,A9r]⟩⟩
end Go.Proofs.YtkakafabeobahaaGreatDoor.Ig
namespace Go.Proofs.YtkakafabeobahaaGreatDoor
open Go Go.QF
def BOw (fuel:Nat) (a b:Int):Option Int:=if a.natAbs < Alj/\b.natAbs < Alj then some (a - b) else none
def BFb (fuel:Nat) (a b:Int):Option Int:=if a.natAbs * b.natAbs < Alj then some (a * b) else none
def A2e (fuel:Nat) (a b:Int):Option (Int × Int × Bool):=if a.natAbs < 18446744073709551616/\b.natAbs < 18446744073709551616/\b≠0 then some (a / b,a % b,true) else none
def BOx (fuel:Nat) (a:Int):Option Int:=some<|-a
def A2f (fuel:Nat) (a:Int):Option Int:=some a
def A6h (fuel:Nat) (a:Int):Option Int:=if -9223372036854775808<=a/\a<=9223372036854775807 then some a else none
def A7o (fuel:Nat) (a:Int):Option Int:=some<|Anx a
theorem BPw {u:Value} {a b r:Int} (H1:ZZ h u a) (H2:ZZ h v b) (hp:BOw fuel a b=some r):Ahs Tryz.prog 189 #[u,v] h (λx h'=>Ext h h'/\ ∃ (x0:Value),x=x0/\ZZ h' x0 r):=by
 obtain ⟨⟨h1,h2⟩,hp⟩:=ifN hp;cases hp;exact (Ig.Sub_ok H1 H2 h1 h2).mono λx h' hk=>⟨hk.1,x,rfl,hk.2.zz⟩
theorem BDs {u:Value} {a b r:Int} (H1:ZZ h u a) (H2:ZZ h v b) (hp:BFb fuel a b=some r):Ahs Tryz.prog 159 #[u,v] h (λx h'=>Ext h h'/\ ∃ (x0:Value),x=x0/\ZZ h' x0 r):=by
 obtain ⟨h1,hp⟩:=ifN hp;cases hp;exact (Ig.MulZ_ok H1 H2<|BJb h1).mono λx h' hk=>⟨hk.1,x,rfl,hk.2.zz⟩
theorem BPx {u:Value} {a r:Int} (H1:ZZ h u a) (hp:BOx fuel a=some r):Ahs Tryz.prog 190 #[u] h (λx h'=>Ext h h'/\ ∃ (x0:Value),x=x0/\ZZ h' x0 r):=by
 cases hp;exact (Ig.Neg_ok H1).mono λx h' hk=>⟨hk.1,x,rfl,hk.2.zz⟩
theorem A4o {u:Value} {a r:Int} (H1:ZZ h u a) (hp:A2f fuel a=some r):Ahs Tryz.prog 156 #[u] h (λx h'=>Ext h h'/\ ∃ (x0:Value),x=x0/\ZZ h' x0 r):=by
 cases hp;exact (Ig.Normalize_ok H1).mono λx h' hk=>⟨hk.1,x,rfl,hk.2.zz⟩
theorem A7p {a r:Int} (hp:A6h fuel a=some r):Ahs Tryz.prog 152 #[.int .i64 a] h (λx h'=>Ext h h'/\ ∃ (x0:Value),x=x0/\ZZ h' x0 r):=by
 obtain ⟨h1,hp⟩:=ifN hp;cases hp;exact (Ig.Small_ok h1 h).mono λx h' hk=>⟨hk.1,x,rfl,hk.2.zz⟩
theorem A6i {u:Value} {a r:Int} (H1:ZZ h u a) (hp:A7o fuel a=some r):Ahs Tryz.prog 155 #[u] h (λx h'=>Ext h h'/\x= .int .i64 r):=by
 cases hp;exact Ig.Sign_ok H1
theorem A5b {u:Value} {a b:Int} {r:Int × Int × Bool} (H1:ZZ h u a) (H2:ZZ h v b) (hp:A2e fuel a b=some r):Ahs Tryz.prog 158 #[u,v] h (λx h'=>Ext h h'/\ ∃ (x0:Value) (x1:Value),x= .tuple #[x0,x1,.bool r.2.2]/\ZZ h' x0 r.1/\ZZ h' x1 r.2.1):=by
 obtain ⟨⟨h1,h2,h3⟩,hp⟩:=ifN hp;cases hp;exact (Ig.DivMod2_ok H1 H2 h1 h2 h3).mono λx h' ⟨E,q,r,hx,hq,hr⟩=>⟨E,q,r,hx,hq.zz,hr.zz⟩
end Go.Proofs.YtkakafabeobahaaGreatDoor
